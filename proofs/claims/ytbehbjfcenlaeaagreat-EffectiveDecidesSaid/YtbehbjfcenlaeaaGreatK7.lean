/- Texts laid together: PEb, SpA, Bor, SpB, SpC, SpT, SpE, SpG, L34, SpW, SpP, SpF, L36, SpD, SpS, RedP, Lw36d. -/
import Derived.Test.YtbehbjfcenlaeaaGreatK6
/- Pure forms of functions, made by program (pf.py), each with the proof that the code does so. -/
namespace Go.Proofs.YtbehbjfcenlaeaaGreat
open Go Go.RowKit Go.Shelf
set_option linter.unusedVariables false
set_option maxRecDepth 100000
set_option maxHeartbeats 1000000
/-- sandpile/sandpilelaw36.awake: what it computes. -/
def pf_l36_awake (R : Bool → Prop) : Prop :=
pf_effective_Winnable 3 ([(0, 1, 1), (0, 2, 1), (1, 2, 1)]) ([2, -1, 0]) (fun (r : Bool) (r2 : List Int) (r3 : List Int) (r4 : Int) =>
pf_effective_Winnable 3 ([(0, 1, 1), (0, 2, 1), (1, 2, 1)]) ([1, -1, 0]) (fun (r5 : Bool) (r6 : List Int) (r7 : List Int) (r8 : Int) =>
pf_effective_Needy 3 ([(0, 1, 1), (0, 2, 1), (1, 2, 1)]) ([1, -1, 0]) (fun (r9 : List Int) (r10 : Int) =>
pf_effective_Winnable 3 ([(0, 1, 1), (1, 2, 1)]) ([3, -4, 1]) (fun (r11 : Bool) (r12 : List Int) (r13 : List Int) (r14 : Int) =>
pf_effective_Price 3 ([(0, 1, 1), (1, 2, 1)]) ([2, -4, 1]) 2 (fun (r15 : Int) (r16 : Int) =>
(∃ J2 : Prop, (J2 → pf_effective_VerifyWin 3 ([(0, 1, 1), (0, 2, 1), (1, 2, 1)]) ([2, -1, 0]) r3 (fun (r17 : Int) =>
((r17 = 0 →
pf_effective_VerifyLoss 3 ([(0, 1, 1), (0, 2, 1), (1, 2, 1)]) 0 ([1, -1, 0]) r7 (fun (r18 : Int) =>
R (decide (r18 = 0)))) ∧
(¬ (r17 = 0) →
R false)))) ∧
(In64 (r4 + r8) ∧
(In64 ((r4 + r8) + r10) ∧
(In64 (((r4 + r8) + r10) + r14) ∧
(In64 ((((r4 + r8) + r10) + r14) + r16) ∧
((((((r4 + r8) + r10) + r14) + r16) = 0 →
((r = true →
((r5 = true →
R false) ∧
(¬ (r5 = true) →
((r11 = true →
pf_slices_Equal_Divisor r2 ([0, 0, 1]) (fun (r19 : Bool) =>
((r19 = true →
pf_slices_Equal_Divisor r6 ([-1, 0, 1]) (fun (r20 : Bool) =>
((r20 = true →
pf_slices_Equal_intS r9 ([0, 1, 2]) (fun (r21 : Bool) =>
((r21 = true →
((r15 = 1 →
J2) ∧
(¬ (r15 = 1) →
R false))) ∧
(¬ (r21 = true) →
R false)))) ∧
(¬ (r20 = true) →
R false)))) ∧
(¬ (r19 = true) →
R false)))) ∧
(¬ (r11 = true) →
R false))))) ∧
(¬ (r = true) →
R false))) ∧
(¬ (((((r4 + r8) + r10) + r14) + r16) = 0) →
R false))))))))))))
theorem pok_l36_awake {O : Nat → Prop} {w : World} {R : Bool → Prop} (h : pf_l36_awake R) (hO : ∀ k, O k → k < w.heap.size) :
    Calls Tryz.prog 6 #[] w fun e w' => ∃ r22 : Bool, e = .returned (Value.bool (r22)) ∧ Sep w no O w' (rl []) ∧ R r22 := by
  unfold pf_l36_awake at h; have hS : Sep w no O w (rl []) := Sep.start w hO; refine calls_sh (l := []) Tryz.func6 rfl Tryz.ntmps6 (Nat.le_of_ble_eq_true rfl) ?_; refine wt_seq ?_; refine wl_region wd_wide ?_; refine rl_q rfl rfl rfl (v_assign (v := (.bool (false))) rfl) ?_; refine rl_end ?_; refine wt_seq ?_; refine wl_region wd_wide ?_; refine rl_n rfl rfl rfl rfl (n_build (l := [(0, (.int .i64 0)), (1, (.int .i64 1)), (2, (.int .i64 1))]) (cells := [(.int .i64 0), (.int .i64 1), (.int .i64 1)]) (places := [(0, 1), (1, 1), (2, 1)]) (bp3 rfl rfl rfl) Tryz.underlying50 info_50 (by kernel_rfl) rfl ?_); refine ⟨Stb.none _, ?_⟩; refine rl_n rfl rfl rfl rfl (n_build (l := [(0, (.int .i64 0)), (1, (.int .i64 2)), (2, (.int .i64 1))]) (cells := [(.int .i64 0), (.int .i64 2), (.int .i64 1)]) (places := [(0, 1), (1, 1), (2, 1)]) (bp3 rfl rfl rfl) Tryz.underlying50 info_50 (by kernel_rfl) rfl ?_); refine ⟨Stb.none _, ?_⟩; refine rl_n rfl rfl rfl rfl (n_build (l := [(0, (.int .i64 1)), (1, (.int .i64 2)), (2, (.int .i64 1))]) (cells := [(.int .i64 1), (.int .i64 2), (.int .i64 1)]) (places := [(0, 1), (1, 1), (2, 1)]) (bp3 rfl rfl rfl) Tryz.underlying50 info_50 (by kernel_rfl) rfl ?_); refine ⟨Stb.none _, ?_⟩
  refine rl_n rfl rfl rfl rfl (n_bslice (l := [(0, (.agg #[(.int .i64 0), (.int .i64 1), (.int .i64 1)])), (1, (.agg #[(.int .i64 0), (.int .i64 2), (.int .i64 1)])), (2, (.agg #[(.int .i64 1), (.int .i64 2), (.int .i64 1)]))]) (cells := [(.int .i64 0), (.int .i64 1), (.int .i64 1), (.int .i64 0), (.int .i64 2), (.int .i64 1), (.int .i64 1), (.int .i64 2), (.int .i64 1)]) (bp3 rfl rfl rfl) Tryz.underlying22 info_50 rfl rfl ?_); intro g w2 hN; replace hS := hS.litf (n := 3) 0 rfl (fP (fI .i64) (fP (fI .i64) (fI .i64))) hN ([(0, 1, 1), (0, 2, 1), (1, 2, 1)] : List (Int × Int × Int)) rfl (by decide) rfl; clear hN; refine ⟨Stb.none _, ?_⟩; refine rl_n rfl rfl rfl rfl (n_build (l := [(0, (.int .i64 3)), (1, (.slice (some ⟨g, 0, none⟩) 3 3))]) (cells := [(.int .i64 3), (.slice (some ⟨g, 0, none⟩) 3 3)]) (places := [(0, 1), (1, 1)]) (bp2 rfl rfl) Tryz.underlying24 info_24 (by kernel_rfl) rfl ?_); refine ⟨Stb.none _, ?_⟩; refine rl_n rfl rfl rfl rfl (n_alloc info_24 ?_); intro g2 w3 hN; replace hS : Sep w no O w3 (stl _ 1 (Res.box 24 g2 [(Value.int .i64 0), (Value.slice none 0 0)])) := hS.new 1 rfl hN; clear hN; refine ⟨Stb.none _, ?_⟩; refine rl_n0 rfl rfl rfl (n_storen (b := g2) (o := 0) (cells := #[(.int .i64 3), (.slice (some ⟨g, 0, none⟩) 3 3)]) rfl rfl info_24 rfl rfl (there_row (hS.bx 1 rfl) (Nat.le_of_ble_eq_true rfl)) ?_); intro w4 e1; replace hS := hS.bstn 1 rfl 0 [(Value.int .i64 3), (Value.slice (some ⟨g, 0, none⟩) 3 3)] e1; clear e1; refine ⟨Stb.none _, ?_⟩
  refine rl_end ?_; refine wt_seq ?_; refine wl_region wd_wide ?_; refine rl_n rfl rfl rfl rfl (n_build (l := [(0, (.int .i64 0)), (1, (.int .i64 1)), (2, (.int .i64 1))]) (cells := [(.int .i64 0), (.int .i64 1), (.int .i64 1)]) (places := [(0, 1), (1, 1), (2, 1)]) (bp3 rfl rfl rfl) Tryz.underlying50 info_50 (by kernel_rfl) rfl ?_); refine ⟨Stb.none _, ?_⟩; refine rl_n rfl rfl rfl rfl (n_build (l := [(0, (.int .i64 1)), (1, (.int .i64 2)), (2, (.int .i64 1))]) (cells := [(.int .i64 1), (.int .i64 2), (.int .i64 1)]) (places := [(0, 1), (1, 1), (2, 1)]) (bp3 rfl rfl rfl) Tryz.underlying50 info_50 (by kernel_rfl) rfl ?_); refine ⟨Stb.none _, ?_⟩; refine rl_n rfl rfl rfl rfl (n_bslice (l := [(0, (.agg #[(.int .i64 0), (.int .i64 1), (.int .i64 1)])), (1, (.agg #[(.int .i64 1), (.int .i64 2), (.int .i64 1)]))]) (cells := [(.int .i64 0), (.int .i64 1), (.int .i64 1), (.int .i64 1), (.int .i64 2), (.int .i64 1)]) (bp2 rfl rfl) Tryz.underlying22 info_50 rfl rfl ?_); intro g3 w5 hN; replace hS := hS.litf (n := 2) 2 rfl (fP (fI .i64) (fP (fI .i64) (fI .i64))) hN ([(0, 1, 1), (1, 2, 1)] : List (Int × Int × Int)) rfl (by decide) rfl; clear hN; refine ⟨Stb.none _, ?_⟩; refine rl_n rfl rfl rfl rfl (n_build (l := [(0, (.int .i64 3)), (1, (.slice (some ⟨g3, 0, none⟩) 2 2))]) (cells := [(.int .i64 3), (.slice (some ⟨g3, 0, none⟩) 2 2)]) (places := [(0, 1), (1, 1)]) (bp2 rfl rfl) Tryz.underlying24 info_24 (by kernel_rfl) rfl ?_); refine ⟨Stb.none _, ?_⟩
  refine rl_n rfl rfl rfl rfl (n_alloc info_24 ?_); intro g4 w6 hN; replace hS : Sep w no O w6 (stl _ 3 (Res.box 24 g4 [(Value.int .i64 0), (Value.slice none 0 0)])) := hS.new 3 rfl hN; clear hN; refine ⟨Stb.none _, ?_⟩; refine rl_n0 rfl rfl rfl (n_storen (b := g4) (o := 0) (cells := #[(.int .i64 3), (.slice (some ⟨g3, 0, none⟩) 2 2)]) rfl rfl info_24 rfl rfl (there_row (hS.bx 3 rfl) (Nat.le_of_ble_eq_true rfl)) ?_); intro w7 e1; replace hS := hS.bstn 3 rfl 0 [(Value.int .i64 3), (Value.slice (some ⟨g3, 0, none⟩) 2 2)] e1; clear e1; refine ⟨Stb.none _, ?_⟩; refine rl_end ?_; refine wt_seq ?_; refine wl_region wd_wide ?_; refine rl_q rfl rfl rfl (v_loadn (vs := [(.int .i64 3), (.slice (some ⟨g, 0, none⟩) 3 3)]) rfl Tryz.underlying24 rfl info_24 ⟨Row.cell (hS.bx 1 rfl) (i := 0) rfl, Row.cell (hS.bx 1 rfl) (i := 1) rfl, trivial⟩) ?_; refine rl_n rfl rfl rfl rfl (n_bslice (l := [(0, (.int .i64 2)), (1, (.int .i64 (-1))), (2, (.int .i64 0))]) (cells := [(.int .i64 2), (.int .i64 (-1)), (.int .i64 0)]) (bp3 rfl rfl rfl) Tryz.underlying26 info_3 rfl rfl ?_); intro g5 w8 hN; replace hS := hS.litf (n := 3) 4 rfl (fI .i64) hN ([2, -1, 0] : List Int) rfl (by decide) rfl; clear hN; refine ⟨Stb.none _, ?_⟩; refine rl_n rfl rfl rfl rfl (n_call0 rfl (am2 rfl rfl) enter_7 ((pok_effective_Winnable h (no_lt _) (hS.rdo 0 rfl) (hS.rdo 4 rfl)).mono ?_)); rintro _ w9 ⟨r, r2, r3, r4, Ar, lr, cr, Ar2, lr2, cr2, rfl, hC, h⟩
  replace hS := hS.call2 (hC.widen (flatS (flat_own (fI .i64) _ _ _ _ _) (flatS (flat_own (fI .i64) _ _ _ _ _) flat0)) hS.blt) 5 0 6 1 rfl rfl (by decide) (by decide); clear hC; refine ⟨_, rfl, ?_⟩; refine ⟨Stb.none _, ?_⟩; refine rl_q rfl rfl rfl (v_move (v := (.tuple #[(.bool (r)), (.slice Ar lr cr), (.slice Ar2 lr2 cr2), (.int .i64 r4)])) rfl) ?_; refine rl_q rfl rfl rfl (v_extract (v := (.bool (r))) rfl rfl) ?_; refine rl_q rfl rfl rfl (v_extract (v := (.slice Ar lr cr)) rfl rfl) ?_; refine rl_q rfl rfl rfl (v_extract (v := (.slice Ar2 lr2 cr2)) rfl rfl) ?_; refine rl_q rfl rfl rfl (v_extract (v := (.int .i64 r4)) rfl rfl) ?_; refine rl_q rfl rfl rfl (v_assign (v := (.bool (r))) rfl) ?_; refine rl_q rfl rfl rfl (v_assign (v := (.slice Ar lr cr)) rfl) ?_; refine rl_q rfl rfl rfl (v_assign (v := (.slice Ar2 lr2 cr2)) rfl) ?_; refine rl_q rfl rfl rfl (v_assign (v := (.int .i64 r4)) rfl) ?_; refine rl_end ?_; refine wt_seq ?_; refine wl_region wd_wide ?_; refine rl_q rfl rfl rfl (v_loadn (vs := [(.int .i64 3), (.slice (some ⟨g, 0, none⟩) 3 3)]) rfl Tryz.underlying24 rfl info_24 ⟨Row.cell (hS.bx 1 rfl) (i := 0) rfl, Row.cell (hS.bx 1 rfl) (i := 1) rfl, trivial⟩) ?_; refine rl_n rfl rfl rfl rfl (n_bslice (l := [(0, (.int .i64 1)), (1, (.int .i64 (-1))), (2, (.int .i64 0))]) (cells := [(.int .i64 1), (.int .i64 (-1)), (.int .i64 0)]) (bp3 rfl rfl rfl) Tryz.underlying26 info_3 rfl rfl ?_); intro g6 w10 hN
  replace hS := hS.litf (n := 3) 7 rfl (fI .i64) hN ([1, -1, 0] : List Int) rfl (by decide) rfl; clear hN; refine ⟨Stb.none _, ?_⟩; refine rl_n rfl rfl rfl rfl (n_call0 rfl (am2 rfl rfl) enter_7 ((pok_effective_Winnable h (no_lt _) (hS.rdo 0 rfl) (hS.rdo 7 rfl)).mono ?_)); rintro _ w11 ⟨r5, r6, r7, r8, Ar3, lr3, cr3, Ar4, lr4, cr4, rfl, hC, h⟩; replace hS := hS.call2 (hC.widen (flatS (flat_own (fI .i64) _ _ _ _ _) (flatS (flat_own (fI .i64) _ _ _ _ _) flat0)) hS.blt) 8 0 9 1 rfl rfl (by decide) (by decide); clear hC; refine ⟨_, rfl, ?_⟩; refine ⟨Stb.none _, ?_⟩; refine rl_q rfl rfl rfl (v_move (v := (.tuple #[(.bool (r5)), (.slice Ar3 lr3 cr3), (.slice Ar4 lr4 cr4), (.int .i64 r8)])) rfl) ?_; refine rl_q rfl rfl rfl (v_extract (v := (.bool (r5))) rfl rfl) ?_; refine rl_q rfl rfl rfl (v_extract (v := (.slice Ar3 lr3 cr3)) rfl rfl) ?_; refine rl_q rfl rfl rfl (v_extract (v := (.slice Ar4 lr4 cr4)) rfl rfl) ?_; refine rl_q rfl rfl rfl (v_extract (v := (.int .i64 r8)) rfl rfl) ?_; refine rl_q rfl rfl rfl (v_assign (v := (.bool (r5))) rfl) ?_; refine rl_q rfl rfl rfl (v_assign (v := (.slice Ar3 lr3 cr3)) rfl) ?_; refine rl_q rfl rfl rfl (v_assign (v := (.slice Ar4 lr4 cr4)) rfl) ?_; refine rl_q rfl rfl rfl (v_assign (v := (.int .i64 r8)) rfl) ?_; refine rl_end ?_; refine wt_seq ?_; refine wl_region wd_wide ?_
  refine rl_q rfl rfl rfl (v_loadn (vs := [(.int .i64 3), (.slice (some ⟨g, 0, none⟩) 3 3)]) rfl Tryz.underlying24 rfl info_24 ⟨Row.cell (hS.bx 1 rfl) (i := 0) rfl, Row.cell (hS.bx 1 rfl) (i := 1) rfl, trivial⟩) ?_; refine rl_n rfl rfl rfl rfl (n_bslice (l := [(0, (.int .i64 1)), (1, (.int .i64 (-1))), (2, (.int .i64 0))]) (cells := [(.int .i64 1), (.int .i64 (-1)), (.int .i64 0)]) (bp3 rfl rfl rfl) Tryz.underlying26 info_3 rfl rfl ?_); intro g7 w12 hN; replace hS := hS.litf (n := 3) 10 rfl (fI .i64) hN ([1, -1, 0] : List Int) rfl (by decide) rfl; clear hN; refine ⟨Stb.none _, ?_⟩; refine rl_n rfl rfl rfl rfl (n_call0 rfl (am2 rfl rfl) enter_19 ((pok_effective_Needy h (no_lt _) (hS.rdo 0 rfl) (hS.rdo 10 rfl)).mono ?_)); rintro _ w13 ⟨r9, r10, Ar5, lr5, cr5, rfl, hC, h⟩; replace hS := hS.call1 (hC.widen (flatS (flat_own (fI .i64) _ _ _ _ _) flat0) hS.blt) 11 0 rfl; clear hC; refine ⟨_, rfl, ?_⟩; refine ⟨Stb.none _, ?_⟩; refine rl_q rfl rfl rfl (v_move (v := (.tuple #[(.slice Ar5 lr5 cr5), (.int .i64 r10)])) rfl) ?_; refine rl_q rfl rfl rfl (v_extract (v := (.slice Ar5 lr5 cr5)) rfl rfl) ?_; refine rl_q rfl rfl rfl (v_extract (v := (.int .i64 r10)) rfl rfl) ?_; refine rl_q rfl rfl rfl (v_assign (v := (.slice Ar5 lr5 cr5)) rfl) ?_; refine rl_q rfl rfl rfl (v_assign (v := (.int .i64 r10)) rfl) ?_; refine rl_end ?_; refine wt_seq ?_; refine wl_region wd_wide ?_
  refine rl_q rfl rfl rfl (v_loadn (vs := [(.int .i64 3), (.slice (some ⟨g3, 0, none⟩) 2 2)]) rfl Tryz.underlying24 rfl info_24 ⟨Row.cell (hS.bx 3 rfl) (i := 0) rfl, Row.cell (hS.bx 3 rfl) (i := 1) rfl, trivial⟩) ?_; refine rl_n rfl rfl rfl rfl (n_bslice (l := [(0, (.int .i64 3)), (1, (.int .i64 (-4))), (2, (.int .i64 1))]) (cells := [(.int .i64 3), (.int .i64 (-4)), (.int .i64 1)]) (bp3 rfl rfl rfl) Tryz.underlying26 info_3 rfl rfl ?_); intro g8 w14 hN; replace hS := hS.litf (n := 3) 12 rfl (fI .i64) hN ([3, -4, 1] : List Int) rfl (by decide) rfl; clear hN; refine ⟨Stb.none _, ?_⟩; refine rl_n rfl rfl rfl rfl (n_call0 rfl (am2 rfl rfl) enter_7 ((pok_effective_Winnable h (no_lt _) (hS.rdo 2 rfl) (hS.rdo 12 rfl)).mono ?_)); rintro _ w15 ⟨r11, r12, r13, r14, Ar6, lr6, cr6, Ar7, lr7, cr7, rfl, hC, h⟩; replace hS := hS.call2 (hC.widen (flatS (flat_own (fI .i64) _ _ _ _ _) (flatS (flat_own (fI .i64) _ _ _ _ _) flat0)) hS.blt) 13 0 14 1 rfl rfl (by decide) (by decide); clear hC; refine ⟨_, rfl, ?_⟩; refine ⟨Stb.none _, ?_⟩; refine rl_q rfl rfl rfl (v_move (v := (.tuple #[(.bool (r11)), (.slice Ar6 lr6 cr6), (.slice Ar7 lr7 cr7), (.int .i64 r14)])) rfl) ?_; refine rl_q rfl rfl rfl (v_extract (v := (.bool (r11))) rfl rfl) ?_; refine rl_q rfl rfl rfl (v_extract (v := (.slice Ar6 lr6 cr6)) rfl rfl) ?_; refine rl_q rfl rfl rfl (v_extract (v := (.slice Ar7 lr7 cr7)) rfl rfl) ?_; refine rl_q rfl rfl rfl (v_extract (v := (.int .i64 r14)) rfl rfl) ?_
  refine rl_q rfl rfl rfl (v_assign (v := (.bool (r11))) rfl) ?_; refine rl_q rfl rfl rfl (v_assign (v := (.slice Ar6 lr6 cr6)) rfl) ?_; refine rl_q rfl rfl rfl (v_assign (v := (.slice Ar7 lr7 cr7)) rfl) ?_; refine rl_q rfl rfl rfl (v_assign (v := (.int .i64 r14)) rfl) ?_; refine rl_end ?_; refine wt_seq ?_; refine wl_region wd_wide ?_; refine rl_q rfl rfl rfl (v_loadn (vs := [(.int .i64 3), (.slice (some ⟨g3, 0, none⟩) 2 2)]) rfl Tryz.underlying24 rfl info_24 ⟨Row.cell (hS.bx 3 rfl) (i := 0) rfl, Row.cell (hS.bx 3 rfl) (i := 1) rfl, trivial⟩) ?_; refine rl_n rfl rfl rfl rfl (n_bslice (l := [(0, (.int .i64 2)), (1, (.int .i64 (-4))), (2, (.int .i64 1))]) (cells := [(.int .i64 2), (.int .i64 (-4)), (.int .i64 1)]) (bp3 rfl rfl rfl) Tryz.underlying26 info_3 rfl rfl ?_); intro g9 w16 hN; replace hS := hS.litf (n := 3) 15 rfl (fI .i64) hN ([2, -4, 1] : List Int) rfl (by decide) rfl; clear hN; refine ⟨Stb.none _, ?_⟩; refine rl_n rfl rfl rfl rfl (n_call0 rfl (am3 rfl rfl rfl) enter_20 ((pok_effective_Price h (no_lt _) (hS.rdo 2 rfl) (hS.rdo 15 rfl)).mono ?_)); rintro _ w17 ⟨r15, r16, rfl, hC, h⟩; replace hS := hS.pur hC.pure; clear hC; refine ⟨_, rfl, ?_⟩; refine ⟨Stb.none _, ?_⟩; refine rl_q rfl rfl rfl (v_move (v := (.tuple #[(.int .i64 r15), (.int .i64 r16)])) rfl) ?_; refine rl_q rfl rfl rfl (v_extract (v := (.int .i64 r15)) rfl rfl) ?_; refine rl_q rfl rfl rfl (v_extract (v := (.int .i64 r16)) rfl rfl) ?_; refine rl_q rfl rfl rfl (v_assign (v := (.int .i64 r15)) rfl) ?_
  refine rl_q rfl rfl rfl (v_assign (v := (.int .i64 r16)) rfl) ?_; refine rl_end ?_; refine wt_seq ?_; refine wt_seq ?_; obtain ⟨J2, hJ, h⟩ := h; refine wt_cutT1 (fun E ds w' => J2 ∧ ds = [] ∧ E 1 = (Value.pointer (some (⟨g2, 0, none⟩ : Addr))) ∧ E 5 = (Value.slice Ar2 lr2 cr2) ∧ E 9 = (Value.slice Ar4 lr4 cr4) ∧ Sep w no O w' (rl [Res.box 24 g2 [(Value.int .i64 3), (Value.slice (some ⟨g, 0, none⟩) 3 3)], Res.own c3 50 (some ⟨g, 0, none⟩) 3 3 ([(0, 1, 1), (0, 2, 1), (1, 2, 1)]), Res.own cI 3 Ar2 lr2 cr2 r3, Res.own cI 3 Ar4 lr4 cr4 r7])) ?_ ?_
  · clear h hS; rintro E ds w18 ⟨h, rfl, hE1, hE5, hE9, hS⟩; replace h := hJ h; refine wt_seq ?_; refine wl_region wd_wide ?_; refine rl_q rfl rfl rfl (v_loadn (vs := [(.int .i64 3), (.slice (some ⟨g, 0, none⟩) 3 3)]) hE1 Tryz.underlying24 rfl info_24 ⟨Row.cell (hS.bx 0 rfl) (i := 0) rfl, Row.cell (hS.bx 0 rfl) (i := 1) rfl, trivial⟩) ?_; refine rl_n rfl rfl rfl rfl (n_bslice (l := [(0, (.int .i64 2)), (1, (.int .i64 (-1))), (2, (.int .i64 0))]) (cells := [(.int .i64 2), (.int .i64 (-1)), (.int .i64 0)]) (bp3 rfl rfl rfl) Tryz.underlying26 info_3 rfl rfl ?_); intro g10 w19 hN; replace hS := hS.litf (n := 3) 4 rfl (fI .i64) hN ([2, -1, 0] : List Int) rfl (by decide) rfl; clear hN; refine ⟨Stb.none _, ?_⟩; refine rl_q rfl rfl rfl (v_move (v := (.slice Ar2 lr2 cr2)) hE5) ?_; refine rl_n rfl rfl rfl rfl (n_call0 rfl (am3 rfl rfl rfl) enter_22 ((pok_effective_VerifyWin h (no_lt _) (hS.rdo 1 rfl) (hS.rdo 4 rfl) (hS.rdo 2 rfl)).mono ?_)); rintro _ w20 ⟨r17, rfl, hC, h⟩; replace hS := hS.pur hC.pure; clear hC; refine ⟨_, rfl, ?_⟩; refine ⟨Stb.none _, ?_⟩; refine rl_q rfl rfl rfl (v_eql rfl rfl) ?_; refine rl_q rfl rfl rfl (v_move (v := (.bool (decide (r17 = 0)))) rfl) ?_; by_cases hp : r17 = 0
    · replace h := h.1 hp; refine rl_q (wanted_g rfl (yE_of rfl (congrArg Value.bool (decide_eq_true hp)))) rfl rfl (v_loadn (vs := [(.int .i64 3), (.slice (some ⟨g, 0, none⟩) 3 3)]) hE1 Tryz.underlying24 rfl info_24 ⟨Row.cell (hS.bx 0 rfl) (i := 0) rfl, Row.cell (hS.bx 0 rfl) (i := 1) rfl, trivial⟩) ?_; refine rl_n (wanted_g rfl (yE_of rfl (congrArg Value.bool (decide_eq_true hp)))) rfl rfl rfl (n_bslice (l := [(0, (.int .i64 1)), (1, (.int .i64 (-1))), (2, (.int .i64 0))]) (cells := [(.int .i64 1), (.int .i64 (-1)), (.int .i64 0)]) (bp3 rfl rfl rfl) Tryz.underlying26 info_3 rfl rfl ?_); intro g11 w21 hN; replace hS := hS.litf (n := 3) 5 rfl (fI .i64) hN ([1, -1, 0] : List Int) rfl (by decide) rfl; clear hN; refine ⟨Stb.none _, ?_⟩; refine rl_q (wanted_g rfl (yE_of rfl (congrArg Value.bool (decide_eq_true hp)))) rfl rfl (v_move (v := (.slice Ar4 lr4 cr4)) hE9) ?_; refine rl_n (wanted_g rfl (yE_of rfl (congrArg Value.bool (decide_eq_true hp)))) rfl rfl rfl (n_call0 rfl (am4 rfl rfl rfl rfl) enter_23 ((pok_effective_VerifyLoss h (no_lt _) (hS.rdo 1 rfl) (hS.rdo 5 rfl) (hS.rdo 3 rfl)).mono ?_)); rintro _ w22 ⟨r18, rfl, hC, h⟩; replace hS := hS.pur hC.pure; clear hC; refine ⟨_, rfl, ?_⟩; refine ⟨Stb.none _, ?_⟩; refine rl_q (wanted_g rfl (yE_of rfl (congrArg Value.bool (decide_eq_true hp)))) rfl rfl (v_eql rfl rfl) ?_; refine rl_q rfl rfl rfl (v_pick_t (v := (.bool (decide (r18 = 0)))) (congrArg Value.bool (decide_eq_true hp)) rfl) ?_
      refine rl_q rfl rfl rfl (v_assign (v := (.bool (decide (r18 = 0)))) rfl) ?_; refine rl_end ?_; exact wt_ret1 rfl rfl ⟨_, rfl, (hS.sel [] (by decide)), h⟩
    · replace h := h.2 hp; refine rl_p (wanted_n rfl (yE_of rfl (congrArg Value.bool (decide_eq_false hp))) rfl) rfl ?_; refine rl_p (wanted_n rfl (yE_of rfl (congrArg Value.bool (decide_eq_false hp))) rfl) rfl ?_; refine rl_p (wanted_n rfl (yE_of rfl (congrArg Value.bool (decide_eq_false hp))) rfl) rfl ?_; refine rl_p (wanted_n rfl (yE_of rfl (congrArg Value.bool (decide_eq_false hp))) rfl) rfl ?_; refine rl_p (wanted_n rfl (yE_of rfl (congrArg Value.bool (decide_eq_false hp))) rfl) rfl ?_; refine rl_q rfl rfl rfl (v_pick_f (v := (.bool (false))) (congrArg Value.bool (decide_eq_false hp)) rfl) ?_; refine rl_q rfl rfl rfl (v_assign (v := (.bool (false))) rfl) ?_; refine rl_end ?_; exact wt_ret1 rfl rfl ⟨_, rfl, (hS.sel [] (by decide)), h⟩
  clear hJ; intro j; refine wl_region wd_wide ?_; refine rl_q rfl rfl rfl (v_move (v := (.int .i64 r4)) rfl) ?_; refine rl_q rfl rfl rfl (v_move (v := (.int .i64 r8)) rfl) ?_; obtain ⟨hi, h⟩ := h; refine rl_q rfl rfl rfl (v_add rfl rfl hi) ?_; refine rl_q rfl rfl rfl (v_move (v := (.int .i64 r10)) rfl) ?_; obtain ⟨hi2, h⟩ := h; refine rl_q rfl rfl rfl (v_add rfl rfl hi2) ?_; refine rl_q rfl rfl rfl (v_move (v := (.int .i64 r14)) rfl) ?_; obtain ⟨hi3, h⟩ := h; refine rl_q rfl rfl rfl (v_add rfl rfl hi3) ?_; refine rl_q rfl rfl rfl (v_move (v := (.int .i64 r16)) rfl) ?_; obtain ⟨hi4, h⟩ := h; refine rl_q rfl rfl rfl (v_add rfl rfl hi4) ?_; refine rl_q rfl rfl rfl (v_neq rfl rfl) ?_; refine rl_q rfl rfl rfl (v_move (v := (.bool (!(decide (((((r4 + r8) + r10) + r14) + r16) = 0))))) rfl) ?_; by_cases hp2 : ((((r4 + r8) + r10) + r14) + r16) = 0
  · replace h := h.1 hp2; refine rl_q (wanted_g rfl (yE_of rfl (congrArg Value.bool (congrArg Bool.not (decide_eq_true hp2))))) rfl rfl (v_move (v := (.bool (r))) rfl) ?_; refine rl_q (wanted_g rfl (yE_of rfl (congrArg Value.bool (congrArg Bool.not (decide_eq_true hp2))))) rfl rfl (v_not rfl) ?_; refine rl_q rfl rfl rfl (v_pick_f (v := (.bool (!(r)))) (congrArg Value.bool (congrArg Bool.not (decide_eq_true hp2))) rfl) ?_; refine rl_q rfl rfl rfl (v_move (v := (.bool (!(r)))) rfl) ?_; by_cases hp3 : r = true
    · replace h := h.1 hp3; refine rl_q (wanted_g rfl (yE_of rfl (congrArg Value.bool (congrArg Bool.not hp3)))) rfl rfl (v_move (v := (.bool (r5))) rfl) ?_; refine rl_q rfl rfl rfl (v_pick_f (v := (.bool (r5))) (congrArg Value.bool (congrArg Bool.not hp3)) rfl) ?_; refine rl_q rfl rfl rfl (v_move (v := (.bool (r5))) rfl) ?_; by_cases hp4 : r5 = true
      · replace h := h.1 hp4; refine rl_p (wanted_n rfl (yE_of rfl (congrArg Value.bool hp4)) rfl) rfl ?_; refine rl_p (wanted_n rfl (yE_of rfl (congrArg Value.bool hp4)) rfl) rfl ?_; refine rl_q rfl rfl rfl (v_pick_t (v := (.bool (true))) (congrArg Value.bool hp4) rfl) ?_; refine rl_q rfl rfl rfl (v_move (v := (.bool (true))) rfl) ?_; refine rl_p (wanted_n rfl (yE_of rfl rfl) rfl) rfl ?_; refine rl_p (wanted_n rfl (yE_of rfl rfl) rfl) rfl ?_; refine rl_p (wanted_n rfl (yE_of rfl rfl) rfl) rfl ?_; refine rl_p (wanted_n rfl (yE_of rfl rfl) rfl) rfl ?_; refine rl_q rfl rfl rfl (v_pick_t (v := (.bool (true))) rfl rfl) ?_; refine rl_q rfl rfl rfl (v_move (v := (.bool (true))) rfl) ?_; refine rl_p (wanted_n rfl (yE_of rfl rfl) rfl) rfl ?_; refine rl_p (wanted_n rfl (yE_of rfl rfl) rfl) rfl ?_; refine rl_p (wanted_n rfl (yE_of rfl rfl) rfl) rfl ?_; refine rl_p (wanted_n rfl (yE_of rfl rfl) rfl) rfl ?_; refine rl_q rfl rfl rfl (v_pick_t (v := (.bool (true))) rfl rfl) ?_; refine rl_q rfl rfl rfl (v_move (v := (.bool (true))) rfl) ?_; refine rl_p (wanted_n rfl (yE_of rfl rfl) rfl) rfl ?_; refine rl_p (wanted_n rfl (yE_of rfl rfl) rfl) rfl ?_; refine rl_p (wanted_n rfl (yE_of rfl rfl) rfl) rfl ?_; refine rl_p (wanted_n rfl (yE_of rfl rfl) rfl) rfl ?_; refine rl_q rfl rfl rfl (v_pick_t (v := (.bool (true))) rfl rfl) ?_; refine rl_q rfl rfl rfl (v_move (v := (.bool (true))) rfl) ?_; refine rl_p (wanted_n rfl (yE_of rfl rfl) rfl) rfl ?_
        refine rl_p (wanted_n rfl (yE_of rfl rfl) rfl) rfl ?_; refine rl_q rfl rfl rfl (v_pick_t (v := (.bool (true))) rfl rfl) ?_; refine rl_end ?_; refine wt_cond_t rfl ?_; refine wt_seq ?_; refine wl_region wd_wide ?_; refine rl_q rfl rfl rfl (v_assign (v := (.bool (false))) rfl) ?_; refine rl_end ?_; exact wt_ret1 rfl rfl ⟨_, rfl, (hS.sel [] (by decide)), h⟩
      · replace h := h.2 hp4; refine rl_q (wanted_g rfl (yE_of rfl (congrArg Value.bool (Bool.eq_false_iff.2 hp4)))) rfl rfl (v_move (v := (.bool (r11))) rfl) ?_; refine rl_q (wanted_g rfl (yE_of rfl (congrArg Value.bool (Bool.eq_false_iff.2 hp4)))) rfl rfl (v_not rfl) ?_; refine rl_q rfl rfl rfl (v_pick_f (v := (.bool (!(r11)))) (congrArg Value.bool (Bool.eq_false_iff.2 hp4)) rfl) ?_; refine rl_q rfl rfl rfl (v_move (v := (.bool (!(r11)))) rfl) ?_; by_cases hp5 : r11 = true
        · replace h := h.1 hp5; refine rl_q (wanted_g rfl (yE_of rfl (congrArg Value.bool (congrArg Bool.not hp5)))) rfl rfl (v_move (v := (.slice Ar lr cr)) rfl) ?_; refine rl_n (wanted_g rfl (yE_of rfl (congrArg Value.bool (congrArg Bool.not hp5)))) rfl rfl rfl (n_bslice (l := [(0, (.int .i64 0)), (1, (.int .i64 0)), (2, (.int .i64 1))]) (cells := [(.int .i64 0), (.int .i64 0), (.int .i64 1)]) (bp3 rfl rfl rfl) Tryz.underlying26 info_3 rfl rfl ?_); intro g12 w23 hN; replace hS := hS.litf (n := 3) 16 rfl (fI .i64) hN ([0, 0, 1] : List Int) rfl (by decide) rfl; clear hN; refine ⟨Stb.none _, ?_⟩; refine rl_n (wanted_g rfl (yE_of rfl (congrArg Value.bool (congrArg Bool.not hp5)))) rfl rfl rfl (n_call0 rfl (am2 rfl rfl) enter_9 ((pok_slices_Equal_Divisor h (no_lt _) (hS.rdo 5 rfl) (hS.rdo 16 rfl)).mono ?_)); rintro _ w24 ⟨r19, rfl, hC, h⟩; replace hS := hS.pur hC.pure; clear hC; refine ⟨_, rfl, ?_⟩; refine ⟨Stb.none _, ?_⟩; refine rl_q (wanted_g rfl (yE_of rfl (congrArg Value.bool (congrArg Bool.not hp5)))) rfl rfl (v_not rfl) ?_; refine rl_q rfl rfl rfl (v_pick_f (v := (.bool (!(r19)))) (congrArg Value.bool (congrArg Bool.not hp5)) rfl) ?_; refine rl_q rfl rfl rfl (v_move (v := (.bool (!(r19)))) rfl) ?_; by_cases hp6 : r19 = true
          · replace h := h.1 hp6; refine rl_q (wanted_g rfl (yE_of rfl (congrArg Value.bool (congrArg Bool.not hp6)))) rfl rfl (v_move (v := (.slice Ar3 lr3 cr3)) rfl) ?_; refine rl_n (wanted_g rfl (yE_of rfl (congrArg Value.bool (congrArg Bool.not hp6)))) rfl rfl rfl (n_bslice (l := [(0, (.int .i64 (-1))), (1, (.int .i64 0)), (2, (.int .i64 1))]) (cells := [(.int .i64 (-1)), (.int .i64 0), (.int .i64 1)]) (bp3 rfl rfl rfl) Tryz.underlying26 info_3 rfl rfl ?_); intro g13 w25 hN; replace hS := hS.litf (n := 3) 17 rfl (fI .i64) hN ([-1, 0, 1] : List Int) rfl (by decide) rfl; clear hN; refine ⟨Stb.none _, ?_⟩; refine rl_n (wanted_g rfl (yE_of rfl (congrArg Value.bool (congrArg Bool.not hp6)))) rfl rfl rfl (n_call0 rfl (am2 rfl rfl) enter_9 ((pok_slices_Equal_Divisor h (no_lt _) (hS.rdo 8 rfl) (hS.rdo 17 rfl)).mono ?_)); rintro _ w26 ⟨r20, rfl, hC, h⟩; replace hS := hS.pur hC.pure; clear hC; refine ⟨_, rfl, ?_⟩; refine ⟨Stb.none _, ?_⟩; refine rl_q (wanted_g rfl (yE_of rfl (congrArg Value.bool (congrArg Bool.not hp6)))) rfl rfl (v_not rfl) ?_; refine rl_q rfl rfl rfl (v_pick_f (v := (.bool (!(r20)))) (congrArg Value.bool (congrArg Bool.not hp6)) rfl) ?_; refine rl_q rfl rfl rfl (v_move (v := (.bool (!(r20)))) rfl) ?_; by_cases hp7 : r20 = true
            · replace h := h.1 hp7; refine rl_q (wanted_g rfl (yE_of rfl (congrArg Value.bool (congrArg Bool.not hp7)))) rfl rfl (v_move (v := (.slice Ar5 lr5 cr5)) rfl) ?_; refine rl_n (wanted_g rfl (yE_of rfl (congrArg Value.bool (congrArg Bool.not hp7)))) rfl rfl rfl (n_bslice (l := [(0, (.int .i64 0)), (1, (.int .i64 1)), (2, (.int .i64 2))]) (cells := [(.int .i64 0), (.int .i64 1), (.int .i64 2)]) (bp3 rfl rfl rfl) Tryz.underlying25 info_3 rfl rfl ?_); intro g14 w27 hN; replace hS := hS.litf (n := 3) 18 rfl (fI .i64) hN ([0, 1, 2] : List Int) rfl (by decide) rfl; clear hN; refine ⟨Stb.none _, ?_⟩; refine rl_n (wanted_g rfl (yE_of rfl (congrArg Value.bool (congrArg Bool.not hp7)))) rfl rfl rfl (n_call0 rfl (am2 rfl rfl) enter_21 ((pok_slices_Equal_intS h (no_lt _) (hS.rdo 11 rfl) (hS.rdo 18 rfl)).mono ?_)); rintro _ w28 ⟨r21, rfl, hC, h⟩; replace hS := hS.pur hC.pure; clear hC; refine ⟨_, rfl, ?_⟩; refine ⟨Stb.none _, ?_⟩; refine rl_q (wanted_g rfl (yE_of rfl (congrArg Value.bool (congrArg Bool.not hp7)))) rfl rfl (v_not rfl) ?_; refine rl_q rfl rfl rfl (v_pick_f (v := (.bool (!(r21)))) (congrArg Value.bool (congrArg Bool.not hp7)) rfl) ?_; refine rl_q rfl rfl rfl (v_move (v := (.bool (!(r21)))) rfl) ?_; by_cases hp8 : r21 = true
              · replace h := h.1 hp8; refine rl_q (wanted_g rfl (yE_of rfl (congrArg Value.bool (congrArg Bool.not hp8)))) rfl rfl (v_move (v := (.int .i64 r15)) rfl) ?_; refine rl_q (wanted_g rfl (yE_of rfl (congrArg Value.bool (congrArg Bool.not hp8)))) rfl rfl (v_neq rfl rfl) ?_; refine rl_q rfl rfl rfl (v_pick_f (v := (.bool (!(decide (r15 = 1))))) (congrArg Value.bool (congrArg Bool.not hp8)) rfl) ?_; refine rl_end ?_; by_cases hp9 : r15 = 1
                · replace h := h.1 hp9; refine wt_cond_f (congrArg Value.bool (congrArg Bool.not (decide_eq_true hp9))) ?_; refine wt_skip ?_; exact j _ _ _ ⟨h, rfl, rfl, rfl, rfl, (hS.sel [1, 0, 6, 9] (by decide))⟩
                · replace h := h.2 hp9; refine wt_cond_t (congrArg Value.bool (congrArg Bool.not (decide_eq_false hp9))) ?_; refine wt_seq ?_; refine wl_region wd_wide ?_; refine rl_q rfl rfl rfl (v_assign (v := (.bool (false))) rfl) ?_; refine rl_end ?_; exact wt_ret1 rfl rfl ⟨_, rfl, (hS.sel [] (by decide)), h⟩
              · replace h := h.2 hp8; refine rl_p (wanted_n rfl (yE_of rfl (congrArg Value.bool (congrArg Bool.not (Bool.eq_false_iff.2 hp8)))) rfl) rfl ?_; refine rl_p (wanted_n rfl (yE_of rfl (congrArg Value.bool (congrArg Bool.not (Bool.eq_false_iff.2 hp8)))) rfl) rfl ?_; refine rl_q rfl rfl rfl (v_pick_t (v := (.bool (true))) (congrArg Value.bool (congrArg Bool.not (Bool.eq_false_iff.2 hp8))) rfl) ?_; refine rl_end ?_; refine wt_cond_t rfl ?_; refine wt_seq ?_; refine wl_region wd_wide ?_; refine rl_q rfl rfl rfl (v_assign (v := (.bool (false))) rfl) ?_; refine rl_end ?_; exact wt_ret1 rfl rfl ⟨_, rfl, (hS.sel [] (by decide)), h⟩
            · replace h := h.2 hp7; refine rl_p (wanted_n rfl (yE_of rfl (congrArg Value.bool (congrArg Bool.not (Bool.eq_false_iff.2 hp7)))) rfl) rfl ?_; refine rl_p (wanted_n rfl (yE_of rfl (congrArg Value.bool (congrArg Bool.not (Bool.eq_false_iff.2 hp7)))) rfl) rfl ?_; refine rl_p (wanted_n rfl (yE_of rfl (congrArg Value.bool (congrArg Bool.not (Bool.eq_false_iff.2 hp7)))) rfl) rfl ?_; refine rl_p (wanted_n rfl (yE_of rfl (congrArg Value.bool (congrArg Bool.not (Bool.eq_false_iff.2 hp7)))) rfl) rfl ?_; refine rl_q rfl rfl rfl (v_pick_t (v := (.bool (true))) (congrArg Value.bool (congrArg Bool.not (Bool.eq_false_iff.2 hp7))) rfl) ?_; refine rl_q rfl rfl rfl (v_move (v := (.bool (true))) rfl) ?_; refine rl_p (wanted_n rfl (yE_of rfl rfl) rfl) rfl ?_; refine rl_p (wanted_n rfl (yE_of rfl rfl) rfl) rfl ?_; refine rl_q rfl rfl rfl (v_pick_t (v := (.bool (true))) rfl rfl) ?_; refine rl_end ?_; refine wt_cond_t rfl ?_; refine wt_seq ?_; refine wl_region wd_wide ?_; refine rl_q rfl rfl rfl (v_assign (v := (.bool (false))) rfl) ?_; refine rl_end ?_; exact wt_ret1 rfl rfl ⟨_, rfl, (hS.sel [] (by decide)), h⟩
          · replace h := h.2 hp6; refine rl_p (wanted_n rfl (yE_of rfl (congrArg Value.bool (congrArg Bool.not (Bool.eq_false_iff.2 hp6)))) rfl) rfl ?_; refine rl_p (wanted_n rfl (yE_of rfl (congrArg Value.bool (congrArg Bool.not (Bool.eq_false_iff.2 hp6)))) rfl) rfl ?_; refine rl_p (wanted_n rfl (yE_of rfl (congrArg Value.bool (congrArg Bool.not (Bool.eq_false_iff.2 hp6)))) rfl) rfl ?_; refine rl_p (wanted_n rfl (yE_of rfl (congrArg Value.bool (congrArg Bool.not (Bool.eq_false_iff.2 hp6)))) rfl) rfl ?_; refine rl_q rfl rfl rfl (v_pick_t (v := (.bool (true))) (congrArg Value.bool (congrArg Bool.not (Bool.eq_false_iff.2 hp6))) rfl) ?_; refine rl_q rfl rfl rfl (v_move (v := (.bool (true))) rfl) ?_; refine rl_p (wanted_n rfl (yE_of rfl rfl) rfl) rfl ?_; refine rl_p (wanted_n rfl (yE_of rfl rfl) rfl) rfl ?_; refine rl_p (wanted_n rfl (yE_of rfl rfl) rfl) rfl ?_; refine rl_p (wanted_n rfl (yE_of rfl rfl) rfl) rfl ?_; refine rl_q rfl rfl rfl (v_pick_t (v := (.bool (true))) rfl rfl) ?_; refine rl_q rfl rfl rfl (v_move (v := (.bool (true))) rfl) ?_; refine rl_p (wanted_n rfl (yE_of rfl rfl) rfl) rfl ?_; refine rl_p (wanted_n rfl (yE_of rfl rfl) rfl) rfl ?_; refine rl_q rfl rfl rfl (v_pick_t (v := (.bool (true))) rfl rfl) ?_; refine rl_end ?_; refine wt_cond_t rfl ?_; refine wt_seq ?_; refine wl_region wd_wide ?_; refine rl_q rfl rfl rfl (v_assign (v := (.bool (false))) rfl) ?_; refine rl_end ?_; exact wt_ret1 rfl rfl ⟨_, rfl, (hS.sel [] (by decide)), h⟩
        · replace h := h.2 hp5; refine rl_p (wanted_n rfl (yE_of rfl (congrArg Value.bool (congrArg Bool.not (Bool.eq_false_iff.2 hp5)))) rfl) rfl ?_; refine rl_p (wanted_n rfl (yE_of rfl (congrArg Value.bool (congrArg Bool.not (Bool.eq_false_iff.2 hp5)))) rfl) rfl ?_; refine rl_p (wanted_n rfl (yE_of rfl (congrArg Value.bool (congrArg Bool.not (Bool.eq_false_iff.2 hp5)))) rfl) rfl ?_; refine rl_p (wanted_n rfl (yE_of rfl (congrArg Value.bool (congrArg Bool.not (Bool.eq_false_iff.2 hp5)))) rfl) rfl ?_; refine rl_q rfl rfl rfl (v_pick_t (v := (.bool (true))) (congrArg Value.bool (congrArg Bool.not (Bool.eq_false_iff.2 hp5))) rfl) ?_; refine rl_q rfl rfl rfl (v_move (v := (.bool (true))) rfl) ?_; refine rl_p (wanted_n rfl (yE_of rfl rfl) rfl) rfl ?_; refine rl_p (wanted_n rfl (yE_of rfl rfl) rfl) rfl ?_; refine rl_p (wanted_n rfl (yE_of rfl rfl) rfl) rfl ?_; refine rl_p (wanted_n rfl (yE_of rfl rfl) rfl) rfl ?_; refine rl_q rfl rfl rfl (v_pick_t (v := (.bool (true))) rfl rfl) ?_; refine rl_q rfl rfl rfl (v_move (v := (.bool (true))) rfl) ?_; refine rl_p (wanted_n rfl (yE_of rfl rfl) rfl) rfl ?_; refine rl_p (wanted_n rfl (yE_of rfl rfl) rfl) rfl ?_; refine rl_p (wanted_n rfl (yE_of rfl rfl) rfl) rfl ?_; refine rl_p (wanted_n rfl (yE_of rfl rfl) rfl) rfl ?_; refine rl_q rfl rfl rfl (v_pick_t (v := (.bool (true))) rfl rfl) ?_; refine rl_q rfl rfl rfl (v_move (v := (.bool (true))) rfl) ?_; refine rl_p (wanted_n rfl (yE_of rfl rfl) rfl) rfl ?_
          refine rl_p (wanted_n rfl (yE_of rfl rfl) rfl) rfl ?_; refine rl_q rfl rfl rfl (v_pick_t (v := (.bool (true))) rfl rfl) ?_; refine rl_end ?_; refine wt_cond_t rfl ?_; refine wt_seq ?_; refine wl_region wd_wide ?_; refine rl_q rfl rfl rfl (v_assign (v := (.bool (false))) rfl) ?_; refine rl_end ?_; exact wt_ret1 rfl rfl ⟨_, rfl, (hS.sel [] (by decide)), h⟩
    · replace h := h.2 hp3; refine rl_p (wanted_n rfl (yE_of rfl (congrArg Value.bool (congrArg Bool.not (Bool.eq_false_iff.2 hp3)))) rfl) rfl ?_; refine rl_q rfl rfl rfl (v_pick_t (v := (.bool (true))) (congrArg Value.bool (congrArg Bool.not (Bool.eq_false_iff.2 hp3))) rfl) ?_; refine rl_q rfl rfl rfl (v_move (v := (.bool (true))) rfl) ?_; refine rl_p (wanted_n rfl (yE_of rfl rfl) rfl) rfl ?_; refine rl_p (wanted_n rfl (yE_of rfl rfl) rfl) rfl ?_; refine rl_q rfl rfl rfl (v_pick_t (v := (.bool (true))) rfl rfl) ?_; refine rl_q rfl rfl rfl (v_move (v := (.bool (true))) rfl) ?_; refine rl_p (wanted_n rfl (yE_of rfl rfl) rfl) rfl ?_; refine rl_p (wanted_n rfl (yE_of rfl rfl) rfl) rfl ?_; refine rl_p (wanted_n rfl (yE_of rfl rfl) rfl) rfl ?_; refine rl_p (wanted_n rfl (yE_of rfl rfl) rfl) rfl ?_; refine rl_q rfl rfl rfl (v_pick_t (v := (.bool (true))) rfl rfl) ?_; refine rl_q rfl rfl rfl (v_move (v := (.bool (true))) rfl) ?_; refine rl_p (wanted_n rfl (yE_of rfl rfl) rfl) rfl ?_; refine rl_p (wanted_n rfl (yE_of rfl rfl) rfl) rfl ?_; refine rl_p (wanted_n rfl (yE_of rfl rfl) rfl) rfl ?_; refine rl_p (wanted_n rfl (yE_of rfl rfl) rfl) rfl ?_; refine rl_q rfl rfl rfl (v_pick_t (v := (.bool (true))) rfl rfl) ?_; refine rl_q rfl rfl rfl (v_move (v := (.bool (true))) rfl) ?_; refine rl_p (wanted_n rfl (yE_of rfl rfl) rfl) rfl ?_; refine rl_p (wanted_n rfl (yE_of rfl rfl) rfl) rfl ?_; refine rl_p (wanted_n rfl (yE_of rfl rfl) rfl) rfl ?_
      refine rl_p (wanted_n rfl (yE_of rfl rfl) rfl) rfl ?_; refine rl_q rfl rfl rfl (v_pick_t (v := (.bool (true))) rfl rfl) ?_; refine rl_q rfl rfl rfl (v_move (v := (.bool (true))) rfl) ?_; refine rl_p (wanted_n rfl (yE_of rfl rfl) rfl) rfl ?_; refine rl_p (wanted_n rfl (yE_of rfl rfl) rfl) rfl ?_; refine rl_q rfl rfl rfl (v_pick_t (v := (.bool (true))) rfl rfl) ?_; refine rl_end ?_; refine wt_cond_t rfl ?_; refine wt_seq ?_; refine wl_region wd_wide ?_; refine rl_q rfl rfl rfl (v_assign (v := (.bool (false))) rfl) ?_; refine rl_end ?_; exact wt_ret1 rfl rfl ⟨_, rfl, (hS.sel [] (by decide)), h⟩
  · replace h := h.2 hp2; refine rl_p (wanted_n rfl (yE_of rfl (congrArg Value.bool (congrArg Bool.not (decide_eq_false hp2)))) rfl) rfl ?_; refine rl_p (wanted_n rfl (yE_of rfl (congrArg Value.bool (congrArg Bool.not (decide_eq_false hp2)))) rfl) rfl ?_; refine rl_q rfl rfl rfl (v_pick_t (v := (.bool (true))) (congrArg Value.bool (congrArg Bool.not (decide_eq_false hp2))) rfl) ?_; refine rl_q rfl rfl rfl (v_move (v := (.bool (true))) rfl) ?_; refine rl_p (wanted_n rfl (yE_of rfl rfl) rfl) rfl ?_; refine rl_q rfl rfl rfl (v_pick_t (v := (.bool (true))) rfl rfl) ?_; refine rl_q rfl rfl rfl (v_move (v := (.bool (true))) rfl) ?_; refine rl_p (wanted_n rfl (yE_of rfl rfl) rfl) rfl ?_; refine rl_p (wanted_n rfl (yE_of rfl rfl) rfl) rfl ?_; refine rl_q rfl rfl rfl (v_pick_t (v := (.bool (true))) rfl rfl) ?_; refine rl_q rfl rfl rfl (v_move (v := (.bool (true))) rfl) ?_; refine rl_p (wanted_n rfl (yE_of rfl rfl) rfl) rfl ?_; refine rl_p (wanted_n rfl (yE_of rfl rfl) rfl) rfl ?_; refine rl_p (wanted_n rfl (yE_of rfl rfl) rfl) rfl ?_; refine rl_p (wanted_n rfl (yE_of rfl rfl) rfl) rfl ?_; refine rl_q rfl rfl rfl (v_pick_t (v := (.bool (true))) rfl rfl) ?_; refine rl_q rfl rfl rfl (v_move (v := (.bool (true))) rfl) ?_; refine rl_p (wanted_n rfl (yE_of rfl rfl) rfl) rfl ?_; refine rl_p (wanted_n rfl (yE_of rfl rfl) rfl) rfl ?_; refine rl_p (wanted_n rfl (yE_of rfl rfl) rfl) rfl ?_; refine rl_p (wanted_n rfl (yE_of rfl rfl) rfl) rfl ?_
    refine rl_q rfl rfl rfl (v_pick_t (v := (.bool (true))) rfl rfl) ?_; refine rl_q rfl rfl rfl (v_move (v := (.bool (true))) rfl) ?_; refine rl_p (wanted_n rfl (yE_of rfl rfl) rfl) rfl ?_; refine rl_p (wanted_n rfl (yE_of rfl rfl) rfl) rfl ?_; refine rl_p (wanted_n rfl (yE_of rfl rfl) rfl) rfl ?_; refine rl_p (wanted_n rfl (yE_of rfl rfl) rfl) rfl ?_; refine rl_q rfl rfl rfl (v_pick_t (v := (.bool (true))) rfl rfl) ?_; refine rl_q rfl rfl rfl (v_move (v := (.bool (true))) rfl) ?_; refine rl_p (wanted_n rfl (yE_of rfl rfl) rfl) rfl ?_; refine rl_p (wanted_n rfl (yE_of rfl rfl) rfl) rfl ?_; refine rl_q rfl rfl rfl (v_pick_t (v := (.bool (true))) rfl rfl) ?_; refine rl_end ?_; refine wt_cond_t rfl ?_; refine wt_seq ?_; refine wl_region wd_wide ?_; refine rl_q rfl rfl rfl (v_assign (v := (.bool (false))) rfl) ?_; refine rl_end ?_; exact wt_ret1 rfl rfl ⟨_, rfl, (hS.sel [] (by decide)), h⟩

/-- sandpile/sandpilelaw36.low: what it computes. -/
def pf_l36_low (g : Int) (g2 : List (Int × Int × Int)) (d : List Int) (R : Bool → Prop) : Prop :=
pf_r34_Few g g2 (fun (r : Bool) =>
((r = true →
pf_r34_Low g g2 d (fun (r2 : Bool) =>
R r2)) ∧
(¬ (r = true) →
R false)))
theorem pok_l36_low {O : Nat → Prop} {w : World} {g : Int} {g2 : List (Int × Int × Int)} {d : List Int} {Ag : Option Addr} {lg : Nat} {cg : Nat} {Ad : Option Addr} {ld : Nat} {cd : Nat} {R : Bool → Prop} (h : pf_l36_low g g2 d R) (hO : ∀ k, O k → k < w.heap.size) (hA0 : (FP.sl c3 Ag lg cg g2).P O w) (hA1 : (FP.sl cI Ad ld cd d).P O w) :
    Calls Tryz.prog 5 #[(Value.agg #[(Value.int .i64 g), (Value.slice Ag lg cg)]), (Value.slice Ad ld cd)] w fun e w' => ∃ r3 : Bool, e = .returned (Value.bool (r3)) ∧ Sep w no O w' (rl []) ∧ R r3 := by
  unfold pf_l36_low at h; have hS : Sep w no O w (rl [Res.ro (FP.sl c3 Ag lg cg g2), Res.ro (FP.sl cI Ad ld cd d)]) := Sep.startl hO [(FP.sl c3 Ag lg cg g2), (FP.sl cI Ad ld cd d)] ⟨hA0, hA1, trivial⟩; refine calls_sh (l := [(Value.agg #[(Value.int .i64 g), (Value.slice Ag lg cg)]), (Value.slice Ad ld cd)]) Tryz.func5 rfl Tryz.ntmps5 (Nat.le_of_ble_eq_true rfl) ?_; refine wt_seq ?_; refine wl_region wd_wide ?_; refine rl_n rfl rfl rfl rfl (n_box (v := (.agg #[(.int .i64 g), (.slice Ag lg cg)])) rfl ?_); intro g3 w2 hN; replace hS : Sep w no O w2 (stl _ 2 (Res.box 24 g3 [(Value.int .i64 g), (Value.slice Ag lg cg)])) := hS.new 2 rfl hN; clear hN; refine ⟨Stb.none _, ?_⟩; refine rl_q rfl rfl rfl (v_assign (v := (.bool (false))) rfl) ?_; refine rl_end ?_; refine wt_seq ?_; refine wl_region wd_wide ?_; refine rl_q rfl rfl rfl (v_loadn (vs := [(.int .i64 g), (.slice Ag lg cg)]) rfl Tryz.underlying24 rfl info_24 ⟨Row.cell (hS.bx 2 rfl) (i := 0) rfl, Row.cell (hS.bx 2 rfl) (i := 1) rfl, trivial⟩) ?_; refine rl_n rfl rfl rfl rfl (n_call0 rfl (am1 rfl) enter_17 ((pok_r34_Few h (no_lt _) (hS.rdr 0 rfl)).mono ?_)); rintro _ w3 ⟨r, rfl, hC, h⟩; replace hS := hS.pur hC.pure; clear hC; refine ⟨_, rfl, ?_⟩; refine ⟨Stb.none _, ?_⟩; refine rl_q rfl rfl rfl (v_move (v := (.bool (r))) rfl) ?_; by_cases hp : r = true
  · replace h := h.1 hp; refine rl_q (wanted_g rfl (yE_of rfl (congrArg Value.bool hp))) rfl rfl (v_loadn (vs := [(.int .i64 g), (.slice Ag lg cg)]) rfl Tryz.underlying24 rfl info_24 ⟨Row.cell (hS.bx 2 rfl) (i := 0) rfl, Row.cell (hS.bx 2 rfl) (i := 1) rfl, trivial⟩) ?_; refine rl_q (wanted_g rfl (yE_of rfl (congrArg Value.bool hp))) rfl rfl (v_move (v := (.slice Ad ld cd)) rfl) ?_; refine rl_n (wanted_g rfl (yE_of rfl (congrArg Value.bool hp))) rfl rfl rfl (n_call0 rfl (am2 rfl rfl) enter_18 ((pok_r34_Low h (no_lt _) (hS.rdr 0 rfl) (hS.rdr 1 rfl)).mono ?_)); rintro _ w4 ⟨r2, rfl, hC, h⟩; replace hS := hS.pur hC.pure; clear hC; refine ⟨_, rfl, ?_⟩; refine ⟨Stb.none _, ?_⟩; refine rl_q rfl rfl rfl (v_pick_t (v := (.bool (r2))) (congrArg Value.bool hp) rfl) ?_; refine rl_q rfl rfl rfl (v_assign (v := (.bool (r2))) rfl) ?_; refine rl_end ?_; exact wt_ret1 rfl rfl ⟨_, rfl, (hS.sel [] (by decide)), h⟩
  · replace h := h.2 hp; refine rl_p (wanted_n rfl (yE_of rfl (congrArg Value.bool (Bool.eq_false_iff.2 hp))) rfl) rfl ?_; refine rl_p (wanted_n rfl (yE_of rfl (congrArg Value.bool (Bool.eq_false_iff.2 hp))) rfl) rfl ?_; refine rl_p (wanted_n rfl (yE_of rfl (congrArg Value.bool (Bool.eq_false_iff.2 hp))) rfl) rfl ?_; refine rl_q rfl rfl rfl (v_pick_f (v := (.bool (false))) (congrArg Value.bool (Bool.eq_false_iff.2 hp)) rfl) ?_; refine rl_q rfl rfl rfl (v_assign (v := (.bool (false))) rfl) ?_; refine rl_end ?_; exact wt_ret1 rfl rfl ⟨_, rfl, (hS.sel [] (by decide)), h⟩

/-- sandpile/sandpilelaw36.EffectiveDecides: what it computes. -/
def pf_l36_EffectiveDecides (g : Int) (g2 : List (Int × Int × Int)) (d : List Int) (R : Bool → Prop) : Prop :=
pf_l36_low g g2 d (fun (r : Bool) =>
((r = true →
pf_effective_Winnable g g2 d (fun (r2 : Bool) (r3 : List Int) (r4 : List Int) (r5 : Int) =>
pf_r36_Winnable g g2 d (fun (r6 : Bool) (r7 : List Int) (r8 : List Int) (r9 : Int) =>
(((r2 == r6) = true →
pf_slices_Equal_Divisor r3 r7 (fun (r10 : Bool) =>
((r10 = true →
pf_slices_Equal_Script r4 r8 (fun (r11 : Bool) =>
((r11 = true →
((r5 = r9 →
pf_l36_awake (fun (r12 : Bool) =>
R r12)) ∧
(¬ (r5 = r9) →
R false))) ∧
(¬ (r11 = true) →
R false)))) ∧
(¬ (r10 = true) →
R false)))) ∧
(¬ ((r2 == r6) = true) →
R false))))) ∧
(¬ (r = true) →
pf_l36_awake (fun (r13 : Bool) =>
R r13))))
theorem pok_l36_EffectiveDecides {O : Nat → Prop} {w : World} {g : Int} {g2 : List (Int × Int × Int)} {d : List Int} {Ag : Option Addr} {lg : Nat} {cg : Nat} {Ad : Option Addr} {ld : Nat} {cd : Nat} {R : Bool → Prop} (h : pf_l36_EffectiveDecides g g2 d R) (hO : ∀ k, O k → k < w.heap.size) (hA0 : (FP.sl c3 Ag lg cg g2).P O w) (hA1 : (FP.sl cI Ad ld cd d).P O w) :
    Calls Tryz.prog 3 #[(Value.agg #[(Value.int .i64 g), (Value.slice Ag lg cg)]), (Value.slice Ad ld cd)] w fun e w' => ∃ r14 : Bool, e = .returned (Value.bool (r14)) ∧ Sep w no O w' (rl []) ∧ R r14 := by
  unfold pf_l36_EffectiveDecides at h; have hS : Sep w no O w (rl [Res.ro (FP.sl c3 Ag lg cg g2), Res.ro (FP.sl cI Ad ld cd d)]) := Sep.startl hO [(FP.sl c3 Ag lg cg g2), (FP.sl cI Ad ld cd d)] ⟨hA0, hA1, trivial⟩; refine calls_sh (l := [(Value.agg #[(Value.int .i64 g), (Value.slice Ag lg cg)]), (Value.slice Ad ld cd)]) Tryz.func3 rfl Tryz.ntmps3 (Nat.le_of_ble_eq_true rfl) ?_; refine wt_seq ?_; refine wl_region wd_wide ?_; refine rl_n rfl rfl rfl rfl (n_box (v := (.agg #[(.int .i64 g), (.slice Ag lg cg)])) rfl ?_); intro g3 w2 hN; replace hS : Sep w no O w2 (stl _ 2 (Res.box 24 g3 [(Value.int .i64 g), (Value.slice Ag lg cg)])) := hS.new 2 rfl hN; clear hN; refine ⟨Stb.none _, ?_⟩; refine rl_q rfl rfl rfl (v_assign (v := (.bool (false))) rfl) ?_; refine rl_end ?_; refine wt_seq ?_; refine wt_seq ?_; refine wl_region wd_wide ?_; refine rl_q rfl rfl rfl (v_loadn (vs := [(.int .i64 g), (.slice Ag lg cg)]) rfl Tryz.underlying24 rfl info_24 ⟨Row.cell (hS.bx 2 rfl) (i := 0) rfl, Row.cell (hS.bx 2 rfl) (i := 1) rfl, trivial⟩) ?_; refine rl_q rfl rfl rfl (v_move (v := (.slice Ad ld cd)) rfl) ?_; refine rl_n rfl rfl rfl rfl (n_call0 rfl (am2 rfl rfl) enter_5 ((pok_l36_low h (no_lt _) (hS.rdr 0 rfl) (hS.rdr 1 rfl)).mono ?_)); rintro _ w3 ⟨r, rfl, hC, h⟩; replace hS := hS.pur hC.pure; clear hC; refine ⟨_, rfl, ?_⟩; refine ⟨Stb.none _, ?_⟩; refine rl_q rfl rfl rfl (v_not rfl) ?_; refine rl_end ?_; by_cases hp : r = true
  · replace h := h.1 hp; refine wt_cond_f (congrArg Value.bool (congrArg Bool.not hp)) ?_; refine wt_skip ?_; refine wt_seq ?_; refine wl_region wd_wide ?_; refine rl_q rfl rfl rfl (v_loadn (vs := [(.int .i64 g), (.slice Ag lg cg)]) rfl Tryz.underlying24 rfl info_24 ⟨Row.cell (hS.bx 2 rfl) (i := 0) rfl, Row.cell (hS.bx 2 rfl) (i := 1) rfl, trivial⟩) ?_; refine rl_q rfl rfl rfl (v_move (v := (.slice Ad ld cd)) rfl) ?_; refine rl_n rfl rfl rfl rfl (n_call0 rfl (am2 rfl rfl) enter_7 ((pok_effective_Winnable h (no_lt _) (hS.rdr 0 rfl) (hS.rdr 1 rfl)).mono ?_)); rintro _ w4 ⟨r2, r3, r4, r5, Ar, lr, cr, Ar2, lr2, cr2, rfl, hC, h⟩; replace hS := hS.call2 (hC.widen (flatS (flat_own (fI .i64) _ _ _ _ _) (flatS (flat_own (fI .i64) _ _ _ _ _) flat0)) hS.blt) 3 0 4 1 rfl rfl (by decide) (by decide); clear hC; refine ⟨_, rfl, ?_⟩; refine ⟨Stb.none _, ?_⟩; refine rl_q rfl rfl rfl (v_move (v := (.tuple #[(.bool (r2)), (.slice Ar lr cr), (.slice Ar2 lr2 cr2), (.int .i64 r5)])) rfl) ?_; refine rl_q rfl rfl rfl (v_extract (v := (.bool (r2))) rfl rfl) ?_; refine rl_q rfl rfl rfl (v_extract (v := (.slice Ar lr cr)) rfl rfl) ?_; refine rl_q rfl rfl rfl (v_extract (v := (.slice Ar2 lr2 cr2)) rfl rfl) ?_; refine rl_q rfl rfl rfl (v_extract (v := (.int .i64 r5)) rfl rfl) ?_; refine rl_q rfl rfl rfl (v_assign (v := (.bool (r2))) rfl) ?_; refine rl_q rfl rfl rfl (v_assign (v := (.slice Ar lr cr)) rfl) ?_; refine rl_q rfl rfl rfl (v_assign (v := (.slice Ar2 lr2 cr2)) rfl) ?_
    refine rl_q rfl rfl rfl (v_assign (v := (.int .i64 r5)) rfl) ?_; refine rl_end ?_; refine wt_seq ?_; refine wl_region wd_wide ?_; refine rl_q rfl rfl rfl (v_loadn (vs := [(.int .i64 g), (.slice Ag lg cg)]) rfl Tryz.underlying24 rfl info_24 ⟨Row.cell (hS.bx 2 rfl) (i := 0) rfl, Row.cell (hS.bx 2 rfl) (i := 1) rfl, trivial⟩) ?_; refine rl_q rfl rfl rfl (v_move (v := (.slice Ad ld cd)) rfl) ?_; refine rl_n rfl rfl rfl rfl (n_call0 rfl (am2 rfl rfl) enter_8 ((pok_r36_Winnable h (no_lt _) (hS.rdr 0 rfl) (hS.rdr 1 rfl)).mono ?_)); rintro _ w5 ⟨r6, r7, r8, r9, Ar3, lr3, cr3, Ar4, lr4, cr4, rfl, hC, h⟩; replace hS := hS.call2 (hC.widen (flatS (flat_own (fI .i64) _ _ _ _ _) (flatS (flat_own (fI .i64) _ _ _ _ _) flat0)) hS.blt) 5 0 6 1 rfl rfl (by decide) (by decide); clear hC; refine ⟨_, rfl, ?_⟩; refine ⟨Stb.none _, ?_⟩; refine rl_q rfl rfl rfl (v_move (v := (.tuple #[(.bool (r6)), (.slice Ar3 lr3 cr3), (.slice Ar4 lr4 cr4), (.int .i64 r9)])) rfl) ?_; refine rl_q rfl rfl rfl (v_extract (v := (.bool (r6))) rfl rfl) ?_; refine rl_q rfl rfl rfl (v_extract (v := (.slice Ar3 lr3 cr3)) rfl rfl) ?_; refine rl_q rfl rfl rfl (v_extract (v := (.slice Ar4 lr4 cr4)) rfl rfl) ?_; refine rl_q rfl rfl rfl (v_extract (v := (.int .i64 r9)) rfl rfl) ?_; refine rl_q rfl rfl rfl (v_assign (v := (.bool (r6))) rfl) ?_; refine rl_q rfl rfl rfl (v_assign (v := (.slice Ar3 lr3 cr3)) rfl) ?_; refine rl_q rfl rfl rfl (v_assign (v := (.slice Ar4 lr4 cr4)) rfl) ?_
    refine rl_q rfl rfl rfl (v_assign (v := (.int .i64 r9)) rfl) ?_; refine rl_end ?_; refine wt_seq ?_; refine wl_region wd_wide ?_; refine rl_q rfl rfl rfl (v_move (v := (.bool (r2))) rfl) ?_; refine rl_q rfl rfl rfl (v_move (v := (.bool (r6))) rfl) ?_; refine rl_q rfl rfl rfl (v_beql rfl rfl Tryz.underlying4) ?_; refine rl_q rfl rfl rfl (v_move (v := (.bool ((r2 == r6)))) rfl) ?_; by_cases hp2 : (r2 == r6) = true
    · replace h := h.1 hp2; refine rl_q (wanted_g rfl (yE_of rfl (congrArg Value.bool hp2))) rfl rfl (v_move (v := (.slice Ar lr cr)) rfl) ?_; refine rl_q (wanted_g rfl (yE_of rfl (congrArg Value.bool hp2))) rfl rfl (v_move (v := (.slice Ar3 lr3 cr3)) rfl) ?_; refine rl_n (wanted_g rfl (yE_of rfl (congrArg Value.bool hp2))) rfl rfl rfl (n_call0 rfl (am2 rfl rfl) enter_9 ((pok_slices_Equal_Divisor h (no_lt _) (hS.rdo 3 rfl) (hS.rdo 5 rfl)).mono ?_)); rintro _ w6 ⟨r10, rfl, hC, h⟩; replace hS := hS.pur hC.pure; clear hC; refine ⟨_, rfl, ?_⟩; refine ⟨Stb.none _, ?_⟩; refine rl_q rfl rfl rfl (v_pick_t (v := (.bool (r10))) (congrArg Value.bool hp2) rfl) ?_; refine rl_q rfl rfl rfl (v_move (v := (.bool (r10))) rfl) ?_; by_cases hp3 : r10 = true
      · replace h := h.1 hp3; refine rl_q (wanted_g rfl (yE_of rfl (congrArg Value.bool hp3))) rfl rfl (v_move (v := (.slice Ar2 lr2 cr2)) rfl) ?_; refine rl_q (wanted_g rfl (yE_of rfl (congrArg Value.bool hp3))) rfl rfl (v_move (v := (.slice Ar4 lr4 cr4)) rfl) ?_; refine rl_n (wanted_g rfl (yE_of rfl (congrArg Value.bool hp3))) rfl rfl rfl (n_call0 rfl (am2 rfl rfl) enter_10 ((pok_slices_Equal_Script h (no_lt _) (hS.rdo 4 rfl) (hS.rdo 6 rfl)).mono ?_)); rintro _ w7 ⟨r11, rfl, hC, h⟩; replace hS := hS.pur hC.pure; clear hC; refine ⟨_, rfl, ?_⟩; refine ⟨Stb.none _, ?_⟩; refine rl_q rfl rfl rfl (v_pick_t (v := (.bool (r11))) (congrArg Value.bool hp3) rfl) ?_; refine rl_q rfl rfl rfl (v_move (v := (.bool (r11))) rfl) ?_; by_cases hp4 : r11 = true
        · replace h := h.1 hp4; refine rl_q (wanted_g rfl (yE_of rfl (congrArg Value.bool hp4))) rfl rfl (v_move (v := (.int .i64 r5)) rfl) ?_; refine rl_q (wanted_g rfl (yE_of rfl (congrArg Value.bool hp4))) rfl rfl (v_move (v := (.int .i64 r9)) rfl) ?_; refine rl_q (wanted_g rfl (yE_of rfl (congrArg Value.bool hp4))) rfl rfl (v_eql rfl rfl) ?_; refine rl_q rfl rfl rfl (v_pick_t (v := (.bool (decide (r5 = r9)))) (congrArg Value.bool hp4) rfl) ?_; refine rl_q rfl rfl rfl (v_move (v := (.bool (decide (r5 = r9)))) rfl) ?_; by_cases hp5 : r5 = r9
          · replace h := h.1 hp5; refine rl_n (wanted_g rfl (yE_of rfl (congrArg Value.bool (decide_eq_true hp5)))) rfl rfl rfl (n_call0 rfl (am0) enter_6 ((pok_l36_awake h (no_lt _)).mono ?_)); rintro _ w8 ⟨r12, rfl, hC, h⟩; replace hS := hS.pur hC.pure; clear hC; refine ⟨_, rfl, ?_⟩; refine ⟨Stb.none _, ?_⟩; refine rl_q rfl rfl rfl (v_pick_t (v := (.bool (r12))) (congrArg Value.bool (decide_eq_true hp5)) rfl) ?_; refine rl_q rfl rfl rfl (v_assign (v := (.bool (r12))) rfl) ?_; refine rl_end ?_; exact wt_ret1 rfl rfl ⟨_, rfl, (hS.sel [] (by decide)), h⟩
          · replace h := h.2 hp5; refine rl_p (wanted_n rfl (yE_of rfl (congrArg Value.bool (decide_eq_false hp5))) rfl) rfl ?_; refine rl_q rfl rfl rfl (v_pick_f (v := (.bool (false))) (congrArg Value.bool (decide_eq_false hp5)) rfl) ?_; refine rl_q rfl rfl rfl (v_assign (v := (.bool (false))) rfl) ?_; refine rl_end ?_; exact wt_ret1 rfl rfl ⟨_, rfl, (hS.sel [] (by decide)), h⟩
        · replace h := h.2 hp4; refine rl_p (wanted_n rfl (yE_of rfl (congrArg Value.bool (Bool.eq_false_iff.2 hp4))) rfl) rfl ?_; refine rl_p (wanted_n rfl (yE_of rfl (congrArg Value.bool (Bool.eq_false_iff.2 hp4))) rfl) rfl ?_; refine rl_p (wanted_n rfl (yE_of rfl (congrArg Value.bool (Bool.eq_false_iff.2 hp4))) rfl) rfl ?_; refine rl_q rfl rfl rfl (v_pick_f (v := (.bool (false))) (congrArg Value.bool (Bool.eq_false_iff.2 hp4)) rfl) ?_; refine rl_q rfl rfl rfl (v_move (v := (.bool (false))) rfl) ?_; refine rl_p (wanted_n rfl (yE_of rfl rfl) rfl) rfl ?_; refine rl_q rfl rfl rfl (v_pick_f (v := (.bool (false))) rfl rfl) ?_; refine rl_q rfl rfl rfl (v_assign (v := (.bool (false))) rfl) ?_; refine rl_end ?_; exact wt_ret1 rfl rfl ⟨_, rfl, (hS.sel [] (by decide)), h⟩
      · replace h := h.2 hp3; refine rl_p (wanted_n rfl (yE_of rfl (congrArg Value.bool (Bool.eq_false_iff.2 hp3))) rfl) rfl ?_; refine rl_p (wanted_n rfl (yE_of rfl (congrArg Value.bool (Bool.eq_false_iff.2 hp3))) rfl) rfl ?_; refine rl_p (wanted_n rfl (yE_of rfl (congrArg Value.bool (Bool.eq_false_iff.2 hp3))) rfl) rfl ?_; refine rl_q rfl rfl rfl (v_pick_f (v := (.bool (false))) (congrArg Value.bool (Bool.eq_false_iff.2 hp3)) rfl) ?_; refine rl_q rfl rfl rfl (v_move (v := (.bool (false))) rfl) ?_; refine rl_p (wanted_n rfl (yE_of rfl rfl) rfl) rfl ?_; refine rl_p (wanted_n rfl (yE_of rfl rfl) rfl) rfl ?_; refine rl_p (wanted_n rfl (yE_of rfl rfl) rfl) rfl ?_; refine rl_q rfl rfl rfl (v_pick_f (v := (.bool (false))) rfl rfl) ?_; refine rl_q rfl rfl rfl (v_move (v := (.bool (false))) rfl) ?_; refine rl_p (wanted_n rfl (yE_of rfl rfl) rfl) rfl ?_; refine rl_q rfl rfl rfl (v_pick_f (v := (.bool (false))) rfl rfl) ?_; refine rl_q rfl rfl rfl (v_assign (v := (.bool (false))) rfl) ?_; refine rl_end ?_; exact wt_ret1 rfl rfl ⟨_, rfl, (hS.sel [] (by decide)), h⟩
    · replace h := h.2 hp2; refine rl_p (wanted_n rfl (yE_of rfl (congrArg Value.bool (Bool.eq_false_iff.2 hp2))) rfl) rfl ?_; refine rl_p (wanted_n rfl (yE_of rfl (congrArg Value.bool (Bool.eq_false_iff.2 hp2))) rfl) rfl ?_; refine rl_p (wanted_n rfl (yE_of rfl (congrArg Value.bool (Bool.eq_false_iff.2 hp2))) rfl) rfl ?_; refine rl_q rfl rfl rfl (v_pick_f (v := (.bool (false))) (congrArg Value.bool (Bool.eq_false_iff.2 hp2)) rfl) ?_; refine rl_q rfl rfl rfl (v_move (v := (.bool (false))) rfl) ?_; refine rl_p (wanted_n rfl (yE_of rfl rfl) rfl) rfl ?_; refine rl_p (wanted_n rfl (yE_of rfl rfl) rfl) rfl ?_; refine rl_p (wanted_n rfl (yE_of rfl rfl) rfl) rfl ?_; refine rl_q rfl rfl rfl (v_pick_f (v := (.bool (false))) rfl rfl) ?_; refine rl_q rfl rfl rfl (v_move (v := (.bool (false))) rfl) ?_; refine rl_p (wanted_n rfl (yE_of rfl rfl) rfl) rfl ?_; refine rl_p (wanted_n rfl (yE_of rfl rfl) rfl) rfl ?_; refine rl_p (wanted_n rfl (yE_of rfl rfl) rfl) rfl ?_; refine rl_q rfl rfl rfl (v_pick_f (v := (.bool (false))) rfl rfl) ?_; refine rl_q rfl rfl rfl (v_move (v := (.bool (false))) rfl) ?_; refine rl_p (wanted_n rfl (yE_of rfl rfl) rfl) rfl ?_; refine rl_q rfl rfl rfl (v_pick_f (v := (.bool (false))) rfl rfl) ?_; refine rl_q rfl rfl rfl (v_assign (v := (.bool (false))) rfl) ?_; refine rl_end ?_; exact wt_ret1 rfl rfl ⟨_, rfl, (hS.sel [] (by decide)), h⟩
  · replace h := h.2 hp; refine wt_cond_t (congrArg Value.bool (congrArg Bool.not (Bool.eq_false_iff.2 hp))) ?_; refine wt_seq ?_; refine wl_region wd_wide ?_; refine rl_n rfl rfl rfl rfl (n_call0 rfl (am0) enter_6 ((pok_l36_awake h (no_lt _)).mono ?_)); rintro _ w9 ⟨r13, rfl, hC, h⟩; replace hS := hS.pur hC.pure; clear hC; refine ⟨_, rfl, ?_⟩; refine ⟨Stb.none _, ?_⟩; refine rl_q rfl rfl rfl (v_assign (v := (.bool (r13))) rfl) ?_; refine rl_end ?_; exact wt_ret1 rfl rfl ⟨_, rfl, (hS.sel [] (by decide)), h⟩
end Go.Proofs.YtbehbjfcenlaeaaGreat

/- What the references' pure forms come to: graphs and divisors. -/
namespace Go.Proofs.YtbehbjfcenlaeaaGreat
open Go
set_option linter.unusedVariables false
set_option linter.unusedSimpArgs false

theorem p_r17_In {k : Int} {R : Bool → Prop} (h : R (inF k)) : pf_r17_In k R := by
  unfold pf_r17_In
  refine ⟨fun h1 => ?_, fun h1 => ?_⟩
  · have e : decide (k ≤ 1048576) = inF k := by unfold inF; simp [h1]
    rw [e]; exact h
  · have e : false = inF k := by unfold inF; simp [h1]
    rw [e]; exact h
theorem p_r08_Vertex {n v : Int} {es : List E3} {R : Bool → Prop} (h : R (decide (0 ≤ v ∧ v < n))) : pf_r08_Vertex n es v R := by
  unfold pf_r08_Vertex
  refine ⟨fun h1 => ?_, fun h1 => ?_⟩
  · have e : decide (v < n) = decide (0 ≤ v ∧ v < n) := by simp [h1]
    rw [e]; exact h
  · have e : false = decide (0 ≤ v ∧ v < n) := by simp [h1]
    rw [e]; exact h
theorem p_r17_Check {d : List Int} {n : Int} {R : Int → Prop} (h : R (checkF d n)) : pf_r17_Check d n R := by
  unfold pf_r17_Check
  have hout : ¬ (1 ≤ n ∧ n ≤ 12) → R 2 := fun q => by
    have : checkF d n = 2 := by unfold checkF vertsF; rw [if_neg q, if_neg (by omega)]
    rwa [this] at h
  refine ⟨1 ≤ n ∧ n ≤ 12, fun hn => ?_, fun q => hout (by omega), fun q => ⟨fun q2 => hout (by omega), fun q2 => ⟨by omega, by omega⟩⟩⟩
  have hc : checkF d n = if (d.length : Int) = n then (if d.all inF then 0 else 2) else 8 := by unfold checkF; rw [if_pos (by unfold vertsF; rw [if_pos hn])]
  rw [hc] at h
  refine ⟨fun hln => ?_, fun hln => by rwa [if_neg hln] at h⟩
  rw [if_pos hln] at h
  refine ⟨Cnt d.length (fun k => ∀ j, j < k → inF (gi d j) = true), Cnt.start (fun j hj => absurd hj (by omega)), ?_⟩
  rintro m _ ⟨k, rfl, rfl, hk, hinv⟩
  refine ⟨fun hlt => ⟨by omega, p_r17_In ⟨fun h1 => Cnt.next (by omega) (by omega) fun j hj => ?_, fun h1 => ?_⟩⟩, fun hge => ?_⟩
  · by_cases e : j = k
    · subst e; simpa using h1
    · exact hinv j (by omega)
  · rw [if_neg (fun hall => h1 ((all_iff_gi inF d).1 hall _ (by omega)))] at h; exact h
  · rw [if_pos ((all_iff_gi inF d).2 fun j hj => hinv j (by omega))] at h; exact h
theorem p_r17_Total {d : List Int} {R : Int → Prop} (hl : d.length ≤ 1000000) (hb : ∀ i, i < d.length → -1000000000000 ≤ gi d i ∧ gi d i ≤ 1000000000000) (h : R (dg d)) : pf_r17_Total d R := by
  unfold pf_r17_Total
  refine ⟨fun m n v => Cnt d.length (fun k => n = sm k (gi d)) m v, Cnt.start rfl, ?_⟩
  rintro m n _ ⟨k, rfl, rfl, hk, rfl⟩
  refine ⟨fun hlt => ⟨by omega, ?_, Cnt.next (by omega) (by omega) rfl⟩, fun hge => ?_⟩
  · have := sm_bound (f := gi d) (B := 1000000000000) (by omega) (n := k + 1) fun i hi => hb i (by omega)
    rw [sm] at this
    exact i64 (by simp only [Int.toNat_natCast]; omega)
  · have : k = d.length := by omega
    subst this; exact h
/-- Nothing is negative. -/
def paidF (d : List Int) : Bool := (List.range d.length).all fun v => decide (0 ≤ gi d v)
theorem paidF_iff {d : List Int} : paidF d = true ↔ ∀ v, v < d.length → 0 ≤ gi d v := by simp [paidF]
theorem p_r08_edge {n : Int} {es : List E3} {k : Nat} {R : Int → Prop} (hk : k < es.length) (hl : es.length ≤ 1000000000) (h : R (edgeF n (pre es k).1 (pre es k).2 (ge es k))) : pf_r08_edge n es (k : Int) R := by
  unfold pf_r08_edge
  simp only [Int.toNat_natCast]
  generalize hx : ge es k = x at h ⊢
  refine ⟨by omega, (0 ≤ x.1 ∧ x.1 < n) ∧ (0 ≤ x.2.1 ∧ x.2.1 < n) ∧ 1 ≤ x.2.2 ∧ x.2.2 ≤ 50, fun hJ => ?_, ?_⟩
  · have hed : ∀ a b, edgeF n a b x = if x.1 ≤ x.2.1 ∧ pcmpF a b x.1 x.2.1 < 0 then 0 else 9 := fun a b => by unfold edgeF; rw [if_pos hJ]
    rw [hed] at h
    refine ⟨fun q => by rw [if_neg (by omega)] at h; exact h, fun q => ⟨fun h0 => ?_, fun h0 => ?_⟩⟩
    · have e1 : ((k : Int) - 1).toNat = k - 1 := by omega
      rw [e1]
      have hp : pre es k = ((ge es (k - 1)).1, (ge es (k - 1)).2.1) := by unfold pre; rw [if_neg (by omega)]
      rw [hp] at h
      have hc := pcmp_lt (ge es (k - 1)).1 (ge es (k - 1)).2.1 x.1 x.2.1
      refine ⟨i64 (by omega), by omega, fun q1 => ?_, fun q1 => ⟨fun q2 => ⟨fun q3 => ?_, fun q3 => ?_⟩, fun q2 => ?_⟩⟩
      · rw [if_neg (fun h => by have := hc.1 h.2; omega)] at h; exact h
      · rw [if_neg (fun h => by have := hc.1 h.2; omega)] at h; exact h
      · rw [if_pos ⟨by omega, hc.2 (by omega)⟩] at h; exact h
      · rw [if_pos ⟨by omega, hc.2 (by omega)⟩] at h; exact h
    · have hp : pre es k = (-1, -1) := by unfold pre; rw [if_pos (by omega)]
      rw [hp, if_pos ⟨by omega, (pcmp_lt _ _ _ _).2 (.inl (by omega))⟩] at h
      exact h
  · have hed : ¬ ((0 ≤ x.1 ∧ x.1 < n) ∧ (0 ≤ x.2.1 ∧ x.2.1 < n) ∧ 1 ≤ x.2.2 ∧ x.2.2 ≤ 50) → R 2 := fun q => by unfold edgeF at h; rwa [if_neg q] at h
    refine p_r08_Vertex ⟨fun h1 => p_r08_Vertex ⟨fun h2 => ⟨fun h3 => hed (by omega), fun h3 => ⟨fun h4 => hed (by omega), fun h4 => ?_⟩⟩, fun h2 => hed (by simp at h2; omega)⟩, fun h1 => hed (by simp at h1; omega)⟩
    simp only [decide_eq_true_eq] at h1 h2
    exact ⟨h1, h2, by omega, by omega⟩
theorem p_r08_Check {n : Int} {es : List E3} {R : Int → Prop} (hl : es.length ≤ 1000000000) (h : R (gcheckF n es)) : pf_r08_Check n es R := by
  unfold pf_r08_Check
  have hout : ¬ (1 ≤ n ∧ n ≤ 12) → R 2 := fun q => by unfold gcheckF at h; rwa [if_neg q] at h
  refine ⟨1 ≤ n ∧ n ≤ 12, fun hn => ?_, fun q => hout (by omega), fun q => ⟨fun q2 => hout (by omega), fun q2 => ⟨by omega, by omega⟩⟩⟩
  have hg : gcheckF n es = gchk n (-1) (-1) es := by unfold gcheckF; rw [if_pos hn]
  rw [hg] at h
  refine ⟨Cnt es.length (fun k => gchk n (-1) (-1) es = gchk n (pre es k).1 (pre es k).2 (es.drop k)), Cnt.start rfl, ?_⟩
  rintro m _ ⟨k, rfl, rfl, hk, hinv⟩
  refine ⟨fun hlt => p_r08_edge (by omega) hl ⟨fun h0 => Cnt.next (by omega) (by omega) ?_, fun h0 => ?_⟩, fun hge => ?_⟩
  · rw [ge_drop (by omega), gchk_cons, if_pos h0] at hinv
    rw [hinv]; simp [pre]
  · rw [ge_drop (by omega), gchk_cons, if_neg h0] at hinv
    rwa [hinv] at h
  · have hk2 : k = es.length := by omega
    rw [hinv, hk2, List.drop_length] at h
    exact h
theorem p_r08_Between' {n : Int} {es : List E3} {a b : Int} {R : Int → Prop} (hl : es.length ≤ 1000000000) (h : R (((es.find? fun x => decide (x.1 = mnF a b ∧ x.2.1 = mxF a b)).map (·.2.2)).getD 0)) : pf_r08_Between n es a b R := by
  unfold pf_r08_Between
  refine ⟨Cnt es.length (fun k => es.find? (fun x => decide (x.1 = mnF a b ∧ x.2.1 = mxF a b)) = (es.drop k).find? (fun x => decide (x.1 = mnF a b ∧ x.2.1 = mxF a b))), Cnt.start rfl, ?_⟩
  rintro m _ ⟨k, rfl, rfl, hk, hinv⟩
  refine ⟨fun hlt => ?_, fun hge => ?_⟩
  · have hlt : k < es.length := by omega
    rw [ge_drop hlt, List.find?_cons] at hinv
    simp only [Int.toNat_natCast]
    refine ⟨by omega, fun h1 => ⟨fun h2 => ?_, fun h2 => Cnt.next hlt (by omega) ?_⟩, fun h1 => Cnt.next hlt (by omega) ?_⟩
    · rw [hinv] at h; simpa [h1, h2] using h
    · rw [hinv]; simp [h2]
    · rw [hinv]; simp [h1]
  · have hk2 : k = es.length := by omega
    rw [hinv, hk2, List.drop_length] at h
    exact h
/-- The edges of a right graph are few. -/
theorem W_le50 {n : Int} {es : List E3} (hg : gcheckF n es = 0) (u v : Nat) : 0 ≤ W es u v ∧ W es u v ≤ 50 := by
  by_cases e : u = v
  · subst e; rw [W_self]; omega
  · have hok := gchk_ok es _ _ (gcheck_gchk hg)
    rw [← between_W u v e es (-1) (-1) (gcheck_gchk hg)]
    cases hf : es.find? fun x => decide (x.1 = mnF (u : Int) v ∧ x.2.1 = mxF (u : Int) v) with
    | none => simp
    | some x => have := hok x (List.mem_of_find?_eq_some hf); simp; omega
theorem p_r08_Between {n : Int} {es : List E3} {u v : Nat} {R : Int → Prop} (hl : es.length ≤ 1000000000) (hg : gcheckF n es = 0) (huv : u ≠ v) (h : R (W es u v)) : pf_r08_Between n es (u : Int) (v : Int) R :=
  p_r08_Between' hl (by rw [between_W u v huv es (-1) (-1) (gcheck_gchk hg)]; exact h)
theorem deg_bound {n : Int} {es : List E3} (hg : gcheckF n es = 0) (k v : Nat) : 0 ≤ sm k (fun u => W es v u) ∧ sm k (fun u => W es v u) ≤ k * 50 :=
  ⟨sm_nonneg fun i _ => (W_le50 hg v i).1, (sm_bound (f := fun u => W es v u) (B := 50) (by omega) fun i _ => by have := W_le50 hg v i; omega).2⟩
theorem p_r08_Valence {n : Nat} {es : List E3} {v : Nat} {R : Int → Prop} (hl : es.length ≤ 1000000000) (hg : gcheckF n es = 0) (h : R (deg n es v)) : pf_r08_Valence (n : Int) es (v : Int) R := by
  obtain ⟨hE, hn1, hn12⟩ := gcheck_ok hg
  unfold pf_r08_Valence
  refine ⟨fun m a u => Cnt n (fun k => a = sm k (fun u => W es v u)) m u, Cnt.start rfl, ?_⟩
  rintro m a _ ⟨k, rfl, rfl, hk, rfl⟩
  refine ⟨fun hlt => ⟨fun e => Cnt.next (by omega) (by omega) ?_, fun e => p_r08_Between hl hg (by omega) ?_⟩, fun hge => ?_⟩
  · have e : k = v := by omega
    subst e
    rw [sm, W_self]; omega
  · have h1 := deg_bound hg k v
    have h2 := W_le50 hg k v
    refine ⟨i64 (by omega), Cnt.next (by omega) (by omega) ?_⟩
    rw [sm, W_symm es v k]
  · have hk2 : k = n := by omega
    subst hk2; exact h
/-- The ends of all single edges. -/
def endsF (es : List E3) : List (Int × Int) := es.flatMap fun x => List.replicate x.2.2.toNat (x.1, x.2.1)
theorem endsF_take {es : List E3} {k : Nat} (hk : k < es.length) : endsF (es.take (k + 1)) = endsF (es.take k) ++ List.replicate (ge es k).2.2.toNat ((ge es k).1, (ge es k).2.1) := by
  unfold endsF
  rw [List.take_add_one, List.getElem?_eq_getElem hk, ge_of_lt hk, List.flatMap_append]
  simp
theorem endsF_length (es : List E3) (hE : ∀ x ∈ es, 1 ≤ x.2.2 ∧ x.2.2 ≤ 50) : ((endsF es).length : Int) = (es.map (·.2.2)).sum ∧ (endsF es).length ≤ 50 * es.length := by
  induction es with
  | nil => simp [endsF]
  | cons x t ih =>
    have hx := hE x (by simp)
    have := ih fun y hy => hE y (by simp [hy])
    unfold endsF at this ⊢
    rw [List.flatMap_cons, List.length_append, List.length_replicate, List.map_cons, List.sum_cons, List.length_cons]
    omega
theorem p_r08_Ends {n : Int} {es : List E3} {R : List (Int × Int) → Prop} (hl : es.length ≤ 1000) (hE : ∀ x ∈ es, 1 ≤ x.2.2 ∧ x.2.2 ≤ 50) (h : R (endsF es)) : pf_r08_Ends n es R := by
  unfold pf_r08_Ends
  have hlen : ∀ k, (endsF (es.take k)).length ≤ 50 * k := fun k => by
    have := (endsF_length (es.take k) fun x hx => hE x (List.mem_of_mem_take hx)).2
    rw [List.length_take] at this
    omega
  refine ⟨fun m out i => Cnt es.length (fun k => out = endsF (es.take k)) m i, Cnt.start (by simp [endsF]), ?_⟩
  rintro m out _ ⟨k, rfl, rfl, hk, rfl⟩
  refine ⟨fun hlt => ?_, fun hge => ?_⟩
  · have hlt : k < es.length := by omega
    have hmk := hE _ (ge_mem hlt)
    have hl2 := hlen k
    simp only [Int.toNat_natCast]
    refine ⟨fun m2 out2 j => Cnt (ge es k).2.2.toNat (fun i => out2 = endsF (es.take k) ++ List.replicate i ((ge es k).1, (ge es k).2.1)) m2 j, Cnt.start (by simp), ?_⟩
    rintro m2 out2 _ ⟨j, rfl, rfl, hj, rfl⟩
    refine ⟨by omega, fun h1 => ⟨?_, Cnt.next (by omega) (by omega) ?_⟩, fun h1 => Cnt.next hlt (by omega) ?_⟩
    · rw [List.length_append, List.length_replicate]; omega
    · rw [List.append_assoc, List.replicate_succ']
    · have : j = (ge es k).2.2.toNat := by omega
      rw [endsF_take hlt, this]
  · have hk2 : k = es.length := by omega
    rw [hk2, List.take_length]; exact h
theorem p_r08_Size {n : Int} {es : List E3} {R : Int → Prop} (hl : es.length ≤ 1000) (hE : ∀ x ∈ es, 1 ≤ x.2.2 ∧ x.2.2 ≤ 50) (h : R ((es.map (·.2.2)).sum)) : pf_r08_Size n es R :=
  p_r08_Ends hl hE (by rw [(endsF_length es hE).1]; exact h)
theorem p_r08_small {n a b : Int} {es : List E3} {R : Bool → Prop} (h : R (smallF n es a b)) : pf_r08_small n es a b R := by
  unfold pf_r08_small
  unfold smallF at h
  refine ⟨fun h1 => ?_, fun h1 => p_r08_Check (by omega) ⟨fun h2 => ⟨fun h3 => ?_, fun h3 => ?_⟩, fun h2 => ?_⟩⟩
  · rwa [decide_eq_false (by omega)] at h
  · have hE := gchk_ok es _ _ (gcheck_gchk h2)
    refine p_r08_Size (by omega) (fun x hx => (hE x hx).2.2.2.2) ?_
    have e : decide ((es.map (·.2.2)).sum ≤ b) = decide (es.length ≤ 40 ∧ (gcheckF n es = 0 → n ≤ a ∧ (es.map (·.2.2)).sum ≤ b)) := by
      rw [decide_eq_decide]; constructor
      · intro q; exact ⟨by omega, fun _ => ⟨h3, q⟩⟩
      · intro q; exact (q.2 h2).2
    rw [e]; exact h
  · rwa [decide_eq_false (fun q => h3 (q.2 h2).1)] at h
  · rwa [decide_eq_true ⟨by omega, fun q => absurd q h2⟩] at h
theorem p_r34_Few {n : Int} {es : List E3} {R : Bool → Prop} (h : R (smallF n es 6 9)) : pf_r34_Few n es R := p_r08_small h
end Go.Proofs.YtbehbjfcenlaeaaGreat

/- Borrowing: a vertex in debt borrows from its neighbours, until there is no debt, or each vertex has borrowed. No program in sight. -/
namespace Go.Proofs.YtbehbjfcenlaeaaGreat
open Go
set_option linter.unusedVariables false
set_option linter.unusedSectionVars false
set_option linter.unusedSimpArgs false

/-- A divisor is winnable: a script leads to one without debts. -/
def Win (n : Nat) (es : List E3) (d : List Int) : Prop := ∃ s : Nat → Int, ∀ v, v < n → 0 ≤ gi d v - Lp n es s v

theorem Lp_unit {n : Nat} {es : List E3} {v : Nat} (hv : v < n) (i : Nat) : Lp n es (fun j => if j = v then 1 else 0) i = if i = v then deg n es v else - W es i v := by
  rw [Lp_ind]
  have h1 : sm n (fun u => (if u = v then (1 : Int) else 0) * W es u i) = W es v i := by
    rw [← sm_one (W es v i) hv]
    refine sm_congr fun u hu => ?_
    show (if u = v then (1 : Int) else 0) * W es u i = if u = v then W es v i else 0
    split
    · rename_i e; rw [e]; omega
    · omega
  rw [h1]
  by_cases e : i = v
  · subst e; rw [if_pos rfl, if_pos rfl, W_self]; omega
  · rw [if_neg e, if_neg e, W_symm]; omega

/-- Where borrowing stands: how often each vertex has borrowed, the chips now, who has borrowed. -/
structure Bor (n : Nat) (es : List E3) (d : List Int) (c : Nat → Int) (x : List Int) (b : List Bool) : Prop where
  xl : x.length = n
  bl : b.length = n
  val : ∀ v, v < n → gi x v = gi d v + Lp n es c v
  c0 : ∀ v, v < n → 0 ≤ c v
  bo : ∀ v, v < n → (gb b v = true ↔ 0 < c v)
  up : ∀ v, v < n → gi x v ≤ 1000
  least : ∀ t : Nat → Int, (∀ v, v < n → 0 ≤ t v) → (∀ v, v < n → 0 ≤ gi d v + Lp n es t v) → ∀ v, v < n → c v ≤ t v

section
variable {n : Nat} {es : List E3} {d : List Int}
theorem bor_start (hd : d.length = n) (hb : ∀ v, v < n → gi d v ≤ 1000) : Bor n es d (fun _ => 0) d (List.replicate n false) :=
  ⟨hd, by simp, fun v hv => by rw [Lp_const]; omega, fun v hv => Int.le_refl _, fun v hv => by rw [gb_rep]; simp, hb, fun t ht _ v hv => ht v hv⟩

theorem deg_le {m : Int} (hg : gcheckF m es = 0) (hn : n ≤ 12) (v : Nat) : 0 ≤ deg n es v ∧ deg n es v ≤ 600 := by
  have := deg_bound hg n v
  unfold deg
  omega

theorem bor_step {m : Int} (hg : gcheckF m es = 0) (hE : EOk n es) (hn : n ≤ 12) {c : Nat → Int} {x : List Int} {b : List Bool} (h : Bor n es d c x b) {v : Nat} (hv : v < n) (hneg : gi x v < 0) {y : List Int} (hyl : y.length = n)
    (hy : ∀ i, i < n → gi y i = if i = v then gi x v + deg n es v else gi x i - W es i v) : Bor n es d (fun j => c j + if j = v then 1 else 0) y (b.set v true) := by
  refine ⟨hyl, by rw [List.length_set, h.bl], fun i hi => ?_, fun i hi => ?_, fun i hi => ?_, fun i hi => ?_, fun t ht0 ht i hi => ?_⟩
  · rw [hy i hi, Lp_add c (fun j => if j = v then 1 else 0), Lp_unit hv, h.val i hi]
    by_cases e : i = v
    · subst e; rw [if_pos rfl, if_pos rfl, h.val i hi]; omega
    · rw [if_neg e, if_neg e]; omega
  · have := h.c0 i hi
    show 0 ≤ c i + if i = v then 1 else 0
    split <;> omega
  · rw [gb_set (by rw [h.bl]; exact hv)]
    have := h.c0 i hi
    show _ ↔ 0 < c i + if i = v then 1 else 0
    by_cases e : i = v
    · rw [if_pos e, if_pos e]; simp; omega
    · rw [if_neg e, if_neg e, h.bo i hi]; simp
  · rw [hy i hi]
    have h1 := deg_le hg hn (n := n) v
    have h2 := h.up i hi
    have h3 := W_nonneg hE i v
    split <;> omega
  · have h1 := h.least t ht0 ht i hi
    show c i + (if i = v then 1 else 0) ≤ t i
    by_cases e : i = v
    · subst e
      rw [if_pos rfl]
      apply Int.not_lt.1
      intro hlt
      have e2 : t i = c i := by omega
      have h3 : Lp n es t i ≤ Lp n es c i := by
        unfold Lp
        refine sm_le fun u hu => ?_
        show W es i u * (t i - t u) ≤ W es i u * (c i - c u)
        exact Int.mul_le_mul_of_nonneg_left (by have := h.least t ht0 ht u hu; omega) (W_nonneg hE i u)
      have := ht i hi
      have := h.val i hi
      omega
    · rw [if_neg e]; omega

/-- While a vertex has not borrowed, there were not many steps. -/
theorem bor_few (hE : EOk n es) (hC : ∀ q, q < n → Conn n es q) (hn : n ≤ 12) (hdb : ∀ v, v < n → -1000 ≤ gi d v) {c : Nat → Int} {x : List Int} {b : List Bool} (h : Bor n es d c x b) {w : Nat} (hw : w < n) (h0 : gb b w ≠ true) : ∀ v, v < n → c v ≤ 288000 := by
  have cw : c w = 0 := by
    have h1 := h.c0 w hw
    have h2 := (h.bo w hw)
    have : ¬ 0 < c w := fun h3 => h0 (h2.2 h3)
    omega
  intro v hv
  have h1 := climb hE (hC w hw) hw (f := c) (G := 24000) (by omega) (fun S hS => ?_) v hv
  · have h2 := low_le (f := c) hv
    have h3 : low n c (c v) * 24000 ≤ 12 * 24000 := Int.mul_le_mul_of_nonneg_right (by omega) (by omega)
    omega
  · have h4 : sm n (fun v => if S v = true then Lp n es c v else 0) ≤ sm n (fun _ => 2000) := sm_le fun u hu => by
      show (if S u = true then Lp n es c u else 0) ≤ 2000
      have h5 := h.val u hu
      have h6 := h.up u hu
      have h7 := hdb u hu
      split <;> omega
    rw [sm_const] at h4
    omega
theorem bor_total (hn : n ≤ 12) {c : Nat → Int} (hc : ∀ v, v < n → c v ≤ 288000) : sm n c ≤ 3456000 := by
  have h := sm_le (f := c) (g := fun _ => 288000) (n := n) hc
  rw [sm_const] at h
  omega
theorem bor_count {c : Nat → Int} {v : Nat} (hv : v < n) : sm n (fun j => c j + if j = v then 1 else 0) = sm n c + 1 := by
  rw [sm_add c (fun j => if j = v then 1 else 0), sm_one 1 hv]
theorem bor_win {c : Nat → Int} {x : List Int} {b : List Bool} (h : Bor n es d c x b) (hx : ∀ v, v < n → 0 ≤ gi x v) : Win n es d := by
  refine ⟨fun i => (-1) * c i, fun v hv => ?_⟩
  rw [Lp_mul]
  have := hx v hv
  rw [h.val v hv] at this
  omega
theorem max_at (s : Nat → Int) : ∀ n : Nat, 1 ≤ n → ∃ w, w < n ∧ ∀ v, v < n → s v ≤ s w
  | 0, h => absurd h (by omega)
  | 1, _ => ⟨0, by omega, fun v hv => by rw [show v = 0 by omega]; omega⟩
  | n + 2, _ => by
    obtain ⟨w, hw, h⟩ := max_at s (n + 1) (by omega)
    by_cases c : s (n + 1) ≤ s w
    · refine ⟨w, by omega, fun v hv => ?_⟩
      by_cases e : v = n + 1
      · rw [e]; exact c
      · exact h v (by omega)
    · refine ⟨n + 1, by omega, fun v hv => ?_⟩
      by_cases e : v = n + 1
      · rw [e]; omega
      · have := h v (by omega); omega
theorem bor_loss (hn : 1 ≤ n) {c : Nat → Int} {x : List Int} {b : List Bool} (h : Bor n es d c x b) (hall : ∀ v, v < n → gb b v = true) : ¬ Win n es d := by
  rintro ⟨s, hs⟩
  obtain ⟨w, hw, hmax⟩ := max_at s n hn
  have h1 := h.least (fun i => s w + (-1) * s i) (fun v hv => by have := hmax v hv; show 0 ≤ s w + -1 * s v; omega) (fun v hv => by
    rw [Lp_add (fun _ => s w) (fun i => (-1) * s i), Lp_const, Lp_mul]
    have := hs v hv
    omega) w hw
  have h2 := (h.bo w hw).1 (hall w hw)
  have h3 : c w ≤ s w + -1 * s w := h1
  omega
/-- A divisor is winnable exactly if its reduced form has no debt. -/
theorem win_red {q : Nat} {r : List Int} {s : Nat → Int} (hE : EOk n es) (hq : q < n) (hr : Red n es q r) (hl : ∀ v, v < n → gi r v = gi d v - Lp n es s v) : Win n es d ↔ 0 ≤ gi r q := by
  constructor
  · rintro ⟨t, ht⟩
    -- the end of t is the form behind a firing
    have h1 := red_script hE hq hr (d' := tab (fun v => gi d v - Lp n es t v) n) (fun v hv _ => by rw [gi_tab _ hv]; exact ht v hv) (f := fun i => t i + (-1) * s i) fun v hv => by
      rw [gi_tab _ hv, Lp_add t (fun i => (-1) * s i), Lp_mul, hl v hv]; omega
    have h2 : 0 ≤ Lp n es (fun i => t i + (-1) * s i) q := by
      unfold Lp
      refine sm_nonneg fun u hu => ?_
      exact Int.mul_nonneg (W_nonneg hE q u) (by have := h1 u hu; show 0 ≤ t q + -1 * s q - (t u + -1 * s u); omega)
    have h3 := ht q hq
    rw [Lp_add t (fun i => (-1) * s i), Lp_mul] at h2
    rw [hl q hq]; omega
  · intro h0
    refine ⟨s, fun v hv => ?_⟩
    rw [← hl v hv]
    by_cases e : v = q
    · rw [e]; exact h0
    · exact hr.pos v hv e
end
end Go.Proofs.YtbehbjfcenlaeaaGreat

/- What the references' pure forms come to: connectedness, errors, scripts. -/
namespace Go.Proofs.YtbehbjfcenlaeaaGreat
open Go
set_option linter.unusedVariables false
set_option linter.unusedSimpArgs false

section
variable {n : Nat} {es : List E3}
theorem p_r08_Reached {v : Nat} {R : List Bool → Prop} (hl : es.length ≤ 1000000000) (hg : gcheckF n es = 0) (hv : v < n) (h : ∀ o : List Bool, o.length = n → (∀ u, u < n → gb o u = decide (root (joinedF es) u = root (joinedF es) v)) → R o) : pf_r08_Reached (n : Int) es (v : Int) R := by
  obtain ⟨hE, hn1, hn12⟩ := gcheck_ok hg
  unfold pf_r08_Reached
  simp only [Int.toNat_natCast]
  refine ⟨by omega, by simp; omega, ?_⟩
  let Q : List Bool → Prop := fun o => o.length = n ∧ gb o v = true ∧ ∀ u, u < n → gb o u = true → root (joinedF es) u = root (joinedF es) v
  let Z : List Bool → List Bool → Prop := fun o0 o => (Cl n es o0 → o = o0) ∧ (o = o0 ∨ cf o < cf o0) ∧ ∀ a, gb o0 a = true → gb o a = true
  have hq4 : Q ((List.replicate n false).set v true) := by
    refine ⟨by simp, by rw [gb_set (by simpa using hv), if_pos rfl], fun u hu h => ?_⟩
    rw [gb_set (by simpa using hv)] at h
    split at h
    · rename_i e; rw [e]
    · rw [gb_rep] at h; cases h
  have hcf0 : cf ((List.replicate n false).set v true) + 1 = n := by
    rw [cf_set (by simpa using hv) (gb_rep n v)]
    unfold cf
    rw [List.filter_eq_self.2 (fun x hx => by rw [(List.mem_replicate.1 hx).2]; rfl)]
    simp
  have hsetQ : ∀ {o : List Bool} {b : Nat}, Q o → b < n → root (joinedF es) b = root (joinedF es) v → Q (o.set b true) := by
    rintro o b ⟨q1, q4, q5⟩ hb hr
    have hbl : b < o.length := by omega
    refine ⟨by simpa using q1, ?_, fun u hu h => ?_⟩
    · rw [gb_set hbl]; split <;> first | rfl | exact q4
    · rw [gb_set hbl] at h
      split at h
      · rename_i e; rw [e]; exact hr
      · exact q5 u hu h
  refine ⟨fun m i o => Cnt n (fun k => Q o ∧ (Cl n es o ∨ cf o + k + 1 ≤ n)) m i, Cnt.start ⟨hq4, .inr (by omega)⟩, ?_⟩
  rintro m _ o0 ⟨k, rfl, rfl, hk, hq5, hpr⟩
  refine ⟨fun hlt => ?_, fun hge => ?_⟩
  · refine ⟨fun m i o => Cnt n (fun a => Q o ∧ Z o0 o ∧ ∀ a', a' < a → gb o0 a' = true → ∀ b, b < n → 0 < W es a' b → gb o b = true) m i, Cnt.start ⟨hq5, ⟨fun _ => rfl, .inl rfl, fun _ h => h⟩, fun a' h => absurd h (by omega)⟩, ?_⟩
    rintro m _ o ⟨a, rfl, rfl, ha, hq6, hz, hdone⟩
    refine ⟨fun hlta => ?_, fun hgea => ?_⟩
    · refine ⟨fun m i o => Cnt n (fun b => Q o ∧ Z o0 o ∧ (∀ a', a' < a → gb o0 a' = true → ∀ b, b < n → 0 < W es a' b → gb o b = true) ∧ (gb o0 a = true → ∀ b', b' < b → 0 < W es a b' → gb o b' = true)) m i, Cnt.start ⟨hq6, hz, hdone, fun _ b' h => absurd h (by omega)⟩, ?_⟩
      clear hq6 hz hdone hq5
      rintro m _ o ⟨b, rfl, rfl, hb, hq7, hz, hdone, hnow⟩
      have hol := hq7.1
      refine ⟨fun hltb => ⟨by omega, fun hx => ?_, fun hx => Cnt.next (by omega) (by omega) ⟨hq7, hz, hdone, fun h => absurd (hz.2.2 a h) (by simpa using hx)⟩⟩, fun hgeb => ?_⟩
      · simp only [Int.toNat_natCast] at hx ⊢
        have hstep : (a ≠ b → 0 < W es a b) → Q (o.set b true) ∧ Z o0 (o.set b true) ∧ (∀ a', a' < a → gb o0 a' = true → ∀ b', b' < n → 0 < W es a' b' → gb (o.set b true) b' = true) ∧ (gb o0 a = true → ∀ b', b' < b + 1 → 0 < W es a b' → gb (o.set b true) b' = true) := by
          intro hW
          have hbl : b < o.length := by omega
          have hup : ∀ x, gb o x = true → gb (o.set b true) x = true := fun x h => by rw [gb_set hbl]; split <;> first | rfl | exact h
          have hrb : root (joinedF es) b = root (joinedF es) v := by
            have h1 := hq7.2.2 a (by omega) hx
            by_cases eab : a = b
            · rw [← eab]; exact h1
            · rw [← root_W hE hn1 hn12 (hW eab)]; exact h1
          refine ⟨hsetQ hq7 (by omega) hrb, ⟨fun hcl => ?_, ?_, fun x h => hup x (hz.2.2 x h)⟩, fun a' h1 h2 b' h3 h4 => hup _ (hdone a' h1 h2 b' h3 h4), fun h1 b' h2 h3 => ?_⟩
          · have e0 := hz.1 hcl
            subst e0
            refine set_same ?_
            by_cases eab : a = b
            · rw [← eab]; exact hx
            · exact hcl a b (by omega) (by omega) hx (hW eab)
          · cases hob : gb o b with
            | true => rw [set_same hob]; exact hz.2.1
            | false =>
              have := cf_set hbl hob
              rcases hz.2.1 with h | h
              · right; rw [← h]; omega
              · right; omega
          · by_cases e2 : b' = b
            · subst e2; rw [gb_set hbl, if_pos rfl]
            · exact hup _ (hnow h1 b' (by omega) h3)
        have hpass : ¬ 0 < W es a b → (gb o0 a = true → ∀ b', b' < b + 1 → 0 < W es a b' → gb o b' = true) := fun h h1 b' h2 h3 => by
          by_cases e2 : b' = b
          · subst e2; exact absurd h3 h
          · exact hnow h1 b' (by omega) h3
        by_cases eab : a = b
        · subst eab
          refine p_r08_Between' hl ⟨fun h => ⟨by omega, Cnt.next (by omega) (by omega) (hstep fun h => absurd rfl h)⟩, fun h => Cnt.next (by omega) (by omega) ⟨hq7, hz, hdone, hpass (by rw [show W es a a = 0 from W_self es a]; omega)⟩⟩
        · refine p_r08_Between hl hg eab ⟨fun h => ⟨by omega, Cnt.next (by omega) (by omega) (hstep fun _ => h)⟩, fun h => Cnt.next (by omega) (by omega) ⟨hq7, hz, hdone, hpass h⟩⟩
      · have hbn : b = n := by omega
        subst hbn
        refine Cnt.next (by omega) (by omega) ⟨hq7, hz, fun a' h1 h2 b' h3 h4 => ?_⟩
        by_cases e2 : a' = a
        · subst e2; exact hnow h2 b' h3 h4
        · exact hdone a' (by omega) h2 b' h3 h4
    · have han : a = n := by omega
      subst han
      refine Cnt.next (by omega) (by omega) ⟨hq6, ?_⟩
      by_cases hcl : Cl a es o0
      · rw [hz.1 hcl]; exact .inl hcl
      · rcases hz.2.1 with h | h
        · exfalso
          subst h
          exact hcl fun x y hx hy h1 h2 => hdone x hx h1 y hy h2
        · rcases hpr with h2 | h2
          · exact absurd h2 hcl
          · right; omega
  · have hkn : k = n := by omega
    subst hkn
    rcases hpr with q | q
    · exact h o0 hq5.1 (cl_root hE hn1 hn12 q hv hq5.2.1 hq5.2.2)
    · omega
theorem p_r08_Parts {R : Int → Prop} (hl : es.length ≤ 1000000000) (hg : gcheckF n es = 0) (h : ∀ k : Int, (k = 1 ↔ connF n es = true) → R k) : pf_r08_Parts (n : Int) es R := by
  obtain ⟨hE, hn1, hn12⟩ := gcheck_ok hg
  have hcr := conn_root hE hn1 hn12
  unfold pf_r08_Parts
  simp only [Int.toNat_natCast]
  refine ⟨by omega, ?_⟩
  refine ⟨fun m k i o => Cnt n (fun v => 0 ≤ k ∧ k ≤ v ∧ (v = 0 → k = 0) ∧ (0 < v → 1 ≤ k ∧ (k = 1 ↔ ∀ x, x < v → root (joinedF es) x = root (joinedF es) 0)) ∧ o.length = n ∧ (∀ u, u < n → (gb o u = true ↔ ∃ x, x < v ∧ root (joinedF es) u = root (joinedF es) x))) m i,
    Cnt.start ⟨by omega, by omega, fun _ => rfl, fun h => absurd h (by omega), by simp, fun u _ => by rw [gb_rep]; simp⟩, ?_⟩
  rintro m k _ o ⟨v, rfl, rfl, hv, k0, k1, k2, k3, hol, hseen⟩
  refine ⟨fun hlt => ?_, fun hge => ?_⟩
  · have hlt : v < n := by omega
    simp only [Int.toNat_natCast]
    refine ⟨by omega, fun hx => ?_, fun hx => ⟨i64 (by omega), p_r08_Reached hl hg hlt fun ro hrl hro => ?_⟩⟩
    · obtain ⟨x, hxv, hxr⟩ := (hseen v hlt).1 hx
      refine Cnt.next hlt (by omega) ⟨k0, by omega, fun h => absurd h (by omega), fun _ => ?_, hol, fun u hu => ?_⟩
      · have h3 := k3 (by omega)
        refine ⟨h3.1, ?_⟩
        rw [h3.2]
        constructor
        · intro h y hy
          by_cases e : y = v
          · subst e; rw [hxr]; exact h x hxv
          · exact h y (by omega)
        · intro h y hy; exact h y (by omega)
      · rw [hseen u hu]
        constructor
        · rintro ⟨y, hy, hyr⟩; exact ⟨y, by omega, hyr⟩
        · rintro ⟨y, hy, hyr⟩
          by_cases e : y = v
          · subst e; exact ⟨x, hxv, hyr.trans hxr⟩
          · exact ⟨y, by omega, hyr⟩
    · refine ⟨fun m i o' => Cnt n (fun u => o'.length = n ∧ (∀ x, x < n → (gb o' x = true ↔ (gb o x = true ∨ (x < u ∧ gb ro x = true))))) m i, Cnt.start ⟨hol, fun x _ => by simp⟩, ?_⟩
      rintro m _ o' ⟨u, rfl, rfl, hu, hol', hor⟩
      refine ⟨fun hltu => ?_, fun hgeu => ?_⟩
      · have hltu : u < n := by omega
        simp only [Int.toNat_natCast]
        have hou := hor u hltu
        have st : ∀ b : Bool, (b = true ↔ (gb o u = true ∨ gb ro u = true)) → (o'.set u b).length = n ∧ (∀ x, x < n → (gb (o'.set u b) x = true ↔ (gb o x = true ∨ (x < u + 1 ∧ gb ro x = true)))) := fun b hbb => by
          refine ⟨by simpa using hol', fun x hx => ?_⟩
          rw [gb_set (by omega)]
          by_cases e : x = u
          · subst e
            rw [if_pos rfl, hbb]
            constructor
            · rintro (h | h)
              · exact .inl h
              · exact .inr ⟨by omega, h⟩
            · rintro (h | h)
              · exact .inl h
              · exact .inr h.2
          · rw [if_neg e, hor x hx]
            constructor
            · rintro (h | h)
              · exact .inl h
              · exact .inr ⟨by omega, h.2⟩
            · rintro (h | h)
              · exact .inl h
              · exact .inr ⟨by omega, h.2⟩
        refine ⟨by omega, fun hx2 => Cnt.next hltu (by omega) (st true ?_), fun hx2 => ⟨by omega, Cnt.next hltu (by omega) (st _ ?_)⟩⟩
        · have := hou.1 hx2
          constructor
          · intro _; rcases this with h | h
            · exact .inl h
            · exact .inr h.2
          · intro _; rfl
        · constructor
          · intro h; exact .inr h
          · rintro (h | h)
            · exact absurd (hou.2 (.inl h)) hx2
            · exact h
      · have hun : u = n := by omega
        subst hun
        have hnew : ¬ ∃ x, x < v ∧ root (joinedF es) v = root (joinedF es) x := fun h => hx ((hseen v hlt).2 h)
        refine Cnt.next (by omega) (by omega) ⟨by omega, by omega, fun h => absurd h (by omega), fun _ => ⟨by omega, ?_⟩, hol', fun x hxn => ?_⟩
        · by_cases e0 : v = 0
          · subst e0
            have := k2 rfl
            subst this
            constructor
            · intro _ y hy; rw [show y = 0 by omega]
            · intro _; rfl
          · have h3 := k3 (by omega)
            constructor
            · intro h; omega
            · intro h; exact absurd ⟨0, by omega, h v (by omega)⟩ hnew
        · rw [hor x hxn, hseen x hxn, hro x hxn, decide_eq_true_eq]
          constructor
          · rintro (⟨y, hy, hyr⟩ | h)
            · exact ⟨y, by omega, hyr⟩
            · exact ⟨v, by omega, h.2⟩
          · rintro ⟨y, hy, hyr⟩
            by_cases e : y = v
            · subst e; exact .inr ⟨hxn, hyr⟩
            · exact .inl ⟨y, by omega, hyr⟩
  · have hvn : v = n := by omega
    subst hvn
    refine h k ?_
    rw [(k3 (by omega)).2, hcr]
theorem p_r08_Connected {R : Bool → Prop} (hl : es.length ≤ 1000000000) (hg : gcheckF n es = 0) (h : R (connF n es)) : pf_r08_Connected (n : Int) es R :=
  p_r08_Parts hl hg fun k hk => by
    have e : decide (k = 1) = connF n es := by rw [Bool.eq_iff_iff, decide_eq_true_eq]; exact hk
    rw [e]; exact h
end
section
variable {n q : Int} {es : List E3} {d s : List Int}
theorem p_r25_Joined {R : Int → Prop} (hl : es.length ≤ 1000000000) (h : R (joinedE n es)) : pf_r25_Joined n es R := by
  unfold pf_r25_Joined
  unfold joinedE at h
  refine p_r08_Check hl ⟨fun h0 => ?_, fun h0 => by rwa [if_neg h0] at h⟩
  rw [if_pos h0] at h
  have hn : 1 ≤ n ∧ n ≤ 12 := by
    unfold gcheckF at h0
    split at h0
    · assumption
    · omega
  obtain ⟨n, rfl⟩ : ∃ n' : Nat, n = (n' : Int) := ⟨n.toNat, by omega⟩
  exact p_r08_Connected hl h0 ⟨fun h1 => by rwa [if_pos h1] at h, fun h1 => by rwa [if_neg h1] at h⟩
def sinkE (n : Int) (es : List E3) (q : Int) : Int := if joinedE n es = 0 then (if 0 ≤ q ∧ q < n then 0 else 2) else joinedE n es
theorem p_r25_Sink {R : Int → Prop} (hl : es.length ≤ 1000000000) (h : R (sinkE n es q)) : pf_r25_Sink n es q R := by
  unfold pf_r25_Sink
  unfold sinkE at h
  refine p_r25_Joined hl ⟨fun h0 => ?_, fun h0 => by rwa [if_neg h0] at h⟩
  rw [if_pos h0] at h
  exact p_r08_Vertex ⟨fun h1 => by rwa [if_pos (by simpa using h1)] at h, fun h1 => by rwa [if_neg (by simpa using h1)] at h⟩
theorem given_sink : givenF n es q d = if sinkE n es q = 0 then checkF d n else sinkE n es q := by
  unfold givenF sinkE joinedE
  by_cases h1 : gcheckF n es = 0
  · rw [if_pos h1, if_pos h1]
    by_cases h2 : connF n es = true
    · rw [if_pos h2, if_pos h2, if_pos rfl]
      by_cases h3 : 0 ≤ q ∧ q < n
      · rw [if_pos h3, if_pos h3, if_pos rfl]
      · rw [if_neg h3, if_neg h3, if_neg (by omega)]
    · rw [if_neg h2, if_neg h2, if_neg (by omega), if_neg (by omega)]
  · rw [if_neg h1, if_neg h1, if_neg h1, if_neg h1]
theorem p_r34_Given {R : Int → Prop} (hl : es.length ≤ 1000000000) (h : R (givenF n es q d)) : pf_r34_Given n es q d R := by
  unfold pf_r34_Given
  rw [given_sink] at h
  exact p_r25_Sink hl ⟨fun h0 => p_r17_Check (by rwa [if_pos h0] at h), fun h0 => by rwa [if_neg h0] at h⟩
/-- Few chips, or an error. -/
def lowF (n : Int) (d : List Int) : Bool := decide (d.length ≤ 100 ∧ (checkF d n = 0 → ∀ j, j < d.length → -100 ≤ gi d j ∧ gi d j ≤ 100))
theorem lowF_iff : lowF n d = true ↔ d.length ≤ 100 ∧ (checkF d n = 0 → ∀ j, j < d.length → -100 ≤ gi d j ∧ gi d j ≤ 100) := by unfold lowF; exact decide_eq_true_iff
theorem p_r34_Low {R : Bool → Prop} (h : R (lowF n d)) : pf_r34_Low n es d R := by
  unfold pf_r34_Low
  have ht : (d.length ≤ 100 ∧ (checkF d n = 0 → ∀ j, j < d.length → -100 ≤ gi d j ∧ gi d j ≤ 100)) → R true := fun q => by rwa [lowF_iff.2 q] at h
  have hf : ¬ (d.length ≤ 100 ∧ (checkF d n = 0 → ∀ j, j < d.length → -100 ≤ gi d j ∧ gi d j ≤ 100)) → R false := fun q => by
    have : lowF n d = false := by rw [Bool.eq_false_iff]; exact fun q2 => q (lowF_iff.1 q2)
    rwa [this] at h
  refine ⟨fun h1 => hf (by omega), fun h1 => p_r17_Check ⟨fun h2 => ?_, fun h2 => ht ⟨by omega, fun q => absurd q h2⟩⟩⟩
  refine ⟨Cnt d.length (fun k => ∀ j, j < k → -100 ≤ gi d j ∧ gi d j ≤ 100), Cnt.start (fun j hj => absurd hj (by omega)), ?_⟩
  rintro m _ ⟨k, rfl, rfl, hk, hinv⟩
  simp only [Int.toNat_natCast]
  refine ⟨fun hlt => ⟨by omega, fun h3 => hf fun q => ?_, fun h3 => ⟨fun h4 => hf fun q => ?_, fun h4 => Cnt.next (by omega) (by omega) fun j hj => ?_⟩⟩, fun hge => ht ⟨by omega, fun _ j hj => hinv j (by omega)⟩⟩
  · have := q.2 h2 k (by omega); omega
  · have := q.2 h2 k (by omega); omega
  · by_cases e : j = k
    · subst e; omega
    · exact hinv j (by omega)
/-- The Laplacian of a script, as a list. -/
def lpL (n : Nat) (es : List E3) (s : List Int) : List Int := tab (fun v => Lp n es (gi s) v) n
/-- The sum with a multiple. -/
def plusF (a b : List Int) (k : Int) : List Int := tab (fun i => gi a i + k * gi b i) a.length
theorem p_r25_Plus {a b : List Int} {k : Int} {R : List Int → Prop} (hl : a.length ≤ 1000) (hlb : a.length ≤ b.length) (hk : -1 ≤ k ∧ k ≤ 1) (ha : ∀ j, j < a.length → -1000000000000000 ≤ gi a j ∧ gi a j ≤ 1000000000000000) (hb : ∀ j, j < a.length → -1000000000000000 ≤ gi b j ∧ gi b j ≤ 1000000000000000) (h : R (plusF a b k)) : pf_r25_Plus a b k R := by
  unfold pf_r25_Plus
  simp only [Int.toNat_natCast]
  refine ⟨by omega, fun m i out => Cnt a.length (fun j => out = upto (fun i => gi a i + k * gi b i) j a.length) m i, Cnt.start (upto_zero _ _).symm, ?_⟩
  rintro m _ out ⟨i, rfl, rfl, hi, rfl⟩
  refine ⟨fun hlt => ?_, fun hge => ?_⟩
  · have hlt : i < a.length := by omega
    have h1 := ha i hlt
    have h2 := hb i hlt
    simp only [Int.toNat_natCast]
    have hkb : -1000000000000000 ≤ k * gi b i ∧ k * gi b i ≤ 1000000000000000 := by
      have : k = -1 ∨ k = 0 ∨ k = 1 := by omega
      rcases this with rfl | rfl | rfl <;> omega
    refine ⟨by omega, by omega, i64 (by omega), i64 (by omega), by rw [upto_length]; omega, Cnt.next hlt (by omega) ?_⟩
    exact upto_set (fun i => gi a i + k * gi b i) hlt
  · have hkn : i = a.length := by omega
    subst hkn
    rw [upto_all]; exact h
/-- A divisor behind a script. -/
def appF (n : Nat) (es : List E3) (d s : List Int) : List Int := tab (fun v => gi d v - Lp n es (gi s) v) n
theorem appF_length {n : Nat} {es : List E3} {d s : List Int} : (appF n es d s).length = n := tab_length _ _
end
end Go.Proofs.YtbehbjfcenlaeaaGreat

/- What the pure forms of the program's and the library's small functions come to. -/
namespace Go.Proofs.YtbehbjfcenlaeaaGreat
open Go
set_option linter.unusedVariables false
set_option linter.unusedSimpArgs false

theorem p_slices_Equal_Divisor {a b : List Int} {R : Bool → Prop} (hl : a.length ≤ 1000000000) (h : R (decide (a = b))) : pf_slices_Equal_Divisor a b R := by
  unfold pf_slices_Equal_Divisor
  have ht : a = b → R true := fun q => by rwa [decide_eq_true q] at h
  have hf : ¬ a = b → R false := fun q => by rwa [decide_eq_false q] at h
  refine ⟨fun hln => ?_, fun hln => hf fun q => hln (by rw [q])⟩
  refine ⟨Cnt a.length (fun k => ∀ j, j < k → gi a j = gi b j), Cnt.start (fun j hj => absurd hj (by omega)), ?_⟩
  rintro m _ ⟨k, rfl, rfl, hk, hinv⟩
  simp only [Int.toNat_natCast]
  refine ⟨fun hlt => ⟨by omega, by omega, fun h1 => Cnt.next (by omega) (by omega) fun j hj => ?_, fun h1 => hf fun q => h1 (by rw [q])⟩, fun hge => ht (gi_ext (by omega) fun j hj => hinv j (by omega))⟩
  by_cases e : j = k
  · subst e; exact h1
  · exact hinv j (by omega)

theorem p_slices_Equal_Script {a b : List Int} {R : Bool → Prop} (hl : a.length ≤ 1000000000) (h : R (decide (a = b))) : pf_slices_Equal_Script a b R := by
  unfold pf_slices_Equal_Script
  have ht : a = b → R true := fun q => by rwa [decide_eq_true q] at h
  have hf : ¬ a = b → R false := fun q => by rwa [decide_eq_false q] at h
  refine ⟨fun hln => ?_, fun hln => hf fun q => hln (by rw [q])⟩
  refine ⟨Cnt a.length (fun k => ∀ j, j < k → gi a j = gi b j), Cnt.start (fun j hj => absurd hj (by omega)), ?_⟩
  rintro m _ ⟨k, rfl, rfl, hk, hinv⟩
  simp only [Int.toNat_natCast]
  refine ⟨fun hlt => ⟨by omega, by omega, fun h1 => Cnt.next (by omega) (by omega) fun j hj => ?_, fun h1 => hf fun q => h1 (by rw [q])⟩, fun hge => ht (gi_ext (by omega) fun j hj => hinv j (by omega))⟩
  by_cases e : j = k
  · subst e; exact h1
  · exact hinv j (by omega)

theorem p_slices_Equal_intS {a b : List Int} {R : Bool → Prop} (hl : a.length ≤ 1000000000) (h : R (decide (a = b))) : pf_slices_Equal_intS a b R := by
  unfold pf_slices_Equal_intS
  have ht : a = b → R true := fun q => by rwa [decide_eq_true q] at h
  have hf : ¬ a = b → R false := fun q => by rwa [decide_eq_false q] at h
  refine ⟨fun hln => ?_, fun hln => hf fun q => hln (by rw [q])⟩
  refine ⟨Cnt a.length (fun k => ∀ j, j < k → gi a j = gi b j), Cnt.start (fun j hj => absurd hj (by omega)), ?_⟩
  rintro m _ ⟨k, rfl, rfl, hk, hinv⟩
  simp only [Int.toNat_natCast]
  refine ⟨fun hlt => ⟨by omega, by omega, fun h1 => Cnt.next (by omega) (by omega) fun j hj => ?_, fun h1 => hf fun q => h1 (by rw [q])⟩, fun hge => ht (gi_ext (by omega) fun j hj => hinv j (by omega))⟩
  by_cases e : j = k
  · subst e; exact h1
  · exact hinv j (by omega)

theorem p_slices_Clone_Divisor {s : List Int} {R : List Int → Prop} (hl : s.length ≤ 1000000000) (h : R s) : pf_slices_Clone_Divisor s R := by
  unfold pf_slices_Clone_Divisor
  exact fun nil hn => ⟨fun q => by rw [hn q] at h; exact h, fun q => ⟨by omega, h⟩⟩
end Go.Proofs.YtbehbjfcenlaeaaGreat

/- What the references' pure forms on sets come to. -/
namespace Go.Proofs.YtbehbjfcenlaeaaGreat
open Go
set_option linter.unusedVariables false
set_option linter.unusedSimpArgs false

section
variable {n : Nat} {es : List E3} {d : List Int}
theorem p_r25_out {m v : Nat} {R : Int → Prop} (hl : es.length ≤ 1000) (hg : gcheckF n es = 0) (hm : m < 9223372036854775808) (h : R (outS n es m.testBit v)) : pf_r25_out (n : Int) es (m : Int) (v : Int) R := by
  obtain ⟨hE, hn1, hn12⟩ := gcheck_ok hg
  unfold pf_r25_out
  unfold outS at h
  refine ⟨fun mm t i => Cnt n (fun k => t = sm k (fun u => if m.testBit u = true then 0 else W es v u)) mm i, Cnt.start rfl, ?_⟩
  rintro mm t _ ⟨k, rfl, rfl, hk, rfl⟩
  refine ⟨fun hlt => ?_, fun hge => ?_⟩
  · have hz : (if m.testBit k = true then 0 else W es v k) = 0 → sm k (fun u => if m.testBit u = true then 0 else W es v u) = sm (k + 1) (fun u => if m.testBit u = true then 0 else W es v u) := fun h => by rw [sm, h]; omega
    refine ⟨k ≠ v ∧ ¬ m.testBit k = true, fun ⟨hkv, hbit⟩ => ?_, fun h => Cnt.next (by omega) (by omega) (hz (by rw [show k = v by omega, W_self]; simp)), fun h => ⟨by omega, bit_fit m k hm, ?_⟩⟩
    · have h1 := W_le50 hg k v
      have h2 := sm_bound (f := fun u => if m.testBit u = true then 0 else W es v u) (B := 50) (by omega) (n := k) fun i _ => by
        have := W_le50 hg v i
        show -50 ≤ ite _ _ _ ∧ ite _ _ _ ≤ _
        split <;> omega
      refine p_r08_Between (by omega) hg hkv ⟨i64 (by omega), Cnt.next (by omega) (by omega) ?_⟩
      rw [sm, if_neg hbit, W_symm es k v]
    · rw [bit_and]
      refine ⟨fun h0 => ⟨by omega, fun hb => by rw [if_pos hb] at h0; omega⟩, fun h0 => Cnt.next (by omega) (by omega) (hz ?_)⟩
      by_cases hb : m.testBit k = true
      · rw [if_pos hb]
      · rw [if_neg hb] at h0; exact absurd rfl h0
  · have hkn : k = n := by omega
    subst hkn; exact h
theorem p_r25_May {m : Nat} {R : Bool → Prop} (hl : es.length ≤ 1000) (hg : gcheckF n es = 0) (hdn : d.length = n) (hm : m < 9223372036854775808) (h1 : mayF n es d m.testBit → R true) (h2 : ¬ mayF n es d m.testBit → R false) : pf_r25_May (n : Int) es d (m : Int) R := by
  obtain ⟨hE, hn1, hn12⟩ := gcheck_ok hg
  unfold pf_r25_May
  refine ⟨Cnt n (fun k => ∀ v, v < k → m.testBit v = true → outS n es m.testBit v ≤ gi d v), Cnt.start (fun v h => absurd h (by omega)), ?_⟩
  rintro mm _ ⟨k, rfl, rfl, hk, hinv⟩
  have hnext : (m.testBit k = true → outS n es m.testBit k ≤ gi d k) → ∀ v, v < k + 1 → m.testBit v = true → outS n es m.testBit v ≤ gi d v := fun h v hv hb => by
    by_cases e : v = k
    · subst e; exact h hb
    · exact hinv v (by omega) hb
  refine ⟨fun hlt => ⟨by omega, bit_fit m k hm, ?_, ?_⟩, fun hge => h1 ?_⟩
  · rw [bit_and]
    intro h0
    have hb : m.testBit k = true := by
      by_cases hb : m.testBit k = true
      · exact hb
      · rw [if_neg hb] at h0; omega
    simp only [Int.toNat_natCast]
    refine ⟨by omega, p_r25_out hl hg hm ⟨fun q => h2 fun hall => ?_, fun q => Cnt.next (by omega) (by omega) (hnext fun _ => by omega)⟩⟩
    have := hall k (by omega) hb; omega
  · rw [bit_and]
    intro h0
    refine Cnt.next (by omega) (by omega) (hnext fun hb => ?_)
    rw [if_pos hb] at h0; exact absurd rfl h0
  · have hkn : k = n := by omega
    subst hkn; exact hinv
theorem p_r25_Tight {q : Nat} {R : Bool → Prop} (hl : es.length ≤ 1000) (hg : gcheckF n es = 0) (hdn : d.length = n) (hq : q < n) (h1 : (∀ m, 1 ≤ m → m < 2 ^ n → m.testBit q = false → ¬ mayF n es d m.testBit) → R true) (h2 : ¬ (∀ m, 1 ≤ m → m < 2 ^ n → m.testBit q = false → ¬ mayF n es d m.testBit) → R false) : pf_r25_Tight (n : Int) es (q : Int) d R := by
  obtain ⟨hE, hn1, hn12⟩ := gcheck_ok hg
  have h2n := two_pow_small hn12
  unfold pf_r25_Tight
  rw [pow_cast]
  generalize hP : 2 ^ n = P at *
  have hP1 : 1 ≤ P := by rw [← hP]; exact Nat.one_le_two_pow
  refine ⟨Cnt P (fun k => 1 ≤ k ∧ ∀ m, 1 ≤ m → m < k → m.testBit q = false → ¬ mayF n es d m.testBit), ⟨P - 1, 1, rfl, rfl, by omega, by omega, fun m h1 h2 => absurd h2 (by omega)⟩, ?_⟩
  rintro mm _ ⟨k, rfl, rfl, hk, hk1, hinv⟩
  have hnext : (k.testBit q = false → ¬ mayF n es d k.testBit) → 1 ≤ k + 1 ∧ ∀ m, 1 ≤ m → m < k + 1 → m.testBit q = false → ¬ mayF n es d m.testBit := fun h => ⟨by omega, fun m h1 h2 h3 => by
    by_cases e : m = k
    · subst e; exact h h3
    · exact hinv m h1 (by omega) h3⟩
  refine ⟨by omega, i64 (by omega), fun hlt => ⟨by omega, bit_fit k q (by omega), ?_, ?_⟩, fun hge => h1 ?_⟩
  · rw [bit_and]
    intro h0
    have hb : k.testBit q = false := by
      cases hb : k.testBit q with
      | false => rfl
      | true => rw [hb, if_pos rfl] at h0; omega
    refine p_r25_May hl hg hdn (by omega) (fun hm => ⟨fun _ => h2 fun hall => hall k hk1 (by omega) hb hm, fun q => absurd rfl q⟩) (fun hm => ⟨fun q => (by cases q), fun _ => Cnt.next (by omega) (by omega) (hnext fun _ => hm)⟩)
  · rw [bit_and]
    intro h0
    refine Cnt.next (by omega) (by omega) (hnext fun hb => ?_)
    rw [hb, if_neg (by simp)] at h0; exact absurd rfl h0
  · have hkn : k = P := by omega
    subst hkn; exact hinv
end
/-- A small connected graph with a divisor that has few chips. -/
def rightF (n : Int) (es : List E3) (d : List Int) : Prop := smallF n es 6 9 = true ∧ joinedE n es = 0 ∧ checkF d n = 0 ∧ lowF n d = true
end Go.Proofs.YtbehbjfcenlaeaaGreat

/- What the library's pure forms come to: search, minimum, order. -/
namespace Go.Proofs.YtbehbjfcenlaeaaGreat
open Go
set_option linter.unusedVariables false
set_option linter.unusedSimpArgs false

/-- The least number. -/
theorem p_slices_Min {x : List Int} {R : Int → Prop} (hl : x.length ≤ 1000000000) (h0 : 0 < x.length) (h : ∀ m, (∃ k, k < x.length ∧ gi x k = m) → (∀ k, k < x.length → m ≤ gi x k) → R m) : pf_slices_Min_Divisor x R := by
  unfold pf_slices_Min_Divisor
  refine ⟨True, fun _ => ⟨by omega, ?_⟩, fun q => by omega, fun _ => trivial⟩
  refine ⟨fun c m i => Cnt x.length (fun k => 1 ≤ k ∧ (∃ j, j < k ∧ gi x j = m) ∧ ∀ j, j < k → m ≤ gi x j) c i, ⟨x.length - 1, 1, rfl, rfl, h0, by omega, ⟨0, by omega, rfl⟩, fun j hj => by rw [show j = 0 by omega]; exact Int.le_refl _⟩, ?_⟩
  rintro c m _ ⟨k, rfl, rfl, hk, h1, ⟨j0, hj0, rfl⟩, hm⟩
  simp only [Int.toNat_natCast]
  refine ⟨fun hlt => ⟨by omega, Cnt.next (by omega) (by omega) ⟨by omega, ?_, fun j hj => ?_⟩⟩, fun hge => ?_⟩
  · by_cases q : gi x k < gi x j0
    · exact ⟨k, by omega, by unfold mnF; rw [if_pos q]⟩
    · exact ⟨j0, by omega, by unfold mnF; rw [if_neg q]⟩
  · rw [mnF_eq]
    by_cases e : j = k
    · subst e; omega
    · have := hm j (by omega); omega
  · have : k = x.length := by omega
    subst this
    exact h _ ⟨j0, hj0, rfl⟩ hm
end Go.Proofs.YtbehbjfcenlaeaaGreat

/- What the pure forms of chips, graph and firing come to. -/
namespace Go.Proofs.YtbehbjfcenlaeaaGreat
open Go
set_option linter.unusedVariables false
set_option linter.unusedSimpArgs false

theorem p_chips_within {k : Int} {R : Bool → Prop} (h : R (inF k)) : pf_chips_within k R := by
  unfold pf_chips_within
  refine ⟨fun h1 => ?_, fun h1 => ?_⟩
  · have e : decide (k ≤ 1048576) = inF k := by unfold inF; simp [h1]
    rw [e]; exact h
  · have e : false = inF k := by unfold inF; simp [h1]
    rw [e]; exact h
theorem p_chips_Check {d : List Int} {n : Int} {R : Int → Prop} (h : R (checkF d n)) : pf_chips_Check d n R := by
  unfold pf_chips_Check pf_chips_vertices
  have hout : ¬ (1 ≤ n ∧ n ≤ 12) → R 2 := fun q => by
    have : checkF d n = 2 := by unfold checkF vertsF; rw [if_neg q, if_neg (by omega)]
    rwa [this] at h
  refine ⟨fun q => ⟨fun q2 => absurd q2 (by omega), fun _ => hout (by omega)⟩, fun q => ⟨fun q2 => ⟨fun q3 => absurd q3 (by omega), fun _ => hout (by omega)⟩, fun q2 => ⟨fun _ => ?_, fun q3 => absurd rfl q3⟩⟩⟩
  have hc : checkF d n = if (d.length : Int) = n then (if d.all inF then 0 else 2) else 8 := by unfold checkF; rw [if_pos (by unfold vertsF; rw [if_pos (by omega)])]
  rw [hc] at h
  refine ⟨fun hln => ?_, fun hln => by rwa [if_neg hln] at h⟩
  rw [if_pos hln] at h
  refine ⟨Cnt d.length (fun k => ∀ j, j < k → inF (gi d j) = true), Cnt.start (fun j hj => absurd hj (by omega)), ?_⟩
  rintro m _ ⟨k, rfl, rfl, hk, hinv⟩
  refine ⟨fun hlt => ⟨by omega, p_chips_within ⟨fun h1 => Cnt.next (by omega) (by omega) fun j hj => ?_, fun h1 => ?_⟩⟩, fun hge => ?_⟩
  · by_cases e : j = k
    · subst e; simpa using h1
    · exact hinv j (by omega)
  · rw [if_neg (fun hall => h1 ((all_iff_gi inF d).1 hall _ (by omega)))] at h; exact h
  · rw [if_pos ((all_iff_gi inF d).2 fun j hj => hinv j (by omega))] at h; exact h
theorem p_graph_vertex {n v : Int} {R : Bool → Prop} (h : R (decide (0 ≤ v ∧ v < n))) : pf_graph_vertex n v R := by
  unfold pf_graph_vertex
  refine ⟨fun h1 => ?_, fun h1 => ?_⟩
  · have e : decide (v < n) = decide (0 ≤ v ∧ v < n) := by simp [h1]
    rw [e]; exact h
  · have e : false = decide (0 ≤ v ∧ v < n) := by simp [h1]
    rw [e]; exact h
theorem p_cmp_Compare {a b : Int} {R : Int → Prop} (h : R (cmpF a b)) : pf_cmp_Compare_int a b R := by
  unfold pf_cmp_Compare_int pf_cmp_isNaN_int
  unfold cmpF at h
  refine ⟨fun q => absurd q (by simp), fun _ => ⟨fun q => absurd q (by simp), fun _ => ⟨fun h1 => by rwa [if_pos h1] at h, fun h1 => ?_⟩⟩⟩
  rw [if_neg h1] at h
  refine ⟨fun h2 => by rwa [if_pos h2] at h, fun h2 => by rwa [if_neg h2] at h⟩
theorem p_cmp_Or2 {x y : Int} {R : Int → Prop} (h : R (orF x y)) : pf_cmp_Or_int [x, y] R := by
  unfold pf_cmp_Or_int
  unfold orF at h
  refine ⟨Cnt 2 (fun k => ∀ j, j < k → gi [x, y] j = 0), Cnt.start (fun j hj => absurd hj (by omega)), ?_⟩
  rintro m _ ⟨k, rfl, rfl, hk, hinv⟩
  simp only [Int.toNat_natCast, List.length_cons, List.length_nil]
  have hk3 : k = 0 ∨ k = 1 ∨ k = 2 := by omega
  have g0 : gi [x, y] 0 = x := rfl
  have g1 : gi [x, y] 1 = y := rfl
  have hnx : gi [x, y] k = 0 → ∀ j, j < k + 1 → gi [x, y] j = 0 := fun q j hj => by
    by_cases e : j = k
    · subst e; exact q
    · exact hinv j (by omega)
  refine ⟨fun hlt => ⟨by omega, fun q => Cnt.next (by omega) (by omega) (hnx q), fun q => ?_⟩, fun hge => ?_⟩
  · rcases hk3 with rfl | rfl | rfl
    · rw [g0] at q ⊢; rwa [if_pos q] at h
    · have h0 := hinv 0 (by omega)
      rw [g0] at h0
      rw [g1]; rwa [if_neg (fun q2 => q2 h0)] at h
    · exact absurd hlt (by omega)
  · have : k = 2 := by omega
    subst this
    have h0 := hinv 0 (by omega)
    have h1 := hinv 1 (by omega)
    rw [g0] at h0
    rw [g1] at h1
    rw [if_neg (fun q2 => q2 h0), h1] at h; exact h
theorem p_pair_compare {a b c d : Int} {R : Int → Prop} (h : R (pcmpF a b c d)) : pf_graph_pair_compare a b c d R :=
  p_cmp_Compare (p_cmp_Compare (p_cmp_Or2 h))
theorem p_graph_Check {n : Int} {es : List E3} {R : Int → Prop} (hl : es.length ≤ 1000000000) (h : R (gcheckF n es)) : pf_graph_Check n es R := by
  unfold pf_graph_Check
  have hout : ¬ (1 ≤ n ∧ n ≤ 12) → R 2 := fun q => by unfold gcheckF at h; rwa [if_neg q] at h
  refine ⟨1 ≤ n ∧ n ≤ 12, fun hn => ?_, fun q => hout (by omega), fun q => ⟨fun q2 => hout (by omega), fun q2 => ⟨by omega, by omega⟩⟩⟩
  have hg : gcheckF n es = gchk n (-1) (-1) es := by unfold gcheckF; rw [if_pos hn]
  rw [hg] at h
  refine ⟨fun m i a b => Cnt es.length (fun k => a = (pre es k).1 ∧ b = (pre es k).2 ∧ gchk n (-1) (-1) es = gchk n (pre es k).1 (pre es k).2 (es.drop k)) m i, Cnt.start ⟨rfl, rfl, rfl⟩, ?_⟩
  rintro m _ _ _ ⟨k, rfl, rfl, hk, rfl, rfl, hinv⟩
  simp only [Int.toNat_natCast]
  refine ⟨fun hlt => ⟨by omega, ?_⟩, fun hge => ?_⟩
  · have hlt : k < es.length := by omega
    rw [ge_drop hlt, gchk_cons] at hinv
    generalize hx : ge es k = x at hinv ⊢
    have hed : R (if edgeF n (pre es k).1 (pre es k).2 x = 0 then gchk n x.1 x.2.1 (es.drop (k + 1)) else edgeF n (pre es k).1 (pre es k).2 x) := by rw [← hinv]; exact h
    have h2 : ¬ ((0 ≤ x.1 ∧ x.1 < n) ∧ (0 ≤ x.2.1 ∧ x.2.1 < n) ∧ 1 ≤ x.2.2 ∧ x.2.2 ≤ 50) → R 2 := fun q => by
      unfold edgeF at hed; rw [if_neg q, if_neg (by omega)] at hed; exact hed
    refine ⟨(0 ≤ x.1 ∧ x.1 < n) ∧ (0 ≤ x.2.1 ∧ x.2.1 < n) ∧ 1 ≤ x.2.2 ∧ x.2.2 ≤ 50, fun hJ => ?_, p_graph_vertex ⟨fun q1 => p_graph_vertex ⟨fun q2 => ⟨fun q3 => h2 (by omega), fun q3 => ⟨fun q4 => h2 (by omega), fun q4 => ?_⟩⟩, fun q2 => h2 (by simp at q2; omega)⟩, fun q1 => h2 (by simp at q1; omega)⟩⟩
    · have he : edgeF n (pre es k).1 (pre es k).2 x = if x.1 ≤ x.2.1 ∧ pcmpF (pre es k).1 (pre es k).2 x.1 x.2.1 < 0 then 0 else 9 := by unfold edgeF; rw [if_pos hJ]
      rw [he] at hed hinv
      refine ⟨fun q => ?_, fun q => p_pair_compare ⟨fun q2 => ?_, fun q2 => Cnt.next hlt (by omega) ⟨?_, ?_, ?_⟩⟩⟩
      · rw [if_neg (show ¬ (x.1 ≤ x.2.1 ∧ _) by omega), if_neg (by omega)] at hed; exact hed
      · rw [if_neg (show ¬ (x.1 ≤ x.2.1 ∧ _) by omega), if_neg (by omega)] at hed; exact hed
      · simp [pre, hx]
      · simp [pre, hx]
      · have hc : x.1 ≤ x.2.1 ∧ pcmpF (pre es k).1 (pre es k).2 x.1 x.2.1 < 0 := ⟨by omega, by omega⟩
        rw [if_pos hc, if_pos rfl] at hinv
        rw [hinv]
        simp [pre, hx]
    · simp only [decide_eq_true_eq] at q1 q2
      exact ⟨q1, q2, by omega, by omega⟩
  · have hk2 : k = es.length := by omega
    rw [hinv, hk2, List.drop_length] at h
    exact h
/-- The error of a graph with a divisor. -/
def fgivenF (n : Int) (es : List E3) (d : List Int) : Int := if gcheckF n es = 0 then checkF d n else gcheckF n es
theorem p_firing_given {n : Int} {es : List E3} {d : List Int} {R : Int → Prop} (hl : es.length ≤ 1000000000) (h : R (fgivenF n es d)) : pf_firing_given n es d R := by
  unfold pf_firing_given
  unfold fgivenF at h
  exact p_graph_Check hl ⟨fun q => p_chips_Check (by rwa [if_pos q] at h), fun q => by rwa [if_neg q] at h⟩
theorem p_firing_Check {n : Int} {es : List E3} {d : List Int} {R : Int → Prop} (hl : es.length ≤ 1000000000) (h : R (fgivenF n es d)) : pf_firing_Check n es d R := p_firing_given hl h

/-! ### What edges move -/
theorem W_snoc (x : E3) (v u : Nat) : ∀ l : List E3, W (l ++ [x]) v u = W l v u + w1 x v u
  | [] => by rw [List.nil_append, W_cons, W_nil]; omega
  | y :: t => by rw [List.cons_append, W_cons, W_cons, W_snoc x v u t]; omega
/-- What an edge takes from a vertex by a script. -/
def e1 (x : E3) (s : Nat → Int) (v : Nat) : Int := (if (v : Int) = x.1 then x.2.2 * (s x.1.toNat - s x.2.1.toNat) else 0) - (if (v : Int) = x.2.1 then x.2.2 * (s x.1.toNat - s x.2.1.toNat) else 0)
theorem Lp_snoc {n : Nat} {l : List E3} {x : E3} {s : Nat → Int} {v : Nat} (hx : 0 ≤ x.1 ∧ x.1 < n ∧ 0 ≤ x.2.1 ∧ x.2.1 < n) (hv : v < n) : Lp n (l ++ [x]) s v = Lp n l s v + e1 x s v := by
  have h1 : Lp n (l ++ [x]) s v = Lp n l s v + sm n (fun u => w1 x v u * (s v - s u)) := by
    unfold Lp
    rw [← sm_add]
    refine sm_congr fun u _ => ?_
    rw [W_snoc, Int.add_mul]
  rw [h1]
  congr 1
  obtain ⟨a, ha⟩ : ∃ a : Nat, x.1 = a := ⟨x.1.toNat, by omega⟩
  obtain ⟨b, hb⟩ : ∃ b : Nat, x.2.1 = b := ⟨x.2.1.toNat, by omega⟩
  unfold e1
  rw [ha, hb, Int.toNat_natCast, Int.toNat_natCast]
  have ean : a < n := by omega
  have ebn : b < n := by omega
  by_cases hab : a = b
  · subst hab
    rw [show (fun u => w1 x v u * (s v - s u)) = fun _ => 0 from ?_, sm_zero]
    · omega
    · funext u
      unfold w1
      rw [if_neg (by omega)]; omega
  · by_cases e1 : v = a
    · subst e1
      rw [if_pos rfl, if_neg (by omega), show (fun u => w1 x v u * (s v - s u)) = fun u => if u = b then x.2.2 * (s v - s b) else 0 from ?_, sm_one _ ebn]
      · omega
      · funext u
        unfold w1
        by_cases e2 : u = b
        · subst e2; rw [if_pos ⟨by omega, .inl ⟨ha, hb⟩⟩, if_pos rfl]
        · rw [if_neg (by omega), if_neg e2]; omega
    · by_cases e3 : v = b
      · subst e3
        rw [if_neg (by omega), if_pos rfl, show (fun u => w1 x v u * (s v - s u)) = fun u => if u = a then x.2.2 * (s v - s a) else 0 from ?_, sm_one _ ean]
        · rw [show s a - s v = -(s v - s a) by omega, Int.mul_neg]; omega
        · funext u
          unfold w1
          by_cases e2 : u = a
          · subst e2; rw [if_pos ⟨by omega, .inr ⟨ha, hb⟩⟩, if_pos rfl]
          · rw [if_neg (by omega), if_neg e2]; omega
      · rw [if_neg (by omega), if_neg (by omega), show (fun u => w1 x v u * (s v - s u)) = fun _ => 0 from ?_, sm_zero]
        · omega
        · funext u
          unfold w1
          rw [if_neg (by omega)]; omega
theorem flow_bound {x : E3} {s : Nat → Int} (hm : 1 ≤ x.2.2 ∧ x.2.2 ≤ 50) (ha : -2000000000 ≤ s x.1.toNat ∧ s x.1.toNat ≤ 2000000000) (hb : -2000000000 ≤ s x.2.1.toNat ∧ s x.2.1.toNat ≤ 2000000000) : -200000000000 ≤ x.2.2 * (s x.1.toNat - s x.2.1.toNat) ∧ x.2.2 * (s x.1.toNat - s x.2.1.toNat) ≤ 200000000000 := by
  generalize x.2.2 = m at hm ⊢
  have h : -4000000000 ≤ s x.1.toNat - s x.2.1.toNat ∧ s x.1.toNat - s x.2.1.toNat ≤ 4000000000 := by omega
  generalize s x.1.toNat - s x.2.1.toNat = y at h ⊢
  have := Int.natAbs_mul m y
  have h4 : m.natAbs ≤ 50 := by omega
  have h5 : y.natAbs ≤ 4000000000 := by omega
  have := Nat.mul_le_mul h4 h5
  omega
theorem Lp_take_bound {n : Nat} {es : List E3} (hE : EOk n es) {s : Nat → Int} (hs : ∀ j, j < n → -2000000000 ≤ s j ∧ s j ≤ 2000000000) {v : Nat} (hv : v < n) : ∀ k, k ≤ es.length → -(400000000000 * (k : Int)) ≤ Lp n (es.take k) s v ∧ Lp n (es.take k) s v ≤ 400000000000 * k
  | 0, _ => by
    have : Lp n [] s v = 0 := by
      unfold Lp
      rw [show (fun u => W [] v u * (s v - s u)) = fun _ => 0 from ?_, sm_zero]
      funext u; rw [W_nil]; omega
    rw [List.take_zero, this]; omega
  | k + 1, hk => by
    have ih := Lp_take_bound hE hs hv k (by omega)
    have hx := hE _ (ge_mem (show k < es.length by omega))
    have hf := flow_bound (x := ge es k) (s := s) (by omega) (hs _ (by omega)) (hs _ (by omega))
    have e : es.take (k + 1) = es.take k ++ [ge es k] := by rw [List.take_add_one, List.getElem?_eq_getElem (by omega), ge_of_lt (by omega)]; rfl
    rw [e, Lp_snoc (by omega) hv]
    unfold e1
    split <;> split <;> omega
theorem Lp_nil {n : Nat} {s : Nat → Int} {v : Nat} : Lp n [] s v = 0 := by
  unfold Lp
  rw [show (fun u => W [] v u * (s v - s u)) = fun _ => 0 from ?_, sm_zero]
  funext u; rw [W_nil]; omega
/-- An edge's step. -/
theorem edge_step {n : Nat} {es : List E3} (hE : EOk n es) {d s : List Int} {k : Nat} (hk : k < es.length) :
    ((appF n (es.take k) d s).set (ge es k).1.toNat (gi (appF n (es.take k) d s) (ge es k).1.toNat - (ge es k).2.2 * (gi s (ge es k).1.toNat - gi s (ge es k).2.1.toNat))).set (ge es k).2.1.toNat
      (gi ((appF n (es.take k) d s).set (ge es k).1.toNat (gi (appF n (es.take k) d s) (ge es k).1.toNat - (ge es k).2.2 * (gi s (ge es k).1.toNat - gi s (ge es k).2.1.toNat))) (ge es k).2.1.toNat + (ge es k).2.2 * (gi s (ge es k).1.toNat - gi s (ge es k).2.1.toNat)) = appF n (es.take (k + 1)) d s := by
  have hx := hE _ (ge_mem hk)
  have e : es.take (k + 1) = es.take k ++ [ge es k] := by rw [List.take_add_one, List.getElem?_eq_getElem hk, ge_of_lt hk]; rfl
  have hal : (appF n (es.take k) d s).length = n := appF_length
  refine gi_ext (by rw [List.length_set, List.length_set, appF_length, appF_length]) fun i hi => ?_
  rw [List.length_set, List.length_set, hal] at hi
  have h1 : ∀ j, j < n → gi (appF n (es.take k) d s) j = gi d j - Lp n (es.take k) (gi s) j := fun j hj => gi_tab _ hj
  have h2 : gi (appF n (es.take (k + 1)) d s) i = gi d i - (Lp n (es.take k) (gi s) i + e1 (ge es k) (gi s) i) := by
    rw [← Lp_snoc (by omega) hi, ← e]; exact gi_tab _ hi
  rw [h2, gi_set (by rw [List.length_set, hal]; omega), gi_set (by rw [hal]; omega), gi_set (by rw [hal]; omega)]
  unfold e1
  by_cases q1 : i = (ge es k).2.1.toNat
  · rw [if_pos q1, if_pos (show (i : Int) = (ge es k).2.1 by omega)]
    by_cases q2 : (ge es k).2.1.toNat = (ge es k).1.toNat
    · rw [if_pos q2, if_pos (show (i : Int) = (ge es k).1 by omega), ← q2, ← q1, h1 i hi]; omega
    · rw [if_neg q2, if_neg (show ¬ (i : Int) = (ge es k).1 by omega), ← q1, h1 i hi]; omega
  · rw [if_neg q1, if_neg (show ¬ (i : Int) = (ge es k).2.1 by omega)]
    by_cases q2 : i = (ge es k).1.toNat
    · rw [if_pos q2, if_pos (show (i : Int) = (ge es k).1 by omega), ← q2, h1 i hi]; omega
    · rw [if_neg q2, if_neg (show ¬ (i : Int) = (ge es k).1 by omega), h1 i hi]; omega
section
variable {n : Nat} {es : List E3} {d s : List Int}
theorem app_start (hdl : d.length = n) : d = appF n (es.take 0) d s := by
  refine eq_tab hdl _ fun i _ => ?_
  rw [List.take_zero, Lp_nil]; omega
end
end Go.Proofs.YtbehbjfcenlaeaaGreat

/- Words for the laws of layer 34. -/
namespace Go.Proofs.YtbehbjfcenlaeaaGreat
open Go
set_option linter.unusedVariables false
set_option linter.unusedSimpArgs false

theorem small_of {n : Int} {es : List E3} {d : List Int} (h1 : smallF n es 6 9 = true) (h2 : lowF n d = true) : Small n es d := by
  unfold smallF at h1
  rw [decide_eq_true_eq] at h1
  rw [lowF_iff] at h2
  refine ⟨h1.1, h1.2, fun hc v hv => ?_⟩
  obtain ⟨n, rfl⟩ : ∃ n' : Nat, n = (n' : Int) := ⟨n.toNat, by omega⟩
  have := (checkF_ok hc).1
  have := h2.2 hc v (by omega)
  omega
/-- A small connected graph with a divisor that has few chips. -/
structure Right (n : Int) (es : List E3) (d : List Int) : Prop where
  few : smallF n es 6 9 = true
  joined : joinedE n es = 0
  chips : checkF d n = 0
  low : lowF n d = true
theorem Right.graph {n : Int} {es : List E3} {d : List Int} (h : Right n es d) : gcheckF n es = 0 ∧ connF n es = true ∧ es.length ≤ 40 ∧ 1 ≤ n ∧ n ≤ 6 := by
  have hj := h.joined
  have hs := h.few
  unfold joinedE at hj
  unfold smallF at hs
  rw [decide_eq_true_eq] at hs
  by_cases h1 : gcheckF n es = 0
  · rw [if_pos h1] at hj
    have hn := (hs.2 h1).1
    have h0 : 1 ≤ n := by
      unfold gcheckF at h1
      split at h1
      · omega
      · omega
    by_cases h2 : connF n es = true
    · exact ⟨h1, h2, hs.1, h0, hn⟩
    · rw [if_neg h2] at hj; omega
  · rw [if_neg h1] at hj; exact absurd hj h1
end Go.Proofs.YtbehbjfcenlaeaaGreat

/- What the pure forms of 'effective' and of its reference come to. -/
namespace Go.Proofs.YtbehbjfcenlaeaaGreat
open Go
set_option linter.unusedVariables false
set_option linter.unusedSimpArgs false

/-! ### The reference: borrowing -/
theorem p_r36_debtor {d : List Int} {R : Int → Prop} (hl : d.length ≤ 1000000000) (h1 : (∀ v, v < d.length → 0 ≤ gi d v) → R (-1)) (h2 : ∀ v : Nat, v < d.length → gi d v < 0 → R v) : pf_r36_debtor d R := by
  unfold pf_r36_debtor
  refine ⟨Cnt d.length (fun k => ∀ j, j < k → 0 ≤ gi d j), Cnt.start (fun j hj => absurd hj (by omega)), ?_⟩
  rintro m _ ⟨k, rfl, rfl, hk, hinv⟩
  simp only [Int.toNat_natCast]
  refine ⟨fun hlt => ⟨by omega, fun h => h2 k (by omega) h, fun h => Cnt.next (by omega) (by omega) fun j hj => ?_⟩, fun hge => h1 fun v hv => hinv v (by omega)⟩
  by_cases e : j = k
  · subst e; omega
  · exact hinv j (by omega)
theorem p_r36_all {l : List Bool} {R : Bool → Prop} (hl : l.length ≤ 1000000000) (h1 : (∀ v, v < l.length → gb l v = true) → R true) (h2 : ∀ v, v < l.length → gb l v ≠ true → R false) : pf_r36_all l R := by
  unfold pf_r36_all
  refine ⟨Cnt l.length (fun k => ∀ j, j < k → gb l j = true), Cnt.start (fun j hj => absurd hj (by omega)), ?_⟩
  rintro m _ ⟨k, rfl, rfl, hk, hinv⟩
  simp only [Int.toNat_natCast]
  refine ⟨fun hlt => ⟨by omega, fun h => Cnt.next (by omega) (by omega) fun j hj => ?_, fun h => h2 k (by omega) h⟩, fun hge => h1 fun v hv => hinv v (by omega)⟩
  by_cases e : j = k
  · subst e; exact h
  · exact hinv j (by omega)
theorem win_dg {n : Nat} {es : List E3} {d : List Int} (hd : d.length = n) (h : Win n es d) : 0 ≤ dg d := by
  obtain ⟨s, hs⟩ := h
  have h1 : 0 ≤ sm n (fun v => gi d v - Lp n es s v) := sm_nonneg hs
  rw [sm_sub, Lp_total] at h1
  unfold dg
  rw [hd]; omega
theorem conn_all {n : Nat} {es : List E3} (hg : gcheckF n es = 0) (hc : connF n es = true) : ∀ q, q < n → Conn n es q := fun q hq => by
  obtain ⟨hE, hn1, hn12⟩ := gcheck_ok hg
  exact (conn_iff hE hn1 hn12 hq).1 hc
theorem p_r36_Wins {n : Nat} {es : List E3} {d : List Int} {R : Bool → Prop} (hl : es.length ≤ 1000) (hg : gcheckF n es = 0) (hc : connF n es = true) (hd : d.length = n) (hb : ∀ v, v < n → -1000 ≤ gi d v ∧ gi d v ≤ 1000)
    (h1 : Win n es d → R true) (h2 : ¬ Win n es d → R false) : pf_r36_Wins (n : Int) es d R := by
  obtain ⟨hE, hn1, hn12⟩ := gcheck_ok hg
  have hC := conn_all hg hc
  unfold pf_r36_Wins
  refine p_r17_Total (by omega) (fun i hi => by have := hb i (by omega); omega) ⟨fun h0 => h2 fun hw => ?_, fun h0 => ⟨by omega, by omega, ?_⟩⟩
  · have := win_dg hd hw; omega
  simp only [Int.toNat_natCast, List.nil_append]
  refine ⟨fun m step x b => ∃ c : Nat → Int, Bor n es d c x b ∧ step = sm n c ∧ m = (4000000 - step).toNat ∧ step ≤ 3500000 ∧ ∀ v, v < n → -2000000000 ≤ gi x v, ⟨_, fun _ => 0, bor_start hd (fun v hv => (hb v hv).2), (sm_zero n).symm, rfl, by omega, fun v hv => by have := hb v hv; omega⟩, ?_⟩
  rintro m _ x b ⟨c, hB, rfl, rfl, hst, hlo⟩
  refine ⟨fun _ => ?_, fun h => absurd (show sm n c < 10000000 by omega) h⟩
  refine p_r36_debtor (by have := hB.xl; omega) (fun hall => ⟨fun _ => h1 (bor_win hB fun v hv => hall v (by have := hB.xl; omega)), fun h => absurd (by omega) h⟩) (fun v hv hneg => ⟨fun h => absurd h (by omega), fun _ => ?_⟩)
  have hvn : v < n := by have := hB.xl; omega
  refine p_r36_all (by have := hB.bl; omega) (fun hall => ⟨fun _ => h2 (bor_loss hn1 hB fun v hv => hall v (by have := hB.bl; omega)), fun h => absurd rfl h⟩) (fun w hw hwn => ⟨fun h => (by cases h), fun _ => ?_⟩)
  have hwn' : w < n := by have := hB.bl; omega
  have hfew := bor_few hE hC hn12 (fun v hv => (hb v hv).1) hB hwn' hwn
  have htot := bor_total hn12 hfew
  have h0c : 0 ≤ sm n c := sm_nonneg hB.c0
  refine ⟨by have := hB.bl; omega, fun m u y => Cnt n (fun k => y.length = n ∧ ∀ i, i < n → gi y i = if i = v then gi x v + sm k (fun u => W es v u) else if i < k then gi x i - W es i v else gi x i) m u, Cnt.start ⟨hB.xl, fun i hi => ?_⟩, ?_⟩
  · by_cases e : i = v
    · subst e; rw [if_pos rfl]; simp [sm]
    · rw [if_neg e, if_neg (by omega)]
  rintro m' _ y ⟨k, rfl, rfl, hk, hyl, hy⟩
  simp only [Int.toNat_natCast]
  have hup := hB.up
  have hdk := deg_bound hg k v
  refine ⟨fun hlt => ⟨fun e => Cnt.next (by omega) (by omega) ⟨hyl, fun i hi => ?_⟩, fun e => ⟨by omega, ?_⟩⟩, fun hge => ?_⟩
  · have e : k = v := by omega
    subst e
    rw [hy i hi]
    by_cases e2 : i = k
    · subst e2; rw [if_pos rfl, if_pos rfl, sm, W_self]; omega
    · rw [if_neg e2, if_neg e2]
      by_cases e3 : i < k
      · rw [if_pos e3, if_pos (by omega)]
      · rw [if_neg e3, if_neg (by omega)]
  · have hkn : k < n := by omega
    have hkv : k ≠ v := by omega
    have hW := W_le50 hg k v
    have hyk : gi y k = gi x k := by rw [hy k hkn, if_neg hkv, if_neg (by omega)]
    have hyv : gi y v = gi x v + sm k (fun u => W es v u) := by rw [hy v hvn, if_pos rfl]
    have hxk := hup k hkn
    have hlk := hlo k hkn
    have hxv := hlo v hvn
    refine p_r08_Between (by omega) hg hkv ⟨i64 (by rw [hyk]; omega), by rw [List.length_set]; omega, p_r08_Between (by omega) hg hkv ⟨i64 ?_, Cnt.next (by omega) (by omega) ⟨by simp [hyl], fun i hi => ?_⟩⟩⟩
    · rw [gi_set (by omega), if_neg (fun e => hkv e.symm), hyv]; omega
    · rw [gi_set (by rw [List.length_set]; omega)]
      by_cases e2 : i = v
      · subst e2
        rw [if_pos rfl, if_pos rfl, gi_set (by omega), if_neg (fun e => hkv e.symm), hyv, sm, W_symm es i k]; omega
      · rw [if_neg e2, if_neg e2, gi_set (by omega)]
        by_cases e3 : i = k
        · subst e3; rw [if_pos rfl, if_pos (by omega), hyk]
        · rw [if_neg e3, hy i hi, if_neg e2]
          by_cases e4 : i < k
          · rw [if_pos e4, if_pos (by omega)]
          · rw [if_neg e4, if_neg (by omega)]
  · have hkn : k = n := by omega
    subst hkn
    have hB2 := bor_step hg hE hn12 hB hvn hneg hyl (fun i hi => by
      rw [hy i hi]
      by_cases e : i = v
      · rw [if_pos e, if_pos e]; rfl
      · rw [if_neg e, if_neg e, if_pos hi])
    have hcnt := bor_count (c := c) hvn
    refine ⟨i64 (by omega), (4000000 - (sm k c + 1)).toNat, by omega, _, hB2, hcnt.symm, rfl, by omega, fun i hi => ?_⟩
    have h3 := hB2.val i hi
    have h4 := hb i hi
    have h5 := sm_bound (f := fun u => W es i u * ((c i + if i = v then 1 else 0) - (c u + if u = v then 1 else 0))) (B := 20000000) (by omega) (n := k) fun u hu => by
      have hw := W_le50 hg i u
      have a1 := hB.c0 i hi
      have a2 := hB.c0 u hu
      have a3 := hfew i hi
      have a4 := hfew u hu
      have hx : -300000 ≤ (c i + if i = v then 1 else 0) - (c u + if u = v then 1 else 0) ∧ (c i + if i = v then 1 else 0) - (c u + if u = v then 1 else 0) ≤ 300000 := by
        split <;> split <;> omega
      show -20000000 ≤ W es i u * _ ∧ W es i u * _ ≤ 20000000
      generalize (c i + if i = v then 1 else 0) - (c u + if u = v then 1 else 0) = z at hx ⊢
      generalize W es i u = w at hw ⊢
      have h4 : w * z ≤ w * 300000 := Int.mul_le_mul_of_nonneg_left hx.2 hw.1
      have h5 : w * -300000 ≤ w * z := Int.mul_le_mul_of_nonneg_left hx.1 hw.1
      omega
    have h6 : Lp k es (fun j => c j + if j = v then 1 else 0) i = sm k (fun u => W es i u * ((c i + if i = v then 1 else 0) - (c u + if u = v then 1 else 0))) := rfl
    rw [h3, h6]
    omega
/-! ### Prices -/
/-- Chips more at a vertex. -/
def addAt (d : List Int) (v : Nat) (k : Int) : List Int := d.set v (gi d v + k)
theorem addAt_length (d : List Int) (v : Nat) (k : Int) : (addAt d v k).length = d.length := by simp [addAt]
theorem gi_addAt {d : List Int} {v : Nat} (hv : v < d.length) (k : Int) (i : Nat) : gi (addAt d v k) i = if i = v then gi d v + k else gi d i := by unfold addAt; rw [gi_set hv]
theorem red_addAt {n : Nat} {es : List E3} {v : Nat} {r : List Int} (hr : Red n es v r) (hl : r.length = n) (hv : v < n) (j : Int) : Red n es v (addAt r v j) := by
  refine ⟨fun u hu hne => by rw [gi_addAt (by omega), if_neg hne]; exact hr.pos u hu hne, fun S hS hex => ?_⟩
  obtain ⟨u, hu, hSu, hlt⟩ := hr.no S hS hex
  refine ⟨u, hu, hSu, ?_⟩
  rw [gi_addAt (by omega), if_neg (fun e => by rw [e, hS] at hSu; cases hSu)]
  exact hlt
/-- How many chips more at v are enough. -/
theorem win_price {n : Nat} {es : List E3} {v : Nat} {d r s : List Int} (hE : EOk n es) (hv : v < n) (hd : d.length = n) (h : Reduces n es v d r s) (j : Int) : Win n es (addAt d v j) ↔ -gi r v ≤ j := by
  have hl := h.dl
  rw [win_red hE hv (red_addAt h.red hl hv j) (s := gi s) fun u hu => ?_, gi_addAt (by omega), if_pos rfl]
  · omega
  · rw [gi_addAt (by omega), gi_addAt (by omega), h.lp u hu]
    split
    · rename_i e; rw [e, h.lp v hv]; omega
    · rfl
theorem win_zero {n : Nat} {es : List E3} {d : List Int} {v : Nat} (hv : v < d.length) : addAt d v 0 = d := by
  refine gi_ext (addAt_length _ _ _) fun i hi => ?_
  rw [gi_addAt hv]
  split
  · rename_i e; rw [e]; omega
  · rfl
/-- A reduced divisor has few chips away from q. -/
theorem red_few {n : Nat} {es : List E3} {q : Nat} {r : List Int} (hE : EOk n es) (hq : q < n) (hl : r.length = n) (hr : Red n es q r) : dg r - gi r q ≤ tot n es := by
  have h1 : ∀ v, v < n → (if v = q then 0 else gi r v) ≤ sm n (fun u => W es v u) := fun v hv => by
    by_cases e : v = q
    · rw [if_pos e]; exact sm_nonneg fun u _ => W_nonneg hE v u
    · rw [if_neg e]
      obtain ⟨x, hx, hSx, hlt⟩ := hr.no (fun x => decide (x = v)) (by simp; exact fun h => e h.symm) ⟨v, hv, by simp⟩
      have hxv : x = v := by simpa using hSx
      subst hxv
      refine Int.le_trans (Int.le_of_lt hlt) (sm_le fun u hu => ?_)
      have := W_nonneg hE x u
      show (if _ then _ else _) ≤ _
      split <;> omega
  have h2 := sm_le h1
  have h3 := sm_split (f := gi r) hq
  unfold dg tot
  rw [hl]
  have h4 : sm n (fun v => if v = q then 0 else gi r v) ≤ sm n (fun v => sm n (fun u => W es v u)) := h2
  omega

/-! ### Proofs of a win, of a loss -/
theorem given0 {n : Int} {es : List E3} {d : List Int} : givenF n es 0 d = if joinedE n es = 0 then checkF d n else joinedE n es := by
  unfold givenF joinedE
  by_cases h1 : gcheckF n es = 0
  · rw [if_pos h1, if_pos h1]
    have hn : 1 ≤ n := by
      unfold gcheckF at h1
      split at h1
      · omega
      · omega
    by_cases h2 : connF n es = true
    · rw [if_pos h2, if_pos h2, if_pos rfl, if_pos (by omega)]
    · rw [if_neg h2, if_neg h2, if_neg (by omega)]
  · rw [if_neg h1, if_neg h1, if_neg h1]
theorem p_r35_Given {n : Int} {es : List E3} {d : List Int} {R : Int → Prop} (hl : es.length ≤ 1000000000) (h : R (givenF n es 0 d)) : pf_r35_Given n es d R := by
  unfold pf_r35_Given
  rw [given0] at h
  exact p_r25_Joined hl ⟨fun h0 => p_r17_Check (by rwa [if_pos h0] at h), fun h0 => by rwa [if_neg h0] at h⟩
theorem p_effective_given {n : Int} {es : List E3} {d : List Int} {R : Int → Prop} (hl : es.length ≤ 1000) (hdl : d.length ≤ 1000000000) (h : R (givenF n es 0 d)) : pf_effective_given n es d R :=
  ⟨hl, hdl, fun _ _ _ => h⟩
theorem p_effective_led {n : Nat} {es : List E3} {d s : List Int} {R : List Int → Prop} (hl : es.length ≤ 1000) (hg : gcheckF n es = 0) (hdl : d.length = n) (hd : ∀ j, j < n → -1000000000000000 ≤ gi d j ∧ gi d j ≤ 1000000000000000) (hsl : s.length = n) (hs : ∀ j, j < n → -2000000000 ≤ gi s j ∧ gi s j ≤ 2000000000) (h : R (appF n es d s)) : pf_effective_led (n : Int) es d s R := by
  obtain ⟨hE, hn1, hn12⟩ := gcheck_ok hg
  unfold pf_effective_led
  refine p_slices_Clone_Divisor (by omega) ?_
  refine ⟨fun m v out => Cnt es.length (fun k => out = appF n (es.take k) d s) m v, Cnt.start (app_start hdl), ?_⟩
  rintro m _ out ⟨k, rfl, rfl, hk, rfl⟩
  simp only [Int.toNat_natCast]
  refine ⟨fun hlt => ⟨by omega, ?_⟩, fun hge => ?_⟩
  · have hlt : k < es.length := by omega
    have hx := hE _ (ge_mem hlt)
    have hf := flow_bound (x := ge es k) (s := gi s) (by omega) (hs _ (by omega)) (hs _ (by omega))
    have ha := hs (ge es k).1.toNat (by omega)
    have hb := hs (ge es k).2.1.toNat (by omega)
    have hal : (appF n (es.take k) d s).length = n := appF_length
    have h1 : ∀ j, j < n → gi (appF n (es.take k) d s) j = gi d j - Lp n (es.take k) (gi s) j := fun j hj => gi_tab _ hj
    have hbd : ∀ j, j < n → -2000000000000000 ≤ gi (appF n (es.take k) d s) j ∧ gi (appF n (es.take k) d s) j ≤ 2000000000000000 := fun j hj => by
      have := Lp_take_bound hE hs hj k (by omega)
      have := hd j hj
      rw [h1 j hj]; omega
    have b1 := hbd (ge es k).1.toNat (by omega)
    have b2 := hbd (ge es k).2.1.toNat (by omega)
    refine ⟨by omega, by omega, i64 (by omega), i64 (by omega), by omega, i64 (by omega), by rw [List.length_set]; omega, ?_, Cnt.next hlt (by omega) (edge_step hE hlt)⟩
    rw [gi_set (by omega)]
    split
    · exact i64 (by omega)
    · exact i64 (by omega)
  · have hk2 : k = es.length := by omega
    rw [hk2, List.take_length]; exact h
/-- The error of a proof that a divisor is winnable. -/
def winE (n : Int) (es : List E3) (d s : List Int) : Int := if givenF n es 0 d = 0 then (if checkF s n = 0 then (if paidF (appF n.toNat es d s) = true then 0 else 16) else checkF s n) else givenF n es 0 d
theorem p_effective_paid {d : List Int} {R : Bool → Prop} (hl : d.length ≤ 1000000000) (h0 : 0 < d.length) (h : R (paidF d)) : pf_effective_paid_v2 d R := by
  unfold pf_effective_paid_v2
  refine p_slices_Min hl h0 fun m ⟨k, hk, hm⟩ hall => ?_
  have e : decide (0 ≤ m) = paidF d := by
    rw [Bool.eq_iff_iff, decide_eq_true_eq, paidF_iff]
    exact ⟨fun h v hv => by have := hall v hv; omega, fun h => by have := h k hk; omega⟩
  rw [e]; exact h
theorem p_effective_VerifyWin {n : Int} {es : List E3} {d s : List Int} {R : Int → Prop} (hl : es.length ≤ 1000) (hdl : d.length ≤ 1000000000) (h : R (winE n es d s)) : pf_effective_VerifyWin n es d s R := by
  unfold pf_effective_VerifyWin
  unfold winE at h
  refine p_effective_given hl hdl ⟨fun h0 => ?_, fun h0 => by rwa [if_neg h0] at h⟩
  rw [if_pos h0] at h
  obtain ⟨k1, k2, k3, k4, k5⟩ := givenF_ok h0
  obtain ⟨n, rfl⟩ : ∃ n' : Nat, n = (n' : Int) := ⟨n.toNat, by omega⟩
  obtain ⟨hE, hn1, hn12⟩ := gcheck_ok k1
  obtain ⟨hdl, -, -, hdb⟩ := checkF_ok k5
  have hf : fgivenF n es s = checkF s n := by unfold fgivenF; rw [if_pos k1]
  unfold pf_effective_proof_check
  refine p_firing_Check (by omega) ⟨fun h1 => ?_, fun h1 => ?_⟩
  · rw [hf] at h1
    rw [if_pos h1] at h
    obtain ⟨hsl, -, -, hsb⟩ := checkF_ok h1
    simp only [Int.toNat_natCast] at h
    refine p_effective_led hl k1 hdl (fun j hj => by have := hdb j hj; omega) hsl (fun j hj => by have := hsb j hj; omega) (p_effective_paid (by rw [appF_length]; omega) (by rw [appF_length]; omega) ⟨fun q => ?_, fun q => ?_⟩)
    · rwa [if_pos q] at h
    · rwa [if_neg q] at h
  · rw [hf] at h1
    rw [if_neg h1] at h
    rw [hf]; exact h
/-- The error of a proof that a divisor is not winnable. -/
def LossOk (n : Int) (es : List E3) (q : Int) (d s : List Int) (e : Int) : Prop :=
  (givenF n es q d ≠ 0 ∧ e = givenF n es q d) ∨ (givenF n es q d = 0 ∧ checkF s n ≠ 0 ∧ e = checkF s n) ∨
  (givenF n es q d = 0 ∧ checkF s n = 0 ∧ (Red n.toNat es q.toNat (appF n.toNat es d s) ∧ gi (appF n.toNat es d s) q.toNat < 0) ∧ e = 0) ∨
  (givenF n es q d = 0 ∧ checkF s n = 0 ∧ ¬ (Red n.toNat es q.toNat (appF n.toNat es d s) ∧ gi (appF n.toNat es d s) q.toNat < 0) ∧ e = 16)
theorem LossOk.eq {n : Int} {es : List E3} {q : Int} {d s : List Int} {e e' : Int} (h : LossOk n es q d s e) (h' : LossOk n es q d s e') : e = e' := by
  rcases h with h | h | h | h <;> rcases h' with h' | h' | h' | h' <;> first | (exact absurd h'.2.2.1 h.2.2.1) | (exact absurd h.2.2.1 h'.2.2.1) | (rw [h.2.2.2, h'.2.2.2]; done) | (rw [h.2, h'.2]; done) | (exact absurd h'.1 h.1) | (exact absurd h.1 h'.1) | (rw [h.2.2, h'.2.2]; done) | (exact absurd h'.2.1 h.2.1) | (exact absurd h.2.1 h'.2.1)
theorem red_set {n : Nat} {es : List E3} {q : Nat} {x : List Int} (hl : x.length = n) (hq : q < n) (z : Int) : Red n es q (x.set q z) ↔ Red n es q x := by
  have hg : ∀ v, v ≠ q → gi (x.set q z) v = gi x v := fun v hv => by rw [gi_set (by omega), if_neg hv]
  constructor
  · rintro ⟨h1, h2⟩
    refine ⟨fun v hv hne => by rw [← hg v hne]; exact h1 v hv hne, fun S hS hex => ?_⟩
    obtain ⟨v, hv, hSv, hlt⟩ := h2 S hS hex
    exact ⟨v, hv, hSv, by rw [← hg v (fun e => by rw [e, hS] at hSv; cases hSv)]; exact hlt⟩
  · rintro ⟨h1, h2⟩
    refine ⟨fun v hv hne => by rw [hg v hne]; exact h1 v hv hne, fun S hS hex => ?_⟩
    obtain ⟨v, hv, hSv, hlt⟩ := h2 S hS hex
    exact ⟨v, hv, hSv, by rw [hg v (fun e => by rw [e, hS] at hSv; cases hSv)]; exact hlt⟩
theorem red_lt {n : Nat} {es : List E3} {q : Nat} {r : List Int} (hE : EOk n es) (hr : Red n es q r) {v : Nat} (hv : v < n) (hne : v ≠ q) : gi r v < deg n es v := by
  obtain ⟨x, hx, hSx, hlt⟩ := hr.no (fun x => decide (x = v)) (by simp; exact fun h => hne h.symm) ⟨v, hv, by simp⟩
  have hxv : x = v := by simpa using hSx
  subst hxv
  refine Int.lt_of_lt_of_le hlt (sm_le fun u hu => ?_)
  have := W_nonneg hE x u
  show (if _ then _ else _) ≤ _
  split <;> omega
theorem p_effective_VerifyLoss {n q : Int} {es : List E3} {d s : List Int} {R : Int → Prop} (hl : es.length ≤ 1000) (hdl : d.length ≤ 1000000000) (h : ∀ e, LossOk n es q d s e → R e) : pf_effective_VerifyLoss n es q d s R := by
  unfold pf_effective_VerifyLoss
  refine ⟨hl, hdl, fun b _ _ => ⟨fun h0 => ?_, fun h0 => h _ (.inl ⟨h0, rfl⟩)⟩⟩
  obtain ⟨k1, k2, k3, k4, k5⟩ := givenF_ok h0
  obtain ⟨n, rfl⟩ : ∃ n' : Nat, n = (n' : Int) := ⟨n.toNat, by omega⟩
  obtain ⟨q, rfl⟩ : ∃ q' : Nat, q = (q' : Int) := ⟨q.toNat, by omega⟩
  obtain ⟨hE, hn1, hn12⟩ := gcheck_ok k1
  obtain ⟨hdl, -, -, hdb⟩ := checkF_ok k5
  have hf : fgivenF n es s = checkF s n := by unfold fgivenF; rw [if_pos k1]
  unfold pf_effective_proof_check_v2
  refine p_firing_Check (by omega) ⟨fun h1 => ?_, fun h1 => ?_⟩
  · rw [hf] at h1
    obtain ⟨hsl, -, -, hsb⟩ := checkF_ok h1
    have yes : (Red n es q (appF n es d s) ∧ gi (appF n es d s) q < 0) → R 0 := fun hy => h _ (.inr (.inr (.inl ⟨h0, h1, hy, rfl⟩)))
    have nay : ¬ (Red n es q (appF n es d s) ∧ gi (appF n es d s) q < 0) → R 16 := fun hy => h _ (.inr (.inr (.inr ⟨h0, h1, hy, rfl⟩)))
    refine p_effective_led hl k1 hdl (fun j hj => by have := hdb j hj; omega) hsl (fun j hj => by have := hsb j hj; omega) ?_
    have hxl : (appF n es d s).length = n := appF_length
    generalize appF n es d s = x at yes nay hxl ⊢
    unfold pf_effective_VerifyLoss_1_v2
    simp only [Int.toNat_natCast]
    refine ⟨by omega, hl, by rw [List.length_set]; omega, fun r c1 c2 => ⟨fun hneg => ⟨fun hr => ?_, fun hr => ⟨fun q => (by cases q), fun _ => nay fun hy => ?_⟩⟩, fun hneg => ⟨fun q => (by cases q), fun _ => nay fun hy => hneg hy.2⟩⟩⟩
    · have hg : givenF n es q (x.set q 0) = 0 := Classical.not_not.1 fun hne => by rw [c1 hne] at hr; cases hr
      rw [hg]
      simp only [Int.toNat_natCast] at c2
      exact ⟨fun _ => yes ⟨(red_set hxl (by omega) 0).1 ((c2 hg).1 hr), hneg⟩, fun q => absurd (decide_eq_true rfl) q⟩
    · have hc : checkF (x.set q 0) n = 0 := checkF_of (by rw [List.length_set, hxl]) hn1 hn12 fun j hj => by
        rw [gi_set (by omega)]
        split
        · omega
        · rename_i e
          have a1 := hy.1.pos j hj e
          have a2 := red_lt hE hy.1 hj e
          have a3 := deg_le k1 hn12 (n := n) j
          omega
      have hg : givenF n es q (x.set q 0) = 0 := by unfold givenF; rw [if_pos k1, if_pos k2, if_pos ⟨k3, k4⟩, hc]
      simp only [Int.toNat_natCast] at c2
      exact hr ((c2 hg).2 ((red_set hxl (by omega) 0).2 hy.1))
  · rw [hf] at h1
    rw [hf]
    exact h _ (.inr (.inl ⟨h0, h1, rfl⟩))
end Go.Proofs.YtbehbjfcenlaeaaGreat

/- What Winnable, Price and Needy come to, and their references. -/
namespace Go.Proofs.YtbehbjfcenlaeaaGreat
open Go
set_option linter.unusedVariables false
set_option linter.unusedSimpArgs false

theorem bool_of (p : Nat → Prop) : ∃ f : Nat → Bool, ∀ v, f v = true ↔ p v := ⟨fun v => @decide (p v) (Classical.propDecidable _), fun v => by simp⟩
/-- What a graph and a divisor that are right give. -/
theorem given_all {n : Nat} {es : List E3} {q : Nat} {d : List Int} (h : givenF n es q d = 0) : EOk n es ∧ 1 ≤ n ∧ n ≤ 12 ∧ gcheckF n es = 0 ∧ connF n es = true ∧ q < n ∧ d.length = n ∧ checkF d n = 0 := by
  obtain ⟨k1, k2, k3, k4, k5⟩ := givenF_ok h
  obtain ⟨hE, hn1, hn12⟩ := gcheck_ok k1
  exact ⟨hE, hn1, hn12, k1, k2, by omega, (checkF_ok k5).1, k5⟩
theorem given_at {n : Int} {es : List E3} {d : List Int} (h : givenF n es 0 d = 0) {v : Int} (hv : 0 ≤ v ∧ v < n) : givenF n es v d = 0 := by
  obtain ⟨k1, k2, k3, k4, k5⟩ := givenF_ok h
  unfold givenF
  rw [if_pos k1, if_pos k2, if_pos hv, k5]
theorem p_effective_Winnable {n : Int} {es : List E3} {d : List Int} {R : Bool → List Int → List Int → Int → Prop} (hS : Small n es d ∨ RedIn n es 0 d) (hdl : d.length ≤ 1000000000) (h0 : givenF n es 0 d ≠ 0 → R false [] [] (givenF n es 0 d))
    (h1 : givenF n es 0 d = 0 → ∀ r s, Reduces n.toNat es 0 d r s → ∀ b, (b = true ↔ Win n.toNat es d) → R b r s 0) : pf_effective_Winnable n es d R := by
  unfold pf_effective_Winnable
  refine ⟨hS, hdl, fun h => ⟨fun q => absurd q h, fun _ => h0 h⟩, fun h r s hr hrl hsl => ?_⟩
  obtain ⟨n, rfl⟩ : ∃ n' : Nat, n = (n' : Int) := ⟨n.toNat, by have := givenF_ok h; omega⟩
  obtain ⟨hE, hn1, hn12, hg, hc, -, hd, -⟩ := given_all (q := 0) h
  have e0 : (0 : Int).toNat = 0 := rfl
  simp only [Int.toNat_natCast, e0] at hr hrl hsl h1 ⊢
  refine ⟨fun _ => ⟨by omega, h1 h r s hr _ ?_⟩, fun q => absurd trivial q⟩
  rw [decide_eq_true_eq, win_red hE (by omega) hr.red hr.lp]
/-- The price of a divisor at a vertex. -/
structure PriceOk (n : Nat) (es : List E3) (d : List Int) (v : Nat) (k : Int) : Prop where
  pos : 0 ≤ k
  few : k = 0 ∨ k ≤ 18 - dg d
  iff : ∀ j, 0 ≤ j → (Win n es (addAt d v j) ↔ k ≤ j)
theorem PriceOk.eq {n : Nat} {es : List E3} {d : List Int} {v : Nat} {k k' : Int} (h : PriceOk n es d v k) (h' : PriceOk n es d v k') : k = k' := by
  have h1 := h.pos
  have h2 := h'.pos
  have h3 := (h'.iff k h1).1 ((h.iff k h1).2 (Int.le_refl _))
  have h4 := (h.iff k' h2).1 ((h'.iff k' h2).2 (Int.le_refl _))
  omega
theorem tot_few {n : Nat} {es : List E3} (hE : EOk n es) (hn : 1 ≤ n) (h12 : n ≤ 12) (hs : (es.map (·.2.2)).sum ≤ 9) : tot n es ≤ 18 := by
  have := tot_le hE hn h12; omega
theorem dg_lp {n : Nat} {es : List E3} {x d : List Int} {s : Nat → Int} (hx : x.length = n) (hd : d.length = n) (h : ∀ v, v < n → gi x v = gi d v - Lp n es s v) : dg x = dg d := by
  unfold dg
  rw [hx, hd, sm_congr (g := fun v => gi d v - Lp n es s v) h, sm_sub, Lp_total]; omega
theorem price_of {n : Nat} {es : List E3} {d r s : List Int} {v : Nat} (hE : EOk n es) (ht : tot n es ≤ 18) (hv : v < n) (hd : d.length = n) (h : Reduces n es v d r s) : PriceOk n es d v (mxF 0 (-gi r v)) := by
  have h1 := red_few hE hv h.dl h.red
  have h2 := dg_lp h.dl hd h.lp
  rw [mxF_eq]
  refine ⟨by omega, by omega, fun j hj => ?_⟩
  rw [win_price hE hv hd h]
  omega
theorem p_effective_price {n : Int} {v : Nat} {es : List E3} {d : List Int} {R : Int → Int → Prop} (hS : Small n es d) (hdl : d.length ≤ 1000000000) (hg : givenF n es v d = 0) (h : ∀ k, PriceOk n.toNat es d v k → R k 0) : pf_effective_price n es d (v : Int) R := by
  unfold pf_effective_price
  refine ⟨.inl hS, hdl, fun q => absurd hg q, fun _ r s hr hrl hsl => ⟨fun _ => ?_, fun q => absurd rfl q⟩⟩
  obtain ⟨n, rfl⟩ : ∃ n' : Nat, n = (n' : Int) := ⟨n.toNat, by have := givenF_ok hg; omega⟩
  obtain ⟨hE, hn1, hn12, hg1, hc, hv, hd, -⟩ := given_all hg
  simp only [Int.toNat_natCast] at hr hrl hsl h ⊢
  have hb := hr.bd v hv
  exact ⟨by omega, i64 (by omega), h _ (price_of hE (tot_few hE hn1 hn12 (hS.g hg1).2) hv hd hr)⟩
theorem p_effective_Price {n v : Int} {es : List E3} {d : List Int} {R : Int → Int → Prop} (hS : Small n es d) (hdl : d.length ≤ 1000000000) (h0 : givenF n es 0 d ≠ 0 → R 0 (givenF n es 0 d)) (h1 : givenF n es 0 d = 0 → ¬ (0 ≤ v ∧ v < n) → R 0 2)
    (h2 : givenF n es 0 d = 0 → ∀ v' : Nat, v = v' → v' < n.toNat → ∀ k, PriceOk n.toNat es d v' k → R k 0) : pf_effective_Price n es d v R := by
  unfold pf_effective_Price
  refine p_effective_given (by have := hS.el; omega) hdl ⟨fun hg => ?_, h0⟩
  have out : ¬ (0 ≤ v ∧ v < n) → R 0 2 := h1 hg
  refine ⟨0 ≤ v ∧ v < n, fun hv => ?_, fun q => out (by omega), fun q => ⟨fun q2 => out (by omega), fun q2 => ⟨by omega, by omega⟩⟩⟩
  obtain ⟨v', rfl⟩ : ∃ v' : Nat, v = (v' : Int) := ⟨v.toNat, by omega⟩
  exact p_effective_price hS hdl (given_at hg hv) (h2 hg v' rfl (by omega))
/-- Numbers as integers. -/
def castL (l : List Nat) : List Int := l.map fun v : Nat => (v : Int)
/-- The vertices at which one chip more is enough. -/
def NeedyOk (n : Nat) (es : List E3) (d : List Int) (out : List Int) : Prop := ∃ f : Nat → Bool, (∀ v, v < n → (f v = true ↔ Win n es (addAt d v 1))) ∧ out = castL ((List.range n).filter f)
theorem NeedyOk.eq {n : Nat} {es : List E3} {d o o' : List Int} (h : NeedyOk n es d o) (h' : NeedyOk n es d o') : o = o' := by
  obtain ⟨f, hf, rfl⟩ := h
  obtain ⟨f', hf', rfl⟩ := h'
  congr 1
  refine List.filter_congr fun v hv => ?_
  rw [List.mem_range] at hv
  rw [Bool.eq_iff_iff, hf v hv, hf' v hv]
theorem filt_yes {f : Nat → Bool} {k : Nat} (h : f k = true) : castL ((List.range (k + 1)).filter f) = castL ((List.range k).filter f) ++ [(k : Int)] := by
  unfold castL; rw [List.range_succ, List.filter_append, List.map_append]; simp [h]
theorem filt_no {f : Nat → Bool} {k : Nat} (h : f k ≠ true) : castL ((List.range (k + 1)).filter f) = castL ((List.range k).filter f) := by
  unfold castL; rw [List.range_succ, List.filter_append, List.map_append]; simp [h]
theorem filt_len (f : Nat → Bool) (k : Nat) : (castL ((List.range k).filter f)).length ≤ k := by
  unfold castL
  rw [List.length_map]
  refine Nat.le_trans (List.length_filter_le _ _) ?_
  simp
theorem p_effective_Needy {n : Int} {es : List E3} {d : List Int} {R : List Int → Int → Prop} (hS : Small n es d) (hdl : d.length ≤ 1000000000) (h0 : givenF n es 0 d ≠ 0 → R [] (givenF n es 0 d)) (h1 : givenF n es 0 d = 0 → Win n.toNat es d → R [] 15)
    (h2 : givenF n es 0 d = 0 → ¬ Win n.toNat es d → ∀ out, NeedyOk n.toNat es d out → R out 0) : pf_effective_Needy n es d R := by
  unfold pf_effective_Needy
  refine p_effective_Winnable (.inl hS) hdl (fun h => ⟨fun q => absurd q h, fun _ => h0 h⟩) (fun hg r s hr b hb => ⟨fun _ => ⟨fun hw => h1 hg (hb.1 hw), fun hw => ?_⟩, fun q => absurd rfl q⟩)
  have hnw : ¬ Win n.toNat es d := fun q => hw (hb.2 q)
  obtain ⟨n, rfl⟩ : ∃ n' : Nat, n = (n' : Int) := ⟨n.toNat, by have := givenF_ok hg; omega⟩
  obtain ⟨hE, hn1, hn12, hg1, hc, -, hd, -⟩ := given_all (q := 0) hg
  simp only [Int.toNat_natCast] at h2 hnw hr
  obtain ⟨f, hf⟩ := bool_of fun v => Win n es (addAt d v 1)
  refine ⟨fun l => ∀ (i : Nat) x, l[i]? = some x → i < n ∧ PriceOk n es d i x.1 ∧ x.2 = 0, fun l => l.length = n, ?_, fun pre out v => v = (pre.length : Int) ∧ pre.length ≤ n ∧ out = castL ((List.range pre.length).filter f), ⟨rfl, by simp, rfl⟩, ?_, ?_⟩
  · unfold pf_effective_prices_1
    refine ⟨fun m l v => v = (l.length : Int) ∧ l.length ≤ n ∧ m = n - l.length ∧ ∀ (i : Nat) x, l[i]? = some x → i < n ∧ PriceOk n es d i x.1 ∧ x.2 = 0, ⟨_, rfl, by simp, rfl, by simp⟩, ?_⟩
    rintro m l _ ⟨rfl, hl, rfl, hP⟩
    refine ⟨fun hlt => p_effective_price hS hdl (given_at hg (by omega)) fun k hk => ?_, fun hge => by omega⟩
    simp only [Int.toNat_natCast] at hk
    have hP2 : ∀ (i : Nat) x, (l ++ [(k, (0 : Int))])[i]? = some x → i < n ∧ PriceOk n es d i x.1 ∧ x.2 = 0 := fun i x hx => by
      by_cases e : i < l.length
      · rw [List.getElem?_append_left e] at hx; exact hP i x hx
      · rw [List.getElem?_append_right (by omega)] at hx
        have e2 : i = l.length := by
          have := (List.getElem?_eq_some_iff.1 hx).1
          simp at this; omega
        subst e2
        simp at hx
        subst hx
        exact ⟨by omega, hk, rfl⟩
    exact ⟨hP2, ⟨fun _ => ⟨i64 (by omega), n - (l.length + 1), by omega, by simp, by simp; omega, by simp, hP2⟩, fun q => absurd rfl q⟩, trivial⟩
  · rintro pre y y2 out v ⟨rfl, hpl, rfl⟩ hPr
    obtain ⟨hin, hpk, hy2⟩ := hPr pre.length (y, y2) (by simp)
    simp only at hpk hy2
    have h1y : (y = 1 ↔ f pre.length = true) := by
      rw [hf, hpk.iff 1 (by omega)]
      have h0n : ¬ y ≤ 0 := fun q => hnw (by have := (hpk.iff 0 (by omega)).2 q; rwa [win_zero (n := n) (es := es) (by omega)] at this)
      omega
    refine ⟨fun _ => ⟨fun e => ?_, fun e => ?_⟩, fun q => absurd hy2 q⟩
    · have := filt_len f pre.length
      refine ⟨by omega, i64 (by omega), by simp, by simp; omega, ?_⟩
      rw [List.length_append, List.length_singleton, filt_yes (h1y.1 e)]
    · refine ⟨i64 (by omega), by simp, by simp; omega, ?_⟩
      rw [List.length_append, List.length_singleton, filt_no (fun q => e (h1y.2 q))]
  · rintro ys out v ⟨rfl, hpl, rfl⟩ hlen
    rw [hlen]
    exact h2 hg hnw _ ⟨f, fun v _ => hf v, rfl⟩
/-! ### The reference -/
end Go.Proofs.YtbehbjfcenlaeaaGreat

/- What firing a set comes to. -/
namespace Go.Proofs.YtbehbjfcenlaeaaGreat
open Go
set_option linter.unusedVariables false
set_option linter.unusedSimpArgs false

section
variable {n : Nat} {es : List E3} {d : List Int} {set : List Int}
end
/-! ### Sets as lists -/
end Go.Proofs.YtbehbjfcenlaeaaGreat

/- Words for the laws of layer 36: what its small functions come to; the chapter's examples come out right. -/
namespace Go.Proofs.YtbehbjfcenlaeaaGreat
open Go
set_option linter.unusedVariables false
set_option linter.unusedSimpArgs false

/-- Reduced, by trying all sets. -/
theorem red_of_dec {n : Nat} {es : List E3} {q : Nat} {d : List Int} (hq : q < n) (h1 : ∀ v, v < n → v ≠ q → 0 ≤ gi d v) (h2 : ∀ m, m < 2 ^ n → 1 ≤ m → m.testBit q = false → ¬ (∀ v, v < n → m.testBit v = true → outS n es m.testBit v ≤ gi d v)) : Red n es q d :=
  (tight_red hq h1).1 fun m a b c => h2 m b a c
def path3 : List E3 := [(0, 1, 1), (1, 2, 1)]
/-- A reduced form that is known. -/
theorem red_known {n : Nat} {es : List E3} {q : Nat} {d r s a t : List Int} (hg : gcheckF (n : Int) es = 0) (hq : q < n) (h : Reduces n es q d r s) (h1 : ∀ v, v < n → v ≠ q → 0 ≤ gi a v) (h2 : ∀ m, m < 2 ^ n → 1 ≤ m → m.testBit q = false → ¬ (∀ v, v < n → m.testBit v = true → outS n es m.testBit v ≤ gi a v))
    (hal : a.length = n) (htl : t.length = n) (hlp : ∀ v, v < n → gi a v = gi d v - Lp n es (gi t) v) (hz : gi t q = 0) : r = a ∧ s = t :=
  reduces_eq (gcheck_ok hg).1 hq h hal htl hlp hz (red_of_dec hq h1 h2)
theorem small_dec {n : Int} {es : List E3} {d : List Int} (h1 : es.length ≤ 40) (h2 : n ≤ 6 ∧ (es.map (·.2.2)).sum ≤ 9) (hd : d.length = n.toNat) (h3 : ∀ v, v < d.length → -200 ≤ gi d v ∧ gi d v ≤ 200) : Small n es d :=
  ⟨h1, fun _ => h2, fun _ v hv => h3 v (by omega)⟩
theorem p_l36_awake {R : Bool → Prop} (h : R true) : pf_l36_awake R := by
  unfold pf_l36_awake
  have g0 : gcheckF ((3 : Nat) : Int) [(0, 1, 1), (0, 2, 1), (1, 2, 1)] = 0 := by decide
  have g1 : gcheckF ((3 : Nat) : Int) [(0, 1, 1), (1, 2, 1)] = 0 := by decide
  refine p_effective_Winnable (.inl (small_dec (by decide) (by decide) (by decide) (by decide))) (by decide) (fun q => absurd (by decide) q) (fun _ r s hr b hb => ?_)
  obtain ⟨rfl, rfl⟩ := red_known (n := 3) (q := 0) (a := [0, 0, 1]) (t := [0, -1, -1]) g0 (by decide) hr (by decide) (by decide) (by decide) (by decide) (by decide) (by decide)
  have hb1 : b = true := hb.2 ((win_red (gcheck_ok g0).1 (by decide) hr.red hr.lp).2 (by decide))
  refine p_effective_Winnable (.inl (small_dec (by decide) (by decide) (by decide) (by decide))) (by decide) (fun q => absurd (by decide) q) (fun _ r s hr b2 hb2 => ?_)
  obtain ⟨rfl, rfl⟩ := red_known (n := 3) (q := 0) (a := [-1, 0, 1]) (t := [0, -1, -1]) g0 (by decide) hr (by decide) (by decide) (by decide) (by decide) (by decide) (by decide)
  have hnw : ¬ Win 3 [(0, 1, 1), (0, 2, 1), (1, 2, 1)] [1, -1, 0] := fun q => absurd ((win_red (gcheck_ok g0).1 (by decide) hr.red hr.lp).1 q) (by decide)
  have hb2 : ¬ b2 = true := fun q => hnw (hb2.1 q)
  refine p_effective_Needy (small_dec (by decide) (by decide) (by decide) (by decide)) (by decide) (fun q => absurd (by decide) q) (fun _ q => absurd q hnw) (fun _ _ out hout => ?_)
  obtain ⟨f, hf, rfl⟩ := hout
  have hall : ∀ v, v < 3 → f v = true := by
    intro v hv
    rw [show ((3 : Int).toNat) = 3 from rfl] at hf
    rw [hf v hv]
    have key : ∀ (d t : List Int), (∀ v, v < 3 → 0 ≤ gi d v - Lp 3 [(0, 1, 1), (0, 2, 1), (1, 2, 1)] (gi t) v) → Win 3 [(0, 1, 1), (0, 2, 1), (1, 2, 1)] d := fun d t h => ⟨gi t, h⟩
    match v, hv with
    | 0, _ => exact key _ [0, -1, -1] (by decide)
    | 1, _ => exact key _ [0, 0, 0] (by decide)
    | 2, _ => exact key _ [0, -1, 0] (by decide)
  have hfl : castL ((List.range (3 : Int).toNat).filter f) = [0, 1, 2] := by
    have e : (List.range (3 : Int).toNat).filter f = [0, 1, 2] := by
      rw [List.filter_eq_self.2 fun v hv => hall v (by simpa using hv)]; rfl
    rw [e]; rfl
  rw [hfl]
  refine p_effective_Winnable (.inl (small_dec (by decide) (by decide) (by decide) (by decide))) (by decide) (fun q => absurd (by decide) q) (fun _ r3 s3 hr3 b3 hb3 => ?_)
  have hb3 : b3 = true := hb3.2 ⟨gi [0, -3, -2], by decide⟩
  refine p_effective_Price (small_dec (by decide) (by decide) (by decide) (by decide)) (by decide) (fun q => absurd (by decide) q) (fun _ q => absurd (by decide) q) (fun _ v' hv' _ k hk => ?_)
  have hk1 : k = 1 := by
    have e : v' = 2 := by omega
    subst e
    rw [show ((3 : Int).toNat) = 3 from rfl] at hk
    have h1 : k ≤ 1 := (hk.iff 1 (by omega)).1 ⟨gi [0, -2, 0], by decide⟩
    have h0 : ¬ k ≤ 0 := fun q => by
      have := win_dg (n := 3) (by decide) ((hk.iff 0 (by omega)).2 q)
      exact absurd this (by decide)
    omega
  subst hk1 hb1 hb3
  refine ⟨True, fun _ => p_effective_VerifyWin (by decide) (by decide) ⟨fun _ => p_effective_VerifyLoss (by decide) (by decide) fun e he => ?_, fun q => absurd (by decide) q⟩, i64 (by omega), i64 (by omega), i64 (by omega), i64 (by omega), fun _ => ⟨fun _ => ⟨fun q => absurd q hb2, fun _ => ⟨fun _ => p_slices_Equal_Divisor (by decide) ⟨fun _ => p_slices_Equal_Divisor (by decide) ⟨fun _ => p_slices_Equal_intS (by decide) ⟨fun _ => ⟨fun _ => trivial, fun q => absurd rfl q⟩, fun q => absurd (by decide) q⟩, fun q => absurd (by decide) q⟩, fun q => absurd (by decide) q⟩, fun q => absurd rfl q⟩⟩, fun q => absurd rfl q⟩, fun q => absurd (by omega) q⟩
  have he0 : e = 0 := he.eq (.inr (.inr (.inl ⟨by decide, by decide, ⟨red_of_dec (n := 3) (q := 0) (by decide) (by decide) (by decide), by decide⟩, rfl⟩)))
  rw [decide_eq_true he0]
  exact h
end Go.Proofs.YtbehbjfcenlaeaaGreat

/- What ref25's functions compute by the rule of Cramer. -/
namespace Go.Proofs.YtbehbjfcenlaeaaGreat
open Go
set_option linter.unusedVariables false
set_option linter.unusedSimpArgs false

theorem gi_snc (s : List Int) (x : Int) {j : Nat} (hj : j < s.length + 1) : gi (s ++ [x]) j = if j = s.length then x else gi s j := by
  unfold gi
  by_cases e : j = s.length
  · subst e; simp
  · rw [if_neg e]; simp only [List.getD_eq_getElem?_getD]; rw [List.getElem?_append_left (by omega)]
theorem tab_succ (f : Nat → Int) (n : Nat) : tab f (n + 1) = tab f n ++ [f n] := by simp [tab, List.range_succ]
/-- A list of rows. -/
def rws (f : Nat → List Int) (n : Nat) : List (List Int) := (List.range n).map f
theorem rws_succ (f : Nat → List Int) (n : Nat) : rws f (n + 1) = rws f n ++ [f n] := by simp [rws, List.range_succ]
theorem rws_length (f : Nat → List Int) (n : Nat) : (rws f n).length = n := by simp [rws]
theorem gx_rws (f : Nat → List Int) {n i : Nat} (hi : i < n) : gx (rws f n) i = f i := by rw [gx_of_lt (by rw [rws_length]; exact hi)]; simp [rws]
/-- How many of the first j numbers are not k. -/
def cn (k j : Nat) : Nat := if j ≤ k then j else j - 1
theorem cn_same (k : Nat) : cn k (k + 1) = cn k k := by unfold cn; rw [if_neg (by omega), if_pos (Nat.le_refl _)]; omega
theorem cn_next {k j : Nat} (h : j ≠ k) : cn k (j + 1) = cn k j + 1 := by unfold cn; split <;> split <;> omega
theorem sk_cn {k j : Nat} (h : j ≠ k) : sk k (cn k j) = j := by unfold sk cn; split <;> split <;> omega
theorem cn_zero (k : Nat) : cn k 0 = 0 := by unfold cn; rw [if_pos (Nat.zero_le _)]
theorem cn_all {k m : Nat} (h : k ≤ m) : cn k (m + 1) = m := by unfold cn; rw [if_neg (by omega)]; omega
theorem cn_le (k j : Nat) : cn k j ≤ j := by unfold cn; split <;> omega
/-- A table with the entries of a matrix. -/
def Tbl (m : Nat) (l : List (List Int)) (T : Mat) : Prop := l.length = m ∧ ∀ i, i < m → (gx l i).length = m ∧ ∀ k, k < m → gi (gx l i) k = T i k
theorem det_le {m : Nat} {T : Mat} (hm : m ≤ 5) (hT : ∀ i j, i < m → j < m → -1000 ≤ T i j ∧ T i j ≤ 1000) : -120000000000000000 ≤ detF m T ∧ detF m T ≤ 120000000000000000 := by
  have h := det_bound (B := 1000) (by omega) hT
  have e : fct m * 1000 ^ m ≤ 120000000000000000 := by
    rcases (by omega : m = 0 ∨ m = 1 ∨ m = 2 ∨ m = 3 ∨ m = 4 ∨ m = 5) with rfl | rfl | rfl | rfl | rfl | rfl <;> decide
  omega
theorem det_le4 {m : Nat} {T : Mat} (hm : m ≤ 4) (hT : ∀ i j, i < m → j < m → -1000 ≤ T i j ∧ T i j ≤ 1000) : -24000000000000 ≤ detF m T ∧ detF m T ≤ 24000000000000 := by
  have h := det_bound (B := 1000) (by omega) hT
  have e : fct m * 1000 ^ m ≤ 24000000000000 := by
    rcases (by omega : m = 0 ∨ m = 1 ∨ m = 2 ∨ m = 3 ∨ m = 4) with rfl | rfl | rfl | rfl | rfl <;> decide
  omega
theorem p_r25_det : ∀ {m : Nat} {l : List (List Int)} {T : Mat} {R : Int → Prop}, m ≤ 5 → Tbl m l T → (∀ i j, i < m → j < m → -1000 ≤ T i j ∧ T i j ≤ 1000) → R (detF m T) → pf_r25_det (m + 1) l R
  | 0, l, T, R, _, hl, _, h => ⟨fun _ => h, fun q => absurd (by rw [hl.1]; rfl) q⟩
  | m + 1, l, T, R, hm, hl, hT, h => by
    obtain ⟨hll, hrow⟩ := hl
    rw [pf_r25_det]
    unfold pfr_r25_det
    have hTm : ∀ k, k < m + 1 → ∀ i j, i < m → j < m → -1000 ≤ minor T k i j ∧ minor T k i j ≤ 1000 := fun k hk i j hi hj => hT _ _ (by omega) (sk_lt hj)
    have hterm : ∀ k, k < m + 1 → -24000000000000000 ≤ sgn k * T 0 k * detF m (minor T k) ∧ sgn k * T 0 k * detF m (minor T k) ≤ 24000000000000000 := fun k hk => by
      have h1 := det_le4 (by omega) (hTm k hk)
      have h2 := hT 0 k (by omega) hk
      have h3 : -1000 ≤ sgn k * T 0 k ∧ sgn k * T 0 k ≤ 1000 := by unfold sgn; split <;> omega
      exact abs_mul h3 h1
    refine ⟨fun e => absurd e (by rw [hll]; omega), fun _ => ?_⟩
    rw [hll]
    refine ⟨fun m2 v v2 v3 => Cnt (m + 1) (fun k => v = sm k (fun k => sgn k * T 0 k * detF m (minor T k)) ∧ v2 = sgn k) m2 v3, Cnt.start ⟨rfl, rfl⟩, ?_⟩
    rintro m2 v v2 _ ⟨k, rfl, rfl, hk, rfl, rfl⟩
    simp only [Int.toNat_natCast]
    refine ⟨fun hlt => ?_, fun hge => ?_⟩
    · have hlt : k < m + 1 := by omega
      refine ⟨fun m3 v4 v5 => Cnt (m + 1) (fun i => 1 ≤ i ∧ v4 = rws (fun r => tab (fun c => T (r + 1) (sk k c)) m) (i - 1)) m3 v5, ⟨m, 1, by omega, rfl, by omega, by omega, rfl⟩, ?_⟩
      rintro m3 v4 _ ⟨i, rfl, rfl, hi, hi1, rfl⟩
      simp only [Int.toNat_natCast]
      refine ⟨fun hlti => ?_, fun hgei => ?_⟩
      · have hlti : i < m + 1 := by omega
        obtain ⟨hrl, hre⟩ := hrow i hlti
        refine ⟨fun m4 v6 v7 => Cnt (m + 1) (fun j => v6 = tab (fun c => T i (sk k c)) (cn k j)) m4 v7, Cnt.start (by rw [cn_zero]; rfl), ?_⟩
        rintro m4 v6 _ ⟨j, rfl, rfl, hj, rfl⟩
        simp only [Int.toNat_natCast]
        refine ⟨fun hltj => ⟨fun e => ?_, fun e => ?_⟩, fun hgej => ?_⟩
        · have e : j = k := by omega
          subst e
          exact Cnt.next (by omega) (by omega) (by rw [cn_same])
        · have e : j ≠ k := by omega
          have := cn_le k j
          refine ⟨by omega, by omega, by rw [tab_length]; omega, Cnt.next (by omega) (by omega) ?_⟩
          rw [cn_next e, tab_succ, sk_cn e, hre j (by omega)]
        · have e : j = m + 1 := by omega
          subst e
          refine ⟨by rw [rws_length]; omega, Cnt.next hlti (by omega) ⟨by omega, ?_⟩⟩
          rw [cn_all (by omega), show i + 1 - 1 = i - 1 + 1 by omega, rws_succ, show i - 1 + 1 = i by omega]
      · have e : i = m + 1 := by omega
        subst e
        obtain ⟨hrl, hre⟩ := hrow 0 (by omega)
        have ht := hterm k hlt
        have h2 := hT 0 k (by omega) hlt
        have hsg : sgn k = 1 ∨ sgn k = -1 := by unfold sgn; split <;> simp
        have hs1 : sgn (k + 1) = - sgn k := sgn_succ k
        have hb := sm_bound (f := fun k => sgn k * T 0 k * detF m (minor T k)) (B := 24000000000000000) (by omega) (n := k) fun j hj => hterm j (by omega)
        have hkb : (k : Int) * 24000000000000000 ≤ 5 * 24000000000000000 := by omega
        simp only [Int.toNat_zero]
        rw [hre k hlt]
        refine ⟨by omega, by omega, fun e0 => ⟨i64 (by omega), Cnt.next hlt (by omega) ⟨?_, hs1.symm⟩⟩, fun e0 => ⟨?_, ?_⟩⟩
        · rw [sm, e0, Int.mul_zero, Int.zero_mul, Int.add_zero]
        · rcases hsg with e | e <;> rw [e] <;> exact i64 (by omega)
        · refine p_r25_det (T := minor T k) (by omega) ⟨by rw [rws_length]; omega, fun i hi => ?_⟩ (hTm k hlt) ⟨i64 (by omega), i64 (by omega), i64 (by omega), Cnt.next hlt (by omega) ⟨?_, hs1.symm⟩⟩
          · rw [gx_rws _ (by omega)]
            exact ⟨tab_length _ _, fun c hc => by rw [gi_tab _ hc]; rfl⟩
          · rw [sm]
    · have e : k = m + 1 := by omega
      subst e
      exact h
/-- The entries of ref25's table. -/
def entT (n : Nat) (es : List E3) (col : Int) (d : List Int) (i k : Nat) : Int := if (k : Int) = col then gi d i else if k = i then deg n es i else - W es i k
theorem p_r25_table {m q : Nat} {es : List E3} {col : Int} {d : List Int} {R : List (List Int) → Prop} (hm : m ≤ 11) (hl : es.length ≤ 1000000000) (hg : gcheckF ((m + 1 : Nat) : Int) es = 0) (hq : q ≤ m) (hdl : d.length = m + 1)
    (h : ∀ l, Tbl m l (fun r c => entT (m + 1) es col d (sk q r) (sk q c)) → R l) : pf_r25_table ((m + 1 : Nat) : Int) es (q : Int) col d R := by
  unfold pf_r25_table
  refine ⟨fun m2 v v2 => Cnt (m + 1) (fun i => v = rws (fun r => tab (fun c => entT (m + 1) es col d (sk q r) (sk q c)) m) (cn q i)) m2 v2, Cnt.start (by rw [cn_zero]; rfl), ?_⟩
  rintro m2 v _ ⟨i, rfl, rfl, hi, rfl⟩
  simp only [Int.toNat_natCast]
  refine ⟨fun hlt => ⟨fun e => ?_, fun e => ?_⟩, fun hge => ?_⟩
  · have e : i = q := by omega
    subst e
    exact Cnt.next (by omega) (by omega) (by rw [cn_same])
  · have e : i ≠ q := by omega
    refine ⟨fun m3 v3 v4 => Cnt (m + 1) (fun k => v3 = tab (fun c => entT (m + 1) es col d i (sk q c)) (cn q k)) m3 v4, Cnt.start (by rw [cn_zero]; rfl), ?_⟩
    rintro m3 v3 _ ⟨k, rfl, rfl, hk, rfl⟩
    simp only [Int.toNat_natCast]
    refine ⟨fun hltk => ⟨fun e2 => ?_, fun e2 => ?_⟩, fun hgek => ?_⟩
    · have e2 : k = q := by omega
      subst e2
      exact Cnt.next (by omega) (by omega) (by rw [cn_same])
    · have e2 : k ≠ q := by omega
      have hle := cn_le q k
      have hnx : tab (fun c => entT (m + 1) es col d i (sk q c)) (cn q (k + 1)) = tab (fun c => entT (m + 1) es col d i (sk q c)) (cn q k) ++ [entT (m + 1) es col d i k] := by
        rw [cn_next e2, tab_succ, sk_cn e2]
      refine ⟨fun e3 => ?_, fun e3 => ⟨fun e4 => ?_, fun e4 => ?_⟩⟩
      · refine ⟨by omega, by rw [tab_length]; omega, Cnt.next (by omega) (by omega) ?_⟩
        rw [hnx]; unfold entT; rw [if_pos e3]
      · have e4 : k = i := by omega
        refine p_r08_Valence hl hg ⟨by rw [tab_length]; omega, Cnt.next (by omega) (by omega) ?_⟩
        rw [hnx]; unfold entT; rw [if_neg e3, if_pos e4]
      · have e4 : k ≠ i := by omega
        have := W_le50 hg i k
        refine p_r08_Between hl hg (fun x => e4 x.symm) ⟨i64 (by omega), by rw [tab_length]; omega, Cnt.next (by omega) (by omega) ?_⟩
        rw [hnx]; unfold entT; rw [if_neg e3, if_neg e4]
    · have ek : k = m + 1 := by omega
      subst ek
      have hle := cn_le q i
      refine ⟨by rw [rws_length]; omega, Cnt.next (by omega) (by omega) ?_⟩
      rw [cn_next e, rws_succ, sk_cn e, cn_all hq]
  · have ei : i = m + 1 := by omega
    subst ei
    rw [cn_all hq]
    exact h _ ⟨rws_length _ _, fun r hr => by rw [gx_rws _ hr]; exact ⟨tab_length _ _, fun c hc => gi_tab _ hc⟩⟩
section
variable {m q : Nat} {es : List E3}
theorem ent_red (d : List Int) : (fun r c => entT (m + 1) es (-1) d (sk q r) (sk q c)) = redM (m + 1) es q := by
  funext r c
  unfold entT redM
  rw [if_neg (by omega)]
  by_cases e : r = c
  · subst e; rw [if_pos rfl, if_pos rfl]
  · rw [if_neg e, if_neg fun h => e (sk_inj h).symm]
theorem ent_col (d : List Int) {v : Nat} (hv : v ≠ q) : (fun r c => entT (m + 1) es (v : Int) d (sk q r) (sk q c)) = repl (redM (m + 1) es q) (pd q v) fun i => gi d (sk q i) := by
  funext r c
  unfold entT repl redM
  by_cases e0 : c = pd q v
  · rw [if_pos e0, if_pos (by rw [(sk_eq hv).2 e0])]
  · rw [if_neg e0, if_neg (fun h => e0 ((sk_eq hv).1 (by omega)))]
    by_cases e : r = c
    · subst e; rw [if_pos rfl, if_pos rfl]
    · rw [if_neg e, if_neg fun h => e (sk_inj h).symm]
theorem ent_bound (hg : gcheckF ((m + 1 : Nat) : Int) es = 0) (hm : m ≤ 11) {d : List Int} (hd : ∀ j, j < m + 1 → -1000 ≤ gi d j ∧ gi d j ≤ 1000) (col : Int) {i k : Nat} (hi : i < m + 1) : -1000 ≤ entT (m + 1) es col d i k ∧ entT (m + 1) es col d i k ≤ 1000 := by
  have h1 := hd i hi
  have h2 := W_le50 hg i k
  have h3 := deg_bound hg (m + 1) i
  unfold entT deg
  split
  · exact h1
  · split <;> omega
theorem tdiv_i64 {x n : Int} (h : -120000000000000000 ≤ x ∧ x ≤ 120000000000000000) : In64 (x.tdiv n) := by
  have h1 : (x.tdiv n).natAbs ≤ x.natAbs := by rw [Int.natAbs_tdiv]; exact Nat.div_le_self _ _
  exact i64 (by omega)
variable (hl : es.length ≤ 1000000000) (hg : gcheckF ((m + 1 : Nat) : Int) es = 0) (hc : connF ((m + 1 : Nat) : Int) es = true) (hm : m ≤ 5) (hq : q ≤ m) {d : List Int} (hdl : d.length = m + 1) (hd : ∀ j, j < m + 1 → -1000 ≤ gi d j ∧ gi d j ≤ 1000)
include hl hg hc hm hq hdl hd
theorem p_r25_Solve {R : List Int → Bool → Prop} (h1 : ∀ s : List Int, s.length = m + 1 → gi s q = 0 → (∀ v, v < m + 1 → Lp (m + 1) es (gi s) v = gi d v) → R s true)
    (h2 : (¬ ∃ t : Nat → Int, ∀ v, v < m + 1 → Lp (m + 1) es t v = gi d v) → R [] false) : pf_r25_Solve ((m + 1 : Nat) : Int) es (q : Int) d R := by
  obtain ⟨hE, hn1, hn12⟩ := gcheck_ok hg
  have hE : EOk (m + 1) es := hE
  have hC : Conn (m + 1) es q := (conn_iff hE hn1 hn12 (by omega)).1 hc
  have hN := redM_ne hE hC hq
  unfold pf_r25_Solve
  refine p_r17_Total (by omega) (fun i hi => by have := hd i (by omega); omega) ⟨fun e0 => ?_, fun e0 => h2 ?_⟩
  · have hdM := det_le (m := m) (T := redM (m + 1) es q) hm fun i j hi hj => by
      rw [← ent_red d]; exact ent_bound hg (by omega) hd _ (sk_lt hi)
    refine p_r25_table (by omega) hl hg hq hdl fun l hT => ⟨m + 1, p_r25_det hm hT (fun i j hi hj => ent_bound hg (by omega) hd _ (sk_lt hi)) ?_⟩
    rw [ent_red]
    generalize hNN : detF m (redM (m + 1) es q) = N at hN
    refine ⟨fun m2 s v => Cnt (m + 1) (fun k => s.length = k ∧ ∀ j, j < k → if j = q then gi s j = 0 else xF m es q (gi d) j = gi s j * N) m2 v, Cnt.start ⟨rfl, fun j hj => absurd hj (by omega)⟩, ?_⟩
    rintro m2 s _ ⟨k, rfl, rfl, hk, hsl, hs⟩
    have happ : ∀ x : Int, (if k = q then x = 0 else xF m es q (gi d) k = x * N) → ∀ j, j < k + 1 → if j = q then gi (s ++ [x]) j = 0 else xF m es q (gi d) j = gi (s ++ [x]) j * N := fun x hx j hj => by
      rw [gi_snc s x (by omega), hsl]
      by_cases e : j = k
      · subst e; rw [if_pos rfl]; exact hx
      · rw [if_neg e]; exact hs j (by omega)
    refine ⟨fun hlt => ⟨fun e => ?_, fun e => ?_⟩, fun hge => ?_⟩
    · exact ⟨by omega, Cnt.next (by omega) (by omega) ⟨by simp [hsl], happ 0 (by rw [if_pos (by omega)])⟩⟩
    · have e : k ≠ q := by omega
      have hxM := det_le (m := m) (T := fun r c => entT (m + 1) es (k : Int) d (sk q r) (sk q c)) hm fun i j hi hj => ent_bound hg (by omega) hd _ (sk_lt hi)
      refine p_r25_table (by omega) hl hg hq hdl fun l2 hT2 => ⟨m + 1, p_r25_det hm hT2 (fun i j hi hj => ent_bound hg (by omega) hd _ (sk_lt hi)) ?_⟩
      rw [ent_col d e] at hxM ⊢
      refine ⟨hN, fun hx => ?_, fun hx => h2 ?_⟩
      · refine ⟨tdiv_i64 hxM, by omega, Cnt.next (by omega) (by omega) ⟨by simp [hsl], happ _ ?_⟩⟩
        rw [if_neg e]
        have := Int.tmod_add_mul_tdiv (detF m (repl (redM (m + 1) es q) (pd q k) fun i => gi d (sk q i))) N
        show detF m (repl (redM (m + 1) es q) (pd q k) fun i => gi d (sk q i)) = _
        rw [Int.mul_comm]; omega
      · rintro ⟨t, ht⟩
        apply hx
        have h3 := solve_fwd (m := m) (es := es) hq (t := fun i => t i + - t q) (d := gi d) (by show t q + - t q = 0; omega) (fun v hv _ => by rw [Lp_add, Lp_const, ht v hv]; omega) (v := k) (by omega) e
        rw [hNN] at h3
        show (xF m es q (gi d) k).tmod N = 0
        rw [h3]; exact Int.mul_tmod_left _ _
    · have hk : k = m + 1 := by omega
      subst hk
      have hsq : gi s q = 0 := by have := hs q (by omega); rwa [if_pos rfl] at this
      have hoff : ∀ v, v < m + 1 → v ≠ q → Lp (m + 1) es (gi s) v = gi d v := fun v hv hvq => solve_bwd hE hC hq hsq (fun v hv hvq => by
        have := hs v hv
        rw [if_neg hvq] at this
        rw [this, hNN]) hv hvq
      refine h1 s hsl hsq fun v hv => ?_
      by_cases e : v = q
      · subst e
        have t1 := Lp_total (n := m + 1) (es := es) (gi s)
        unfold dg at e0
        rw [hdl] at e0
        rw [sm_split hv] at t1 e0
        rw [sm_congr (g := fun u => if u = v then 0 else gi d u) fun u hu => by
          by_cases e : u = v
          · rw [if_pos e, if_pos e]
          · rw [if_neg e, if_neg e, hoff u hu e]] at t1
        omega
      · exact hoff v hv e
  · rintro ⟨t, ht⟩
    apply e0
    unfold dg
    rw [hdl, ← Lp_total (n := m + 1) (es := es) t]
    exact sm_congr fun v hv => (ht v hv).symm
end
theorem p_r25_Alike {m : Nat} {es : List E3} {a b : List Int} {R : Bool → Prop} (hl : es.length ≤ 1000000000) (hg : gcheckF ((m + 1 : Nat) : Int) es = 0) (hc : connF ((m + 1 : Nat) : Int) es = true) (hm : m ≤ 5) (hal : a.length = m + 1) (hbl : b.length = m + 1)
    (hab : ∀ j, j < m + 1 → -900 ≤ gi a j ∧ gi a j ≤ 900 ∧ -100 ≤ gi b j ∧ gi b j ≤ 100)
    (h1 : (∃ t : Nat → Int, ∀ v, v < m + 1 → Lp (m + 1) es t v = gi a v - gi b v) → R true)
    (h2 : (¬ ∃ t : Nat → Int, ∀ v, v < m + 1 → Lp (m + 1) es t v = gi a v - gi b v) → R false) : pf_r25_Alike ((m + 1 : Nat) : Int) es a b R := by
  have hp : ∀ j, j < m + 1 → gi (plusF a b (-1)) j = gi a j - gi b j := fun j hj => by unfold plusF; rw [gi_tab _ (by omega)]; omega
  refine p_r25_Plus (by omega) (by omega) (by omega) (fun j hj => by have := hab j (by omega); omega) (fun j hj => by have := hab j (by omega); omega) ?_
  refine p_r25_Solve (q := 0) hl hg hc hm (by omega) (by unfold plusF; rw [tab_length]; exact hal) (fun j hj => by rw [hp j hj]; have := hab j hj; omega) (fun s hsl hs0 hs => h1 ⟨gi s, fun v hv => by rw [hs v hv, hp v hv]⟩) (fun hno => h2 fun ⟨t, ht⟩ => hno ⟨t, fun v hv => by rw [ht v hv, hp v hv]⟩)
end Go.Proofs.YtbehbjfcenlaeaaGreat

/- What ref25's and ref34's functions compute that try all configurations. -/
namespace Go.Proofs.YtbehbjfcenlaeaaGreat
open Go
set_option linter.unusedVariables false
set_option linter.unusedSimpArgs false

theorem sm_only_le {n a : Nat} {c : Int} (hc : 0 ≤ c) {f : Nat → Int} (h : ∀ u, u < n → f u ≤ if u = a then c else 0) : sm n f ≤ c := by
  refine Int.le_trans (sm_le h) ?_
  by_cases ha : a < n
  · rw [sm_one _ ha]; exact Int.le_refl _
  · rw [sm_congr (g := fun _ => 0) fun u hu => if_neg (by omega), sm_zero]; exact hc
theorem deg_le_sum : ∀ {es : List E3}, (∀ x ∈ es, 0 ≤ x.2.2) → ∀ n v, deg n es v ≤ (es.map (·.2.2)).sum
  | [], _, n, v => by unfold deg; rw [sm_congr (g := fun _ => 0) fun u _ => W_nil v u, sm_zero]; simp
  | x :: es, h, n, v => by
    have h1 := deg_le_sum (es := es) (fun y hy => h y (by simp [hy])) n v
    have hx := h x (by simp)
    unfold deg at h1 ⊢
    rw [sm_congr fun u _ => W_cons x es v u, sm_add, List.map_cons, List.sum_cons]
    have h2 : sm n (w1 x v) ≤ x.2.2 := sm_only_le (a := (x.1 + x.2.1 - v).toNat) hx fun u hu => by
      unfold w1
      split
      · rw [if_pos (by omega)]; exact Int.le_refl _
      · split <;> omega
    exact Int.add_le_add h2 h1
theorem upto_skip (f : Nat → Int) {k n : Nat} (h : f k = 0) : upto f (k + 1) n = upto f k n := by
  unfold upto
  refine List.map_congr_left fun i _ => ?_
  by_cases e : i = k
  · subst e; rw [if_pos (by omega), if_neg (by omega), h]
  · by_cases c : i < k
    · rw [if_pos c, if_pos (by omega)]
    · rw [if_neg c, if_neg (by omega)]
/-- ref25's greatest stable configuration. -/
def topF (n : Nat) (es : List E3) (q : Nat) (v : Nat) : Int := if v = q then 0 else deg n es v - 1
section
variable {n : Nat} {es : List E3} {q : Nat}
theorem p_r25_Greatest {R : List Int → Prop} (hl : es.length ≤ 1000000000) (hg : gcheckF n es = 0) (h : R (tab (topF n es q) n)) : pf_r25_Greatest (n : Int) es (q : Int) R := by
  obtain ⟨hE, hn1, hn12⟩ := gcheck_ok hg
  unfold pf_r25_Greatest
  refine ⟨by omega, fun m2 v out => Cnt n (fun k => out = upto (topF n es q) k n) m2 v, Cnt.start (upto_zero _ _).symm, ?_⟩
  rintro m2 _ out ⟨k, rfl, rfl, hk, rfl⟩
  simp only [Int.toNat_natCast]
  refine ⟨fun hlt => ⟨fun e => ?_, fun e => ?_⟩, fun hge => ?_⟩
  · exact Cnt.next (by omega) (by omega) (upto_skip _ (if_pos (by omega))).symm
  · have hd := deg_bound hg n k
    refine p_r08_Valence hl hg ⟨?_, by rw [upto_length]; omega, Cnt.next (by omega) (by omega) ?_⟩
    · unfold deg; exact i64 (by omega)
    · have : deg n es k - 1 = topF n es q k := (if_neg (by omega)).symm
      rw [this]; exact upto_set _ (by omega)
  · have e : k = n := by omega
    subst e
    rw [upto_all]; exact h
/-- A superstable configuration. -/
structure CalmF (n : Nat) (es : List E3) (q : Nat) (d : List Int) : Prop where
  nn : ∀ v, v < n → 0 ≤ gi d v
  sq : gi d q = 0
  red : Red n es q d
theorem p_r25_Calm {d : List Int} {R : Bool → Prop} (hl : es.length ≤ 1000) (hg : gcheckF n es = 0) (hdn : d.length = n) (hq : q < n) (h1 : CalmF n es q d → R true) (h2 : ¬ CalmF n es q d → R false) : pf_r25_Calm (n : Int) es (q : Int) d R := by
  obtain ⟨hE, hn1, hn12⟩ := gcheck_ok hg
  unfold pf_r25_Calm
  refine ⟨fun m2 v => Cnt n (fun k => ∀ j, j < k → 0 ≤ gi d j ∧ (j = q → gi d j = 0)) m2 v, Cnt.start (fun j hj => absurd hj (by omega)), ?_⟩
  rintro m2 _ ⟨k, rfl, rfl, hk, hinv⟩
  simp only [Int.toNat_natCast]
  have hnx : 0 ≤ gi d k ∧ (k = q → gi d k = 0) → ∀ j, j < k + 1 → 0 ≤ gi d j ∧ (j = q → gi d j = 0) := fun h j hj => by
    by_cases e : j = k
    · subst e; exact h
    · exact hinv j (by omega)
  refine ⟨fun hlt => ⟨by omega, fun hneg => h2 fun hC => ?_, fun hneg => ⟨fun e => ⟨fun e0 => Cnt.next (by omega) (by omega) (hnx ⟨by omega, fun _ => e0⟩), fun e0 => h2 fun hC => e0 ?_⟩, fun e => Cnt.next (by omega) (by omega) (hnx ⟨by omega, fun e1 => absurd e1 (by omega)⟩)⟩⟩, fun hge => ?_⟩
  · have := hC.nn k (by omega); omega
  · have e : k = q := by omega
    subst e; exact hC.sq
  · have e : k = n := by omega
    subst e
    have hpos : ∀ v, v < k → v ≠ q → 0 ≤ gi d v := fun v hv _ => (hinv v hv).1
    exact p_r25_Tight hl hg hdn hq (fun ht => h1 ⟨fun v hv => (hinv v hv).1, (hinv q hq).2 rfl, (tight_red hq hpos).1 ht⟩) (fun ht => h2 fun hr => ht ((tight_red hq hpos).2 hr.red))
/-- A list of k numbers up to t. -/
def Cfg (t : Nat → Int) (k : Nat) (x : List Int) : Prop := x.length = k ∧ ∀ j, j < k → 0 ≤ gi x j ∧ gi x j ≤ t j
theorem take_gx {v : List (List Int)} {i : Nat} (h : i < v.length) : v.take (i + 1) = v.take i ++ [gx v i] := by
  rw [gx_of_lt h, List.take_add_one, List.getElem?_eq_getElem h]; rfl
theorem Cfg.snoc {t : Nat → Int} {k : Nat} {y : List Int} : Cfg t (k + 1) y ↔ ∃ x c, Cfg t k x ∧ 0 ≤ c ∧ c ≤ t k ∧ y = x ++ [c] := by
  constructor
  · rintro ⟨h1, h2⟩
    refine ⟨y.take k, gi y k, ⟨by simp; omega, fun j hj => ?_⟩, (h2 k (by omega)).1, (h2 k (by omega)).2, ?_⟩
    · have : gi (y.take k) j = gi y j := by unfold gi; simp only [List.getD_eq_getElem?_getD]; rw [List.getElem?_take_of_lt hj]
      rw [this]; exact h2 j (by omega)
    · have hk : k < y.length := by omega
      have e : y.take (k + 1) = y.take k ++ [gi y k] := by rw [List.take_add_one, List.getElem?_eq_getElem hk, gi_of_lt hk]; rfl
      rw [← e, List.take_of_length_le (by omega)]
  · rintro ⟨x, c, ⟨h1, h2⟩, h3, h4, rfl⟩
    refine ⟨by simp [h1], fun j hj => ?_⟩
    rw [gi_snc x c (by omega), h1]
    by_cases e : j = k
    · subst e; rw [if_pos rfl]; exact ⟨h3, h4⟩
    · rw [if_neg e]; exact h2 j (by omega)
theorem p_r25_Calms {R : List (List Int) → Prop} (hl : es.length ≤ 1000) (hg : gcheckF n es = 0) (hn6 : n ≤ 6) (hq : q < n) (ht : ∀ v, v < n → topF n es q v ≤ 8)
    (h : ∀ L : List (List Int), (∀ y, y ∈ L ↔ Cfg (topF n es q) n y ∧ CalmF n es q y) → L.length ≤ 1000000 → R L) : pf_r25_Calms (n : Int) es (q : Int) R := by
  obtain ⟨hE, hn1, hn12⟩ := gcheck_ok hg
  refine p_r25_Greatest (by omega) hg ?_
  generalize hT : topF n es q = t at *
  refine ⟨fun m2 v v2 => Cnt n (fun k => v.length ≤ 9 ^ k ∧ ∀ y, y ∈ v ↔ Cfg t k y) m2 v2, Cnt.start ⟨Nat.le_refl _, fun y => ⟨fun hy => ?_, fun hy => ?_⟩⟩, ?_⟩
  · have : y = [] := by simpa using hy
    subst this; exact ⟨rfl, fun j hj => absurd hj (by omega)⟩
  · have : y = [] := List.eq_nil_of_length_eq_zero hy.1
    subst this; exact List.mem_cons_self
  rintro m2 v _ ⟨k, rfl, rfl, hk, hvl, hv⟩
  simp only [Int.toNat_natCast]
  have h9 : v.length ≤ 531441 := by
    have : 9 ^ k ≤ 9 ^ 6 := Nat.pow_le_pow_right (by omega) (by omega)
    omega
  refine ⟨fun hlt => ?_, fun hge => ?_⟩
  · have hlt : k < n := by omega
    have htk := ht k hlt
    refine ⟨fun m3 v3 v4 => Cnt v.length (fun i => v3.length ≤ i * 9 ∧ ∀ y, y ∈ v3 ↔ ∃ x c, x ∈ v.take i ∧ 0 ≤ c ∧ c ≤ t k ∧ y = x ++ [c]) m3 v4, Cnt.start ⟨by simp, fun y => by simp⟩, ?_⟩
    rintro m3 v3 _ ⟨i, rfl, rfl, hi, hl3, h3⟩
    simp only [Int.toNat_natCast]
    refine ⟨fun hlti => ?_, fun hgei => ?_⟩
    · have hlti : i < v.length := by omega
      refine ⟨fun m4 v5 v6 => Cnt (t k + 1).toNat (fun c => v5.length ≤ i * 9 + c ∧ ∀ y, y ∈ v5 ↔ y ∈ v3 ∨ ∃ c' : Nat, c' < c ∧ y = gx v i ++ [(c' : Int)]) m4 v6, Cnt.start ⟨by omega, fun y => by simp⟩, ?_⟩
      rintro m4 v5 _ ⟨c, rfl, rfl, hc, hl5, h5⟩
      simp only [List.nil_append]
      have hgl := (hv (gx v i)).1 (by rw [gx_of_lt hlti]; exact List.getElem_mem _)
      have hgk := hgl.1
      rw [gi_tab _ hlt, tab_length]
      refine ⟨by omega, fun hle => ⟨by omega, by omega, by omega, by omega, Cnt.next (by omega) (by omega) ⟨by simp; omega, fun y => ?_⟩⟩, fun hgt => Cnt.next hlti (by omega) ⟨by omega, fun y => ?_⟩⟩
      · rw [List.mem_append, h5, List.mem_singleton, or_assoc]
        refine or_congr_right ⟨?_, ?_⟩
        · rintro (⟨c', hc', rfl⟩ | rfl)
          · exact ⟨c', by omega, rfl⟩
          · exact ⟨c, by omega, rfl⟩
        · rintro ⟨c', hc', rfl⟩
          by_cases e : c' = c
          · subst e; exact .inr rfl
          · exact .inl ⟨c', by omega, rfl⟩
      · rw [h5, h3, take_gx hlti]
        constructor
        · rintro (⟨x, c0, hx, h01, h02, rfl⟩ | ⟨c', hc', rfl⟩)
          · exact ⟨x, c0, List.mem_append_left _ hx, h01, h02, rfl⟩
          · exact ⟨_, _, List.mem_append_right _ (List.mem_singleton.2 rfl), by omega, by omega, rfl⟩
        · rintro ⟨x, c0, hx, h01, h02, rfl⟩
          rcases List.mem_append.1 hx with hx | hx
          · exact .inl ⟨x, c0, hx, h01, h02, rfl⟩
          · rw [List.mem_singleton] at hx
            subst hx
            exact .inr ⟨c0.toNat, by omega, by rw [Int.toNat_of_nonneg h01]⟩
    · have e : i = v.length := by omega
      subst e
      refine Cnt.next hlt (by omega) ⟨?_, fun y => ?_⟩
      · rw [Nat.pow_succ]; exact Nat.le_trans hl3 (Nat.mul_le_mul_right 9 hvl)
      · rw [h3, Cfg.snoc, List.take_length]
        constructor
        · rintro ⟨x, c, hx, h01, h02, rfl⟩; exact ⟨x, c, (hv x).1 hx, h01, h02, rfl⟩
        · rintro ⟨x, c, hx, h01, h02, rfl⟩; exact ⟨x, c, (hv x).2 hx, h01, h02, rfl⟩
  · have e : k = n := by omega
    subst e
    refine ⟨fun m8 v7 v8 => Cnt v.length (fun i => v7.length ≤ i ∧ ∀ y, y ∈ v7 ↔ y ∈ v.take i ∧ CalmF k es q y) m8 v8, Cnt.start ⟨by simp, fun y => by simp⟩, ?_⟩
    rintro m8 v7 _ ⟨i, rfl, rfl, hi, hl7, h7⟩
    simp only [Int.toNat_natCast]
    refine ⟨fun hlti => ?_, fun hgei => ?_⟩
    · have hlti : i < v.length := by omega
      have hgl := (hv (gx v i)).1 (by rw [gx_of_lt hlti]; exact List.getElem_mem _)
      refine ⟨by omega, p_r25_Calm hl hg hgl.1 hq (fun hC => ⟨fun _ => ⟨by omega, Cnt.next hlti (by omega) ⟨by simp; omega, fun y => ?_⟩⟩, fun q => absurd rfl q⟩) (fun hC => ⟨fun q => (by cases q), fun _ => Cnt.next hlti (by omega) ⟨by omega, fun y => ?_⟩⟩)⟩
      · rw [List.mem_append, h7, take_gx hlti, List.mem_append, List.mem_singleton]
        constructor
        · rintro (⟨h1, h2⟩ | rfl)
          · exact ⟨.inl h1, h2⟩
          · exact ⟨.inr rfl, hC⟩
        · rintro ⟨h1 | rfl, h2⟩
          · exact .inl ⟨h1, h2⟩
          · exact .inr rfl
      · rw [h7, take_gx hlti, List.mem_append, List.mem_singleton]
        constructor
        · rintro ⟨h1, h2⟩; exact ⟨.inl h1, h2⟩
        · rintro ⟨h1 | rfl, h2⟩
          · exact ⟨h1, h2⟩
          · exact absurd h2 hC
    · have e : i = v.length := by omega
      subst e
      refine h v7 (fun y => ?_) (by omega)
      rw [h7, List.take_length, hv]
end
theorem dg_set {d : List Int} {q : Nat} (hq : q < d.length) (x : Int) : dg (d.set q x) = dg d - gi d q + x := by
  unfold dg
  rw [List.length_set, sm_split hq, sm_split hq (f := gi d), gi_set hq, if_pos rfl, sm_congr (g := fun v => if v = q then 0 else gi d v) fun v hv => by
    by_cases e : v = q
    · rw [if_pos e, if_pos e]
    · rw [if_neg e, if_neg e, gi_set hq, if_neg e]]
  omega
def flatF (d : List Int) (q : Nat) : List Int := d.set q (gi d q - dg d)
theorem dg_bound {d : List Int} {B : Int} (hB : 0 ≤ B) (h : ∀ j, j < d.length → -B ≤ gi d j ∧ gi d j ≤ B) : -(d.length * B) ≤ dg d ∧ dg d ≤ d.length * B := sm_bound hB h
theorem p_r25_Flat {d : List Int} {q : Nat} {R : List Int → Prop} (hq : q < d.length) (hl : d.length ≤ 12) (hb : ∀ i, i < d.length → -1000000000 ≤ gi d i ∧ gi d i ≤ 1000000000) (h : R (flatF d q)) : pf_r25_Flat d (q : Int) R := by
  unfold pf_r25_Flat
  simp only [List.nil_append, Int.toNat_natCast]
  have h1 := dg_bound (by omega) hb
  have h2 := hb q hq
  have h3 : (d.length : Int) * 1000000000 ≤ 12 * 1000000000 := by omega
  refine ⟨by omega, by omega, p_r17_Total (by omega) (fun i hi => by have := hb i hi; omega) ⟨i64 (by omega), h⟩⟩
/-- A script that is right away from q is right at q. -/
theorem lp_at {n : Nat} {es : List E3} {q : Nat} (hq : q < n) {f a : Nat → Int} (h0 : sm n a = 0) (h : ∀ v, v < n → v ≠ q → Lp n es f v = a v) : ∀ v, v < n → Lp n es f v = a v := by
  intro v hv
  by_cases e : v = q
  · subst e
    have t1 := Lp_total (n := n) (es := es) f
    rw [sm_split hv] at t1 h0
    rw [sm_congr (g := fun u => if u = v then 0 else a u) fun u hu => by
      by_cases e : u = v
      · rw [if_pos e, if_pos e]
      · rw [if_neg e, if_neg e, h u hu e]] at t1
    omega
  · exact h v hv e
section
variable {m q : Nat} {es : List E3} {d : List Int}
variable (hl : es.length ≤ 1000) (hg : gcheckF ((m + 1 : Nat) : Int) es = 0) (hc : connF ((m + 1 : Nat) : Int) es = true) (hm : m ≤ 5) (hq : q ≤ m) (ht : ∀ v, v < m + 1 → topF (m + 1) es q v ≤ 8) (hdl : d.length = m + 1) (hd : ∀ j, j < m + 1 → -100 ≤ gi d j ∧ gi d j ≤ 100)
include hl hg hc hm hq ht hdl hd
theorem p_r25_Settled {R : List Int → Prop} (hex : ∃ y, Cfg (topF (m + 1) es q) (m + 1) y ∧ CalmF (m + 1) es q y ∧ ∃ f : Nat → Int, ∀ v, v < m + 1 → v ≠ q → Lp (m + 1) es f v = gi d v - gi y v)
    (h : ∀ y, Cfg (topF (m + 1) es q) (m + 1) y → CalmF (m + 1) es q y → (∃ f : Nat → Int, ∀ v, v < m + 1 → v ≠ q → Lp (m + 1) es f v = gi d v - gi y v) → R y) : pf_r25_Settled ((m + 1 : Nat) : Int) es (q : Int) d R := by
  refine p_r25_Calms hl hg (by omega) (by omega) ht fun L hL hLl => ?_
  have hflat : ∀ y, y.length = m + 1 → ∀ v, v < m + 1 → gi (flatF y q) v = if v = q then gi y q - dg y else gi y v := fun y hy v hv => by unfold flatF; rw [gi_set (by omega)]
  have hfd : ∀ y, y.length = m + 1 → sm (m + 1) (gi (flatF y q)) = 0 := fun y hy => by
    have e : (flatF y q).length = m + 1 := by unfold flatF; rw [List.length_set, hy]
    have := dg_set (d := y) (q := q) (by omega) (gi y q - dg y)
    have h2 : dg (flatF y q) = sm (m + 1) (gi (flatF y q)) := by unfold dg; rw [e]
    rw [← h2]
    unfold flatF; omega
  refine ⟨fun m2 i => Cnt L.length (fun k => ∀ j, j < k → ¬ ∃ f : Nat → Int, ∀ v, v < m + 1 → v ≠ q → Lp (m + 1) es f v = gi d v - gi (gx L j) v) m2 i, Cnt.start (fun j hj => absurd hj (by omega)), ?_⟩
  rintro m2 _ ⟨i, rfl, rfl, hi, hinv⟩
  simp only [Int.toNat_natCast]
  refine ⟨fun hlt => ?_, fun hge => ?_⟩
  · have hlt : i < L.length := by omega
    obtain ⟨hy1, hy2⟩ := (hL (gx L i)).1 (by rw [gx_of_lt hlt]; exact List.getElem_mem _)
    generalize hyg : gx L i = y at hy1 hy2 ⊢
    obtain ⟨hyl, hyb⟩ := hy1
    have hyB : ∀ j, j < y.length → -8 ≤ gi y j ∧ gi y j ≤ 8 := fun j hj => by have := hyb j (by omega); have := ht j (by omega); omega
    have hyd := dg_bound (by omega) hyB
    have hdd := dg_bound (d := d) (B := 100) (by omega) (fun j hj => hd j (by omega))
    rw [hyl] at hyd
    rw [hdl] at hdd
    have hm1 : ((m + 1 : Nat) : Int) * 8 ≤ 48 := by omega
    have hm2 : ((m + 1 : Nat) : Int) * 100 ≤ 600 := by omega
    have hkey : ∀ f : Nat → Int, (∀ v, v < m + 1 → Lp (m + 1) es f v = gi (flatF d q) v - gi (flatF y q) v) ↔ (∀ v, v < m + 1 → v ≠ q → Lp (m + 1) es f v = gi d v - gi y v) := fun f => by
      constructor
      · intro hf v hv hvq
        rw [hf v hv, hflat d hdl v hv, hflat y hyl v hv, if_neg hvq, if_neg hvq]
      · intro hf
        refine lp_at (by omega : q < m + 1) (a := fun v => gi (flatF d q) v - gi (flatF y q) v) (by rw [sm_sub, hfd d hdl, hfd y hyl]; rfl) fun v hv hvq => ?_
        show _ = gi (flatF d q) v - gi (flatF y q) v
        rw [hflat d hdl v hv, hflat y hyl v hv, if_neg hvq, if_neg hvq]; exact hf v hv hvq
    refine ⟨by omega, p_r25_Flat (by omega) (by omega) (fun j hj => by have := hd j (by omega); omega) (p_r25_Flat (by omega) (by omega) (fun j hj => by have := hyB j (by omega); omega) ?_)⟩
    refine p_r25_Alike (by omega) hg hc hm (by unfold flatF; rw [List.length_set, hdl]) (by unfold flatF; rw [List.length_set, hyl]) (fun j hj => ?_) (fun ⟨f, hf⟩ => ⟨fun _ => h y ⟨hyl, hyb⟩ hy2 ⟨f, (hkey f).1 hf⟩, fun q => absurd rfl q⟩) (fun hno => ⟨fun q => (by cases q), fun _ => Cnt.next hlt (by omega) fun j hj => ?_⟩)
    · have h1 := hd j hj
      have h2 := hyB j (by omega)
      have h3 := hd q (by omega)
      have h4 := hyB q (by omega)
      rw [hflat d hdl j hj, hflat y hyl j hj]
      split <;> omega
    · by_cases e : j = i
      · rw [e, hyg]
        exact fun ⟨f, hf⟩ => hno ⟨f, (hkey f).2 hf⟩
      · exact hinv j (by omega)
  · have e : i = L.length := by omega
    subst e
    obtain ⟨y, hy1, hy2, hy3⟩ := hex
    obtain ⟨j, hj, rfl⟩ := List.getElem_of_mem ((hL y).2 ⟨hy1, hy2⟩)
    exfalso
    refine hinv j hj ?_
    rw [gx_of_lt hj]; exact hy3
end
end Go.Proofs.YtbehbjfcenlaeaaGreat

/- What the reference's Reduce comes to. -/
namespace Go.Proofs.YtbehbjfcenlaeaaGreat
open Go
set_option linter.unusedVariables false
set_option linter.unusedSimpArgs false

/-- A number, seen as a vertex. -/
theorem smallF_iff {n : Int} {es : List E3} {a b : Int} : smallF n es a b = true → es.length ≤ 40 ∧ (gcheckF n es = 0 → n ≤ a ∧ (es.map (·.2.2)).sum ≤ b) := by
  unfold smallF; rw [decide_eq_true_eq]; exact id
theorem red_set1 {n : Nat} {es : List E3} {q : Nat} {x : List Int} (hx : x.length = n) (hq : q < n) (h : Red n es q x) (c : Int) : Red n es q (x.set q c) :=
  ⟨fun v hv hvq => by rw [gi_set (by omega), if_neg hvq]; exact h.pos v hv hvq, fun S hS hex => by
    obtain ⟨v, hv, hSv, hlt⟩ := h.no S hS hex
    refine ⟨v, hv, hSv, ?_⟩
    rw [gi_set (by omega), if_neg (fun e => by rw [e, hS] at hSv; cases hSv)]; exact hlt⟩
theorem dg_eq {l : List Int} {n : Nat} (h : l.length = n) : dg l = sm n (gi l) := by unfold dg; rw [h]
/-- What is reduced has few chips away from q. -/
theorem red_top {n : Nat} {es : List E3} {q : Nat} {x : List Int} (h : Red n es q x) {v : Nat} (hv : v < n) (hvq : v ≠ q) : gi x v ≤ deg n es v - 1 := by
  obtain ⟨u, hu, hSu, hlt⟩ := h.no (fun w => decide (w = v)) (by simp; exact fun e => hvq e.symm) ⟨v, hv, by simp⟩
  simp only [decide_eq_true_eq] at hSu hlt
  subst hSu
  have : sm n (fun w => if w = u then 0 else W es u w) = deg n es u := by
    unfold deg
    exact sm_congr fun w _ => by
      by_cases e : w = u
      · subst e; rw [if_pos rfl, W_self]
      · rw [if_neg e]
  omega
section
variable {m q : Nat} {es : List E3} {d x s : List Int}
theorem p_r34_Reduce {R : List Int → List Int → Int → Prop} (hl : es.length ≤ 1000) (hm : m ≤ 5) (hq : q ≤ m) (ht : ∀ v, v < m + 1 → topF (m + 1) es q v ≤ 8) (hd : ∀ j, j < m + 1 → -100 ≤ gi d j ∧ gi d j ≤ 100)
    (hG : givenF ((m + 1 : Nat) : Int) es (q : Int) d = 0) (hx : Reduces (m + 1) es q d x s) (h : R x s 0) : pf_r34_Reduce ((m + 1 : Nat) : Int) es (q : Int) d R := by
  obtain ⟨hg, hc, -, -, hck⟩ := givenF_ok hG
  obtain ⟨hE, -, -⟩ := gcheck_ok hg
  have hE : EOk (m + 1) es := hE
  have hdl : d.length = m + 1 := (checkF_ok hck).1
  refine p_r34_Given (by omega) ?_
  rw [hG]
  refine ⟨fun _ => ?_, fun q => absurd rfl q⟩
  have hdd := dg_bound (d := d) (B := 100) (by omega) (fun j hj => hd j (by omega))
  rw [hdl] at hdd
  have hm2 : ((m + 1 : Nat) : Int) * 100 ≤ 600 := by omega
  refine p_r25_Settled hl hg hc hm hq ht hdl hd ⟨x.set q 0, ?_, ?_, gi s, fun v hv hvq => ?_⟩ fun y hy hyC ⟨f, hf⟩ => ?_
  · refine ⟨by rw [List.length_set, hx.dl], fun j hj => ?_⟩
    rw [gi_set (by have := hx.dl; omega)]
    unfold topF
    by_cases e : j = q
    · rw [if_pos e, if_pos e]; omega
    · rw [if_neg e, if_neg e]; exact ⟨hx.pos j hj e, red_top hx.red hj e⟩
  · refine ⟨fun v hv => ?_, by rw [gi_set (by have := hx.dl; omega), if_pos rfl], red_set1 hx.dl (by omega) hx.red 0⟩
    rw [gi_set (by have := hx.dl; omega)]
    by_cases e : v = q
    · rw [if_pos e]; omega
    · rw [if_neg e]; exact hx.pos v hv e
  · rw [gi_set (by have := hx.dl; omega), if_neg hvq, hx.lp v hv]; omega
  · have hyl := hy.1
    have hyB : ∀ j, j < y.length → -8 ≤ gi y j ∧ gi y j ≤ 8 := fun j hj => by have := hy.2 j (by omega); have := ht j (by omega); omega
    have hyd := dg_bound (by omega) hyB
    rw [hyl] at hyd
    have hm1 : ((m + 1 : Nat) : Int) * 8 ≤ 48 := by omega
    simp only [List.nil_append, Int.toNat_natCast]
    have hblen : (y.set q (dg d - dg y)).length = m + 1 := by rw [List.length_set, hyl]
    -- the form is the one that is reduced
    have hby : x = y.set q (dg d - dg y) := by
      have hbt : dg (y.set q (dg d - dg y)) = dg d := by rw [dg_set (by omega), hyC.sq]; omega
      have hlp := lp_at (es := es) (by omega : q < m + 1) (f := f) (a := fun v => gi d v - gi (y.set q (dg d - dg y)) v) (by
        rw [sm_sub]
        have e1 := dg_eq hblen
        have e2 := dg_eq hdl
        omega) fun v hv hvq => by
          show _ = gi d v - gi (y.set q (dg d - dg y)) v
          rw [gi_set (by omega), if_neg hvq, hf v hv hvq]
      refine (reduces_eq hE (by omega) hx (a' := y.set q (dg d - dg y)) (s' := tab (fun v => f v + - f q) (m + 1)) hblen (tab_length _ _) (fun v hv => ?_) (by rw [gi_tab _ (by omega)]; omega) (red_set1 hyl (by omega) hyC.red _)).1
      have e : Lp (m + 1) es (gi (tab (fun v => f v + - f q) (m + 1))) v = Lp (m + 1) es f v := by
        rw [Lp_congr (b := fun v => f v + - f q) (fun i hi => gi_tab _ hi) hv, Lp_add, Lp_const]; omega
      have := hlp v hv
      show gi (y.set q (dg d - dg y)) v = _
      rw [e, this]; omega
    have hxB : ∀ j, j < m + 1 → -700 ≤ gi x j ∧ gi x j ≤ 700 := fun j hj => by
      rw [hby, gi_set (by omega)]
      have := hyB j (by omega)
      split <;> omega
    have hpl : ∀ j, j < m + 1 → gi (plusF d x (-1)) j = gi d j - gi x j := fun j hj => by unfold plusF; rw [gi_tab _ (by omega)]; omega
    refine ⟨by omega, p_r17_Total (by omega) (fun j hj => by have := hd j (by omega); omega) (p_r17_Total (by omega) (fun j hj => by have := hyB j (by omega); omega) ⟨i64 (by omega), by omega, ?_⟩)⟩
    rw [← hby]
    refine p_r25_Plus (by omega) (by have := hx.dl; omega) (by omega) (fun j hj => by have := hd j (by omega); omega) (fun j hj => by have := hxB j (by omega); omega) ?_
    refine p_r25_Solve (by omega) hg hc hm hq (by unfold plusF; rw [tab_length, hdl]) (fun j hj => by rw [hpl j hj]; have := hxB j hj; have := hd j hj; omega) (fun t htl ht0 htL => ?_) (fun hno => absurd ⟨gi s, fun v hv => by rw [hpl v hv, hx.lp v hv]; omega⟩ hno)
    have := (reduces_eq hE (by omega) hx (a' := x) (s' := t) hx.dl htl (fun v hv => by rw [htL v hv, hpl v hv]; omega) ht0 hx.red).2
    rw [← this]; exact h
end
end Go.Proofs.YtbehbjfcenlaeaaGreat

/- EffectiveDecides' pure form holds. -/
namespace Go.Proofs.YtbehbjfcenlaeaaGreat
open Go
set_option linter.unusedVariables false
set_option linter.unusedSimpArgs false

theorem p_l36_low {n : Int} {es : List E3} {d : List Int} {R : Bool → Prop} (h1 : smallF n es 6 9 = true → lowF n d = true → R true) (h2 : R false) : pf_l36_low n es d R := by
  unfold pf_l36_low
  refine p_r34_Few ⟨fun q1 => p_r34_Low ?_, fun _ => h2⟩
  cases hq : lowF n d with
  | true => exact h1 q1 hq
  | false => exact h2
/-- The reference's form and script are those of the program. -/
theorem p_r34_Reduce_of {n : Nat} {q : Nat} {es : List E3} {d x s : List Int} {R : List Int → List Int → Int → Prop} (hf : smallF n es 6 9 = true) (hlow : lowF n d = true) (hG : givenF n es q d = 0) (hx : Reduces n es q d x s) (h : R x s 0) : pf_r34_Reduce (n : Int) es (q : Int) d R := by
  obtain ⟨hel, hsm⟩ := smallF_iff hf
  obtain ⟨hg, hc, hq0, hqn, hck⟩ := givenF_ok hG
  obtain ⟨hn6, hs9⟩ := hsm hg
  obtain ⟨m, rfl⟩ : ∃ m, n = m + 1 := ⟨n - 1, by omega⟩
  obtain ⟨hE, -, -⟩ := gcheck_ok hg
  have hdl : d.length = m + 1 := (checkF_ok hck).1
  refine p_r34_Reduce (by omega) (by omega) (by omega) (fun v hv => ?_) (fun j hj => (lowF_iff.1 hlow).2 hck j (by omega)) hG hx h
  have := deg_le_sum (es := es) (fun y hy => by have := hE y hy; omega) (m + 1) v
  unfold topF
  split <;> omega
theorem p_effdecides {n : Int} {es : List E3} {d : List Int} : pf_l36_EffectiveDecides n es d (fun r => r = true) := by
  unfold pf_l36_EffectiveDecides
  refine p_l36_low (fun hf hlow => ⟨fun _ => ?_, fun h => absurd rfl h⟩) ⟨fun h => (by cases h), fun _ => p_l36_awake rfl⟩
  have hS := small_of hf hlow
  obtain ⟨hdl, hb⟩ := lowF_iff.1 hlow
  have hel := hS.el
  have fin : ∀ (b : Bool) (x s : List Int) (e : Int), x.length ≤ 1000 → s.length ≤ 1000 → ((b == b) = true → pf_slices_Equal_Divisor x x fun r10 => ((r10 = true → pf_slices_Equal_Script s s fun r11 => ((r11 = true → ((e = e → pf_l36_awake fun r12 => r12 = true) ∧ (¬ e = e → false = true))) ∧ (¬ r11 = true → false = true))) ∧ (¬ r10 = true → false = true))) ∧ (¬ (b == b) = true → false = true) := fun b x s e hx hs =>
    ⟨fun _ => p_slices_Equal_Divisor (by omega) ⟨fun _ => p_slices_Equal_Script (by omega) ⟨fun _ => ⟨fun _ => p_l36_awake rfl, fun h => absurd rfl h⟩, fun h => absurd (decide_eq_true rfl) h⟩, fun h => absurd (decide_eq_true rfl) h⟩, fun h => absurd (by simp) h⟩
  refine p_effective_Winnable (.inl hS) (by omega) (fun h0 => ?_) (fun h0 x s hx b hbw => ?_)
  · unfold pf_r36_Winnable
    exact p_r35_Given (by omega) ⟨fun h => absurd h h0, fun _ => fin _ _ _ _ (by simp) (by simp)⟩
  · obtain ⟨n, rfl⟩ : ∃ n' : Nat, n = (n' : Int) := ⟨n.toNat, by have := givenF_ok h0; omega⟩
    obtain ⟨hE, hn1, hn12, hg, hc, -, hd, hck⟩ := given_all (q := 0) h0
    simp only [Int.toNat_natCast] at hx hbw
    have hb' : ∀ v, v < n → -100 ≤ gi d v ∧ gi d v ≤ 100 := fun v hv => hb hck v (by omega)
    have hxl := hx.dl
    have hsl := hx.sl
    unfold pf_r36_Winnable
    refine p_r35_Given (by omega) ⟨fun _ => p_r34_Reduce_of (q := 0) hf hlow h0 hx ?_, fun h => absurd h0 h⟩
    refine p_r36_Wins (by omega) hg hc hd (fun v hv => by have := hb' v hv; omega) (fun hw => ?_) (fun hw => ?_)
    · have e : b = true := hbw.2 hw
      rw [e]; exact fin _ _ _ _ (by omega) (by omega)
    · have e : b = false := by rw [Bool.eq_false_iff]; exact fun q => hw (hbw.1 q)
      rw [e]; exact fin _ _ _ _ (by omega) (by omega)
end Go.Proofs.YtbehbjfcenlaeaaGreat
