/- Texts laid together: Sd, Awake, Rm, RedIn, Wr, Pa, Pb, PRight, Pt, Pe. -/
import Derived.Test.YtnhmeckhlajeaaaK3
/- Shallow forms of functions, made by program (sh.py), each with the proof that the code does so. -/
namespace Go.Proofs.Ytnhmeckhlajeaaa
open Go Go.RowKit Go.Shelf
set_option linter.unusedVariables false
set_option maxRecDepth 100000
set_option maxHeartbeats 1000000
/-- sandpile/sandpilelaw34.awake: what its code does. -/
def sh_l34_awake (w : World) (R : Bool → World → Prop) : Prop :=
(Calls Try.prog 62 #[] w fun e w2 => ∃ r2 : Int, ∃ Ar : Option Addr, ∃ lr : Nat, ∃ cr : Nat, e = .returned (Value.agg #[(Value.int .i64 r2), (Value.slice Ar lr cr)]) ∧
(∀ (g : Nat) (w3 : World), New w2 g w3 #[(Value.int .i64 (-1)), (Value.int .i64 2), (Value.int .i64 0)] 3 →
(Calls Try.prog 17 #[(Value.agg #[(Value.int .i64 r2), (Value.slice Ar lr cr)]), (Value.int .i64 0), (Value.slice (some ⟨g, 0, none⟩) 3 3)] w3 fun e w4 => ∃ Ar2 : Option Addr, ∃ lr2 : Nat, ∃ cr2 : Nat, ∃ Ar3 : Option Addr, ∃ lr3 : Nat, ∃ cr3 : Nat, ∃ r3 : Int, e = .returned (Value.tuple #[(Value.slice Ar2 lr2 cr2), (Value.slice Ar3 lr3 cr3), (Value.int .i64 r3)]) ∧
(Calls Try.prog 62 #[] w4 fun e w5 => ∃ r4 : Int, ∃ Ar4 : Option Addr, ∃ lr4 : Nat, ∃ cr4 : Nat, e = .returned (Value.agg #[(Value.int .i64 r4), (Value.slice Ar4 lr4 cr4)]) ∧
(∀ (g2 : Nat) (w6 : World), New w5 g2 w6 #[(Value.int .i64 2), (Value.int .i64 (-1)), (Value.int .i64 0)] 3 →
(Calls Try.prog 17 #[(Value.agg #[(Value.int .i64 r4), (Value.slice Ar4 lr4 cr4)]), (Value.int .i64 0), (Value.slice (some ⟨g2, 0, none⟩) 3 3)] w6 fun e w7 => ∃ Ar5 : Option Addr, ∃ lr5 : Nat, ∃ cr5 : Nat, ∃ Ar6 : Option Addr, ∃ lr6 : Nat, ∃ cr6 : Nat, ∃ r5 : Int, e = .returned (Value.tuple #[(Value.slice Ar5 lr5 cr5), (Value.slice Ar6 lr6 cr6), (Value.int .i64 r5)]) ∧
(Calls Try.prog 62 #[] w7 fun e w8 => ∃ r6 : Int, ∃ Ar7 : Option Addr, ∃ lr7 : Nat, ∃ cr7 : Nat, e = .returned (Value.agg #[(Value.int .i64 r6), (Value.slice Ar7 lr7 cr7)]) ∧
(∀ (g3 : Nat) (w9 : World), New w8 g3 w9 #[(Value.int .i64 0), (Value.int .i64 2), (Value.int .i64 0)] 3 →
(Calls Try.prog 31 #[(Value.agg #[(Value.int .i64 r6), (Value.slice Ar7 lr7 cr7)]), (Value.int .i64 0), (Value.slice (some ⟨g3, 0, none⟩) 3 3)] w9 fun e w10 => ∃ Ar8 : Option Addr, ∃ lr8 : Nat, ∃ cr8 : Nat, ∃ r7 : Int, e = .returned (Value.tuple #[(Value.slice Ar8 lr8 cr8), (Value.int .i64 r7)]) ∧
(Calls Try.prog 62 #[] w10 fun e w11 => ∃ r8 : Int, ∃ Ar9 : Option Addr, ∃ lr9 : Nat, ∃ cr9 : Nat, e = .returned (Value.agg #[(Value.int .i64 r8), (Value.slice Ar9 lr9 cr9)]) ∧
(∀ (g4 : Nat) (w12 : World), New w11 g4 w12 #[(Value.int .i64 0), (Value.int .i64 1), (Value.int .i64 1)] 3 →
(Calls Try.prog 31 #[(Value.agg #[(Value.int .i64 r8), (Value.slice Ar9 lr9 cr9)]), (Value.int .i64 0), (Value.slice (some ⟨g4, 0, none⟩) 3 3)] w12 fun e w13 => ∃ Ar10 : Option Addr, ∃ lr10 : Nat, ∃ cr10 : Nat, ∃ r9 : Int, e = .returned (Value.tuple #[(Value.slice Ar10 lr10 cr10), (Value.int .i64 r9)]) ∧
(Calls Try.prog 62 #[] w13 fun e w14 => ∃ r10 : Int, ∃ Ar11 : Option Addr, ∃ lr11 : Nat, ∃ cr11 : Nat, e = .returned (Value.agg #[(Value.int .i64 r10), (Value.slice Ar11 lr11 cr11)]) ∧
(∀ (g5 : Nat) (w15 : World), New w14 g5 w15 #[(Value.int .i64 0), (Value.int .i64 1), (Value.int .i64 0)] 3 →
(Calls Try.prog 31 #[(Value.agg #[(Value.int .i64 r10), (Value.slice Ar11 lr11 cr11)]), (Value.int .i64 0), (Value.slice (some ⟨g5, 0, none⟩) 3 3)] w15 fun e w16 => ∃ Ar12 : Option Addr, ∃ lr12 : Nat, ∃ cr12 : Nat, ∃ r11 : Int, e = .returned (Value.tuple #[(Value.slice Ar12 lr12 cr12), (Value.int .i64 r11)]) ∧
(∃ J2 : World → Prop, (∀ (w17 : World), J2 w17 → (∀ (g6 : Nat) (w18 : World), New w17 g6 w18 #[(Value.int .i64 1)] 3 →
(Calls Try.prog 33 #[(Value.slice Ar8 lr8 cr8), (Value.slice (some ⟨g6, 0, none⟩) 1 1)] w18 fun e w19 => ∃ r12 : Bool, e = .returned (Value.bool (r12)) ∧
((r12 = true →
(∀ (g7 : Nat) (w20 : World), New w19 g7 w20 #[(Value.int .i64 1), (Value.int .i64 2)] 3 →
(Calls Try.prog 33 #[(Value.slice Ar10 lr10 cr10), (Value.slice (some ⟨g7, 0, none⟩) 2 2)] w20 fun e w21 => ∃ r13 : Bool, e = .returned (Value.bool (r13)) ∧
((r13 = true →
R (decide (((lr12 : Nat) : Int) = 0)) w21) ∧
(¬ (r13 = true) →
R false w21))))) ∧
(¬ (r12 = true) →
R false w19))))) ∧
(In64 (r3 + r5) ∧
(In64 ((r3 + r5) + r7) ∧
(In64 (((r3 + r5) + r7) + r9) ∧
(In64 ((((r3 + r5) + r7) + r9) + r11) ∧
((((((r3 + r5) + r7) + r9) + r11) = 0 →
(∀ (g8 : Nat) (w22 : World), New w16 g8 w22 #[(Value.int .i64 0), (Value.int .i64 0), (Value.int .i64 1)] 3 →
(Calls Try.prog 19 #[(Value.slice Ar2 lr2 cr2), (Value.slice (some ⟨g8, 0, none⟩) 3 3)] w22 fun e w23 => ∃ r14 : Bool, e = .returned (Value.bool (r14)) ∧
((r14 = true →
(∀ (g9 : Nat) (w24 : World), New w23 g9 w24 #[(Value.int .i64 0), (Value.int .i64 1), (Value.int .i64 0)] 3 →
(Calls Try.prog 20 #[(Value.slice Ar3 lr3 cr3), (Value.slice (some ⟨g9, 0, none⟩) 3 3)] w24 fun e w25 => ∃ r15 : Bool, e = .returned (Value.bool (r15)) ∧
((r15 = true →
(Calls Try.prog 19 #[(Value.slice Ar5 lr5 cr5), (Value.slice Ar2 lr2 cr2)] w25 fun e w26 => ∃ r16 : Bool, e = .returned (Value.bool (r16)) ∧
((r16 = true →
(∀ (g10 : Nat) (w27 : World), New w26 g10 w27 #[(Value.int .i64 0), (Value.int .i64 (-1)), (Value.int .i64 (-1))] 3 →
(Calls Try.prog 20 #[(Value.slice Ar6 lr6 cr6), (Value.slice (some ⟨g10, 0, none⟩) 3 3)] w27 fun e w28 => ∃ r17 : Bool, e = .returned (Value.bool (r17)) ∧
((r17 = true →
J2 w28) ∧
(¬ (r17 = true) →
R false w28))))) ∧
(¬ (r16 = true) →
R false w26)))) ∧
(¬ (r15 = true) →
R false w25))))) ∧
(¬ (r14 = true) →
R false w23))))) ∧
(¬ (((((r3 + r5) + r7) + r9) + r11) = 0) →
R false w16))))))))))))))))))))))
theorem ok_l34_awake (w : World) (R : Bool → World → Prop) (h : sh_l34_awake w R) :
    Calls Try.prog 16 #[] w fun e w' => ∃ r : Bool, e = .returned (Value.bool (r)) ∧ R r w' := by
  unfold sh_l34_awake at h
  refine calls_sh (l := []) Try.func16 rfl Try.ntmps16 (Nat.le_of_ble_eq_true rfl) ?_
  refine wt_seq ?_
  refine wl_region wd_wide ?_
  refine rl_q rfl rfl rfl (v_assign (v := (Value.bool (false))) rfl) ?_
  refine rl_end ?_
  refine wt_seq ?_
  refine wl_region wd_wide ?_
  refine rl_n rfl rfl rfl rfl (n_call0 rfl (am0) enter_62 (h.mono ?_))
  rintro _ w2 ⟨r2, Ar, lr, cr, rfl, h⟩
  refine ⟨_, rfl, Stb.none _, ?_⟩
  refine rl_n rfl rfl rfl rfl (n_bslice (l := [(0, (Value.int .i64 (-1))), (1, (Value.int .i64 2)), (2, (Value.int .i64 0))]) (cells := [(Value.int .i64 (-1)), (Value.int .i64 2), (Value.int .i64 0)]) (bp3 rfl rfl rfl) Try.underlying26 info_3 rfl rfl ?_)
  intro g w3 hN
  replace h := h g w3 hN
  clear hN
  refine ⟨Stb.none _, ?_⟩
  refine rl_n rfl rfl rfl rfl (n_call0 rfl (am3 rfl rfl rfl) enter_17 (h.mono ?_))
  rintro _ w4 ⟨Ar2, lr2, cr2, Ar3, lr3, cr3, r3, rfl, h⟩
  refine ⟨_, rfl, Stb.none _, ?_⟩
  refine rl_q rfl rfl rfl (v_move (v := (Value.tuple #[(Value.slice Ar2 lr2 cr2), (Value.slice Ar3 lr3 cr3), (Value.int .i64 r3)])) rfl) ?_
  refine rl_q rfl rfl rfl (v_extract (v := (Value.slice Ar2 lr2 cr2)) rfl rfl) ?_
  refine rl_q rfl rfl rfl (v_extract (v := (Value.slice Ar3 lr3 cr3)) rfl rfl) ?_
  refine rl_q rfl rfl rfl (v_extract (v := (Value.int .i64 r3)) rfl rfl) ?_
  refine rl_q rfl rfl rfl (v_assign (v := (Value.slice Ar2 lr2 cr2)) rfl) ?_
  refine rl_q rfl rfl rfl (v_assign (v := (Value.slice Ar3 lr3 cr3)) rfl) ?_
  refine rl_q rfl rfl rfl (v_assign (v := (Value.int .i64 r3)) rfl) ?_
  refine rl_end ?_
  refine wt_seq ?_
  refine wl_region wd_wide ?_
  refine rl_n rfl rfl rfl rfl (n_call0 rfl (am0) enter_62 (h.mono ?_))
  rintro _ w5 ⟨r4, Ar4, lr4, cr4, rfl, h⟩
  refine ⟨_, rfl, Stb.none _, ?_⟩
  refine rl_n rfl rfl rfl rfl (n_bslice (l := [(0, (Value.int .i64 2)), (1, (Value.int .i64 (-1))), (2, (Value.int .i64 0))]) (cells := [(Value.int .i64 2), (Value.int .i64 (-1)), (Value.int .i64 0)]) (bp3 rfl rfl rfl) Try.underlying26 info_3 rfl rfl ?_)
  intro g2 w6 hN2
  replace h := h g2 w6 hN2
  clear hN2
  refine ⟨Stb.none _, ?_⟩
  refine rl_n rfl rfl rfl rfl (n_call0 rfl (am3 rfl rfl rfl) enter_17 (h.mono ?_))
  rintro _ w7 ⟨Ar5, lr5, cr5, Ar6, lr6, cr6, r5, rfl, h⟩
  refine ⟨_, rfl, Stb.none _, ?_⟩
  refine rl_q rfl rfl rfl (v_move (v := (Value.tuple #[(Value.slice Ar5 lr5 cr5), (Value.slice Ar6 lr6 cr6), (Value.int .i64 r5)])) rfl) ?_
  refine rl_q rfl rfl rfl (v_extract (v := (Value.slice Ar5 lr5 cr5)) rfl rfl) ?_
  refine rl_q rfl rfl rfl (v_extract (v := (Value.slice Ar6 lr6 cr6)) rfl rfl) ?_
  refine rl_q rfl rfl rfl (v_extract (v := (Value.int .i64 r5)) rfl rfl) ?_
  refine rl_q rfl rfl rfl (v_assign (v := (Value.slice Ar5 lr5 cr5)) rfl) ?_
  refine rl_q rfl rfl rfl (v_assign (v := (Value.slice Ar6 lr6 cr6)) rfl) ?_
  refine rl_q rfl rfl rfl (v_assign (v := (Value.int .i64 r5)) rfl) ?_
  refine rl_end ?_
  refine wt_seq ?_
  refine wl_region wd_wide ?_
  refine rl_n rfl rfl rfl rfl (n_call0 rfl (am0) enter_62 (h.mono ?_))
  rintro _ w8 ⟨r6, Ar7, lr7, cr7, rfl, h⟩
  refine ⟨_, rfl, Stb.none _, ?_⟩
  refine rl_n rfl rfl rfl rfl (n_bslice (l := [(0, (Value.int .i64 0)), (1, (Value.int .i64 2)), (2, (Value.int .i64 0))]) (cells := [(Value.int .i64 0), (Value.int .i64 2), (Value.int .i64 0)]) (bp3 rfl rfl rfl) Try.underlying26 info_3 rfl rfl ?_)
  intro g3 w9 hN3
  replace h := h g3 w9 hN3
  clear hN3
  refine ⟨Stb.none _, ?_⟩
  refine rl_n rfl rfl rfl rfl (n_call0 rfl (am3 rfl rfl rfl) enter_31 (h.mono ?_))
  rintro _ w10 ⟨Ar8, lr8, cr8, r7, rfl, h⟩
  refine ⟨_, rfl, Stb.none _, ?_⟩
  refine rl_q rfl rfl rfl (v_move (v := (Value.tuple #[(Value.slice Ar8 lr8 cr8), (Value.int .i64 r7)])) rfl) ?_
  refine rl_q rfl rfl rfl (v_extract (v := (Value.slice Ar8 lr8 cr8)) rfl rfl) ?_
  refine rl_q rfl rfl rfl (v_extract (v := (Value.int .i64 r7)) rfl rfl) ?_
  refine rl_q rfl rfl rfl (v_assign (v := (Value.slice Ar8 lr8 cr8)) rfl) ?_
  refine rl_q rfl rfl rfl (v_assign (v := (Value.int .i64 r7)) rfl) ?_
  refine rl_end ?_
  refine wt_seq ?_
  refine wl_region wd_wide ?_
  refine rl_n rfl rfl rfl rfl (n_call0 rfl (am0) enter_62 (h.mono ?_))
  rintro _ w11 ⟨r8, Ar9, lr9, cr9, rfl, h⟩
  refine ⟨_, rfl, Stb.none _, ?_⟩
  refine rl_n rfl rfl rfl rfl (n_bslice (l := [(0, (Value.int .i64 0)), (1, (Value.int .i64 1)), (2, (Value.int .i64 1))]) (cells := [(Value.int .i64 0), (Value.int .i64 1), (Value.int .i64 1)]) (bp3 rfl rfl rfl) Try.underlying26 info_3 rfl rfl ?_)
  intro g4 w12 hN4
  replace h := h g4 w12 hN4
  clear hN4
  refine ⟨Stb.none _, ?_⟩
  refine rl_n rfl rfl rfl rfl (n_call0 rfl (am3 rfl rfl rfl) enter_31 (h.mono ?_))
  rintro _ w13 ⟨Ar10, lr10, cr10, r9, rfl, h⟩
  refine ⟨_, rfl, Stb.none _, ?_⟩
  refine rl_q rfl rfl rfl (v_move (v := (Value.tuple #[(Value.slice Ar10 lr10 cr10), (Value.int .i64 r9)])) rfl) ?_
  refine rl_q rfl rfl rfl (v_extract (v := (Value.slice Ar10 lr10 cr10)) rfl rfl) ?_
  refine rl_q rfl rfl rfl (v_extract (v := (Value.int .i64 r9)) rfl rfl) ?_
  refine rl_q rfl rfl rfl (v_assign (v := (Value.slice Ar10 lr10 cr10)) rfl) ?_
  refine rl_q rfl rfl rfl (v_assign (v := (Value.int .i64 r9)) rfl) ?_
  refine rl_end ?_
  refine wt_seq ?_
  refine wl_region wd_wide ?_
  refine rl_n rfl rfl rfl rfl (n_call0 rfl (am0) enter_62 (h.mono ?_))
  rintro _ w14 ⟨r10, Ar11, lr11, cr11, rfl, h⟩
  refine ⟨_, rfl, Stb.none _, ?_⟩
  refine rl_n rfl rfl rfl rfl (n_bslice (l := [(0, (Value.int .i64 0)), (1, (Value.int .i64 1)), (2, (Value.int .i64 0))]) (cells := [(Value.int .i64 0), (Value.int .i64 1), (Value.int .i64 0)]) (bp3 rfl rfl rfl) Try.underlying26 info_3 rfl rfl ?_)
  intro g5 w15 hN5
  replace h := h g5 w15 hN5
  clear hN5
  refine ⟨Stb.none _, ?_⟩
  refine rl_n rfl rfl rfl rfl (n_call0 rfl (am3 rfl rfl rfl) enter_31 (h.mono ?_))
  rintro _ w16 ⟨Ar12, lr12, cr12, r11, rfl, h⟩
  refine ⟨_, rfl, Stb.none _, ?_⟩
  refine rl_q rfl rfl rfl (v_move (v := (Value.tuple #[(Value.slice Ar12 lr12 cr12), (Value.int .i64 r11)])) rfl) ?_
  refine rl_q rfl rfl rfl (v_extract (v := (Value.slice Ar12 lr12 cr12)) rfl rfl) ?_
  refine rl_q rfl rfl rfl (v_extract (v := (Value.int .i64 r11)) rfl rfl) ?_
  refine rl_q rfl rfl rfl (v_assign (v := (Value.slice Ar12 lr12 cr12)) rfl) ?_
  refine rl_q rfl rfl rfl (v_assign (v := (Value.int .i64 r11)) rfl) ?_
  refine rl_end ?_
  refine wt_seq ?_
  refine wt_seq ?_
  obtain ⟨J2, hJ, h⟩ := h
  refine wt_cutT1 (fun E ds w' => J2 w' ∧ ds = [] ∧ E 7 = (Value.slice Ar8 lr8 cr8) ∧ E 9 = (Value.slice Ar10 lr10 cr10) ∧ E 11 = (Value.slice Ar12 lr12 cr12)) ?_ ?_
  · rintro E ds w17 ⟨h, rfl, hE7, hE9, hE11⟩
    replace h := hJ w17 h
    refine wt_seq ?_
    refine wl_region wd_wide ?_
    refine rl_q rfl rfl rfl (v_move (v := (Value.slice Ar8 lr8 cr8)) hE7) ?_
    refine rl_n rfl rfl rfl rfl (n_bslice (l := [(0, (Value.int .i64 1))]) (cells := [(Value.int .i64 1)]) (bp1 rfl) Try.underlying25 info_3 rfl rfl ?_)
    intro g6 w18 hN6
    replace h := h g6 w18 hN6
    clear hN6
    refine ⟨Stb.none _, ?_⟩
    refine rl_n rfl rfl rfl rfl (n_call0 rfl (am2 rfl rfl) enter_33 (h.mono ?_))
    rintro _ w19 ⟨r12, rfl, h⟩
    refine ⟨_, rfl, Stb.none _, ?_⟩
    refine rl_q rfl rfl rfl (v_move (v := (Value.bool (r12))) rfl) ?_
    by_cases hp : r12 = true
    · replace h := h.1 hp
      refine rl_q (wanted_g rfl (yE_of rfl (congrArg Value.bool hp))) rfl rfl (v_move (v := (Value.slice Ar10 lr10 cr10)) hE9) ?_
      refine rl_n (wanted_g rfl (yE_of rfl (congrArg Value.bool hp))) rfl rfl rfl (n_bslice (l := [(0, (Value.int .i64 1)), (1, (Value.int .i64 2))]) (cells := [(Value.int .i64 1), (Value.int .i64 2)]) (bp2 rfl rfl) Try.underlying25 info_3 rfl rfl ?_)
      intro g7 w20 hN7
      replace h := h g7 w20 hN7
      clear hN7
      refine ⟨Stb.none _, ?_⟩
      refine rl_n (wanted_g rfl (yE_of rfl (congrArg Value.bool hp))) rfl rfl rfl (n_call0 rfl (am2 rfl rfl) enter_33 (h.mono ?_))
      rintro _ w21 ⟨r13, rfl, h⟩
      refine ⟨_, rfl, Stb.none _, ?_⟩
      refine rl_q rfl rfl rfl (v_pick_t (v := (Value.bool (r13))) (congrArg Value.bool hp) rfl) ?_
      refine rl_q rfl rfl rfl (v_move (v := (Value.bool (r13))) rfl) ?_
      by_cases hp2 : r13 = true
      · replace h := h.1 hp2
        refine rl_q (wanted_g rfl (yE_of rfl (congrArg Value.bool hp2))) rfl rfl (v_move (v := (Value.slice Ar12 lr12 cr12)) hE11) ?_
        refine rl_q (wanted_g rfl (yE_of rfl (congrArg Value.bool hp2))) rfl rfl (v_len rfl Try.underlying25) ?_
        refine rl_q (wanted_g rfl (yE_of rfl (congrArg Value.bool hp2))) rfl rfl (v_eql rfl rfl) ?_
        refine rl_q rfl rfl rfl (v_pick_t (v := (Value.bool (decide (((lr12 : Nat) : Int) = 0)))) (congrArg Value.bool hp2) rfl) ?_
        refine rl_q rfl rfl rfl (v_assign (v := (Value.bool (decide (((lr12 : Nat) : Int) = 0)))) rfl) ?_
        refine rl_end ?_
        exact wt_ret1 rfl rfl ⟨_, rfl, h⟩
      · replace h := h.2 hp2
        refine rl_p (wanted_n rfl (yE_of rfl (congrArg Value.bool (Bool.eq_false_iff.2 hp2))) rfl) rfl ?_
        refine rl_p (wanted_n rfl (yE_of rfl (congrArg Value.bool (Bool.eq_false_iff.2 hp2))) rfl) rfl ?_
        refine rl_p (wanted_n rfl (yE_of rfl (congrArg Value.bool (Bool.eq_false_iff.2 hp2))) rfl) rfl ?_
        refine rl_q rfl rfl rfl (v_pick_f (v := (Value.bool (false))) (congrArg Value.bool (Bool.eq_false_iff.2 hp2)) rfl) ?_
        refine rl_q rfl rfl rfl (v_assign (v := (Value.bool (false))) rfl) ?_
        refine rl_end ?_
        exact wt_ret1 rfl rfl ⟨_, rfl, h⟩
    · replace h := h.2 hp
      refine rl_p (wanted_n rfl (yE_of rfl (congrArg Value.bool (Bool.eq_false_iff.2 hp))) rfl) rfl ?_
      refine rl_p (wanted_n rfl (yE_of rfl (congrArg Value.bool (Bool.eq_false_iff.2 hp))) rfl) rfl ?_
      refine rl_p (wanted_n rfl (yE_of rfl (congrArg Value.bool (Bool.eq_false_iff.2 hp))) rfl) rfl ?_
      refine rl_q rfl rfl rfl (v_pick_f (v := (Value.bool (false))) (congrArg Value.bool (Bool.eq_false_iff.2 hp)) rfl) ?_
      refine rl_q rfl rfl rfl (v_move (v := (Value.bool (false))) rfl) ?_
      refine rl_p (wanted_n rfl (yE_of rfl rfl) rfl) rfl ?_
      refine rl_p (wanted_n rfl (yE_of rfl rfl) rfl) rfl ?_
      refine rl_p (wanted_n rfl (yE_of rfl rfl) rfl) rfl ?_
      refine rl_q rfl rfl rfl (v_pick_f (v := (Value.bool (false))) rfl rfl) ?_
      refine rl_q rfl rfl rfl (v_assign (v := (Value.bool (false))) rfl) ?_
      refine rl_end ?_
      exact wt_ret1 rfl rfl ⟨_, rfl, h⟩
  clear hJ
  intro j
  refine wl_region wd_wide ?_
  refine rl_q rfl rfl rfl (v_move (v := (Value.int .i64 r3)) rfl) ?_
  refine rl_q rfl rfl rfl (v_move (v := (Value.int .i64 r5)) rfl) ?_
  obtain ⟨hi, h⟩ := h
  refine rl_q rfl rfl rfl (v_add rfl rfl hi) ?_
  refine rl_q rfl rfl rfl (v_move (v := (Value.int .i64 r7)) rfl) ?_
  obtain ⟨hi2, h⟩ := h
  refine rl_q rfl rfl rfl (v_add rfl rfl hi2) ?_
  refine rl_q rfl rfl rfl (v_move (v := (Value.int .i64 r9)) rfl) ?_
  obtain ⟨hi3, h⟩ := h
  refine rl_q rfl rfl rfl (v_add rfl rfl hi3) ?_
  refine rl_q rfl rfl rfl (v_move (v := (Value.int .i64 r11)) rfl) ?_
  obtain ⟨hi4, h⟩ := h
  refine rl_q rfl rfl rfl (v_add rfl rfl hi4) ?_
  refine rl_q rfl rfl rfl (v_neq rfl rfl) ?_
  refine rl_q rfl rfl rfl (v_move (v := (Value.bool (!(decide (((((r3 + r5) + r7) + r9) + r11) = 0))))) rfl) ?_
  by_cases hp3 : ((((r3 + r5) + r7) + r9) + r11) = 0
  · replace h := h.1 hp3
    refine rl_q (wanted_g rfl (yE_of rfl (congrArg Value.bool (congrArg Bool.not (decide_eq_true hp3))))) rfl rfl (v_move (v := (Value.slice Ar2 lr2 cr2)) rfl) ?_
    refine rl_n (wanted_g rfl (yE_of rfl (congrArg Value.bool (congrArg Bool.not (decide_eq_true hp3))))) rfl rfl rfl (n_bslice (l := [(0, (Value.int .i64 0)), (1, (Value.int .i64 0)), (2, (Value.int .i64 1))]) (cells := [(Value.int .i64 0), (Value.int .i64 0), (Value.int .i64 1)]) (bp3 rfl rfl rfl) Try.underlying26 info_3 rfl rfl ?_)
    intro g8 w22 hN8
    replace h := h g8 w22 hN8
    clear hN8
    refine ⟨Stb.none _, ?_⟩
    refine rl_n (wanted_g rfl (yE_of rfl (congrArg Value.bool (congrArg Bool.not (decide_eq_true hp3))))) rfl rfl rfl (n_call0 rfl (am2 rfl rfl) enter_19 (h.mono ?_))
    rintro _ w23 ⟨r14, rfl, h⟩
    refine ⟨_, rfl, Stb.none _, ?_⟩
    refine rl_q (wanted_g rfl (yE_of rfl (congrArg Value.bool (congrArg Bool.not (decide_eq_true hp3))))) rfl rfl (v_not rfl) ?_
    refine rl_q rfl rfl rfl (v_pick_f (v := (Value.bool (!(r14)))) (congrArg Value.bool (congrArg Bool.not (decide_eq_true hp3))) rfl) ?_
    refine rl_q rfl rfl rfl (v_move (v := (Value.bool (!(r14)))) rfl) ?_
    by_cases hp4 : r14 = true
    · replace h := h.1 hp4
      refine rl_q (wanted_g rfl (yE_of rfl (congrArg Value.bool (congrArg Bool.not hp4)))) rfl rfl (v_move (v := (Value.slice Ar3 lr3 cr3)) rfl) ?_
      refine rl_n (wanted_g rfl (yE_of rfl (congrArg Value.bool (congrArg Bool.not hp4)))) rfl rfl rfl (n_bslice (l := [(0, (Value.int .i64 0)), (1, (Value.int .i64 1)), (2, (Value.int .i64 0))]) (cells := [(Value.int .i64 0), (Value.int .i64 1), (Value.int .i64 0)]) (bp3 rfl rfl rfl) Try.underlying30 info_3 rfl rfl ?_)
      intro g9 w24 hN9
      replace h := h g9 w24 hN9
      clear hN9
      refine ⟨Stb.none _, ?_⟩
      refine rl_n (wanted_g rfl (yE_of rfl (congrArg Value.bool (congrArg Bool.not hp4)))) rfl rfl rfl (n_call0 rfl (am2 rfl rfl) enter_20 (h.mono ?_))
      rintro _ w25 ⟨r15, rfl, h⟩
      refine ⟨_, rfl, Stb.none _, ?_⟩
      refine rl_q (wanted_g rfl (yE_of rfl (congrArg Value.bool (congrArg Bool.not hp4)))) rfl rfl (v_not rfl) ?_
      refine rl_q rfl rfl rfl (v_pick_f (v := (Value.bool (!(r15)))) (congrArg Value.bool (congrArg Bool.not hp4)) rfl) ?_
      refine rl_q rfl rfl rfl (v_move (v := (Value.bool (!(r15)))) rfl) ?_
      by_cases hp5 : r15 = true
      · replace h := h.1 hp5
        refine rl_q (wanted_g rfl (yE_of rfl (congrArg Value.bool (congrArg Bool.not hp5)))) rfl rfl (v_move (v := (Value.slice Ar5 lr5 cr5)) rfl) ?_
        refine rl_q (wanted_g rfl (yE_of rfl (congrArg Value.bool (congrArg Bool.not hp5)))) rfl rfl (v_move (v := (Value.slice Ar2 lr2 cr2)) rfl) ?_
        refine rl_n (wanted_g rfl (yE_of rfl (congrArg Value.bool (congrArg Bool.not hp5)))) rfl rfl rfl (n_call0 rfl (am2 rfl rfl) enter_19 (h.mono ?_))
        rintro _ w26 ⟨r16, rfl, h⟩
        refine ⟨_, rfl, Stb.none _, ?_⟩
        refine rl_q (wanted_g rfl (yE_of rfl (congrArg Value.bool (congrArg Bool.not hp5)))) rfl rfl (v_not rfl) ?_
        refine rl_q rfl rfl rfl (v_pick_f (v := (Value.bool (!(r16)))) (congrArg Value.bool (congrArg Bool.not hp5)) rfl) ?_
        refine rl_q rfl rfl rfl (v_move (v := (Value.bool (!(r16)))) rfl) ?_
        by_cases hp6 : r16 = true
        · replace h := h.1 hp6
          refine rl_q (wanted_g rfl (yE_of rfl (congrArg Value.bool (congrArg Bool.not hp6)))) rfl rfl (v_move (v := (Value.slice Ar6 lr6 cr6)) rfl) ?_
          refine rl_n (wanted_g rfl (yE_of rfl (congrArg Value.bool (congrArg Bool.not hp6)))) rfl rfl rfl (n_bslice (l := [(0, (Value.int .i64 0)), (1, (Value.int .i64 (-1))), (2, (Value.int .i64 (-1)))]) (cells := [(Value.int .i64 0), (Value.int .i64 (-1)), (Value.int .i64 (-1))]) (bp3 rfl rfl rfl) Try.underlying30 info_3 rfl rfl ?_)
          intro g10 w27 hN10
          replace h := h g10 w27 hN10
          clear hN10
          refine ⟨Stb.none _, ?_⟩
          refine rl_n (wanted_g rfl (yE_of rfl (congrArg Value.bool (congrArg Bool.not hp6)))) rfl rfl rfl (n_call0 rfl (am2 rfl rfl) enter_20 (h.mono ?_))
          rintro _ w28 ⟨r17, rfl, h⟩
          refine ⟨_, rfl, Stb.none _, ?_⟩
          refine rl_q (wanted_g rfl (yE_of rfl (congrArg Value.bool (congrArg Bool.not hp6)))) rfl rfl (v_not rfl) ?_
          refine rl_q rfl rfl rfl (v_pick_f (v := (Value.bool (!(r17)))) (congrArg Value.bool (congrArg Bool.not hp6)) rfl) ?_
          refine rl_end ?_
          by_cases hp7 : r17 = true
          · replace h := h.1 hp7
            refine wt_cond_f (congrArg Value.bool (congrArg Bool.not hp7)) ?_
            refine wt_skip ?_
            exact j _ _ _ ⟨h, rfl, rfl, rfl, rfl⟩
          · replace h := h.2 hp7
            refine wt_cond_t (congrArg Value.bool (congrArg Bool.not (Bool.eq_false_iff.2 hp7))) ?_
            refine wt_seq ?_
            refine wl_region wd_wide ?_
            refine rl_q rfl rfl rfl (v_assign (v := (Value.bool (false))) rfl) ?_
            refine rl_end ?_
            exact wt_ret1 rfl rfl ⟨_, rfl, h⟩
        · replace h := h.2 hp6
          refine rl_p (wanted_n rfl (yE_of rfl (congrArg Value.bool (congrArg Bool.not (Bool.eq_false_iff.2 hp6)))) rfl) rfl ?_
          refine rl_p (wanted_n rfl (yE_of rfl (congrArg Value.bool (congrArg Bool.not (Bool.eq_false_iff.2 hp6)))) rfl) rfl ?_
          refine rl_p (wanted_n rfl (yE_of rfl (congrArg Value.bool (congrArg Bool.not (Bool.eq_false_iff.2 hp6)))) rfl) rfl ?_
          refine rl_p (wanted_n rfl (yE_of rfl (congrArg Value.bool (congrArg Bool.not (Bool.eq_false_iff.2 hp6)))) rfl) rfl ?_
          refine rl_q rfl rfl rfl (v_pick_t (v := (Value.bool (true))) (congrArg Value.bool (congrArg Bool.not (Bool.eq_false_iff.2 hp6))) rfl) ?_
          refine rl_end ?_
          refine wt_cond_t rfl ?_
          refine wt_seq ?_
          refine wl_region wd_wide ?_
          refine rl_q rfl rfl rfl (v_assign (v := (Value.bool (false))) rfl) ?_
          refine rl_end ?_
          exact wt_ret1 rfl rfl ⟨_, rfl, h⟩
      · replace h := h.2 hp5
        refine rl_p (wanted_n rfl (yE_of rfl (congrArg Value.bool (congrArg Bool.not (Bool.eq_false_iff.2 hp5)))) rfl) rfl ?_
        refine rl_p (wanted_n rfl (yE_of rfl (congrArg Value.bool (congrArg Bool.not (Bool.eq_false_iff.2 hp5)))) rfl) rfl ?_
        refine rl_p (wanted_n rfl (yE_of rfl (congrArg Value.bool (congrArg Bool.not (Bool.eq_false_iff.2 hp5)))) rfl) rfl ?_
        refine rl_p (wanted_n rfl (yE_of rfl (congrArg Value.bool (congrArg Bool.not (Bool.eq_false_iff.2 hp5)))) rfl) rfl ?_
        refine rl_q rfl rfl rfl (v_pick_t (v := (Value.bool (true))) (congrArg Value.bool (congrArg Bool.not (Bool.eq_false_iff.2 hp5))) rfl) ?_
        refine rl_q rfl rfl rfl (v_move (v := (Value.bool (true))) rfl) ?_
        refine rl_p (wanted_n rfl (yE_of rfl rfl) rfl) rfl ?_
        refine rl_p (wanted_n rfl (yE_of rfl rfl) rfl) rfl ?_
        refine rl_p (wanted_n rfl (yE_of rfl rfl) rfl) rfl ?_
        refine rl_p (wanted_n rfl (yE_of rfl rfl) rfl) rfl ?_
        refine rl_q rfl rfl rfl (v_pick_t (v := (Value.bool (true))) rfl rfl) ?_
        refine rl_end ?_
        refine wt_cond_t rfl ?_
        refine wt_seq ?_
        refine wl_region wd_wide ?_
        refine rl_q rfl rfl rfl (v_assign (v := (Value.bool (false))) rfl) ?_
        refine rl_end ?_
        exact wt_ret1 rfl rfl ⟨_, rfl, h⟩
    · replace h := h.2 hp4
      refine rl_p (wanted_n rfl (yE_of rfl (congrArg Value.bool (congrArg Bool.not (Bool.eq_false_iff.2 hp4)))) rfl) rfl ?_
      refine rl_p (wanted_n rfl (yE_of rfl (congrArg Value.bool (congrArg Bool.not (Bool.eq_false_iff.2 hp4)))) rfl) rfl ?_
      refine rl_p (wanted_n rfl (yE_of rfl (congrArg Value.bool (congrArg Bool.not (Bool.eq_false_iff.2 hp4)))) rfl) rfl ?_
      refine rl_p (wanted_n rfl (yE_of rfl (congrArg Value.bool (congrArg Bool.not (Bool.eq_false_iff.2 hp4)))) rfl) rfl ?_
      refine rl_q rfl rfl rfl (v_pick_t (v := (Value.bool (true))) (congrArg Value.bool (congrArg Bool.not (Bool.eq_false_iff.2 hp4))) rfl) ?_
      refine rl_q rfl rfl rfl (v_move (v := (Value.bool (true))) rfl) ?_
      refine rl_p (wanted_n rfl (yE_of rfl rfl) rfl) rfl ?_
      refine rl_p (wanted_n rfl (yE_of rfl rfl) rfl) rfl ?_
      refine rl_p (wanted_n rfl (yE_of rfl rfl) rfl) rfl ?_
      refine rl_p (wanted_n rfl (yE_of rfl rfl) rfl) rfl ?_
      refine rl_q rfl rfl rfl (v_pick_t (v := (Value.bool (true))) rfl rfl) ?_
      refine rl_q rfl rfl rfl (v_move (v := (Value.bool (true))) rfl) ?_
      refine rl_p (wanted_n rfl (yE_of rfl rfl) rfl) rfl ?_
      refine rl_p (wanted_n rfl (yE_of rfl rfl) rfl) rfl ?_
      refine rl_p (wanted_n rfl (yE_of rfl rfl) rfl) rfl ?_
      refine rl_p (wanted_n rfl (yE_of rfl rfl) rfl) rfl ?_
      refine rl_q rfl rfl rfl (v_pick_t (v := (Value.bool (true))) rfl rfl) ?_
      refine rl_end ?_
      refine wt_cond_t rfl ?_
      refine wt_seq ?_
      refine wl_region wd_wide ?_
      refine rl_q rfl rfl rfl (v_assign (v := (Value.bool (false))) rfl) ?_
      refine rl_end ?_
      exact wt_ret1 rfl rfl ⟨_, rfl, h⟩
  · replace h := h.2 hp3
    refine rl_p (wanted_n rfl (yE_of rfl (congrArg Value.bool (congrArg Bool.not (decide_eq_false hp3)))) rfl) rfl ?_
    refine rl_p (wanted_n rfl (yE_of rfl (congrArg Value.bool (congrArg Bool.not (decide_eq_false hp3)))) rfl) rfl ?_
    refine rl_p (wanted_n rfl (yE_of rfl (congrArg Value.bool (congrArg Bool.not (decide_eq_false hp3)))) rfl) rfl ?_
    refine rl_p (wanted_n rfl (yE_of rfl (congrArg Value.bool (congrArg Bool.not (decide_eq_false hp3)))) rfl) rfl ?_
    refine rl_q rfl rfl rfl (v_pick_t (v := (Value.bool (true))) (congrArg Value.bool (congrArg Bool.not (decide_eq_false hp3))) rfl) ?_
    refine rl_q rfl rfl rfl (v_move (v := (Value.bool (true))) rfl) ?_
    refine rl_p (wanted_n rfl (yE_of rfl rfl) rfl) rfl ?_
    refine rl_p (wanted_n rfl (yE_of rfl rfl) rfl) rfl ?_
    refine rl_p (wanted_n rfl (yE_of rfl rfl) rfl) rfl ?_
    refine rl_p (wanted_n rfl (yE_of rfl rfl) rfl) rfl ?_
    refine rl_q rfl rfl rfl (v_pick_t (v := (Value.bool (true))) rfl rfl) ?_
    refine rl_q rfl rfl rfl (v_move (v := (Value.bool (true))) rfl) ?_
    refine rl_p (wanted_n rfl (yE_of rfl rfl) rfl) rfl ?_
    refine rl_p (wanted_n rfl (yE_of rfl rfl) rfl) rfl ?_
    refine rl_p (wanted_n rfl (yE_of rfl rfl) rfl) rfl ?_
    refine rl_p (wanted_n rfl (yE_of rfl rfl) rfl) rfl ?_
    refine rl_q rfl rfl rfl (v_pick_t (v := (Value.bool (true))) rfl rfl) ?_
    refine rl_q rfl rfl rfl (v_move (v := (Value.bool (true))) rfl) ?_
    refine rl_p (wanted_n rfl (yE_of rfl rfl) rfl) rfl ?_
    refine rl_p (wanted_n rfl (yE_of rfl rfl) rfl) rfl ?_
    refine rl_p (wanted_n rfl (yE_of rfl rfl) rfl) rfl ?_
    refine rl_p (wanted_n rfl (yE_of rfl rfl) rfl) rfl ?_
    refine rl_q rfl rfl rfl (v_pick_t (v := (Value.bool (true))) rfl rfl) ?_
    refine rl_end ?_
    refine wt_cond_t rfl ?_
    refine wt_seq ?_
    refine wl_region wd_wide ?_
    refine rl_q rfl rfl rfl (v_assign (v := (Value.bool (false))) rfl) ?_
    refine rl_end ?_
    exact wt_ret1 rfl rfl ⟨_, rfl, h⟩
end Go.Proofs.Ytnhmeckhlajeaaa

/- The chapter's examples come out right. -/
namespace Go.Proofs.Ytnhmeckhlajeaaa
open Go Go.RowKit Go.Shelf
set_option linter.unusedVariables false
set_option linter.unusedSectionVars false
set_option linter.unusedSimpArgs false

theorem reduces_eq {n : Nat} {es : List E3} {q : Nat} {d a s a' s' : List Int} (hE : EOk n es) (hq : q < n) (h : Reduces n es q d a s) (dl : a'.length = n) (sl : s'.length = n)
    (lp : ∀ v, v < n → gi a' v = gi d v - Lp n es (gi s') v) (sq : gi s' q = 0) (hR : Red n es q a') : a = a' ∧ s = s' := by
  have hL : ∀ (x y : Nat → Int) v, v < n → Lp n es (fun i => x i - y i) v = Lp n es x v - Lp n es y v := fun x y v hv => by
    have h1 := Lp_add (n := n) (es := es) (fun i => x i - y i) y v
    have h2 := Lp_congr (n := n) (es := es) (a := fun i => x i - y i + y i) (b := x) (fun i _ => by show x i - y i + y i = x i; omega) hv
    omega
  have h1 := red_script hE hq h.red hR.pos (f := fun v => gi s' v - gi s v) (fun v hv => by rw [hL _ _ v hv, lp v hv, h.lp v hv]; omega)
  have h2 := red_script hE hq hR h.red.pos (f := fun v => gi s v - gi s' v) (fun v hv => by rw [hL _ _ v hv, lp v hv, h.lp v hv]; omega)
  have hsq := h.sq
  have hs : ∀ v, v < n → gi s v = gi s' v := fun v hv => by
    have a1 : gi s' v - gi s v ≤ gi s' q - gi s q := h1 v hv
    have a2 : gi s v - gi s' v ≤ gi s q - gi s' q := h2 v hv
    omega
  have hss : s = s' := gi_ext (by rw [h.sl, sl]) (fun k hk => hs k (by rw [h.sl] at hk; exact hk))
  refine ⟨gi_ext (by rw [h.dl, dl]) (fun k hk => ?_), hss⟩
  rw [h.dl] at hk
  rw [lp k hk, h.lp k hk, hss]

/-- The set that a fire leaves is the greatest that can fire. -/
theorem burns_left {n : Nat} {es : List E3} {q : Nat} {d : List Int} {burnt : List Bool} (hE : EOk n es) (hq : q < n) (hB : Burns n es q d burnt) (T : Nat → Bool) (hT0 : T q = false)
    (hT : ∀ v, v < n → T v = true → sm n (fun u => if T u then 0 else W es v u) ≤ gi d v)
    (hmax : ∀ S : Nat → Bool, S q = false → (∀ v, v < n → S v = true → sm n (fun u => if S u then 0 else W es v u) ≤ gi d v) → ∀ v, v < n → S v = true → T v = true) :
    ∀ v, v < n → gb (leftOf burnt) v = T v := by
  have conv : ∀ (S : Nat → Bool) (v : Nat), joinsF es (v : Int) (fun u => !S u.toNat) = sm n (fun u => if S u then 0 else W es v u) := fun S v => by
    rw [joins_sum hE]
    refine sm_congr fun u hu => ?_
    simp only [Int.toNat_natCast]
    by_cases hs : S u = true
    · simp [hs]
    · simp [hs]
  intro v hv
  cases hTv : T v with
  | true =>
    have := hB.forced T hT0 (fun x hx hTx => by rw [conv]; exact hT x hx hTx) v hv hTv
    rw [gb_left hB.len hv, this]; rfl
  | false =>
    cases hl : gb (leftOf burnt) v with
    | false => rfl
    | true =>
      exfalso
      have := hmax (gb (leftOf burnt)) (by rw [gb_left hB.len hq, hB.at_q]; rfl) (fun x hx hSx => by
        have h1 := hB.closed x hx (by rw [gb_left hB.len hx] at hSx; simpa using hSx)
        rw [joins_sum hE] at h1
        refine Int.le_trans (Int.le_of_eq (sm_congr fun u hu => ?_)) h1
        rw [gb_left hB.len hu, Int.toNat_natCast]
        by_cases c : gb burnt u = true
        · simp [c]
        · simp [c]) v hv hl
      rw [hTv] at this; cases this

def es3 : List E3 := [(0, 1, 1), (0, 2, 1), (1, 2, 1)]
theorem ring_ok : EOk 3 es3 := (gcheck_ok (n := 3) (es := es3) (by decide)).1
theorem sm3 (f : Nat → Int) : sm 3 f = f 0 + f 1 + f 2 := by simp [sm]
theorem W3 : W es3 0 0 = 0 ∧ W es3 0 1 = 1 ∧ W es3 0 2 = 1 ∧ W es3 1 0 = 1 ∧ W es3 1 1 = 0 ∧ W es3 1 2 = 1 ∧ W es3 2 0 = 1 ∧ W es3 2 1 = 1 ∧ W es3 2 2 = 0 := by decide
theorem lt3 {P : Nat → Prop} (h0 : P 0) (h1 : P 1) (h2 : P 2) : ∀ v, v < 3 → P v := fun v hv => by
  match v, hv with
  | 0, _ => exact h0
  | 1, _ => exact h1
  | 2, _ => exact h2
theorem ring_red : Red 3 es3 0 [0, 0, 1] := by
  obtain ⟨w00, w01, w02, w10, w11, w12, w20, w21, w22⟩ := W3
  refine ⟨lt3 (by simp) (by intro _; decide) (by intro _; decide), fun S hS ⟨v, hv, hSv⟩ => ?_⟩
  simp only [sm3]
  cases h1 : S 1 <;> cases h2 : S 2
  · exfalso
    revert hSv
    revert v
    exact lt3 (by simp [hS]) (by simp [h1]) (by simp [h2])
  · exact ⟨2, by omega, h2, by simp [hS, h1, h2, w20, w21, w22, gi]⟩
  · exact ⟨1, by omega, h1, by simp [hS, h1, h2, w10, w11, w12, gi]⟩
  · exact ⟨1, by omega, h1, by simp [hS, h1, h2, w10, w11, w12, gi]⟩
theorem ring_lp (s : List Int) : Lp 3 es3 (gi s) 0 = 2 * gi s 0 - gi s 1 - gi s 2 ∧ Lp 3 es3 (gi s) 1 = 2 * gi s 1 - gi s 0 - gi s 2 ∧ Lp 3 es3 (gi s) 2 = 2 * gi s 2 - gi s 0 - gi s 1 := by
  obtain ⟨w00, w01, w02, w10, w11, w12, w20, w21, w22⟩ := W3
  unfold Lp
  simp only [sm3, w00, w01, w02, w10, w11, w12, w20, w21, w22]
  omega
theorem ring_small (d : List Int) (h : ∀ v : Nat, (v : Int) < 3 → -200 ≤ gi d v ∧ gi d v ≤ 200) : Small 3 es3 d := ⟨by decide, fun _ => by decide, fun _ => h⟩

theorem ring_edges {w : World} {g : Nat} (h : Row w g 117 9 [.int .i64 0, .int .i64 1, .int .i64 1, .int .i64 0, .int .i64 2, .int .i64 1, .int .i64 1, .int .i64 2, .int .i64 1]) : Edges w (some ⟨g, 0, none⟩) es3 := fun _ =>
  ⟨g, 0, rfl, Row.lt h, lt3 ⟨h.cell rfl, h.cell rfl, h.cell rfl⟩ ⟨h.cell rfl, h.cell rfl, h.cell rfl⟩ ⟨h.cell rfl, h.cell rfl, h.cell rfl⟩⟩
theorem new_ints {w w' : World} {g : Nat} (l : List Int) {cs : Array Value} (h : New w g w' cs 3) (hc : cs = (l.map (Value.int .i64)).toArray) : Ints w' (some ⟨g, 0, none⟩) l := by
  subst hc
  have hr := h.row
  exact fun _ => ⟨g, 0, rfl, Row.lt hr, fun k hk => by
    have := Row.cell hr (i := k) (v := .int .i64 (gi l k)) (by simp [List.getElem?_eq_getElem hk, gi_of_lt hk])
    simpa using this⟩

theorem ring_reduce (A D : Option Addr) (cap cd : Nat) (w : World) (d : List Int) (hl : d.length = 3) (he : Edges w A es3) (hd : Ints w D d) (hb : ∀ v : Nat, (v : Int) < 3 → -200 ≤ gi d v ∧ gi d v ≤ 200) (hg : givenF 3 es3 0 d = 0) (s' : List Int) (sl : s'.length = 3)
    (lp : ∀ v, v < 3 → gi [0, 0, 1] v = gi d v - Lp 3 es3 (gi s') v) (sq : gi s' 0 = 0) :
    Calls Try.prog 17 #[.agg #[.int .i64 3, .slice A 3 cap], .int .i64 0, .slice D 3 cd] w fun e w' => ∃ A1 c1 A2 c2, e = .returned (.tuple #[.slice A1 3 c1, .slice A2 3 c2, .int .i64 0]) ∧ Ints w' A1 [0, 0, 1] ∧ Ints w' A2 s' ∧ Pure w w' := by
  have h := reduce_any A D es3 d cap cd 3 0 w he hd (by omega) (ring_small d hb)
  rw [hl] at h
  refine h.mono ?_
  rintro e w1 ⟨A1, l1, c1, A2, l2, c2, er, rfl, p, rfl, h1, h2⟩
  obtain ⟨gd, gs, cd', cs', d', s2, hP, hr, -, -, -⟩ := h2 hg
  obtain ⟨rfl, rfl⟩ := reduces_eq ring_ok (by decide) hP (a' := [0, 0, 1]) (s' := s') rfl sl lp sq ring_red
  obtain ⟨rfl, r2, rfl, rfl, r5, rfl, row1, row2⟩ := hr
  rw [r2, r5, hg]
  exact ⟨_, _, _, _, rfl, IRow.ints row1, IRow.ints row2, p⟩

theorem ring_unburnt (A D : Option Addr) (cap cd : Nat) (w : World) (d : List Int) (hl : d.length = 3) (he : Edges w A es3) (hd : Ints w D d) (hg : givenF 3 es3 0 d = 0) (ho : owesF 0 d = false) (T : Nat → Bool) (hT0 : T 0 = false)
    (hT : ∀ v, v < 3 → T v = true → sm 3 (fun u => if T u then 0 else W es3 v u) ≤ gi d v)
    (hmax : ∀ S : Nat → Bool, S 0 = false → (∀ v, v < 3 → S v = true → sm 3 (fun u => if S u then 0 else W es3 v u) ≤ gi d v) → ∀ v, v < 3 → S v = true → T v = true) (out : List Int)
    (hout : ∀ left, (∀ v, v < 3 → gb left v = T v) → setF left 3 = out) :
    Calls Try.prog 31 #[.agg #[.int .i64 3, .slice A 3 cap], .int .i64 0, .slice D 3 cd] w fun e w' => ∃ A1 c1, e = .returned (.tuple #[.slice A1 out.length c1, .int .i64 0]) ∧ Ints w' A1 out ∧ Pure w w' := by
  have h := unburntp_any A D es3 d cap cd 3 0 w he hd (by omega) (by decide)
  rw [hl] at h
  refine h.mono ?_
  rintro e w1 ⟨A1, l1, c1, er, rfl, p, rfl, h1, h2⟩
  rw [if_pos hg, if_neg (by rw [ho]; simp)] at h2 ⊢
  obtain ⟨burnt, hB, hoi⟩ := h2 rfl
  have := burns_left ring_ok (by decide) hB T hT0 hT hmax
  have h3 : setF (leftOf burnt) (3 : Int).toNat = out := hout _ this
  rw [h3] at hoi
  obtain ⟨rfl, hi⟩ := hoi.ints
  exact ⟨_, _, rfl, hi, p⟩

theorem ring_lps (d s : List Int) (h0 : gi [0, 0, 1] 0 = gi d 0 - (2 * gi s 0 - gi s 1 - gi s 2)) (h1 : gi [0, 0, 1] 1 = gi d 1 - (2 * gi s 1 - gi s 0 - gi s 2)) (h2 : gi [0, 0, 1] 2 = gi d 2 - (2 * gi s 2 - gi s 0 - gi s 1)) :
    ∀ v, v < 3 → gi [0, 0, 1] v = gi d v - Lp 3 es3 (gi s) v := by
  obtain ⟨a, b, c⟩ := ring_lp s
  exact lt3 (by rw [a]; exact h0) (by rw [b]; exact h1) (by rw [c]; exact h2)
theorem bnds3 (d : List Int) (h0 : -200 ≤ gi d 0 ∧ gi d 0 ≤ 200) (h1 : -200 ≤ gi d 1 ∧ gi d 1 ≤ 200) (h2 : -200 ≤ gi d 2 ∧ gi d 2 ≤ 200) : ∀ v : Nat, (v : Int) < 3 → -200 ≤ gi d v ∧ gi d v ≤ 200 := fun v hv =>
  lt3 (P := fun v => -200 ≤ gi d v ∧ gi d v ≤ 200) h0 h1 h2 v (by omega)
theorem legal3 (S : Nat → Bool) (hS : S 0 = false) (d : List Int) (h : ∀ v, v < 3 → S v = true → sm 3 (fun u => if S u then 0 else W es3 v u) ≤ gi d v) :
    (S 1 = true → (if S 2 then 1 else 2) ≤ gi d 1) ∧ (S 2 = true → (if S 1 then 1 else 2) ≤ gi d 2) := by
  obtain ⟨w00, w01, w02, w10, w11, w12, w20, w21, w22⟩ := W3
  constructor
  · intro h1
    have := h 1 (by omega) h1
    simp only [sm3, hS, h1, w10, w11, w12] at this
    cases h2 : S 2 <;> simp [h2] at this ⊢ <;> exact this
  · intro h1
    have := h 2 (by omega) h1
    simp only [sm3, hS, h1, w20, w21, w22] at this
    cases h2 : S 1 <;> simp [h2] at this ⊢ <;> exact this

theorem awake_any (w : World) : Calls Try.prog 16 #[] w fun e w' => e = .returned (.bool true) ∧ Pure w w' := by
  refine (ok_l34_awake w (fun r w' => r = true ∧ Pure w w') ?_).mono (by rintro e w' ⟨r, rfl, rfl, p⟩; exact ⟨rfl, p⟩)
  unfold sh_l34_awake
  refine (ring_any w).mono ?_
  rintro _ w2 ⟨x1, rfl, hr1, -, p2⟩
  refine ⟨_, _, _, _, rfl, fun g w3 hN3 => ?_⟩
  have p3 : Pure w2 w3 := hN3.keeps _
  refine (ring_reduce _ _ 3 3 w3 [-1, 2, 0] rfl ((ring_edges hr1).keep p3) (new_ints [-1, 2, 0] hN3 rfl) (bnds3 _ (by decide) (by decide) (by decide)) (by decide) [0, 1, 0] rfl (ring_lps _ _ (by decide) (by decide) (by decide)) rfl).mono ?_
  rintro _ w4 ⟨A1, c1, A2, c2, rfl, i1, i2, p4⟩
  refine ⟨_, _, _, _, _, _, _, rfl, (ring_any w4).mono ?_⟩
  rintro _ w5 ⟨x2, rfl, hr2, -, p5⟩
  refine ⟨_, _, _, _, rfl, fun g w6 hN6 => ?_⟩
  have p6 : Pure w5 w6 := hN6.keeps _
  refine (ring_reduce _ _ 3 3 w6 [2, -1, 0] rfl ((ring_edges hr2).keep p6) (new_ints [2, -1, 0] hN6 rfl) (bnds3 _ (by decide) (by decide) (by decide)) (by decide) [0, -1, -1] rfl (ring_lps _ _ (by decide) (by decide) (by decide)) rfl).mono ?_
  rintro _ w7 ⟨A3, c3, A4, c4, rfl, i3, i4, p7⟩
  refine ⟨_, _, _, _, _, _, _, rfl, (ring_any w7).mono ?_⟩
  rintro _ w8 ⟨x3, rfl, hr3, -, p8⟩
  refine ⟨_, _, _, _, rfl, fun g w9 hN9 => ?_⟩
  have p9 : Pure w8 w9 := hN9.keeps _
  obtain ⟨w00, w01, w02, w10, w11, w12, w20, w21, w22⟩ := W3
  refine (ring_unburnt _ _ 3 3 w9 [0, 2, 0] rfl ((ring_edges hr3).keep p9) (new_ints [0, 2, 0] hN9 rfl) (by decide) (by decide) (fun v => v == 1) rfl (lt3 (by simp) (fun _ => by simp [sm3, w10, w11, w12, gi]) (by simp))
    (fun S hS h => by
      obtain ⟨k1, k2⟩ := legal3 S hS _ h
      refine lt3 (by simp [hS]) (by simp) (fun h2 => ?_)
      have := k2 h2
      simp [gi] at this
      split at this <;> omega) [1] (fun left hl => by have a := hl 0 (by omega); have b := hl 1 (by omega); have c := hl 2 (by omega); simp [setF, a, b, c])).mono ?_
  rintro _ w10' ⟨A5, c5, rfl, i5, p10⟩
  refine ⟨_, _, _, _, rfl, (ring_any w10').mono ?_⟩
  rintro _ w11' ⟨x4, rfl, hr4, -, p11⟩
  refine ⟨_, _, _, _, rfl, fun g w12' hN12 => ?_⟩
  have p12 : Pure w11' w12' := hN12.keeps _
  refine (ring_unburnt _ _ 3 3 w12' [0, 1, 1] rfl ((ring_edges hr4).keep p12) (new_ints [0, 1, 1] hN12 rfl) (by decide) (by decide) (fun v => v == 1 || v == 2) rfl (lt3 (by simp) (fun _ => by simp [sm3, w10, w11, w12, gi]) (fun _ => by simp [sm3, w20, w21, w22, gi]))
    (fun S hS h => lt3 (by simp [hS]) (by simp) (by simp)) [1, 2] (fun left hl => by have a := hl 0 (by omega); have b := hl 1 (by omega); have c := hl 2 (by omega); simp [setF, a, b, c])).mono ?_
  rintro _ w13' ⟨A6, c6, rfl, i6, p13⟩
  refine ⟨_, _, _, _, rfl, (ring_any w13').mono ?_⟩
  rintro _ w14' ⟨x5, rfl, hr5, -, p14⟩
  refine ⟨_, _, _, _, rfl, fun g w15' hN15 => ?_⟩
  have p15 : Pure w14' w15' := hN15.keeps _
  refine (ring_unburnt _ _ 3 3 w15' [0, 1, 0] rfl ((ring_edges hr5).keep p15) (new_ints [0, 1, 0] hN15 rfl) (by decide) (by decide) (fun v => false) rfl (fun _ _ h => by cases h)
    (fun S hS h => by
      obtain ⟨k1, k2⟩ := legal3 S hS _ h
      refine lt3 (by simp [hS]) (fun h1 => ?_) (fun h2 => ?_)
      · have e2 : S 2 = false := by
          cases h2 : S 2 with
          | false => rfl
          | true => exfalso; have := k2 h2; simp [h1, gi] at this
        have := k1 h1
        simp [e2, gi] at this
      · exfalso
        have := k2 h2
        simp [gi] at this
        split at this <;> omega) [] (fun left hl => by have a := hl 0 (by omega); have b := hl 1 (by omega); have c := hl 2 (by omega); simp [setF, a, b, c])).mono ?_
  rintro _ w16' ⟨A7, c7, rfl, i7, p16⟩
  have q1 : Pure w4 w16' := p5.trans (p6.trans (p7.trans (p8.trans (p9.trans (p10.trans (p11.trans (p12.trans (p13.trans (p14.trans (p15.trans p16))))))))))
  have q2 : Pure w7 w16' := p8.trans (p9.trans (p10.trans (p11.trans (p12.trans (p13.trans (p14.trans (p15.trans p16)))))))
  have q3 : Pure w10' w16' := p11.trans (p12.trans (p13.trans (p14.trans (p15.trans p16))))
  have q4 : Pure w13' w16' := p14.trans (p15.trans p16)
  have q0 : Pure w w16' := p2.trans (p3.trans (p4.trans q1))
  have i1 := i1.keep q1
  have i2 := i2.keep q1
  have i3 := i3.keep q2
  have i4 := i4.keep q2
  have i5 := i5.keep q3
  have i6 := i6.keep q4
  refine ⟨_, _, _, _, rfl, fun w17 => Pure w16' w17, fun w17 p17 g w18 hN18 => ?_, in64 (by omega), in64 (by omega), in64 (by omega), in64 (by omega), fun _ g w22 hN22 => ?_, fun h => absurd rfl h⟩
  · have p18 : Pure w17 w18 := hN18.keeps _
    refine (equalI_any _ _ [1] [1] _ _ w18 (i5.keep (p17.trans p18)) (new_ints [1] hN18 rfl) (by decide)).mono ?_
    rintro _ w19 ⟨rfl, p19⟩
    refine ⟨_, rfl, fun _ g w20 hN20 => ?_, fun h => absurd (by decide) h⟩
    have p20 : Pure w19 w20 := hN20.keeps _
    refine (equalI_any _ _ [1, 2] [1, 2] _ _ w20 (i6.keep (p17.trans (p18.trans (Keeps.trans p19 p20)))) (new_ints [1, 2] hN20 rfl) (by decide)).mono ?_
    rintro _ w21 ⟨rfl, p21⟩
    exact ⟨_, rfl, fun _ => ⟨by simp, q0.trans (p17.trans (p18.trans (Keeps.trans p19 (p20.trans p21))))⟩, fun h => absurd (by decide) h⟩
  · have p22 : Pure w16' w22 := hN22.keeps _
    refine (equalD_any _ _ [0, 0, 1] [0, 0, 1] _ _ w22 (i1.keep p22) (new_ints [0, 0, 1] hN22 rfl) (by decide)).mono ?_
    rintro _ w23 ⟨rfl, p23⟩
    refine ⟨_, rfl, fun _ g w24 hN24 => ?_, fun h => absurd (by decide) h⟩
    have p24 : Pure w23 w24 := hN24.keeps _
    have r24 : Pure w16' w24 := p22.trans (Keeps.trans p23 p24)
    refine (equalS_any _ _ [0, 1, 0] [0, 1, 0] _ _ w24 (i2.keep r24) (new_ints [0, 1, 0] hN24 rfl) (by decide)).mono ?_
    rintro _ w25 ⟨rfl, p25⟩
    have r25 : Pure w16' w25 := r24.trans p25
    refine ⟨_, rfl, fun _ => ?_, fun h => absurd (by decide) h⟩
    refine (equalD_any _ _ [0, 0, 1] [0, 0, 1] _ _ w25 (i3.keep r25) (i1.keep r25) (by decide)).mono ?_
    rintro _ w26 ⟨rfl, p26⟩
    have r26 : Pure w16' w26 := r25.trans p26
    refine ⟨_, rfl, fun _ g w27 hN27 => ?_, fun h => absurd (by decide) h⟩
    have p27 : Pure w26 w27 := hN27.keeps _
    have r27 : Pure w16' w27 := r26.trans p27
    refine (equalS_any _ _ [0, -1, -1] [0, -1, -1] _ _ w27 (i4.keep r27) (new_ints [0, -1, -1] hN27 rfl) (by decide)).mono ?_
    rintro _ w28 ⟨rfl, p28⟩
    exact ⟨_, rfl, fun _ => r27.trans p28, fun h => absurd (by decide) h⟩
end Go.Proofs.Ytnhmeckhlajeaaa

/- Plain facts on graphs that the references need: checks, weights, connectedness, sets as bits. No program in sight. -/
namespace Go.Proofs.Ytnhmeckhlajeaaa
open Go Go.RowKit Go.Shelf
set_option linter.unusedVariables false
set_option linter.unusedSectionVars false
set_option linter.unusedSimpArgs false

/-- The error of an edge behind another one. -/
def edgeF (n a b : Int) (x : E3) : Int := if (0 ≤ x.1 ∧ x.1 < n) ∧ (0 ≤ x.2.1 ∧ x.2.1 < n) ∧ 1 ≤ x.2.2 ∧ x.2.2 ≤ 50 then (if x.1 ≤ x.2.1 ∧ pcmpF a b x.1 x.2.1 < 0 then 0 else 9) else 2
theorem gchk_cons (n a b : Int) (x : E3) (t : List E3) : gchk n a b (x :: t) = if edgeF n a b x = 0 then gchk n x.1 x.2.1 t else edgeF n a b x := by
  rw [gchk]
  unfold edgeF
  by_cases c : (0 ≤ x.1 ∧ x.1 < n) ∧ (0 ≤ x.2.1 ∧ x.2.1 < n) ∧ 1 ≤ x.2.2 ∧ x.2.2 ≤ 50
  · rw [if_pos c, if_pos c]
    by_cases c2 : x.1 ≤ x.2.1 ∧ pcmpF a b x.1 x.2.1 < 0
    · rw [if_pos c2, if_pos c2, if_pos rfl]
    · rw [if_neg c2, if_neg c2, if_neg (by omega)]
  · rw [if_neg c, if_neg c, if_neg (by omega)]
theorem pcmp_lt (a b c d : Int) : pcmpF a b c d < 0 ↔ a < c ∨ (a = c ∧ b < d) := by
  unfold pcmpF orF cmpF
  by_cases h1 : a < c
  · simp [h1]
  · by_cases h2 : c < a
    · simp [h1, h2]; omega
    · have : a = c := by omega
      subst this
      simp
      by_cases h3 : b < d
      · simp [h3]
      · by_cases h4 : d < b <;> simp [h3, h4]
/-- What lies ahead of edge k. -/
def pre (es : List E3) (k : Nat) : Int × Int := if k = 0 then (-1, -1) else ((ge es (k - 1)).1, (ge es (k - 1)).2.1)
theorem gchk_lt {n : Int} : ∀ (es : List E3) (a b : Int), gchk n a b es = 0 → ∀ x ∈ es, (a < x.1 ∨ (a = x.1 ∧ b < x.2.1)) ∧ x.1 ≤ x.2.1
  | [], _, _, _ => by simp
  | x :: t, a, b, h => by
    rw [gchk_cons] at h
    by_cases h0 : edgeF n a b x = 0
    · rw [if_pos h0] at h
      have hx : x.1 ≤ x.2.1 ∧ (a < x.1 ∨ (a = x.1 ∧ b < x.2.1)) := by
        unfold edgeF at h0
        split at h0
        · split at h0
          · rename_i c; exact ⟨c.1, (pcmp_lt _ _ _ _).1 c.2⟩
          · omega
        · omega
      intro y hy
      rcases List.mem_cons.1 hy with rfl | hy
      · exact ⟨hx.2, hx.1⟩
      · have := gchk_lt t _ _ h y hy
        omega
    · rw [if_neg h0] at h; exact absurd h h0
theorem between_W {n : Int} (u v : Nat) (huv : u ≠ v) : ∀ (es : List E3) (a b : Int), gchk n a b es = 0 → ((es.find? fun x => decide (x.1 = mnF (u : Int) v ∧ x.2.1 = mxF (u : Int) v)).map (·.2.2)).getD 0 = W es u v
  | [], _, _, _ => rfl
  | x :: t, a, b, h => by
    have hlt := gchk_lt (x :: t) a b h
    rw [gchk_cons] at h
    by_cases h0 : edgeF n a b x = 0
    · rw [if_pos h0] at h
      have ih := between_W u v huv t _ _ h
      have ht := gchk_lt t _ _ h
      have hx := (hlt x (by simp)).2
      have hmn : mnF (u : Int) v = if (u : Int) < v then (u : Int) else v := by unfold mnF; split <;> (try split) <;> omega
      have hmx : mxF (u : Int) v = if (u : Int) < v then (v : Int) else u := by unfold mxF; split <;> (try split) <;> omega
      rw [List.find?_cons, W_cons]
      by_cases c : x.1 = mnF (u : Int) v ∧ x.2.1 = mxF (u : Int) v
      · have hnone : t.find? (fun x => decide (x.1 = mnF (u : Int) v ∧ x.2.1 = mxF (u : Int) v)) = none := by
          rw [List.find?_eq_none]
          intro y hy
          have := ht y hy
          simp only [decide_eq_true_eq]
          omega
        rw [hnone] at ih
        have hw : w1 x u v = x.2.2 := by
          unfold w1
          rw [if_pos]
          rw [hmn, hmx] at c
          by_cases q : (u : Int) < v
          · rw [if_pos q, if_pos q] at c; omega
          · rw [if_neg q, if_neg q] at c; omega
        rw [decide_eq_true c, hw, ← ih]
        simp
      · have hw : w1 x u v = 0 := by
          unfold w1
          rw [if_neg]
          intro q
          apply c
          rw [hmn, hmx]
          by_cases q2 : (u : Int) < v
          · rw [if_pos q2, if_pos q2]; omega
          · rw [if_neg q2, if_neg q2]; omega
        rw [decide_eq_false c, hw, ← ih]
        simp
    · rw [if_neg h0] at h; exact absurd h h0
theorem gcheck_gchk {n : Int} {es : List E3} (h : gcheckF n es = 0) : gchk n (-1) (-1) es = 0 := by
  unfold gcheckF at h
  split at h
  · exact h
  · omega
/-- A small graph, or one with an error. -/
def smallF (n : Int) (es : List E3) (a b : Int) : Bool := decide (es.length ≤ 40 ∧ (gcheckF n es = 0 → n ≤ a ∧ (es.map (·.2.2)).sum ≤ b))
theorem gb_rep (n v : Nat) : gb (List.replicate n false) v = false := by
  rcases Nat.lt_or_ge v n with h | h
  · rw [gb_of_lt (by simpa using h)]; simp
  · exact gb_ge (by simpa using h)
theorem set_same {l : List Bool} {v : Nat} (h : gb l v = true) : l.set v true = l := by
  rcases Nat.lt_or_ge v l.length with hv | hv
  · rw [gb_of_lt hv] at h
    rw [← h]; exact List.set_getElem_self hv
  · rw [gb_ge hv] at h; cases h
/-- Closed under edges. -/
def Cl (n : Nat) (es : List E3) (o : List Bool) : Prop := ∀ a b, a < n → b < n → gb o a = true → 0 < W es a b → gb o b = true
theorem root_W {n : Nat} {es : List E3} (hE : EOk n es) (hn : 1 ≤ n) (h12 : n ≤ 12) {a b : Nat} (h : 0 < W es a b) : root (joinedF es) a = root (joinedF es) b := by
  obtain ⟨m, hm⟩ := (W_adj hE).1 h
  obtain ⟨x, hx, q1, q2, q3, q4⟩ := mem_linksF.1 hm
  have h1 := root_edge es (hE.ends hn h12) x hx
  have hbx := hE x hx
  rcases q2 with q2 | q2
  · rwa [show x.1.toNat = a by omega, show x.2.1.toNat = b by omega] at h1
  · rw [show x.1.toNat = b by omega, show x.2.1.toNat = a by omega] at h1; exact h1.symm
theorem conn_root {n : Nat} {es : List E3} (hE : EOk n es) (hn : 1 ≤ n) (h12 : n ≤ 12) : connF n es = true ↔ ∀ v, v < n → root (joinedF es) v = root (joinedF es) 0 := by
  have hF := joinedF_forest es (hE.ends hn h12)
  unfold connF
  rw [beq_iff_eq, Int.toNat_natCast]
  exact nroots_one hF hn h12
theorem cl_root {n : Nat} {es : List E3} (hE : EOk n es) (hn : 1 ≤ n) (h12 : n ≤ 12) {o : List Bool} (hC : Cl n es o) {v : Nat} (hv : v < n) (hvo : gb o v = true) (hs : ∀ u, u < n → gb o u = true → root (joinedF es) u = root (joinedF es) v) :
    ∀ u, u < n → gb o u = decide (root (joinedF es) u = root (joinedF es) v) := by
  have hcl : ∀ x ∈ es, gb o x.1.toNat = gb o x.2.1.toNat := fun x hx => by
    have hb := hE x hx
    by_cases e : x.1 = x.2.1
    · rw [e]
    · have hw := W_edge hE hn h12 hx e
      cases h1 : gb o x.1.toNat <;> cases h2 : gb o x.2.1.toNat
      · rfl
      · rw [hC _ _ (by omega) (by omega) h2 (by rw [W_symm]; exact hw)] at h1; cases h1
      · rw [hC _ _ (by omega) (by omega) h1 hw] at h2; cases h2
      · rfl
  have hside := root_side (n := n) (S := gb o) es (hE.ends hn h12) hcl
  intro u hu
  cases h : gb o u with
  | true => exact (decide_eq_true (hs u hu h)).symm
  | false =>
    symm
    rw [decide_eq_false_iff_not]
    intro e
    have h1 := hside u (by omega)
    have h2 := hside v (by omega)
    rw [e, h2, hvo] at h1
    rw [h] at h1; cases h1
def joinedE (n : Int) (es : List E3) : Int := if gcheckF n es = 0 then (if connF n es = true then 0 else 13) else gcheckF n es
theorem bit_and (m u : Nat) : ((((m : Int) / 2 ^ (u : Int).toNat).toNat &&& (1 : Int).toNat : Nat) : Int) = if m.testBit u = true then 1 else 0 := by
  have e1 : ((m : Int) / 2 ^ (u : Int).toNat).toNat = m / 2 ^ u := by
    have : ((m : Int) / 2 ^ (u : Int).toNat) = ((m / 2 ^ u : Nat) : Int) := by rw [Int.toNat_natCast]; push_cast; rfl
    rw [this, Int.toNat_natCast]
  have e2 : (1 : Int).toNat = 1 := rfl
  rw [e1, e2, Nat.and_one_is_mod, Nat.testBit_eq_decide_div_mod_eq]
  simp only [decide_eq_true_eq]
  split <;> omega
theorem bit_fit (m u : Nat) (hm : m < 9223372036854775808) : 0 ≤ ((m : Int) / 2 ^ (u : Int).toNat) ∧ ((m : Int) / 2 ^ (u : Int).toNat) < 9223372036854775808 ∧ 0 ≤ (1 : Int) ∧ (1 : Int) < 9223372036854775808 := by
  have : ((m : Int) / 2 ^ (u : Int).toNat) = ((m / 2 ^ u : Nat) : Int) := by rw [Int.toNat_natCast]; push_cast; rfl
  have h2 : m / 2 ^ u ≤ m := Nat.div_le_self _ _
  rw [this]
  generalize m / 2 ^ u = z at h2
  omega
theorem W_le {n : Nat} {es : List E3} (hE : EOk n es) (v u : Nat) : W es v u ≤ 50 * es.length := by
  induction es with
  | nil => rw [W_nil]; simp
  | cons x es ih =>
    have h1 := ih (fun y hy => hE y (by simp [hy]))
    have h2 := hE x (by simp)
    rw [W_cons, List.length_cons]
    unfold w1
    split <;> omega
/-- What leaves a set, at a vertex. -/
def outS (n : Nat) (es : List E3) (S : Nat → Bool) (v : Nat) : Int := sm n (fun u => if S u = true then 0 else W es v u)
/-- A set that can fire. -/
def mayF (n : Nat) (es : List E3) (d : List Int) (S : Nat → Bool) : Prop := ∀ v, v < n → S v = true → outS n es S v ≤ gi d v
theorem two_pow_small {n : Nat} (hn : n ≤ 12) : 2 ^ n ≤ 4096 := Nat.pow_le_pow_right (by omega) (show n ≤ 12 from hn)
theorem pow_cast (n : Nat) : (1 : Int) * 2 ^ (n : Int).toNat = ((2 ^ n : Nat) : Int) := by rw [Int.toNat_natCast, Int.one_mul]; push_cast; rfl
/-- A set as bits. -/
def maskF (S : Nat → Bool) : Nat → Nat
  | 0 => 0
  | k + 1 => maskF S k ||| (if S k = true then 2 ^ k else 0)
theorem mask_bit (S : Nat → Bool) : ∀ k i, (maskF S k).testBit i = (decide (i < k) && S i)
  | 0, i => by simp [maskF]
  | k + 1, i => by
    rw [maskF, Nat.testBit_or, mask_bit S k i]
    by_cases hS : S k = true
    · rw [if_pos hS, Nat.testBit_two_pow]
      by_cases e : k = i
      · subst e; simp [hS]
      · have : (i < k + 1) ↔ i < k := by omega
        simp [e, this]
    · rw [if_neg hS]
      by_cases e : k = i
      · subst e; simp [hS]
      · have : (i < k + 1) ↔ i < k := by omega
        simp [this]
theorem mask_lt (S : Nat → Bool) : ∀ k, maskF S k < 2 ^ k
  | 0 => by simp [maskF]
  | k + 1 => by
    rw [maskF]
    have h1 := mask_lt S k
    have h2 : 2 ^ k < 2 ^ (k + 1) := Nat.pow_lt_pow_right (by omega) (by omega)
    refine Nat.or_lt_two_pow (by omega) ?_
    split
    · exact h2
    · exact Nat.lt_trans (Nat.two_pow_pos k) h2
theorem outS_congr {n : Nat} {es : List E3} {S T : Nat → Bool} (h : ∀ v, v < n → S v = T v) (v : Nat) : outS n es S v = outS n es T v := sm_congr fun u hu => by rw [h u hu]
theorem mask_may {n : Nat} {es : List E3} {d : List Int} (S : Nat → Bool) : mayF n es d (maskF S n).testBit ↔ mayF n es d S := by
  have h : ∀ v, v < n → (maskF S n).testBit v = S v := fun v hv => by rw [mask_bit]; simp [hv]
  unfold mayF
  constructor
  · intro h1 v hv hS; rw [← outS_congr h]; exact h1 v hv (by rw [h v hv]; exact hS)
  · intro h1 v hv hS; rw [outS_congr h]; exact h1 v hv (by rw [← h v hv]; exact hS)
theorem tight_red {n : Nat} {es : List E3} {q : Nat} {d : List Int} (hq : q < n) (hpos : ∀ v, v < n → v ≠ q → 0 ≤ gi d v) : (∀ m, 1 ≤ m → m < 2 ^ n → m.testBit q = false → ¬ mayF n es d m.testBit) ↔ Red n es q d := by
  constructor
  · intro h
    refine ⟨hpos, fun S hS ⟨v, hv, hSv⟩ => ?_⟩
    apply Classical.byContradiction
    intro hno
    refine h (maskF S n) ?_ (mask_lt S n) (by rw [mask_bit, hS]; simp) ((mask_may S).2 fun x hx hSx => ?_)
    · apply Nat.one_le_iff_ne_zero.2
      intro e
      have := mask_bit S n v
      rw [e, hSv] at this
      simp [hv] at this
    · apply Int.not_lt.1
      intro hlt
      exact hno ⟨x, hx, hSx, hlt⟩
  · intro hR m h1 h2 h3 hmay
    obtain ⟨i, hi⟩ := Nat.exists_testBit_of_ne_zero (show m ≠ 0 by omega)
    have hin : i < n := by
      apply Nat.lt_of_not_le
      intro hle
      have := Nat.testBit_lt_two_pow (Nat.lt_of_lt_of_le h2 (Nat.pow_le_pow_right (by omega) hle))
      rw [this] at hi; cases hi
    obtain ⟨v, hv, hSv, hlt⟩ := hR.no m.testBit h3 ⟨i, hin, hi⟩
    have := hmay v hv hSv
    unfold outS at this
    omega
/-- A union of sets that can fire can fire. -/
theorem outS_mono {n : Nat} {es : List E3} (hE : EOk n es) {S T : Nat → Bool} (h : ∀ v, v < n → S v = true → T v = true) (v : Nat) : outS n es T v ≤ outS n es S v := sm_le fun u hu => by
  have hw := W_nonneg hE v u
  show ite _ _ _ ≤ ite _ _ _
  by_cases hT : T u = true
  · rw [if_pos hT]; split <;> omega
  · rw [if_neg hT, if_neg (fun hS => hT (h u hu hS))]; exact Int.le_refl _
theorem setF_congr {l l' : List Bool} : ∀ k, (∀ v, v < k → gb l v = gb l' v) → setF l k = setF l' k
  | 0, _ => rfl
  | k + 1, h => by rw [setF, setF, setF_congr k (fun v hv => h v (by omega)), h k (by omega)]
/-- The bits of a number, in order. -/
def bitsF (a : Nat) : Nat → List Int
  | 0 => []
  | k + 1 => if a.testBit k = true then bitsF a k ++ [(k : Int)] else bitsF a k
theorem bits_set {a : Nat} {l : List Bool} : ∀ k, (∀ v, v < k → gb l v = a.testBit v) → bitsF a k = setF l k
  | 0, _ => rfl
  | k + 1, h => by rw [setF, bitsF, bits_set k (fun v hv => h v (by omega)), h k (by omega)]
theorem bitsF_length (a : Nat) : ∀ k, (bitsF a k).length ≤ k
  | 0 => by simp [bitsF]
  | k + 1 => by have := bitsF_length a k; rw [bitsF]; split <;> simp <;> omega
end Go.Proofs.Ytnhmeckhlajeaaa

/- Reduce of a divisor that is reduced already: it is the form, and the script is 0. -/
namespace Go.Proofs.Ytnhmeckhlajeaaa
open Go
set_option linter.unusedVariables false
set_option linter.unusedSectionVars false

theorem reduce_red_any (A D : Option Addr) (es : List E3) (d : List Int) (cap cd : Nat) (n q : Int) (w : World) (he : Edges w A es) (hd : Ints w D d) (hdl : d.length ≤ 1000000000) (hel : es.length ≤ 40) (hred : givenF n es q d = 0 → Red n.toNat es q.toNat d ∧ ∀ v : Nat, (v : Int) < n → -600000 ≤ gi d v ∧ gi d v ≤ 600000) :
    Calls Try.prog 17 #[.agg #[.int .i64 n, .slice A es.length cap], .int .i64 q, .slice D d.length cd] w fun e w' => ∃ A1 l1 c1 A2 l2 c2 er, e = .returned (.tuple #[.slice A1 l1 c1, .slice A2 l2 c2, .int .i64 er]) ∧
      OutPost (fun n q d' s' => Reduces n es q d d' s') n es q d w A1 l1 c1 A2 l2 c2 er w' := by
  refine ok_reduced_Reduce n A es.length cap q D d.length cd w (OutPost (fun n q d' s' => Reduces n es q d d' s') n es q d w) ?_
  unfold sh_reduced_Reduce
  intro g2 w2 hN
  have pN : Pure w w2 := hN.keeps _
  refine (given_any A D es d cap cd n q w2 (he.keep pN) (by omega) (hd.keep pN) hdl).mono ?_
  rintro _ w3 ⟨rfl, p3⟩
  have p03 := pN.trans p3
  refine ⟨_, rfl, p3.kp (by simp), fun h0 => ?_, fun h0 => ⟨p03, rfl, fun _ => ⟨rfl, rfl, rfl, rfl, rfl, rfl⟩, fun h => absurd h h0⟩⟩
  obtain ⟨k1, k2, k3, k4, k5⟩ := givenF_ok h0
  have hrr := hred h0
  obtain ⟨n, rfl⟩ : ∃ n' : Nat, n = (n' : Int) := ⟨n.toNat, by omega⟩
  obtain ⟨q, rfl⟩ : ∃ q' : Nat, q = (q' : Int) := ⟨q.toNat, by omega⟩
  obtain ⟨hE, hn1, hn12⟩ := gcheck_ok k1
  obtain ⟨hdn, -, -, -⟩ := checkF_ok k5
  have hC : Conn n es q := (conn_iff hE hn1 hn12 (by omega)).1 k2
  simp only [Int.toNat_natCast] at hrr
  obtain ⟨hRd, hbd⟩ := hrr
  have hes3 := he.keep p03
  refine (begin_any A D es d cap cd n q w3 (hd.keep p03) hdn hn1 hn12).mono ?_
  rintro _ w4 ⟨X, gd, gs, cd', rfl, hX, hgd, hgs, hS, p4, hcm⟩
  have sz := hN.size
  have ag := hN.at_
  have s3 := p3.size
  refine ⟨_, rfl, p4.kp (by simp), ?_⟩
  have heg : ∀ b off, A = some ⟨b, off, none⟩ → 0 < es.length → b ≠ gd ∧ b ≠ gs ∧ b ≠ X := fun b off hA h0 => by
    obtain ⟨b', off', hA', hb, -⟩ := hes3 h0
    rw [hA] at hA'; cases hA'; omega
  have hes4 := hes3.keep p4
  have ks : ∀ {S : Nat → Prop} {a b : World}, Keeps S a b → (∀ k, S k → w3.heap.size ≤ k) → Kp a b g2 := fun K hS => K.kp (fun h => by have := hS _ h; omega)
  have hfr : ∀ k, (k = gd ∨ k = gs ∨ k = X) → w3.heap.size ≤ k := fun k hk => by rcases hk with rfl | rfl | rfl <;> omega
  have hz : ∀ i, gi (List.replicate n (0 : Int)) i = 0 := fun i => by
    rcases Nat.lt_or_ge i n with h | h
    · rw [gi_of_lt (by simpa using h)]; simp
    · exact gi_ge (by simpa using h)
  have hB1 : Bnd 600000 d := fun i => by
    by_cases hi : i < n
    · exact hbd i (by omega)
    · rw [gi_ge (by omega)]; omega
  refine (lend_any (fun o k d' s' e => d' = d ∧ s' = List.replicate n 0 ∧ e = 0) X gd gs n A es cap cd' n q d (List.replicate n 0) 0 w4 hS hes4 heg (by omega) (by omega) hE.range (fun x hx => (hE x hx).2.2.2.2.1) (by omega) (fun o hD => ⟨rfl, rfl, rfl⟩)
    (fun o k d' s' e ⟨h1, h2, h3⟩ => ⟨fun i => by have := hB1 i; rw [h1]; omega, fun i => by rw [h2, hz]; omega⟩) (fun o k d' s' hD ⟨h1, h2, h3⟩ hl hl2 => ?_)).mono ?_
  · have hzero : timesL es o ((k : Int) + 1) d' n = 0 := timesL_zero n fun v hv hk => by
      rw [h1]
      by_cases e : v = q
      · rw [e, hD.q0] at hk; omega
      · exact hRd.pos v hv e
    rw [hzero]
    exact ⟨by omega, fun h => absurd h (by omega), fun _ => ⟨h1, h2, rfl⟩⟩
  rintro _ w5 ⟨rfl, o, k, d5, s5, e5, hD, ⟨rfl, rfl, rfl⟩, hS5, hk, K5⟩
  refine ⟨rfl, ks K5 hfr, ?_⟩
  have hes5 := hes4.keepL K5 (fun b off h h0 => by have := heg b off h h0; omega)
  refine (settle_any (fun m d' s' e => d' = d5 ∧ s' = List.replicate n 0 ∧ e = 0) X gd gs n A es cap cd' n q 0 d5 (List.replicate n 0) 0 w5 hS5 hes5 heg (by omega) (by omega) hE.range (by omega) ⟨rfl, rfl, rfl⟩
    (fun m d' s' e ⟨h1, h2, h3⟩ => ⟨fun i => by have := hB1 i; rw [h1]; omega, fun i => by rw [h2, hz]; omega⟩) (fun m d' s' burnt ⟨h1, h2, h3⟩ hl hl2 hB hany => ?_)).mono ?_
  · exfalso
    rw [h1] at hB
    have := (red_iff hE (by omega) hB hRd.pos).1 hRd
    rw [this] at hany; cases hany
  rintro _ w6 ⟨rfl, m6, d6, s6, e6, ⟨rfl, rfl, rfl⟩, hS6, hb6, K6⟩
  refine ⟨rfl, ks K6 hfr, ?_⟩
  have hnz : ∀ v, v < n → gi (normS (List.replicate n (0 : Int)) q) v = 0 := fun v hv => by rw [gi_norm (by simpa using hv), hz, hz]; omega
  have hL : Leads n es q d6 d6 (normS (List.replicate n 0) q) := ⟨hdn, by rw [normS_length]; simp, fun v hv => by
    rw [Lp_congr (b := fun _ => 0) (fun i hi => hnz i hi) hv, Lp_const]; omega, hnz q (by omega), hRd.pos, fun v hv => hbd v (by omega), fun v hv => by rw [hnz v hv]; omega⟩
  refine (result_any X gd gs n A es cap cd' n q d6 (List.replicate n 0) 0 w6 hS6 (by omega) (by omega) (fun _ i => by rw [hz]; omega)).mono ?_
  rintro _ w7 ⟨A1, l1, c1, A2, l2, c2, er, rfl, K7, h⟩
  have k2' : checkF (normS (List.replicate n 0) q) n = 0 := checkF_of hL.sl hn1 (by omega) (fun j hj => by rw [hnz j hj]; omega)
  rcases h with h | h | h
  · exact absurd rfl h.1
  · rcases h.2.1 with h | h
    · exact absurd k5 h
    · exact absurd k2' h
  obtain ⟨-, -, -, rfl, hr⟩ := h
  refine ⟨_, _, _, _, _, _, _, rfl, ks K7 (fun k hk => by rw [hk]; omega), ?_⟩
  have pf : ∀ {S : Nat → Prop} {a b c : World}, Pure a b → Keeps S b c → (∀ k, S k → a.heap.size ≤ k) → Pure a c := fun p K h => (p.mono (fun _ _ => False.elim)).then K (fun k hk hs => by have := h k hs; omega)
  have sw := p03.size
  have hfr0 : ∀ k, (k = gd ∨ k = gs ∨ k = X) → w.heap.size ≤ k := fun k hk => by have := hfr k hk; omega
  refine ⟨pf (pf (pf (p03.trans p4) K5 hfr0) K6 hfr0) K7 (fun k hk => by rw [hk]; omega), h0.symm, fun h => absurd rfl h, fun _ => ⟨gd, gs, cd', n, d6, normS (List.replicate n 0) q, ⟨?_, ?_⟩, ?_, by omega, by omega, hS.2.2.2.1, hcm, by unfold maxLen; omega⟩⟩
  · simpa using hL
  · simpa using hRd
  · simpa using hr
end Go.Proofs.Ytnhmeckhlajeaaa

/- Pure forms of functions whose walks were proved by hand: reduced's, connect.Connected, the law's awake. -/
namespace Go.Proofs.Ytnhmeckhlajeaaa
open Go Go.RowKit Go.Shelf
set_option linter.unusedVariables false
set_option linter.unusedSectionVars false

theorem sl_ints {A : Option Addr} {l cap : Nat} {xs : List Int} {O : Nat → Prop} {w : World} (h : (FP.sl cI A l cap xs).P O w) : l = xs.length ∧ Ints w A xs := by
  obtain ⟨h1, h2, h3⟩ := h
  refine ⟨h1, fun h0 => ?_⟩
  obtain ⟨b, off, e, hb, ho, hc⟩ := h3 h0
  refine ⟨b, off, e, hb, fun k hk => ?_⟩
  obtain ⟨vs, hv, hu⟩ := hc k _ (gi_some hk)
  have hv : vs = [.int .i64 (gi xs k)] := hv
  subst hv
  have := hu 0 _ rfl
  simpa [cI, Fl.cod, fI] using this
theorem sl_edges {A : Option Addr} {l cap : Nat} {es : List E3} {O : Nat → Prop} {w : World} (h : (FP.sl c3 A l cap es).P O w) : l = es.length ∧ Edges w A es := by
  obtain ⟨h1, h2, h3⟩ := h
  refine ⟨h1, fun h0 => ?_⟩
  obtain ⟨b, off, e, hb, ho, hc⟩ := h3 h0
  refine ⟨b, off, e, hb, fun k hk => ?_⟩
  obtain ⟨vs, hv, hu⟩ := hc k _ (ge_some hk)
  have hv : vs = [.int .i64 (ge es k).1, .int .i64 (ge es k).2.1, .int .i64 (ge es k).2.2] := hv
  subst hv
  exact ⟨hu 0 _ rfl, hu 1 _ rfl, hu 2 _ rfl⟩
theorem sep_pure {w w' : World} {O : Nat → Prop} (hO : ∀ k, O k → k < w.heap.size) (h : Pure w w') : Sep w no O w' (rl []) := (Sep.start w hO).pur h
theorem ownC_ints {B : Nat} {O : Nat → Prop} {w : World} {e : TypeId} {A : Option Addr} {l cap : Nat} {xs : List Int} (h : OwnS w B e 1 A l cap (xs.map (Value.int .i64))) : OwnC cI 0 O w e A l cap xs := by
  have hl := h.1
  simp at hl
  refine ⟨hl.symm, _, h.base (Nat.zero_le _), fun k x hx => ⟨_, rfl, fun j u hj => ?_⟩⟩
  have hj0 : j = 0 := by
    have := (List.getElem?_eq_some_iff.1 hj).1
    simp [fI] at this; exact this
  subst hj0
  have hu : u = .int .i64 x := by
    have : (some (Value.int .i64 x)) = some u := hj
    simpa using this.symm
  rw [hu]
  show (xs.map (Value.int .i64))[k * 1 + 0]? = _
  rw [Nat.mul_one, Nat.add_zero, List.getElem?_map, hx]; rfl
/-- A result that is a new slice of numbers. -/
theorem Sep.addOwn {w0 w w' : World} {S O : Nat → Prop} {L : Hold} (h : Sep w0 S O w L) (i : Nat) (hi : L i = .gone) (hK : Pure w w') {B : Nat} {e : TypeId} {A : Option Addr} {l cap : Nat} {xs : List Int} (ho : OwnS w' B e 1 A l cap (xs.map (Value.int .i64))) (hB : w.heap.size ≤ B) : Sep w0 S O w' (stl L i (.own cI e A l cap xs)) :=
  h.add i hi _ hK (fun k hk => Nat.le_trans hB (ho.at_ hk).1) (ownC_ints ho)
theorem row_ownS {w : World} {g : Nat} {e : TypeId} {cap : Nat} {xs : List Int} (h : IRow w g e cap xs) (hc : cap ≤ maxLen) {B : Nat} (hB : B ≤ g) : OwnS w B e 1 (some ⟨g, 0, none⟩) xs.length cap (xs.map (Value.int .i64)) := by
  have hle := IRow.le h
  obtain ⟨cur, h1, h2, h3⟩ := h
  refine ⟨by simp, .inr ⟨g, 0, cur, rfl, hB, h1, hle, hc, by omega, ?_⟩⟩
  rw [List.drop_zero, Nat.mul_one]
  simpa using h3

theorem sep_two {w w' : World} {O : Nat → Prop} (hO : ∀ k, O k → k < w.heap.size) (p : Pure w w') {e : TypeId} {A1 A2 : Option Addr} {l1 c1 l2 c2 : Nat} {xs ys : List Int} (o1 : OwnS w' w.heap.size e 1 A1 l1 c1 (xs.map (Value.int .i64))) (o2 : OwnS w' w.heap.size e 1 A2 l2 c2 (ys.map (Value.int .i64)))
    (hne : ∀ k, A1.map (·.block) = some k → A2.map (·.block) = some k → False) : Sep w no O w' (rl [.own cI e A1 l1 c1 xs, .own cI e A2 l2 c2 ys]) := by
  have hb : ∀ i k, (rl [.own cI e A1 l1 c1 xs, .own cI e A2 l2 c2 ys] i).blk = some k → (i = 0 ∧ A1.map (·.block) = some k) ∨ (i = 1 ∧ A2.map (·.block) = some k) := fun i k hk => by
    match i with
    | 0 => exact .inl ⟨rfl, hk⟩
    | 1 => exact .inr ⟨rfl, hk⟩
    | i + 2 => cases hk
  refine ⟨p, fun k hk => ⟨hO k hk, id⟩, fun i => ?_, fun i k hk => ?_, fun i j k hi hj => ?_⟩
  · match i with
    | 0 => exact ownC_ints o1
    | 1 => exact ownC_ints o2
    | i + 2 => trivial
  · rcases hb i k hk with ⟨_, q⟩ | ⟨_, q⟩
    · exact .inl (o1.at_ q).1
    · exact .inl (o2.at_ q).1
  · rcases hb i k hi with ⟨e1, q1⟩ | ⟨e1, q1⟩ <;> rcases hb j k hj with ⟨e2, q2⟩ | ⟨e2, q2⟩
    · omega
    · exact (hne k q1 q2).elim
    · exact (hne k q2 q1).elim
    · omega

section
variable {O : Nat → Prop} {w : World} {n : Int} {es : List E3} {q : Int} {d : List Int} {A : Option Addr} {l c : Nat} {D : Option Addr} {ld cd : Nat}
def pf_reduced_given (n : Int) (es : List E3) (q : Int) (d : List Int) (R : Int → Prop) : Prop := es.length ≤ 1000000000 ∧ d.length ≤ 1000000000 ∧ R (givenF n es q d)
theorem pok_reduced_given {R : Int → Prop} (h : pf_reduced_given n es q d R) (hO : ∀ k, O k → k < w.heap.size) (a0 : (FP.sl c3 A l c es).P O w) (a1 : (FP.sl cI D ld cd d).P O w) :
    Calls Try.prog 63 #[.agg #[.int .i64 n, .slice A l c], .int .i64 q, .slice D ld cd] w fun e w' => ∃ r : Int, e = .returned (.int .i64 r) ∧ Sep w no O w' (rl []) ∧ R r := by
  obtain ⟨h1, h2, h3⟩ := h
  obtain ⟨rfl, he⟩ := sl_edges a0
  obtain ⟨rfl, hd⟩ := sl_ints a1
  refine (given_any A D es d c cd n q w he h1 hd h2).mono ?_
  rintro _ w' ⟨rfl, p⟩
  exact ⟨_, rfl, sep_pure hO p, h3⟩
def pf_connect_Connected (n : Int) (es : List E3) (R : Bool → Int → Prop) : Prop := es.length ≤ 1000000000 ∧ R (decide (gcheckF n es = 0 ∧ connF n es = true)) (gcheckF n es)
theorem pok_connect_Connected {R : Bool → Int → Prop} (h : pf_connect_Connected n es R) (hO : ∀ k, O k → k < w.heap.size) (a0 : (FP.sl c3 A l c es).P O w) :
    Calls Try.prog 110 #[.agg #[.int .i64 n, .slice A l c]] w fun e w' => ∃ r : Bool, ∃ r2 : Int, e = .returned (.tuple #[.bool r, .int .i64 r2]) ∧ Sep w no O w' (rl []) ∧ R r r2 := by
  obtain ⟨h1, h3⟩ := h
  obtain ⟨rfl, he⟩ := sl_edges a0
  refine (connected_any A es c n w he h1).mono ?_
  rintro _ w' ⟨rfl, p⟩
  exact ⟨_, _, rfl, sep_pure hO p, h3⟩
def pf_l34_awake (R : Bool → Prop) : Prop := R true
theorem pok_l34_awake {R : Bool → Prop} (h : pf_l34_awake R) (hO : ∀ k, O k → k < w.heap.size) :
    Calls Try.prog 16 #[] w fun e w' => ∃ r : Bool, e = .returned (.bool r) ∧ Sep w no O w' (rl []) ∧ R r := by
  refine (awake_any w).mono ?_
  rintro _ w' ⟨rfl, p⟩
  exact ⟨_, rfl, sep_pure hO p, h⟩
def pf_reduced_IsReduced (n : Int) (es : List E3) (q : Int) (d : List Int) (R : Bool → Int → Prop) : Prop := es.length ≤ 1000 ∧ d.length ≤ 1000000000 ∧ ∀ r, (givenF n es q d ≠ 0 → r = false) → (givenF n es q d = 0 → (r = true ↔ Red n.toNat es q.toNat d)) → R r (givenF n es q d)
theorem pok_reduced_IsReduced {R : Bool → Int → Prop} (h : pf_reduced_IsReduced n es q d R) (hO : ∀ k, O k → k < w.heap.size) (a0 : (FP.sl c3 A l c es).P O w) (a1 : (FP.sl cI D ld cd d).P O w) :
    Calls Try.prog 29 #[.agg #[.int .i64 n, .slice A l c], .int .i64 q, .slice D ld cd] w fun e w' => ∃ r : Bool, ∃ r2 : Int, e = .returned (.tuple #[.bool r, .int .i64 r2]) ∧ Sep w no O w' (rl []) ∧ R r r2 := by
  obtain ⟨h1, h2, h3⟩ := h
  obtain ⟨rfl, he⟩ := sl_edges a0
  obtain ⟨rfl, hd⟩ := sl_ints a1
  refine (isreduced_any A D es d c cd n q w he hd h2 h1).mono ?_
  rintro _ w' ⟨r, er, rfl, p, rfl, k1, k2⟩
  exact ⟨_, _, rfl, sep_pure hO p, h3 r k1 k2⟩
def pf_reduced_Unburnt (n : Int) (es : List E3) (q : Int) (d : List Int) (R : List Int → Int → Prop) : Prop := es.length ≤ 1000 ∧ d.length ≤ 1000000000 ∧
  ((if givenF n es q d = 0 then (if owesF q d = true then (15 : Int) else 0) else givenF n es q d) ≠ 0 → R [] (if givenF n es q d = 0 then (if owesF q d = true then 15 else 0) else givenF n es q d)) ∧
  ((if givenF n es q d = 0 then (if owesF q d = true then (15 : Int) else 0) else givenF n es q d) = 0 → ∀ burnt, Burns n.toNat es q.toNat d burnt → R (setF (leftOf burnt) n.toNat) 0)
theorem pok_reduced_Unburnt {R : List Int → Int → Prop} (h : pf_reduced_Unburnt n es q d R) (hO : ∀ k, O k → k < w.heap.size) (a0 : (FP.sl c3 A l c es).P O w) (a1 : (FP.sl cI D ld cd d).P O w) :
    Calls Try.prog 31 #[.agg #[.int .i64 n, .slice A l c], .int .i64 q, .slice D ld cd] w fun e w' => ∃ r : List Int, ∃ r2 : Int, ∃ Ar : Option Addr, ∃ lr cr : Nat, e = .returned (.tuple #[.slice Ar lr cr, .int .i64 r2]) ∧ Sep w no O w' (rl [.own cI 3 Ar lr cr r]) ∧ R r r2 := by
  obtain ⟨h1, h2, h3, h4⟩ := h
  obtain ⟨rfl, he⟩ := sl_edges a0
  obtain ⟨rfl, hd⟩ := sl_ints a1
  refine (unburntp_any A D es d c cd n q w he hd h2 h1).mono ?_
  rintro _ w' ⟨A1, l1, c1, er, rfl, p, rfl, k1, k2⟩
  by_cases h0 : (if givenF n es q d = 0 then (if owesF q d = true then (15 : Int) else 0) else givenF n es q d) = 0
  · obtain ⟨burnt, hb, ho⟩ := k2 h0
    refine ⟨_, _, A1, l1, c1, rfl, ((Sep.start w hO).addOwn 0 rfl p ho (Nat.le_refl _)).sel [0] (by decide), ?_⟩
    rw [h0]; exact h4 h0 burnt hb
  · obtain ⟨rfl, rfl, rfl⟩ := k1 h0
    exact ⟨[], _, none, 0, 0, rfl, (((Sep.start w hO).pur p).nil 0 rfl cI 3).sel [0] (by decide), h3 h0⟩
/-- What the functions with a script compute. -/
def outPf0 (P : Nat → Nat → List Int → List Int → Prop) (n : Int) (es : List E3) (q : Int) (d : List Int) (R : List Int → List Int → Int → Prop) : Prop :=
  d.length ≤ 1000000000 ∧ (givenF n es q d ≠ 0 → R [] [] (givenF n es q d)) ∧ (givenF n es q d = 0 → ∀ d' s', P n.toNat q.toNat d' s' → d'.length = n.toNat → s'.length = n.toNat → R d' s' 0)
/-- A divisor that is reduced already. -/
def RedIn (n : Int) (es : List E3) (q : Int) (d : List Int) : Prop := es.length ≤ 40 ∧ (givenF n es q d = 0 → Red n.toNat es q.toNat d ∧ ∀ v : Nat, (v : Int) < n → -600000 ≤ gi d v ∧ gi d v ≤ 600000)
theorem outPf_ok {P : Nat → Nat → List Int → List Int → Prop} {R : List Int → List Int → Int → Prop} (h : outPf0 P n es q d R) (hO : ∀ k, O k → k < w.heap.size) {w' : World} {A1 : Option Addr} {l1 c1 : Nat} {A2 : Option Addr} {l2 c2 : Nat} {er : Int} (ho : OutPost P n es q d w A1 l1 c1 A2 l2 c2 er w') (hlen : ∀ d' s', P n.toNat q.toNat d' s' → d'.length = n.toNat ∧ s'.length = n.toNat) :
    ∃ r r2 : List Int, ∃ r3 : Int, ∃ Ar : Option Addr, ∃ lr cr : Nat, ∃ As : Option Addr, ∃ ls cs : Nat, Ending.returned (.tuple #[.slice A1 l1 c1, .slice A2 l2 c2, .int .i64 er]) = .returned (.tuple #[.slice Ar lr cr, .slice As ls cs, .int .i64 r3]) ∧ Sep w no O w' (rl [.own cI 3 Ar lr cr r, .own cI 3 As ls cs r2]) ∧ R r r2 r3 := by
  obtain ⟨-, h3, h4⟩ := h
  obtain ⟨p, rfl, k1, k2⟩ := ho
  by_cases h0 : givenF n es q d = 0
  · obtain ⟨gd, gs, cd', cs', d', s', hP, hr, b1, b2, b3, m1, m2⟩ := k2 h0
    obtain ⟨q1, q2⟩ := hlen d' s' hP
    obtain ⟨rfl, rfl, rfl, rfl, rfl, rfl, r1, r2⟩ := hr
    have o1 := row_ownS r1 m1 b1
    have o2 := row_ownS r2 m2 b2
    rw [q1] at o1
    rw [q2] at o2
    exact ⟨d', s', _, _, _, _, _, _, _, rfl, sep_two hO p o1 o2 (fun k h1 h2 => by simp at h1 h2; omega), by rw [h0]; exact h4 h0 d' s' hP q1 q2⟩
  · obtain ⟨rfl, rfl, rfl, rfl, rfl, rfl⟩ := k1 h0
    exact ⟨[], [], _, none, 0, 0, none, 0, 0, rfl, ((((Sep.start w hO).pur p).nil 0 rfl cI 3).nil 1 rfl cI 3).sel [0, 1] (by decide), h3 h0⟩
def pf_reduced_Reduce (n : Int) (es : List E3) (q : Int) (d : List Int) (R : List Int → List Int → Int → Prop) : Prop := (Small n es d ∨ RedIn n es q d) ∧ outPf0 (fun n q d' s' => Reduces n es q d d' s') n es q d R
theorem pok_reduced_Reduce {R : List Int → List Int → Int → Prop} (h : pf_reduced_Reduce n es q d R) (hO : ∀ k, O k → k < w.heap.size) (a0 : (FP.sl c3 A l c es).P O w) (a1 : (FP.sl cI D ld cd d).P O w) :
    Calls Try.prog 17 #[.agg #[.int .i64 n, .slice A l c], .int .i64 q, .slice D ld cd] w fun e w' => ∃ r r2 : List Int, ∃ r3 : Int, ∃ Ar : Option Addr, ∃ lr cr : Nat, ∃ As : Option Addr, ∃ ls cs : Nat, e = .returned (.tuple #[.slice Ar lr cr, .slice As ls cs, .int .i64 r3]) ∧ Sep w no O w' (rl [.own cI 3 Ar lr cr r, .own cI 3 As ls cs r2]) ∧ R r r2 r3 := by
  obtain ⟨rfl, he⟩ := sl_edges a0
  obtain ⟨rfl, hd⟩ := sl_ints a1
  rcases h.1 with h1 | h1
  · refine (reduce_any A D es d c cd n q w he hd h.2.1 h1).mono ?_
    rintro _ w' ⟨A1, l1, c1, A2, l2, c2, er, rfl, ho⟩
    exact outPf_ok h.2 hO ho fun d' s' hP => ⟨hP.dl, hP.sl⟩
  · refine (reduce_red_any A D es d c cd n q w he hd h.2.1 h1.1 h1.2).mono ?_
    rintro _ w' ⟨A1, l1, c1, A2, l2, c2, er, rfl, ho⟩
    exact outPf_ok h.2 hO ho fun d' s' hP => ⟨hP.dl, hP.sl⟩
def pf_reduced_Lend (n : Int) (es : List E3) (q : Int) (d : List Int) (R : List Int → List Int → Int → Prop) : Prop := Small n es d ∧ outPf0 (fun n q d' s' => Lends n es q d d' s') n es q d R
theorem pok_reduced_Lend {R : List Int → List Int → Int → Prop} (h : pf_reduced_Lend n es q d R) (hO : ∀ k, O k → k < w.heap.size) (a0 : (FP.sl c3 A l c es).P O w) (a1 : (FP.sl cI D ld cd d).P O w) :
    Calls Try.prog 23 #[.agg #[.int .i64 n, .slice A l c], .int .i64 q, .slice D ld cd] w fun e w' => ∃ r r2 : List Int, ∃ r3 : Int, ∃ Ar : Option Addr, ∃ lr cr : Nat, ∃ As : Option Addr, ∃ ls cs : Nat, e = .returned (.tuple #[.slice Ar lr cr, .slice As ls cs, .int .i64 r3]) ∧ Sep w no O w' (rl [.own cI 3 Ar lr cr r, .own cI 3 As ls cs r2]) ∧ R r r2 r3 := by
  obtain ⟨rfl, he⟩ := sl_edges a0
  obtain ⟨rfl, hd⟩ := sl_ints a1
  refine (lendp_any A D es d c cd n q w he hd h.2.1 h.1).mono ?_
  rintro _ w' ⟨A1, l1, c1, A2, l2, c2, er, rfl, ho⟩
  exact outPf_ok h.2 hO ho fun d' s' hP => ⟨hP.dl, hP.sl⟩
end
end Go.Proofs.Ytnhmeckhlajeaaa

/- Pure forms of functions, made by program (pf.py), each with the proof that the code does so. -/
namespace Go.Proofs.Ytnhmeckhlajeaaa
open Go Go.RowKit Go.Shelf
set_option linter.unusedVariables false
set_option maxRecDepth 100000
set_option maxHeartbeats 1000000
/-- sandpile/sandpileref17.In: what it computes. -/
def pf_r17_In (k : Int) (R : Bool → Prop) : Prop :=
(((-1048576) ≤ k →
R (decide (k ≤ 1048576))) ∧
(¬ ((-1048576) ≤ k) →
R false))
theorem pok_r17_In {O : Nat → Prop} {w : World} {k : Int} {R : Bool → Prop} (h : pf_r17_In k R) (hO : ∀ k, O k → k < w.heap.size) :
    Calls Try.prog 73 #[(Value.int .i64 k)] w fun e w' => ∃ r : Bool, e = .returned (Value.bool (r)) ∧ Sep w no O w' (rl []) ∧ R r := by
  unfold pf_r17_In at h
  have hS : Sep w no O w (rl []) := Sep.start w hO
  refine calls_sh (l := [(Value.int .i64 k)]) Try.func73 rfl Try.ntmps73 (Nat.le_of_ble_eq_true rfl) ?_
  refine wt_seq ?_
  refine wl_region wd_wide ?_
  refine rl_q rfl rfl rfl (v_assign (v := (Value.bool (false))) rfl) ?_
  refine rl_end ?_
  refine wt_seq ?_
  refine wl_region wd_wide ?_
  refine rl_q rfl rfl rfl (v_move (v := (Value.int .i64 k)) rfl) ?_
  refine rl_q rfl rfl rfl (v_geq rfl rfl) ?_
  refine rl_q rfl rfl rfl (v_move (v := (Value.bool (decide ((-1048576) ≤ k)))) rfl) ?_
  by_cases hp : (-1048576) ≤ k
  · replace h := h.1 hp
    refine rl_q (wanted_g rfl (yE_of rfl (congrArg Value.bool (decide_eq_true hp)))) rfl rfl (v_move (v := (Value.int .i64 k)) rfl) ?_
    refine rl_q (wanted_g rfl (yE_of rfl (congrArg Value.bool (decide_eq_true hp)))) rfl rfl (v_leq rfl rfl) ?_
    refine rl_q rfl rfl rfl (v_pick_t (v := (Value.bool (decide (k ≤ 1048576)))) (congrArg Value.bool (decide_eq_true hp)) rfl) ?_
    refine rl_q rfl rfl rfl (v_assign (v := (Value.bool (decide (k ≤ 1048576)))) rfl) ?_
    refine rl_end ?_
    exact wt_ret1 rfl rfl ⟨_, rfl, (hS.sel [] (by decide)), h⟩
  · replace h := h.2 hp
    refine rl_p (wanted_n rfl (yE_of rfl (congrArg Value.bool (decide_eq_false hp))) rfl) rfl ?_
    refine rl_p (wanted_n rfl (yE_of rfl (congrArg Value.bool (decide_eq_false hp))) rfl) rfl ?_
    refine rl_q rfl rfl rfl (v_pick_f (v := (Value.bool (false))) (congrArg Value.bool (decide_eq_false hp)) rfl) ?_
    refine rl_q rfl rfl rfl (v_assign (v := (Value.bool (false))) rfl) ?_
    refine rl_end ?_
    exact wt_ret1 rfl rfl ⟨_, rfl, (hS.sel [] (by decide)), h⟩

/-- sandpile/sandpileref17.Check: what it computes. -/
def pf_r17_Check (d : List Int) (n : Int) (R : Int → Prop) : Prop :=
(∃ J2 : Prop, (J2 → ((((d.length : Nat) : Int) = n →
(∃ I2 : Nat → Int → Prop, (∃ m0, I2 m0 0) ∧ ∀ (m2 : Nat) (v : Int), I2 m2 v → 
((v < n →
((0 ≤ v ∧ v < ((d.length : Nat) : Int)) ∧
pf_r17_In (gi d v.toNat) (fun (r : Bool) =>
((r = true →
(In64 (v + 1) ∧
∃ m3, m3 < m2 ∧ I2 m3 (v + 1))) ∧
(¬ (r = true) →
R 2))))) ∧
(¬ (v < n) →
R 0)))) ∧
(¬ (((d.length : Nat) : Int) = n) →
R 8))) ∧
((n < 1 →
R 2) ∧
(¬ (n < 1) →
((12 < n →
R 2) ∧
(¬ (12 < n) →
J2)))))
theorem pok_r17_Check {O : Nat → Prop} {w : World} {d : List Int} {n : Int} {Ad : Option Addr} {ld : Nat} {cd : Nat} {R : Int → Prop} (h : pf_r17_Check d n R) (hO : ∀ k, O k → k < w.heap.size) (a0 : (FP.sl cI Ad ld cd d).P O w) :
    Calls Try.prog 26 #[(Value.slice Ad ld cd), (Value.int .i64 n)] w fun e w' => ∃ r2 : Int, e = .returned (Value.int .i64 r2) ∧ Sep w no O w' (rl []) ∧ R r2 := by
  unfold pf_r17_Check at h
  have hS : Sep w no O w (rl [Res.ro (FP.sl cI Ad ld cd d)]) := Sep.startl hO [(FP.sl cI Ad ld cd d)] ⟨a0, trivial⟩
  refine calls_sh (l := [(Value.slice Ad ld cd), (Value.int .i64 n)]) Try.func26 rfl Try.ntmps26 (Nat.le_of_ble_eq_true rfl) ?_
  refine wt_seq ?_
  refine wl_region wd_wide ?_
  refine rl_q rfl rfl rfl (v_assign (v := (Value.int .i64 0)) rfl) ?_
  refine rl_end ?_
  refine wt_seq ?_
  refine wt_seq ?_
  obtain ⟨J2, hJ, h⟩ := h
  refine wt_cutT1 (fun E ds w' => J2 ∧ ds = [] ∧ E 0 = (Value.slice Ad ld cd) ∧ E 1 = (Value.int .i64 n) ∧ Sep w no O w' (rl [Res.ro (FP.sl cI Ad ld cd d)])) ?_ ?_
  · clear h hS
    rintro E ds w2 ⟨h, rfl, hE0, hE1, hS⟩
    replace h := hJ h
    refine wt_seq ?_
    refine wt_seq ?_
    refine wl_region wd_wide ?_
    refine rl_q rfl rfl rfl (v_move (v := (Value.slice Ad ld cd)) hE0) ?_
    refine rl_q rfl rfl rfl (v_lenx (n := d.length) rfl Try.underlying26 (rd_len (hS.rdr 0 rfl))) ?_
    refine rl_q rfl rfl rfl (v_move (v := (Value.int .i64 n)) hE1) ?_
    refine rl_q rfl rfl rfl (v_neq rfl rfl) ?_
    refine rl_end ?_
    by_cases hp : ((d.length : Nat) : Int) = n
    · replace h := h.1 hp
      refine wt_cond_f (congrArg Value.bool (congrArg Bool.not (decide_eq_true hp))) ?_
      refine wt_skip ?_
      refine wt_seq ?_
      refine wt_seq ?_
      refine wl_region wd_wide ?_
      refine rl_q rfl rfl rfl (v_assign (v := (Value.int .i64 0)) rfl) ?_
      refine rl_end ?_
      refine wt_block ?_
      obtain ⟨I2, ⟨m0, h0⟩, hr⟩ := h
      refine wt_loop (fun m E ds w' => ∃ v : Int, I2 m v ∧ ds = [] ∧ E 0 = (Value.slice Ad ld cd) ∧ E 1 = (Value.int .i64 n) ∧ E 5 = (Value.int .i64 v) ∧ Sep w no O w' (rl [Res.ro (FP.sl cI Ad ld cd d)])) m0 ⟨_, h0, rfl, hE0, hE1, rfl, (hS.sel [0] (by decide))⟩ ?_
      clear h0 hS
      rintro m2 E ds w3 ⟨v, h, rfl, hE0, hE1, hE5, hS⟩ again
      replace h := hr m2 v h
      clear hr
      refine wt_seq ?_
      refine wt_seq ?_
      refine wl_region wd_wide ?_
      refine rl_q rfl rfl rfl (v_move (v := (Value.int .i64 v)) hE5) ?_
      refine rl_q rfl rfl rfl (v_move (v := (Value.int .i64 n)) hE1) ?_
      refine rl_q rfl rfl rfl (v_lss rfl rfl) ?_
      refine rl_end ?_
      by_cases hp2 : v < n
      · replace h := h.1 hp2
        refine wt_cond_t (congrArg Value.bool (decide_eq_true hp2)) ?_
        refine wt_skip ?_
        refine wt_seq ?_
        refine wt_block ?_
        refine wt_seq ?_
        refine wl_region wd_wide ?_
        refine rl_q rfl rfl rfl (v_move (v := (Value.slice Ad ld cd)) hE0) ?_
        refine rl_q rfl rfl rfl (v_move (v := (Value.int .i64 v)) hE5) ?_
        obtain ⟨hx, h⟩ := h
        refine rl_q rfl rfl rfl (v_iaddr rfl rfl Try.underlying26 info_3 (rd_ix (hS.rdr 0 rfl) hx)) ?_
        refine rl_q rfl rfl rfl (v_load (v := (Value.int .i64 (gi d v.toNat))) rfl Try.underlying3 rfl (rd_1 (hS.rdr 0 rfl) hx (fun q => gi_some q) rfl)) ?_
        refine rl_n rfl rfl rfl rfl (n_call0 rfl (am1 rfl) enter_73 ((pok_r17_In h (no_lt _)).mono ?_))
        rintro _ w4 ⟨r, rfl, hC, h⟩
        replace hS := hS.pur hC.pure
        clear hC
        refine ⟨_, rfl, ?_⟩
        refine ⟨Stb.none _, ?_⟩
        refine rl_q rfl rfl rfl (v_not rfl) ?_
        refine rl_end ?_
        by_cases hp3 : r = true
        · replace h := h.1 hp3
          refine wt_cond_f (congrArg Value.bool (congrArg Bool.not hp3)) ?_
          refine wt_skip ?_
          refine wt_inBlock ?_
          refine wl_region wd_wide ?_
          refine rl_q rfl rfl rfl (v_move (v := (Value.int .i64 v)) hE5) ?_
          obtain ⟨hi, h⟩ := h
          refine rl_q rfl rfl rfl (v_add rfl rfl hi) ?_
          refine rl_q rfl rfl rfl (v_assign (v := (Value.int .i64 (v + 1))) rfl) ?_
          refine rl_end ?_
          obtain ⟨mq, hlt, h⟩ := h
          exact again mq _ _ _ ⟨_, h, rfl, hE0, hE1, rfl, (hS.sel [0] (by decide))⟩ hlt
        · replace h := h.2 hp3
          refine wt_cond_t (congrArg Value.bool (congrArg Bool.not (Bool.eq_false_iff.2 hp3))) ?_
          refine wt_seq ?_
          refine wl_region wd_wide ?_
          refine rl_q rfl rfl rfl (v_assign (v := (Value.int .i64 2)) rfl) ?_
          refine rl_end ?_
          exact wt_ret1 rfl rfl ⟨_, rfl, (hS.sel [] (by decide)), h⟩
      · replace h := h.2 hp2
        refine wt_cond_f (congrArg Value.bool (decide_eq_false hp2)) ?_
        refine wt_exit rfl ?_
        refine wt_seq ?_
        refine wl_region wd_wide ?_
        refine rl_q rfl rfl rfl (v_assign (v := (Value.int .i64 0)) rfl) ?_
        refine rl_end ?_
        exact wt_ret1 rfl rfl ⟨_, rfl, (hS.sel [] (by decide)), h⟩
    · replace h := h.2 hp
      refine wt_cond_t (congrArg Value.bool (congrArg Bool.not (decide_eq_false hp))) ?_
      refine wt_seq ?_
      refine wl_region wd_wide ?_
      refine rl_q rfl rfl rfl (v_assign (v := (Value.int .i64 8)) rfl) ?_
      refine rl_end ?_
      exact wt_ret1 rfl rfl ⟨_, rfl, (hS.sel [] (by decide)), h⟩
  clear hJ
  intro j
  refine wl_region wd_wide ?_
  refine rl_q rfl rfl rfl (v_move (v := (Value.int .i64 n)) rfl) ?_
  refine rl_q rfl rfl rfl (v_lss rfl rfl) ?_
  refine rl_q rfl rfl rfl (v_move (v := (Value.bool (decide (n < 1)))) rfl) ?_
  by_cases hp4 : n < 1
  · replace h := h.1 hp4
    refine rl_p (wanted_n rfl (yE_of rfl (congrArg Value.bool (decide_eq_true hp4))) rfl) rfl ?_
    refine rl_p (wanted_n rfl (yE_of rfl (congrArg Value.bool (decide_eq_true hp4))) rfl) rfl ?_
    refine rl_q rfl rfl rfl (v_pick_t (v := (Value.bool (true))) (congrArg Value.bool (decide_eq_true hp4)) rfl) ?_
    refine rl_end ?_
    refine wt_cond_t rfl ?_
    refine wt_seq ?_
    refine wl_region wd_wide ?_
    refine rl_q rfl rfl rfl (v_assign (v := (Value.int .i64 2)) rfl) ?_
    refine rl_end ?_
    exact wt_ret1 rfl rfl ⟨_, rfl, (hS.sel [] (by decide)), h⟩
  · replace h := h.2 hp4
    refine rl_q (wanted_g rfl (yE_of rfl (congrArg Value.bool (decide_eq_false hp4)))) rfl rfl (v_move (v := (Value.int .i64 n)) rfl) ?_
    refine rl_q (wanted_g rfl (yE_of rfl (congrArg Value.bool (decide_eq_false hp4)))) rfl rfl (v_gtr rfl rfl) ?_
    refine rl_q rfl rfl rfl (v_pick_f (v := (Value.bool (decide (12 < n)))) (congrArg Value.bool (decide_eq_false hp4)) rfl) ?_
    refine rl_end ?_
    by_cases hp5 : 12 < n
    · replace h := h.1 hp5
      refine wt_cond_t (congrArg Value.bool (decide_eq_true hp5)) ?_
      refine wt_seq ?_
      refine wl_region wd_wide ?_
      refine rl_q rfl rfl rfl (v_assign (v := (Value.int .i64 2)) rfl) ?_
      refine rl_end ?_
      exact wt_ret1 rfl rfl ⟨_, rfl, (hS.sel [] (by decide)), h⟩
    · replace h := h.2 hp5
      refine wt_cond_f (congrArg Value.bool (decide_eq_false hp5)) ?_
      refine wt_skip ?_
      exact j _ _ _ ⟨h, rfl, rfl, rfl, (hS.sel [0] (by decide))⟩

/-- sandpile/sandpileref08.Vertex: what it computes. -/
def pf_r08_Vertex (g : Int) (g2 : List (Int × Int × Int)) (v : Int) (R : Bool → Prop) : Prop :=
((0 ≤ v →
R (decide (v < g))) ∧
(¬ (0 ≤ v) →
R false))
theorem pok_r08_Vertex {O : Nat → Prop} {w : World} {g : Int} {g2 : List (Int × Int × Int)} {v : Int} {Ag : Option Addr} {lg : Nat} {cg : Nat} {R : Bool → Prop} (h : pf_r08_Vertex g g2 v R) (hO : ∀ k, O k → k < w.heap.size) (a0 : (FP.sl c3 Ag lg cg g2).P O w) :
    Calls Try.prog 98 #[(Value.agg #[(Value.int .i64 g), (Value.slice Ag lg cg)]), (Value.int .i64 v)] w fun e w' => ∃ r : Bool, e = .returned (Value.bool (r)) ∧ Sep w no O w' (rl []) ∧ R r := by
  unfold pf_r08_Vertex at h
  have hS : Sep w no O w (rl [Res.ro (FP.sl c3 Ag lg cg g2)]) := Sep.startl hO [(FP.sl c3 Ag lg cg g2)] ⟨a0, trivial⟩
  refine calls_sh (l := [(Value.agg #[(Value.int .i64 g), (Value.slice Ag lg cg)]), (Value.int .i64 v)]) Try.func98 rfl Try.ntmps98 (Nat.le_of_ble_eq_true rfl) ?_
  refine wt_seq ?_
  refine wl_region wd_wide ?_
  refine rl_n rfl rfl rfl rfl (n_box (v := (Value.agg #[(Value.int .i64 g), (Value.slice Ag lg cg)])) rfl ?_)
  intro g3 w2 hN
  replace hS : Sep w no O w2 (stl _ 1 (Res.box 24 g3 [(Value.int .i64 g), (Value.slice Ag lg cg)])) := hS.new 1 rfl hN
  clear hN
  refine ⟨Stb.none _, ?_⟩
  refine rl_q rfl rfl rfl (v_assign (v := (Value.bool (false))) rfl) ?_
  refine rl_end ?_
  refine wt_seq ?_
  refine wl_region wd_wide ?_
  refine rl_q rfl rfl rfl (v_move (v := (Value.int .i64 v)) rfl) ?_
  refine rl_q rfl rfl rfl (v_geq rfl rfl) ?_
  refine rl_q rfl rfl rfl (v_move (v := (Value.bool (decide (0 ≤ v)))) rfl) ?_
  by_cases hp : 0 ≤ v
  · replace h := h.1 hp
    refine rl_q (wanted_g rfl (yE_of rfl (congrArg Value.bool (decide_eq_true hp)))) rfl rfl (v_move (v := (Value.int .i64 v)) rfl) ?_
    refine rl_q (wanted_g rfl (yE_of rfl (congrArg Value.bool (decide_eq_true hp)))) rfl rfl (v_faddr rfl Try.underlying24 rfl info_3) ?_
    refine rl_q (wanted_g rfl (yE_of rfl (congrArg Value.bool (decide_eq_true hp)))) rfl rfl (v_load rfl Try.underlying3 rfl (Row.cell (hS.bx 1 rfl) (i := 0) rfl)) ?_
    refine rl_q (wanted_g rfl (yE_of rfl (congrArg Value.bool (decide_eq_true hp)))) rfl rfl (v_lss rfl rfl) ?_
    refine rl_q rfl rfl rfl (v_pick_t (v := (Value.bool (decide (v < g)))) (congrArg Value.bool (decide_eq_true hp)) rfl) ?_
    refine rl_q rfl rfl rfl (v_assign (v := (Value.bool (decide (v < g)))) rfl) ?_
    refine rl_end ?_
    exact wt_ret1 rfl rfl ⟨_, rfl, (hS.sel [] (by decide)), h⟩
  · replace h := h.2 hp
    refine rl_p (wanted_n rfl (yE_of rfl (congrArg Value.bool (decide_eq_false hp))) rfl) rfl ?_
    refine rl_p (wanted_n rfl (yE_of rfl (congrArg Value.bool (decide_eq_false hp))) rfl) rfl ?_
    refine rl_p (wanted_n rfl (yE_of rfl (congrArg Value.bool (decide_eq_false hp))) rfl) rfl ?_
    refine rl_p (wanted_n rfl (yE_of rfl (congrArg Value.bool (decide_eq_false hp))) rfl) rfl ?_
    refine rl_q rfl rfl rfl (v_pick_f (v := (Value.bool (false))) (congrArg Value.bool (decide_eq_false hp)) rfl) ?_
    refine rl_q rfl rfl rfl (v_assign (v := (Value.bool (false))) rfl) ?_
    refine rl_end ?_
    exact wt_ret1 rfl rfl ⟨_, rfl, (hS.sel [] (by decide)), h⟩

/-- sandpile/sandpileref08.Between: what it computes. -/
def pf_r08_Between (g : Int) (g2 : List (Int × Int × Int)) (a : Int) (b : Int) (R : Int → Prop) : Prop :=
(∃ I2 : Nat → Int → Prop, (∃ m0, I2 m0 0) ∧ ∀ (m2 : Nat) (i : Int), I2 m2 i → 
((i < ((g2.length : Nat) : Int) →
((0 ≤ i ∧ i < ((g2.length : Nat) : Int)) ∧
((((ge g2 i.toNat).1) = (mnF a b) →
((((ge g2 i.toNat).2.1) = (mxF a b) →
R ((ge g2 i.toNat).2.2)) ∧
(¬ (((ge g2 i.toNat).2.1) = (mxF a b)) →
(In64 (i + 1) ∧
∃ m3, m3 < m2 ∧ I2 m3 (i + 1))))) ∧
(¬ (((ge g2 i.toNat).1) = (mnF a b)) →
(In64 (i + 1) ∧
∃ m4, m4 < m2 ∧ I2 m4 (i + 1)))))) ∧
(¬ (i < ((g2.length : Nat) : Int)) →
R 0)))
theorem pok_r08_Between {O : Nat → Prop} {w : World} {g : Int} {g2 : List (Int × Int × Int)} {a : Int} {b : Int} {Ag : Option Addr} {lg : Nat} {cg : Nat} {R : Int → Prop} (h : pf_r08_Between g g2 a b R) (hO : ∀ k, O k → k < w.heap.size) (a0 : (FP.sl c3 Ag lg cg g2).P O w) :
    Calls Try.prog 136 #[(Value.agg #[(Value.int .i64 g), (Value.slice Ag lg cg)]), (Value.int .i64 a), (Value.int .i64 b)] w fun e w' => ∃ r : Int, e = .returned (Value.int .i64 r) ∧ Sep w no O w' (rl []) ∧ R r := by
  unfold pf_r08_Between at h
  have hS : Sep w no O w (rl [Res.ro (FP.sl c3 Ag lg cg g2)]) := Sep.startl hO [(FP.sl c3 Ag lg cg g2)] ⟨a0, trivial⟩
  refine calls_sh (l := [(Value.agg #[(Value.int .i64 g), (Value.slice Ag lg cg)]), (Value.int .i64 a), (Value.int .i64 b)]) Try.func136 rfl Try.ntmps136 (Nat.le_of_ble_eq_true rfl) ?_
  refine wt_seq ?_
  refine wl_region wd_wide ?_
  refine rl_n rfl rfl rfl rfl (n_box (v := (Value.agg #[(Value.int .i64 g), (Value.slice Ag lg cg)])) rfl ?_)
  intro g3 w2 hN
  replace hS : Sep w no O w2 (stl _ 1 (Res.box 24 g3 [(Value.int .i64 g), (Value.slice Ag lg cg)])) := hS.new 1 rfl hN
  clear hN
  refine ⟨Stb.none _, ?_⟩
  refine rl_q rfl rfl rfl (v_assign (v := (Value.int .i64 0)) rfl) ?_
  refine rl_end ?_
  refine wt_seq ?_
  refine wt_seq ?_
  refine wl_region wd_wide ?_
  refine rl_q rfl rfl rfl (v_assign (v := (Value.int .i64 0)) rfl) ?_
  refine rl_end ?_
  refine wt_block ?_
  obtain ⟨I2, ⟨m0, h0⟩, hr⟩ := h
  refine wt_loop (fun m E ds w' => ∃ i : Int, I2 m i ∧ ds = [] ∧ E 1 = (Value.int .i64 a) ∧ E 2 = (Value.int .i64 b) ∧ E 3 = (Value.pointer (some (⟨g3, 0, none⟩ : Addr))) ∧ E 7 = (Value.int .i64 i) ∧ Sep w no O w' (rl [Res.box 24 g3 [(Value.int .i64 g), (Value.slice Ag lg cg)], Res.ro (FP.sl c3 Ag lg cg g2)])) m0 ⟨_, h0, rfl, rfl, rfl, rfl, rfl, (hS.sel [1, 0] (by decide))⟩ ?_
  clear h0 hS
  rintro m2 E ds w3 ⟨i, h, rfl, hE1, hE2, hE3, hE7, hS⟩ again
  replace h := hr m2 i h
  clear hr
  refine wt_seq ?_
  refine wt_seq ?_
  refine wl_region wd_wide ?_
  refine rl_q rfl rfl rfl (v_move (v := (Value.int .i64 i)) hE7) ?_
  refine rl_q rfl rfl rfl (v_faddr hE3 Try.underlying24 rfl info_22) ?_
  refine rl_q rfl rfl rfl (v_load rfl Try.underlying22 rfl (Row.cell (hS.bx 0 rfl) (i := 1) rfl)) ?_
  refine rl_q rfl rfl rfl (v_lenx (n := g2.length) rfl Try.underlying22 (rd_len (hS.rdr 1 rfl))) ?_
  refine rl_q rfl rfl rfl (v_lss rfl rfl) ?_
  refine rl_end ?_
  by_cases hp : i < ((g2.length : Nat) : Int)
  · replace h := h.1 hp
    refine wt_cond_t (congrArg Value.bool (decide_eq_true hp)) ?_
    refine wt_skip ?_
    refine wt_seq ?_
    refine wt_block ?_
    refine wt_seq ?_
    refine wl_region wd_wide ?_
    refine rl_q rfl rfl rfl (v_faddr hE3 Try.underlying24 rfl info_22) ?_
    refine rl_q rfl rfl rfl (v_load rfl Try.underlying22 rfl (Row.cell (hS.bx 0 rfl) (i := 1) rfl)) ?_
    refine rl_q rfl rfl rfl (v_move (v := (Value.int .i64 i)) hE7) ?_
    obtain ⟨hx, h⟩ := h
    refine rl_q rfl rfl rfl (v_iaddr rfl rfl Try.underlying22 info_117 (rd_ix (hS.rdr 1 rfl) hx)) ?_
    refine rl_q rfl rfl rfl (v_loadn (vs := [(Value.int .i64 ((ge g2 i.toNat).1)), (Value.int .i64 ((ge g2 i.toNat).2.1)), (Value.int .i64 ((ge g2 i.toNat).2.2))]) rfl Try.underlying117 rfl info_117 (rd_fs (hS.rdr 1 rfl) hx (fun q => ge_some q))) ?_
    refine rl_n rfl rfl rfl rfl (n_alloc info_117 ?_)
    intro g4 w4 hN
    replace hS : Sep w no O w4 (stl _ 2 (Res.box 117 g4 [(Value.int .i64 0), (Value.int .i64 0), (Value.int .i64 0)])) := hS.new 2 rfl hN
    clear hN
    refine ⟨Stb.none _, ?_⟩
    refine rl_n0 rfl rfl rfl (n_storen (b := g4) (o := 0) (cells := #[(Value.int .i64 ((ge g2 i.toNat).1)), (Value.int .i64 ((ge g2 i.toNat).2.1)), (Value.int .i64 ((ge g2 i.toNat).2.2))]) rfl rfl info_117 rfl rfl (there_row (hS.bx 2 rfl) (Nat.le_of_ble_eq_true rfl)) ?_)
    intro w5 e1
    replace hS := hS.bstn 2 rfl 0 [(Value.int .i64 ((ge g2 i.toNat).1)), (Value.int .i64 ((ge g2 i.toNat).2.1)), (Value.int .i64 ((ge g2 i.toNat).2.2))] e1
    clear e1
    refine ⟨Stb.none _, ?_⟩
    refine rl_end ?_
    refine wt_seq ?_
    refine wl_region wd_wide ?_
    refine rl_q rfl rfl rfl (v_faddr rfl Try.underlying117 rfl info_3) ?_
    refine rl_q rfl rfl rfl (v_load rfl Try.underlying3 rfl (Row.cell (hS.bx 2 rfl) (i := 0) rfl)) ?_
    refine rl_q rfl rfl rfl (v_move (v := (Value.int .i64 a)) hE1) ?_
    refine rl_q rfl rfl rfl (v_move (v := (Value.int .i64 b)) hE2) ?_
    refine rl_q rfl rfl rfl (v_min2 rfl rfl) ?_
    refine rl_q rfl rfl rfl (v_eql rfl rfl) ?_
    refine rl_q rfl rfl rfl (v_move (v := (Value.bool (decide (((ge g2 i.toNat).1) = (mnF a b))))) rfl) ?_
    by_cases hp2 : ((ge g2 i.toNat).1) = (mnF a b)
    · replace h := h.1 hp2
      refine rl_q (wanted_g rfl (yE_of rfl (congrArg Value.bool (decide_eq_true hp2)))) rfl rfl (v_faddr rfl Try.underlying117 rfl info_3) ?_
      refine rl_q (wanted_g rfl (yE_of rfl (congrArg Value.bool (decide_eq_true hp2)))) rfl rfl (v_load rfl Try.underlying3 rfl (Row.cell (hS.bx 2 rfl) (i := 1) rfl)) ?_
      refine rl_q (wanted_g rfl (yE_of rfl (congrArg Value.bool (decide_eq_true hp2)))) rfl rfl (v_move (v := (Value.int .i64 a)) hE1) ?_
      refine rl_q (wanted_g rfl (yE_of rfl (congrArg Value.bool (decide_eq_true hp2)))) rfl rfl (v_move (v := (Value.int .i64 b)) hE2) ?_
      refine rl_q (wanted_g rfl (yE_of rfl (congrArg Value.bool (decide_eq_true hp2)))) rfl rfl (v_max2 rfl rfl) ?_
      refine rl_q (wanted_g rfl (yE_of rfl (congrArg Value.bool (decide_eq_true hp2)))) rfl rfl (v_eql rfl rfl) ?_
      refine rl_q rfl rfl rfl (v_pick_t (v := (Value.bool (decide (((ge g2 i.toNat).2.1) = (mxF a b))))) (congrArg Value.bool (decide_eq_true hp2)) rfl) ?_
      refine rl_end ?_
      by_cases hp3 : ((ge g2 i.toNat).2.1) = (mxF a b)
      · replace h := h.1 hp3
        refine wt_cond_t (congrArg Value.bool (decide_eq_true hp3)) ?_
        refine wt_seq ?_
        refine wl_region wd_wide ?_
        refine rl_q rfl rfl rfl (v_faddr rfl Try.underlying117 rfl info_3) ?_
        refine rl_q rfl rfl rfl (v_load rfl Try.underlying3 rfl (Row.cell (hS.bx 2 rfl) (i := 2) rfl)) ?_
        refine rl_q rfl rfl rfl (v_assign (v := (Value.int .i64 ((ge g2 i.toNat).2.2))) rfl) ?_
        refine rl_end ?_
        exact wt_ret1 rfl rfl ⟨_, rfl, (hS.sel [] (by decide)), h⟩
      · replace h := h.2 hp3
        refine wt_cond_f (congrArg Value.bool (decide_eq_false hp3)) ?_
        refine wt_skip ?_
        refine wt_inBlock ?_
        refine wl_region wd_wide ?_
        refine rl_q rfl rfl rfl (v_move (v := (Value.int .i64 i)) hE7) ?_
        obtain ⟨hi, h⟩ := h
        refine rl_q rfl rfl rfl (v_add rfl rfl hi) ?_
        refine rl_q rfl rfl rfl (v_assign (v := (Value.int .i64 (i + 1))) rfl) ?_
        refine rl_end ?_
        obtain ⟨mq, hlt, h⟩ := h
        exact again mq _ _ _ ⟨_, h, rfl, hE1, hE2, hE3, rfl, (hS.sel [0, 1] (by decide))⟩ hlt
    · replace h := h.2 hp2
      refine rl_p (wanted_n rfl (yE_of rfl (congrArg Value.bool (decide_eq_false hp2))) rfl) rfl ?_
      refine rl_p (wanted_n rfl (yE_of rfl (congrArg Value.bool (decide_eq_false hp2))) rfl) rfl ?_
      refine rl_p (wanted_n rfl (yE_of rfl (congrArg Value.bool (decide_eq_false hp2))) rfl) rfl ?_
      refine rl_p (wanted_n rfl (yE_of rfl (congrArg Value.bool (decide_eq_false hp2))) rfl) rfl ?_
      refine rl_p (wanted_n rfl (yE_of rfl (congrArg Value.bool (decide_eq_false hp2))) rfl) rfl ?_
      refine rl_p (wanted_n rfl (yE_of rfl (congrArg Value.bool (decide_eq_false hp2))) rfl) rfl ?_
      refine rl_q rfl rfl rfl (v_pick_f (v := (Value.bool (false))) (congrArg Value.bool (decide_eq_false hp2)) rfl) ?_
      refine rl_end ?_
      refine wt_cond_f rfl ?_
      refine wt_skip ?_
      refine wt_inBlock ?_
      refine wl_region wd_wide ?_
      refine rl_q rfl rfl rfl (v_move (v := (Value.int .i64 i)) hE7) ?_
      obtain ⟨hi2, h⟩ := h
      refine rl_q rfl rfl rfl (v_add rfl rfl hi2) ?_
      refine rl_q rfl rfl rfl (v_assign (v := (Value.int .i64 (i + 1))) rfl) ?_
      refine rl_end ?_
      obtain ⟨mq, hlt, h⟩ := h
      exact again mq _ _ _ ⟨_, h, rfl, hE1, hE2, hE3, rfl, (hS.sel [0, 1] (by decide))⟩ hlt
  · replace h := h.2 hp
    refine wt_cond_f (congrArg Value.bool (decide_eq_false hp)) ?_
    refine wt_exit rfl ?_
    refine wt_seq ?_
    refine wl_region wd_wide ?_
    refine rl_q rfl rfl rfl (v_assign (v := (Value.int .i64 0)) rfl) ?_
    refine rl_end ?_
    exact wt_ret1 rfl rfl ⟨_, rfl, (hS.sel [] (by decide)), h⟩

/-- sandpile/sandpileref08.edge: what it computes. -/
def pf_r08_edge (d : Int) (d2 : List (Int × Int × Int)) (i : Int) (R : Int → Prop) : Prop :=
((0 ≤ i ∧ i < ((d2.length : Nat) : Int)) ∧
(∃ J2 : Prop, (J2 → ((((ge d2 i.toNat).2.1) < ((ge d2 i.toNat).1) →
R 9) ∧
(¬ (((ge d2 i.toNat).2.1) < ((ge d2 i.toNat).1)) →
((0 < i →
(In64 (i - 1) ∧
((0 ≤ (i - 1) ∧ (i - 1) < ((d2.length : Nat) : Int)) ∧
((((ge d2 i.toNat).1) < ((ge d2 (i - 1).toNat).1) →
R 9) ∧
(¬ (((ge d2 i.toNat).1) < ((ge d2 (i - 1).toNat).1)) →
((((ge d2 i.toNat).1) = ((ge d2 (i - 1).toNat).1) →
((((ge d2 i.toNat).2.1) ≤ ((ge d2 (i - 1).toNat).2.1) →
R 9) ∧
(¬ (((ge d2 i.toNat).2.1) ≤ ((ge d2 (i - 1).toNat).2.1)) →
R 0))) ∧
(¬ (((ge d2 i.toNat).1) = ((ge d2 (i - 1).toNat).1)) →
R 0))))))) ∧
(¬ (0 < i) →
R 0))))) ∧
pf_r08_Vertex d d2 ((ge d2 i.toNat).1) (fun (r : Bool) =>
((r = true →
pf_r08_Vertex d d2 ((ge d2 i.toNat).2.1) (fun (r2 : Bool) =>
((r2 = true →
((((ge d2 i.toNat).2.2) < 1 →
R 2) ∧
(¬ (((ge d2 i.toNat).2.2) < 1) →
((50 < ((ge d2 i.toNat).2.2) →
R 2) ∧
(¬ (50 < ((ge d2 i.toNat).2.2)) →
J2))))) ∧
(¬ (r2 = true) →
R 2)))) ∧
(¬ (r = true) →
R 2)))))
theorem pok_r08_edge {O : Nat → Prop} {w : World} {d : Int} {d2 : List (Int × Int × Int)} {i : Int} {Ad : Option Addr} {ld : Nat} {cd : Nat} {R : Int → Prop} (h : pf_r08_edge d d2 i R) (hO : ∀ k, O k → k < w.heap.size) (a0 : (FP.sl c3 Ad ld cd d2).P O w) :
    Calls Try.prog 154 #[(Value.agg #[(Value.int .i64 d), (Value.slice Ad ld cd)]), (Value.int .i64 i)] w fun e w' => ∃ r3 : Int, e = .returned (Value.int .i64 r3) ∧ Sep w no O w' (rl []) ∧ R r3 := by
  unfold pf_r08_edge at h
  have hS : Sep w no O w (rl [Res.ro (FP.sl c3 Ad ld cd d2)]) := Sep.startl hO [(FP.sl c3 Ad ld cd d2)] ⟨a0, trivial⟩
  refine calls_sh (l := [(Value.agg #[(Value.int .i64 d), (Value.slice Ad ld cd)]), (Value.int .i64 i)]) Try.func154 rfl Try.ntmps154 (Nat.le_of_ble_eq_true rfl) ?_
  refine wt_seq ?_
  refine wl_region wd_wide ?_
  refine rl_n rfl rfl rfl rfl (n_box (v := (Value.agg #[(Value.int .i64 d), (Value.slice Ad ld cd)])) rfl ?_)
  intro g w2 hN
  replace hS : Sep w no O w2 (stl _ 1 (Res.box 24 g [(Value.int .i64 d), (Value.slice Ad ld cd)])) := hS.new 1 rfl hN
  clear hN
  refine ⟨Stb.none _, ?_⟩
  refine rl_q rfl rfl rfl (v_assign (v := (Value.int .i64 0)) rfl) ?_
  refine rl_end ?_
  refine wt_seq ?_
  refine wl_region wd_wide ?_
  refine rl_q rfl rfl rfl (v_faddr rfl Try.underlying24 rfl info_22) ?_
  refine rl_q rfl rfl rfl (v_load rfl Try.underlying22 rfl (Row.cell (hS.bx 1 rfl) (i := 1) rfl)) ?_
  refine rl_q rfl rfl rfl (v_move (v := (Value.int .i64 i)) rfl) ?_
  obtain ⟨hx, h⟩ := h
  refine rl_q rfl rfl rfl (v_iaddr rfl rfl Try.underlying22 info_117 (rd_ix (hS.rdr 0 rfl) hx)) ?_
  refine rl_q rfl rfl rfl (v_loadn (vs := [(Value.int .i64 ((ge d2 i.toNat).1)), (Value.int .i64 ((ge d2 i.toNat).2.1)), (Value.int .i64 ((ge d2 i.toNat).2.2))]) rfl Try.underlying117 rfl info_117 (rd_fs (hS.rdr 0 rfl) hx (fun q => ge_some q))) ?_
  refine rl_n rfl rfl rfl rfl (n_alloc info_117 ?_)
  intro g2 w3 hN
  replace hS : Sep w no O w3 (stl _ 2 (Res.box 117 g2 [(Value.int .i64 0), (Value.int .i64 0), (Value.int .i64 0)])) := hS.new 2 rfl hN
  clear hN
  refine ⟨Stb.none _, ?_⟩
  refine rl_n0 rfl rfl rfl (n_storen (b := g2) (o := 0) (cells := #[(Value.int .i64 ((ge d2 i.toNat).1)), (Value.int .i64 ((ge d2 i.toNat).2.1)), (Value.int .i64 ((ge d2 i.toNat).2.2))]) rfl rfl info_117 rfl rfl (there_row (hS.bx 2 rfl) (Nat.le_of_ble_eq_true rfl)) ?_)
  intro w4 e1
  replace hS := hS.bstn 2 rfl 0 [(Value.int .i64 ((ge d2 i.toNat).1)), (Value.int .i64 ((ge d2 i.toNat).2.1)), (Value.int .i64 ((ge d2 i.toNat).2.2))] e1
  clear e1
  refine ⟨Stb.none _, ?_⟩
  refine rl_end ?_
  refine wt_seq ?_
  refine wt_seq ?_
  obtain ⟨J2, hJ, h⟩ := h
  refine wt_cutT1 (fun E ds w' => J2 ∧ ds = [] ∧ E 1 = (Value.int .i64 i) ∧ E 2 = (Value.pointer (some (⟨g, 0, none⟩ : Addr))) ∧ E 5 = (Value.pointer (some (⟨g2, 0, none⟩ : Addr))) ∧ Sep w no O w' (rl [Res.box 24 g [(Value.int .i64 d), (Value.slice Ad ld cd)], Res.ro (FP.sl c3 Ad ld cd d2), Res.box 117 g2 [(Value.int .i64 ((ge d2 i.toNat).1)), (Value.int .i64 ((ge d2 i.toNat).2.1)), (Value.int .i64 ((ge d2 i.toNat).2.2))]])) ?_ ?_
  · clear h hS
    rintro E ds w5 ⟨h, rfl, hE1, hE2, hE5, hS⟩
    replace h := hJ h
    refine wt_seq ?_
    refine wt_seq ?_
    refine wl_region wd_wide ?_
    refine rl_q rfl rfl rfl (v_faddr hE5 Try.underlying117 rfl info_3) ?_
    refine rl_q rfl rfl rfl (v_load rfl Try.underlying3 rfl (Row.cell (hS.bx 2 rfl) (i := 0) rfl)) ?_
    refine rl_q rfl rfl rfl (v_faddr hE5 Try.underlying117 rfl info_3) ?_
    refine rl_q rfl rfl rfl (v_load rfl Try.underlying3 rfl (Row.cell (hS.bx 2 rfl) (i := 1) rfl)) ?_
    refine rl_q rfl rfl rfl (v_gtr rfl rfl) ?_
    refine rl_end ?_
    by_cases hp : ((ge d2 i.toNat).2.1) < ((ge d2 i.toNat).1)
    · replace h := h.1 hp
      refine wt_cond_t (congrArg Value.bool (decide_eq_true hp)) ?_
      refine wt_seq ?_
      refine wl_region wd_wide ?_
      refine rl_q rfl rfl rfl (v_assign (v := (Value.int .i64 9)) rfl) ?_
      refine rl_end ?_
      exact wt_ret1 rfl rfl ⟨_, rfl, (hS.sel [] (by decide)), h⟩
    · replace h := h.2 hp
      refine wt_cond_f (congrArg Value.bool (decide_eq_false hp)) ?_
      refine wt_skip ?_
      refine wt_seq ?_
      refine wt_seq ?_
      refine wl_region wd_wide ?_
      refine rl_q rfl rfl rfl (v_move (v := (Value.int .i64 i)) hE1) ?_
      refine rl_q rfl rfl rfl (v_gtr rfl rfl) ?_
      refine rl_end ?_
      by_cases hp2 : 0 < i
      · replace h := h.1 hp2
        refine wt_cond_t (congrArg Value.bool (decide_eq_true hp2)) ?_
        refine wt_seq ?_
        refine wl_region wd_wide ?_
        refine rl_q rfl rfl rfl (v_faddr hE2 Try.underlying24 rfl info_22) ?_
        refine rl_q rfl rfl rfl (v_load rfl Try.underlying22 rfl (Row.cell (hS.bx 0 rfl) (i := 1) rfl)) ?_
        refine rl_q rfl rfl rfl (v_move (v := (Value.int .i64 i)) hE1) ?_
        obtain ⟨hi, h⟩ := h
        refine rl_q rfl rfl rfl (v_sub rfl rfl hi) ?_
        obtain ⟨hx2, h⟩ := h
        refine rl_q rfl rfl rfl (v_iaddr rfl rfl Try.underlying22 info_117 (rd_ix (hS.rdr 1 rfl) hx2)) ?_
        refine rl_q rfl rfl rfl (v_loadn (vs := [(Value.int .i64 ((ge d2 (i - 1).toNat).1)), (Value.int .i64 ((ge d2 (i - 1).toNat).2.1)), (Value.int .i64 ((ge d2 (i - 1).toNat).2.2))]) rfl Try.underlying117 rfl info_117 (rd_fs (hS.rdr 1 rfl) hx2 (fun q => ge_some q))) ?_
        refine rl_n rfl rfl rfl rfl (n_alloc info_117 ?_)
        intro g3 w6 hN
        replace hS : Sep w no O w6 (stl _ 3 (Res.box 117 g3 [(Value.int .i64 0), (Value.int .i64 0), (Value.int .i64 0)])) := hS.new 3 rfl hN
        clear hN
        refine ⟨Stb.none _, ?_⟩
        refine rl_n0 rfl rfl rfl (n_storen (b := g3) (o := 0) (cells := #[(Value.int .i64 ((ge d2 (i - 1).toNat).1)), (Value.int .i64 ((ge d2 (i - 1).toNat).2.1)), (Value.int .i64 ((ge d2 (i - 1).toNat).2.2))]) rfl rfl info_117 rfl rfl (there_row (hS.bx 3 rfl) (Nat.le_of_ble_eq_true rfl)) ?_)
        intro w7 e1
        replace hS := hS.bstn 3 rfl 0 [(Value.int .i64 ((ge d2 (i - 1).toNat).1)), (Value.int .i64 ((ge d2 (i - 1).toNat).2.1)), (Value.int .i64 ((ge d2 (i - 1).toNat).2.2))] e1
        clear e1
        refine ⟨Stb.none _, ?_⟩
        refine rl_end ?_
        refine wt_seq ?_
        refine wl_region wd_wide ?_
        refine rl_q rfl rfl rfl (v_faddr hE5 Try.underlying117 rfl info_3) ?_
        refine rl_q rfl rfl rfl (v_load rfl Try.underlying3 rfl (Row.cell (hS.bx 2 rfl) (i := 0) rfl)) ?_
        refine rl_q rfl rfl rfl (v_faddr rfl Try.underlying117 rfl info_3) ?_
        refine rl_q rfl rfl rfl (v_load rfl Try.underlying3 rfl (Row.cell (hS.bx 3 rfl) (i := 0) rfl)) ?_
        refine rl_q rfl rfl rfl (v_lss rfl rfl) ?_
        refine rl_q rfl rfl rfl (v_move (v := (Value.bool (decide (((ge d2 i.toNat).1) < ((ge d2 (i - 1).toNat).1))))) rfl) ?_
        by_cases hp3 : ((ge d2 i.toNat).1) < ((ge d2 (i - 1).toNat).1)
        · replace h := h.1 hp3
          refine rl_p (wanted_n rfl (yE_of rfl (congrArg Value.bool (decide_eq_true hp3))) rfl) rfl ?_
          refine rl_p (wanted_n rfl (yE_of rfl (congrArg Value.bool (decide_eq_true hp3))) rfl) rfl ?_
          refine rl_p (wanted_n rfl (yE_of rfl (congrArg Value.bool (decide_eq_true hp3))) rfl) rfl ?_
          refine rl_p (wanted_n rfl (yE_of rfl (congrArg Value.bool (decide_eq_true hp3))) rfl) rfl ?_
          refine rl_p (wanted_n rfl (yE_of rfl (congrArg Value.bool (decide_eq_true hp3))) rfl) rfl ?_
          refine rl_p (wanted_n rfl (yE_of rfl (congrArg Value.bool (decide_eq_true hp3))) rfl) rfl ?_
          refine rl_p (wanted_u rfl rfl) rfl ?_
          refine rl_p (wanted_u rfl rfl) rfl ?_
          refine rl_p (wanted_u rfl rfl) rfl ?_
          refine rl_p (wanted_u rfl rfl) rfl ?_
          refine rl_p (wanted_u rfl rfl) rfl ?_
          refine rl_p (wanted_n rfl (yE_of rfl (congrArg Value.bool (decide_eq_true hp3))) rfl) rfl ?_
          refine rl_q rfl rfl rfl (v_pick_t (v := (Value.bool (true))) (congrArg Value.bool (decide_eq_true hp3)) rfl) ?_
          refine rl_end ?_
          refine wt_cond_t rfl ?_
          refine wt_seq ?_
          refine wl_region wd_wide ?_
          refine rl_q rfl rfl rfl (v_assign (v := (Value.int .i64 9)) rfl) ?_
          refine rl_end ?_
          exact wt_ret1 rfl rfl ⟨_, rfl, (hS.sel [] (by decide)), h⟩
        · replace h := h.2 hp3
          refine rl_q (wanted_g rfl (yE_of rfl (congrArg Value.bool (decide_eq_false hp3)))) rfl rfl (v_faddr hE5 Try.underlying117 rfl info_3) ?_
          refine rl_q (wanted_g rfl (yE_of rfl (congrArg Value.bool (decide_eq_false hp3)))) rfl rfl (v_load rfl Try.underlying3 rfl (Row.cell (hS.bx 2 rfl) (i := 0) rfl)) ?_
          refine rl_q (wanted_g rfl (yE_of rfl (congrArg Value.bool (decide_eq_false hp3)))) rfl rfl (v_faddr rfl Try.underlying117 rfl info_3) ?_
          refine rl_q (wanted_g rfl (yE_of rfl (congrArg Value.bool (decide_eq_false hp3)))) rfl rfl (v_load rfl Try.underlying3 rfl (Row.cell (hS.bx 3 rfl) (i := 0) rfl)) ?_
          refine rl_q (wanted_g rfl (yE_of rfl (congrArg Value.bool (decide_eq_false hp3)))) rfl rfl (v_eql rfl rfl) ?_
          refine rl_q (wanted_g rfl (yE_of rfl (congrArg Value.bool (decide_eq_false hp3)))) rfl rfl (v_move (v := (Value.bool (decide (((ge d2 i.toNat).1) = ((ge d2 (i - 1).toNat).1))))) rfl) ?_
          by_cases hp4 : ((ge d2 i.toNat).1) = ((ge d2 (i - 1).toNat).1)
          · replace h := h.1 hp4
            refine rl_q (wanted_g rfl (yE_of rfl (congrArg Value.bool (decide_eq_true hp4)))) rfl rfl (v_faddr hE5 Try.underlying117 rfl info_3) ?_
            refine rl_q (wanted_g rfl (yE_of rfl (congrArg Value.bool (decide_eq_true hp4)))) rfl rfl (v_load rfl Try.underlying3 rfl (Row.cell (hS.bx 2 rfl) (i := 1) rfl)) ?_
            refine rl_q (wanted_g rfl (yE_of rfl (congrArg Value.bool (decide_eq_true hp4)))) rfl rfl (v_faddr rfl Try.underlying117 rfl info_3) ?_
            refine rl_q (wanted_g rfl (yE_of rfl (congrArg Value.bool (decide_eq_true hp4)))) rfl rfl (v_load rfl Try.underlying3 rfl (Row.cell (hS.bx 3 rfl) (i := 1) rfl)) ?_
            refine rl_q (wanted_g rfl (yE_of rfl (congrArg Value.bool (decide_eq_true hp4)))) rfl rfl (v_leq rfl rfl) ?_
            refine rl_q (wanted_g rfl (yE_of rfl (congrArg Value.bool (decide_eq_false hp3)))) rfl rfl (v_pick_t (v := (Value.bool (decide (((ge d2 i.toNat).2.1) ≤ ((ge d2 (i - 1).toNat).2.1))))) (congrArg Value.bool (decide_eq_true hp4)) rfl) ?_
            refine rl_q rfl rfl rfl (v_pick_f (v := (Value.bool (decide (((ge d2 i.toNat).2.1) ≤ ((ge d2 (i - 1).toNat).2.1))))) (congrArg Value.bool (decide_eq_false hp3)) rfl) ?_
            refine rl_end ?_
            by_cases hp5 : ((ge d2 i.toNat).2.1) ≤ ((ge d2 (i - 1).toNat).2.1)
            · replace h := h.1 hp5
              refine wt_cond_t (congrArg Value.bool (decide_eq_true hp5)) ?_
              refine wt_seq ?_
              refine wl_region wd_wide ?_
              refine rl_q rfl rfl rfl (v_assign (v := (Value.int .i64 9)) rfl) ?_
              refine rl_end ?_
              exact wt_ret1 rfl rfl ⟨_, rfl, (hS.sel [] (by decide)), h⟩
            · replace h := h.2 hp5
              refine wt_cond_f (congrArg Value.bool (decide_eq_false hp5)) ?_
              refine wt_skip ?_
              refine wt_seq ?_
              refine wl_region wd_wide ?_
              refine rl_q rfl rfl rfl (v_assign (v := (Value.int .i64 0)) rfl) ?_
              refine rl_end ?_
              exact wt_ret1 rfl rfl ⟨_, rfl, (hS.sel [] (by decide)), h⟩
          · replace h := h.2 hp4
            refine rl_p (wanted_n rfl (yE_of rfl (congrArg Value.bool (decide_eq_false hp4))) rfl) rfl ?_
            refine rl_p (wanted_n rfl (yE_of rfl (congrArg Value.bool (decide_eq_false hp4))) rfl) rfl ?_
            refine rl_p (wanted_n rfl (yE_of rfl (congrArg Value.bool (decide_eq_false hp4))) rfl) rfl ?_
            refine rl_p (wanted_n rfl (yE_of rfl (congrArg Value.bool (decide_eq_false hp4))) rfl) rfl ?_
            refine rl_p (wanted_n rfl (yE_of rfl (congrArg Value.bool (decide_eq_false hp4))) rfl) rfl ?_
            refine rl_q (wanted_g rfl (yE_of rfl (congrArg Value.bool (decide_eq_false hp3)))) rfl rfl (v_pick_f (v := (Value.bool (false))) (congrArg Value.bool (decide_eq_false hp4)) rfl) ?_
            refine rl_q rfl rfl rfl (v_pick_f (v := (Value.bool (false))) (congrArg Value.bool (decide_eq_false hp3)) rfl) ?_
            refine rl_end ?_
            refine wt_cond_f rfl ?_
            refine wt_skip ?_
            refine wt_seq ?_
            refine wl_region wd_wide ?_
            refine rl_q rfl rfl rfl (v_assign (v := (Value.int .i64 0)) rfl) ?_
            refine rl_end ?_
            exact wt_ret1 rfl rfl ⟨_, rfl, (hS.sel [] (by decide)), h⟩
      · replace h := h.2 hp2
        refine wt_cond_f (congrArg Value.bool (decide_eq_false hp2)) ?_
        refine wt_skip ?_
        refine wt_seq ?_
        refine wl_region wd_wide ?_
        refine rl_q rfl rfl rfl (v_assign (v := (Value.int .i64 0)) rfl) ?_
        refine rl_end ?_
        exact wt_ret1 rfl rfl ⟨_, rfl, (hS.sel [] (by decide)), h⟩
  clear hJ
  intro j
  refine wl_region wd_wide ?_
  refine rl_q rfl rfl rfl (v_loadn (vs := [(Value.int .i64 d), (Value.slice Ad ld cd)]) rfl Try.underlying24 rfl info_24 ⟨Row.cell (hS.bx 1 rfl) (i := 0) rfl, Row.cell (hS.bx 1 rfl) (i := 1) rfl, trivial⟩) ?_
  refine rl_q rfl rfl rfl (v_faddr rfl Try.underlying117 rfl info_3) ?_
  refine rl_q rfl rfl rfl (v_load rfl Try.underlying3 rfl (Row.cell (hS.bx 2 rfl) (i := 0) rfl)) ?_
  refine rl_n rfl rfl rfl rfl (n_call0 rfl (am2 rfl rfl) enter_98 ((pok_r08_Vertex h (no_lt _) (hS.rdr 0 rfl)).mono ?_))
  rintro _ w8 ⟨r, rfl, hC, h⟩
  replace hS := hS.pur hC.pure
  clear hC
  refine ⟨_, rfl, ?_⟩
  refine ⟨Stb.none _, ?_⟩
  refine rl_q rfl rfl rfl (v_not rfl) ?_
  refine rl_q rfl rfl rfl (v_move (v := (Value.bool (!(r)))) rfl) ?_
  by_cases hp6 : r = true
  · replace h := h.1 hp6
    refine rl_q (wanted_g rfl (yE_of rfl (congrArg Value.bool (congrArg Bool.not hp6)))) rfl rfl (v_loadn (vs := [(Value.int .i64 d), (Value.slice Ad ld cd)]) rfl Try.underlying24 rfl info_24 ⟨Row.cell (hS.bx 1 rfl) (i := 0) rfl, Row.cell (hS.bx 1 rfl) (i := 1) rfl, trivial⟩) ?_
    refine rl_q (wanted_g rfl (yE_of rfl (congrArg Value.bool (congrArg Bool.not hp6)))) rfl rfl (v_faddr rfl Try.underlying117 rfl info_3) ?_
    refine rl_q (wanted_g rfl (yE_of rfl (congrArg Value.bool (congrArg Bool.not hp6)))) rfl rfl (v_load rfl Try.underlying3 rfl (Row.cell (hS.bx 2 rfl) (i := 1) rfl)) ?_
    refine rl_n (wanted_g rfl (yE_of rfl (congrArg Value.bool (congrArg Bool.not hp6)))) rfl rfl rfl (n_call0 rfl (am2 rfl rfl) enter_98 ((pok_r08_Vertex h (no_lt _) (hS.rdr 0 rfl)).mono ?_))
    rintro _ w9 ⟨r2, rfl, hC, h⟩
    replace hS := hS.pur hC.pure
    clear hC
    refine ⟨_, rfl, ?_⟩
    refine ⟨Stb.none _, ?_⟩
    refine rl_q (wanted_g rfl (yE_of rfl (congrArg Value.bool (congrArg Bool.not hp6)))) rfl rfl (v_not rfl) ?_
    refine rl_q rfl rfl rfl (v_pick_f (v := (Value.bool (!(r2)))) (congrArg Value.bool (congrArg Bool.not hp6)) rfl) ?_
    refine rl_q rfl rfl rfl (v_move (v := (Value.bool (!(r2)))) rfl) ?_
    by_cases hp7 : r2 = true
    · replace h := h.1 hp7
      refine rl_q (wanted_g rfl (yE_of rfl (congrArg Value.bool (congrArg Bool.not hp7)))) rfl rfl (v_faddr rfl Try.underlying117 rfl info_3) ?_
      refine rl_q (wanted_g rfl (yE_of rfl (congrArg Value.bool (congrArg Bool.not hp7)))) rfl rfl (v_load rfl Try.underlying3 rfl (Row.cell (hS.bx 2 rfl) (i := 2) rfl)) ?_
      refine rl_q (wanted_g rfl (yE_of rfl (congrArg Value.bool (congrArg Bool.not hp7)))) rfl rfl (v_lss rfl rfl) ?_
      refine rl_q rfl rfl rfl (v_pick_f (v := (Value.bool (decide (((ge d2 i.toNat).2.2) < 1)))) (congrArg Value.bool (congrArg Bool.not hp7)) rfl) ?_
      refine rl_q rfl rfl rfl (v_move (v := (Value.bool (decide (((ge d2 i.toNat).2.2) < 1)))) rfl) ?_
      by_cases hp8 : ((ge d2 i.toNat).2.2) < 1
      · replace h := h.1 hp8
        refine rl_p (wanted_n rfl (yE_of rfl (congrArg Value.bool (decide_eq_true hp8))) rfl) rfl ?_
        refine rl_p (wanted_n rfl (yE_of rfl (congrArg Value.bool (decide_eq_true hp8))) rfl) rfl ?_
        refine rl_p (wanted_n rfl (yE_of rfl (congrArg Value.bool (decide_eq_true hp8))) rfl) rfl ?_
        refine rl_q rfl rfl rfl (v_pick_t (v := (Value.bool (true))) (congrArg Value.bool (decide_eq_true hp8)) rfl) ?_
        refine rl_end ?_
        refine wt_cond_t rfl ?_
        refine wt_seq ?_
        refine wl_region wd_wide ?_
        refine rl_q rfl rfl rfl (v_assign (v := (Value.int .i64 2)) rfl) ?_
        refine rl_end ?_
        exact wt_ret1 rfl rfl ⟨_, rfl, (hS.sel [] (by decide)), h⟩
      · replace h := h.2 hp8
        refine rl_q (wanted_g rfl (yE_of rfl (congrArg Value.bool (decide_eq_false hp8)))) rfl rfl (v_faddr rfl Try.underlying117 rfl info_3) ?_
        refine rl_q (wanted_g rfl (yE_of rfl (congrArg Value.bool (decide_eq_false hp8)))) rfl rfl (v_load rfl Try.underlying3 rfl (Row.cell (hS.bx 2 rfl) (i := 2) rfl)) ?_
        refine rl_q (wanted_g rfl (yE_of rfl (congrArg Value.bool (decide_eq_false hp8)))) rfl rfl (v_gtr rfl rfl) ?_
        refine rl_q rfl rfl rfl (v_pick_f (v := (Value.bool (decide (50 < ((ge d2 i.toNat).2.2))))) (congrArg Value.bool (decide_eq_false hp8)) rfl) ?_
        refine rl_end ?_
        by_cases hp9 : 50 < ((ge d2 i.toNat).2.2)
        · replace h := h.1 hp9
          refine wt_cond_t (congrArg Value.bool (decide_eq_true hp9)) ?_
          refine wt_seq ?_
          refine wl_region wd_wide ?_
          refine rl_q rfl rfl rfl (v_assign (v := (Value.int .i64 2)) rfl) ?_
          refine rl_end ?_
          exact wt_ret1 rfl rfl ⟨_, rfl, (hS.sel [] (by decide)), h⟩
        · replace h := h.2 hp9
          refine wt_cond_f (congrArg Value.bool (decide_eq_false hp9)) ?_
          refine wt_skip ?_
          exact j _ _ _ ⟨h, rfl, rfl, rfl, rfl, (hS.sel [1, 0, 2] (by decide))⟩
    · replace h := h.2 hp7
      refine rl_p (wanted_n rfl (yE_of rfl (congrArg Value.bool (congrArg Bool.not (Bool.eq_false_iff.2 hp7)))) rfl) rfl ?_
      refine rl_p (wanted_n rfl (yE_of rfl (congrArg Value.bool (congrArg Bool.not (Bool.eq_false_iff.2 hp7)))) rfl) rfl ?_
      refine rl_p (wanted_n rfl (yE_of rfl (congrArg Value.bool (congrArg Bool.not (Bool.eq_false_iff.2 hp7)))) rfl) rfl ?_
      refine rl_q rfl rfl rfl (v_pick_t (v := (Value.bool (true))) (congrArg Value.bool (congrArg Bool.not (Bool.eq_false_iff.2 hp7))) rfl) ?_
      refine rl_q rfl rfl rfl (v_move (v := (Value.bool (true))) rfl) ?_
      refine rl_p (wanted_n rfl (yE_of rfl rfl) rfl) rfl ?_
      refine rl_p (wanted_n rfl (yE_of rfl rfl) rfl) rfl ?_
      refine rl_p (wanted_n rfl (yE_of rfl rfl) rfl) rfl ?_
      refine rl_q rfl rfl rfl (v_pick_t (v := (Value.bool (true))) rfl rfl) ?_
      refine rl_end ?_
      refine wt_cond_t rfl ?_
      refine wt_seq ?_
      refine wl_region wd_wide ?_
      refine rl_q rfl rfl rfl (v_assign (v := (Value.int .i64 2)) rfl) ?_
      refine rl_end ?_
      exact wt_ret1 rfl rfl ⟨_, rfl, (hS.sel [] (by decide)), h⟩
  · replace h := h.2 hp6
    refine rl_p (wanted_n rfl (yE_of rfl (congrArg Value.bool (congrArg Bool.not (Bool.eq_false_iff.2 hp6)))) rfl) rfl ?_
    refine rl_p (wanted_n rfl (yE_of rfl (congrArg Value.bool (congrArg Bool.not (Bool.eq_false_iff.2 hp6)))) rfl) rfl ?_
    refine rl_p (wanted_n rfl (yE_of rfl (congrArg Value.bool (congrArg Bool.not (Bool.eq_false_iff.2 hp6)))) rfl) rfl ?_
    refine rl_p (wanted_n rfl (yE_of rfl (congrArg Value.bool (congrArg Bool.not (Bool.eq_false_iff.2 hp6)))) rfl) rfl ?_
    refine rl_p (wanted_n rfl (yE_of rfl (congrArg Value.bool (congrArg Bool.not (Bool.eq_false_iff.2 hp6)))) rfl) rfl ?_
    refine rl_q rfl rfl rfl (v_pick_t (v := (Value.bool (true))) (congrArg Value.bool (congrArg Bool.not (Bool.eq_false_iff.2 hp6))) rfl) ?_
    refine rl_q rfl rfl rfl (v_move (v := (Value.bool (true))) rfl) ?_
    refine rl_p (wanted_n rfl (yE_of rfl rfl) rfl) rfl ?_
    refine rl_p (wanted_n rfl (yE_of rfl rfl) rfl) rfl ?_
    refine rl_p (wanted_n rfl (yE_of rfl rfl) rfl) rfl ?_
    refine rl_q rfl rfl rfl (v_pick_t (v := (Value.bool (true))) rfl rfl) ?_
    refine rl_q rfl rfl rfl (v_move (v := (Value.bool (true))) rfl) ?_
    refine rl_p (wanted_n rfl (yE_of rfl rfl) rfl) rfl ?_
    refine rl_p (wanted_n rfl (yE_of rfl rfl) rfl) rfl ?_
    refine rl_p (wanted_n rfl (yE_of rfl rfl) rfl) rfl ?_
    refine rl_q rfl rfl rfl (v_pick_t (v := (Value.bool (true))) rfl rfl) ?_
    refine rl_end ?_
    refine wt_cond_t rfl ?_
    refine wt_seq ?_
    refine wl_region wd_wide ?_
    refine rl_q rfl rfl rfl (v_assign (v := (Value.int .i64 2)) rfl) ?_
    refine rl_end ?_
    exact wt_ret1 rfl rfl ⟨_, rfl, (hS.sel [] (by decide)), h⟩

/-- sandpile/sandpileref08.Check: what it computes. -/
def pf_r08_Check (g : Int) (g2 : List (Int × Int × Int)) (R : Int → Prop) : Prop :=
(∃ J2 : Prop, (J2 → (∃ I2 : Nat → Int → Prop, (∃ m0, I2 m0 0) ∧ ∀ (m2 : Nat) (i : Int), I2 m2 i → 
((i < ((g2.length : Nat) : Int) →
pf_r08_edge g g2 i (fun (r : Int) =>
((r = 0 →
(In64 (i + 1) ∧
∃ m3, m3 < m2 ∧ I2 m3 (i + 1))) ∧
(¬ (r = 0) →
R r)))) ∧
(¬ (i < ((g2.length : Nat) : Int)) →
R 0)))) ∧
((g < 1 →
R 2) ∧
(¬ (g < 1) →
((12 < g →
R 2) ∧
(¬ (12 < g) →
J2)))))
theorem pok_r08_Check {O : Nat → Prop} {w : World} {g : Int} {g2 : List (Int × Int × Int)} {Ag : Option Addr} {lg : Nat} {cg : Nat} {R : Int → Prop} (h : pf_r08_Check g g2 R) (hO : ∀ k, O k → k < w.heap.size) (a0 : (FP.sl c3 Ag lg cg g2).P O w) :
    Calls Try.prog 120 #[(Value.agg #[(Value.int .i64 g), (Value.slice Ag lg cg)])] w fun e w' => ∃ r2 : Int, e = .returned (Value.int .i64 r2) ∧ Sep w no O w' (rl []) ∧ R r2 := by
  unfold pf_r08_Check at h
  have hS : Sep w no O w (rl [Res.ro (FP.sl c3 Ag lg cg g2)]) := Sep.startl hO [(FP.sl c3 Ag lg cg g2)] ⟨a0, trivial⟩
  refine calls_sh (l := [(Value.agg #[(Value.int .i64 g), (Value.slice Ag lg cg)])]) Try.func120 rfl Try.ntmps120 (Nat.le_of_ble_eq_true rfl) ?_
  refine wt_seq ?_
  refine wl_region wd_wide ?_
  refine rl_n rfl rfl rfl rfl (n_box (v := (Value.agg #[(Value.int .i64 g), (Value.slice Ag lg cg)])) rfl ?_)
  intro g3 w2 hN
  replace hS : Sep w no O w2 (stl _ 1 (Res.box 24 g3 [(Value.int .i64 g), (Value.slice Ag lg cg)])) := hS.new 1 rfl hN
  clear hN
  refine ⟨Stb.none _, ?_⟩
  refine rl_q rfl rfl rfl (v_assign (v := (Value.int .i64 0)) rfl) ?_
  refine rl_end ?_
  refine wt_seq ?_
  refine wt_seq ?_
  obtain ⟨J2, hJ, h⟩ := h
  refine wt_cutT1 (fun E ds w' => J2 ∧ ds = [] ∧ E 1 = (Value.pointer (some (⟨g3, 0, none⟩ : Addr))) ∧ Sep w no O w' (rl [Res.box 24 g3 [(Value.int .i64 g), (Value.slice Ag lg cg)], Res.ro (FP.sl c3 Ag lg cg g2)])) ?_ ?_
  · clear h hS
    rintro E ds w3 ⟨h, rfl, hE1, hS⟩
    replace h := hJ h
    refine wt_seq ?_
    refine wt_seq ?_
    refine wl_region wd_wide ?_
    refine rl_q rfl rfl rfl (v_assign (v := (Value.int .i64 0)) rfl) ?_
    refine rl_end ?_
    refine wt_block ?_
    obtain ⟨I2, ⟨m0, h0⟩, hr⟩ := h
    refine wt_loop (fun m E ds w' => ∃ i : Int, I2 m i ∧ ds = [] ∧ E 1 = (Value.pointer (some (⟨g3, 0, none⟩ : Addr))) ∧ E 3 = (Value.int .i64 i) ∧ Sep w no O w' (rl [Res.box 24 g3 [(Value.int .i64 g), (Value.slice Ag lg cg)], Res.ro (FP.sl c3 Ag lg cg g2)])) m0 ⟨_, h0, rfl, hE1, rfl, (hS.sel [0, 1] (by decide))⟩ ?_
    clear h0 hS
    rintro m2 E ds w4 ⟨i, h, rfl, hE1, hE3, hS⟩ again
    replace h := hr m2 i h
    clear hr
    refine wt_seq ?_
    refine wt_seq ?_
    refine wl_region wd_wide ?_
    refine rl_q rfl rfl rfl (v_move (v := (Value.int .i64 i)) hE3) ?_
    refine rl_q rfl rfl rfl (v_faddr hE1 Try.underlying24 rfl info_22) ?_
    refine rl_q rfl rfl rfl (v_load rfl Try.underlying22 rfl (Row.cell (hS.bx 0 rfl) (i := 1) rfl)) ?_
    refine rl_q rfl rfl rfl (v_lenx (n := g2.length) rfl Try.underlying22 (rd_len (hS.rdr 1 rfl))) ?_
    refine rl_q rfl rfl rfl (v_lss rfl rfl) ?_
    refine rl_end ?_
    by_cases hp : i < ((g2.length : Nat) : Int)
    · replace h := h.1 hp
      refine wt_cond_t (congrArg Value.bool (decide_eq_true hp)) ?_
      refine wt_skip ?_
      refine wt_seq ?_
      refine wt_block ?_
      refine wt_seq ?_
      refine wl_region wd_wide ?_
      refine rl_q rfl rfl rfl (v_loadn (vs := [(Value.int .i64 g), (Value.slice Ag lg cg)]) hE1 Try.underlying24 rfl info_24 ⟨Row.cell (hS.bx 0 rfl) (i := 0) rfl, Row.cell (hS.bx 0 rfl) (i := 1) rfl, trivial⟩) ?_
      refine rl_q rfl rfl rfl (v_move (v := (Value.int .i64 i)) hE3) ?_
      refine rl_n rfl rfl rfl rfl (n_call0 rfl (am2 rfl rfl) enter_154 ((pok_r08_edge h (no_lt _) (hS.rdr 1 rfl)).mono ?_))
      rintro _ w5 ⟨r, rfl, hC, h⟩
      replace hS := hS.pur hC.pure
      clear hC
      refine ⟨_, rfl, ?_⟩
      refine ⟨Stb.none _, ?_⟩
      refine rl_q rfl rfl rfl (v_assign (v := (Value.int .i64 r)) rfl) ?_
      refine rl_end ?_
      refine wt_seq ?_
      refine wl_region wd_wide ?_
      refine rl_q rfl rfl rfl (v_move (v := (Value.int .i64 r)) rfl) ?_
      refine rl_q rfl rfl rfl (v_neq rfl rfl) ?_
      refine rl_end ?_
      by_cases hp2 : r = 0
      · replace h := h.1 hp2
        refine wt_cond_f (congrArg Value.bool (congrArg Bool.not (decide_eq_true hp2))) ?_
        refine wt_skip ?_
        refine wt_inBlock ?_
        refine wl_region wd_wide ?_
        refine rl_q rfl rfl rfl (v_move (v := (Value.int .i64 i)) hE3) ?_
        obtain ⟨hi, h⟩ := h
        refine rl_q rfl rfl rfl (v_add rfl rfl hi) ?_
        refine rl_q rfl rfl rfl (v_assign (v := (Value.int .i64 (i + 1))) rfl) ?_
        refine rl_end ?_
        obtain ⟨mq, hlt, h⟩ := h
        exact again mq _ _ _ ⟨_, h, rfl, hE1, rfl, (hS.sel [0, 1] (by decide))⟩ hlt
      · replace h := h.2 hp2
        refine wt_cond_t (congrArg Value.bool (congrArg Bool.not (decide_eq_false hp2))) ?_
        refine wt_seq ?_
        refine wl_region wd_wide ?_
        refine rl_q rfl rfl rfl (v_move (v := (Value.int .i64 r)) rfl) ?_
        refine rl_q rfl rfl rfl (v_assign (v := (Value.int .i64 r)) rfl) ?_
        refine rl_end ?_
        exact wt_ret1 rfl rfl ⟨_, rfl, (hS.sel [] (by decide)), h⟩
    · replace h := h.2 hp
      refine wt_cond_f (congrArg Value.bool (decide_eq_false hp)) ?_
      refine wt_exit rfl ?_
      refine wt_seq ?_
      refine wl_region wd_wide ?_
      refine rl_q rfl rfl rfl (v_assign (v := (Value.int .i64 0)) rfl) ?_
      refine rl_end ?_
      exact wt_ret1 rfl rfl ⟨_, rfl, (hS.sel [] (by decide)), h⟩
  clear hJ
  intro j
  refine wl_region wd_wide ?_
  refine rl_q rfl rfl rfl (v_faddr rfl Try.underlying24 rfl info_3) ?_
  refine rl_q rfl rfl rfl (v_load rfl Try.underlying3 rfl (Row.cell (hS.bx 1 rfl) (i := 0) rfl)) ?_
  refine rl_q rfl rfl rfl (v_lss rfl rfl) ?_
  refine rl_q rfl rfl rfl (v_move (v := (Value.bool (decide (g < 1)))) rfl) ?_
  by_cases hp3 : g < 1
  · replace h := h.1 hp3
    refine rl_p (wanted_n rfl (yE_of rfl (congrArg Value.bool (decide_eq_true hp3))) rfl) rfl ?_
    refine rl_p (wanted_n rfl (yE_of rfl (congrArg Value.bool (decide_eq_true hp3))) rfl) rfl ?_
    refine rl_p (wanted_n rfl (yE_of rfl (congrArg Value.bool (decide_eq_true hp3))) rfl) rfl ?_
    refine rl_q rfl rfl rfl (v_pick_t (v := (Value.bool (true))) (congrArg Value.bool (decide_eq_true hp3)) rfl) ?_
    refine rl_end ?_
    refine wt_cond_t rfl ?_
    refine wt_seq ?_
    refine wl_region wd_wide ?_
    refine rl_q rfl rfl rfl (v_assign (v := (Value.int .i64 2)) rfl) ?_
    refine rl_end ?_
    exact wt_ret1 rfl rfl ⟨_, rfl, (hS.sel [] (by decide)), h⟩
  · replace h := h.2 hp3
    refine rl_q (wanted_g rfl (yE_of rfl (congrArg Value.bool (decide_eq_false hp3)))) rfl rfl (v_faddr rfl Try.underlying24 rfl info_3) ?_
    refine rl_q (wanted_g rfl (yE_of rfl (congrArg Value.bool (decide_eq_false hp3)))) rfl rfl (v_load rfl Try.underlying3 rfl (Row.cell (hS.bx 1 rfl) (i := 0) rfl)) ?_
    refine rl_q (wanted_g rfl (yE_of rfl (congrArg Value.bool (decide_eq_false hp3)))) rfl rfl (v_gtr rfl rfl) ?_
    refine rl_q rfl rfl rfl (v_pick_f (v := (Value.bool (decide (12 < g)))) (congrArg Value.bool (decide_eq_false hp3)) rfl) ?_
    refine rl_end ?_
    by_cases hp4 : 12 < g
    · replace h := h.1 hp4
      refine wt_cond_t (congrArg Value.bool (decide_eq_true hp4)) ?_
      refine wt_seq ?_
      refine wl_region wd_wide ?_
      refine rl_q rfl rfl rfl (v_assign (v := (Value.int .i64 2)) rfl) ?_
      refine rl_end ?_
      exact wt_ret1 rfl rfl ⟨_, rfl, (hS.sel [] (by decide)), h⟩
    · replace h := h.2 hp4
      refine wt_cond_f (congrArg Value.bool (decide_eq_false hp4)) ?_
      refine wt_skip ?_
      exact j _ _ _ ⟨h, rfl, rfl, (hS.sel [1, 0] (by decide))⟩

/-- sandpile/sandpileref08.Ends: what it computes. -/
def pf_r08_Ends (g : Int) (g2 : List (Int × Int × Int)) (R : (List (Int × Int)) → Prop) : Prop :=
(∃ I2 : Nat → (List (Int × Int)) → Int → Prop, (∃ m0, I2 m0 ([]) 0) ∧ ∀ (m2 : Nat) (out : List (Int × Int)) (i : Int), I2 m2 out i → 
((i < ((g2.length : Nat) : Int) →
(∃ I3 : Nat → (List (Int × Int)) → Int → Prop, (∃ m0, I3 m0 out 0) ∧ ∀ (m3 : Nat) (out2 : List (Int × Int)) (k : Int), I3 m3 out2 k → 
((0 ≤ i ∧ i < ((g2.length : Nat) : Int)) ∧
((k < ((ge g2 i.toNat).2.2) →
(out2.length + 1 ≤ 1000000000 ∧
(In64 (k + 1) ∧
∃ m4, m4 < m3 ∧ I3 m4 (out2 ++ [((ge g2 i.toNat).1, (ge g2 i.toNat).2.1)]) (k + 1)))) ∧
(¬ (k < ((ge g2 i.toNat).2.2)) →
(In64 (i + 1) ∧
∃ m5, m5 < m2 ∧ I2 m5 out2 (i + 1))))))) ∧
(¬ (i < ((g2.length : Nat) : Int)) →
R out)))
theorem pok_r08_Ends {O : Nat → Prop} {w : World} {g : Int} {g2 : List (Int × Int × Int)} {Ag : Option Addr} {lg : Nat} {cg : Nat} {R : (List (Int × Int)) → Prop} (h : pf_r08_Ends g g2 R) (hO : ∀ k, O k → k < w.heap.size) (a0 : (FP.sl c3 Ag lg cg g2).P O w) :
    Calls Try.prog 170 #[(Value.agg #[(Value.int .i64 g), (Value.slice Ag lg cg)])] w fun e w' => ∃ r : List (Int × Int), ∃ Ar : Option Addr, ∃ lr : Nat, ∃ cr : Nat, e = .returned (Value.slice Ar lr cr) ∧ Sep w no O w' (rl [Res.own c2 196 Ar lr cr r]) ∧ R r := by
  unfold pf_r08_Ends at h
  have hS : Sep w no O w (rl [Res.ro (FP.sl c3 Ag lg cg g2)]) := Sep.startl hO [(FP.sl c3 Ag lg cg g2)] ⟨a0, trivial⟩
  refine calls_sh (l := [(Value.agg #[(Value.int .i64 g), (Value.slice Ag lg cg)])]) Try.func170 rfl Try.ntmps170 (Nat.le_of_ble_eq_true rfl) ?_
  refine wt_seq ?_
  refine wl_region wd_wide ?_
  refine rl_n rfl rfl rfl rfl (n_box (v := (Value.agg #[(Value.int .i64 g), (Value.slice Ag lg cg)])) rfl ?_)
  intro g3 w2 hN
  replace hS : Sep w no O w2 (stl _ 1 (Res.box 24 g3 [(Value.int .i64 g), (Value.slice Ag lg cg)])) := hS.new 1 rfl hN
  clear hN
  refine ⟨Stb.none _, ?_⟩
  refine rl_q rfl rfl rfl (v_assign (v := (Value.slice none 0 0)) rfl) ?_
  refine rl_end ?_
  refine wt_seq ?_
  refine wl_region wd_wide ?_
  refine rl_q rfl rfl rfl (v_assign (v := (Value.slice none 0 0)) rfl) ?_
  refine rl_end ?_
  refine wt_seq ?_
  refine wt_seq ?_
  refine wl_region wd_wide ?_
  refine rl_q rfl rfl rfl (v_assign (v := (Value.int .i64 0)) rfl) ?_
  refine rl_end ?_
  refine wt_block ?_
  replace hS := hS.nil 2 rfl c2 196
  obtain ⟨I2, ⟨m0, h0⟩, hr⟩ := h
  refine wt_loop (fun m E ds w' => ∃ out : List (Int × Int), ∃ i : Int, ∃ Aout : Option Addr, ∃ lout : Nat, ∃ cout : Nat, I2 m out i ∧ ds = [] ∧ E 1 = (Value.pointer (some (⟨g3, 0, none⟩ : Addr))) ∧ E 3 = (Value.slice Aout lout cout) ∧ E 4 = (Value.int .i64 i) ∧ Sep w no O w' (rl [Res.own c2 196 Aout lout cout out, Res.box 24 g3 [(Value.int .i64 g), (Value.slice Ag lg cg)], Res.ro (FP.sl c3 Ag lg cg g2)])) m0 ⟨_, _, _, _, _, h0, rfl, rfl, rfl, rfl, (hS.sel [2, 1, 0] (by decide))⟩ ?_
  clear h0 hS
  rintro m2 E ds w3 ⟨out, i, Aout, lout, cout, h, rfl, hE1, hE3, hE4, hS⟩ again
  replace h := hr m2 out i h
  clear hr
  refine wt_seq ?_
  refine wt_seq ?_
  refine wl_region wd_wide ?_
  refine rl_q rfl rfl rfl (v_move (v := (Value.int .i64 i)) hE4) ?_
  refine rl_q rfl rfl rfl (v_faddr hE1 Try.underlying24 rfl info_22) ?_
  refine rl_q rfl rfl rfl (v_load rfl Try.underlying22 rfl (Row.cell (hS.bx 1 rfl) (i := 1) rfl)) ?_
  refine rl_q rfl rfl rfl (v_lenx (n := g2.length) rfl Try.underlying22 (rd_len (hS.rdr 2 rfl))) ?_
  refine rl_q rfl rfl rfl (v_lss rfl rfl) ?_
  refine rl_end ?_
  by_cases hp : i < ((g2.length : Nat) : Int)
  · replace h := h.1 hp
    refine wt_cond_t (congrArg Value.bool (decide_eq_true hp)) ?_
    refine wt_skip ?_
    refine wt_seq ?_
    refine wt_block ?_
    refine wt_seq ?_
    refine wl_region wd_wide ?_
    refine rl_q rfl rfl rfl (v_assign (v := (Value.int .i64 0)) rfl) ?_
    refine rl_end ?_
    refine wt_block ?_
    obtain ⟨I3, ⟨m0, h0⟩, hr⟩ := h
    refine wt_loop (fun m E ds w' => ∃ out2 : List (Int × Int), ∃ k : Int, ∃ Aout2 : Option Addr, ∃ lout2 : Nat, ∃ cout2 : Nat, I3 m out2 k ∧ ds = [] ∧ E 1 = (Value.pointer (some (⟨g3, 0, none⟩ : Addr))) ∧ E 3 = (Value.slice Aout2 lout2 cout2) ∧ E 4 = (Value.int .i64 i) ∧ E 5 = (Value.int .i64 k) ∧ Sep w no O w' (rl [Res.own c2 196 Aout2 lout2 cout2 out2, Res.box 24 g3 [(Value.int .i64 g), (Value.slice Ag lg cg)], Res.ro (FP.sl c3 Ag lg cg g2)])) m0 ⟨_, _, _, _, _, h0, rfl, hE1, hE3, hE4, rfl, (hS.sel [0, 1, 2] (by decide))⟩ ?_
    clear h0 hS
    rintro m3 E ds w4 ⟨out2, k, Aout2, lout2, cout2, h, rfl, hE1, hE3, hE4, hE5, hS⟩ again2
    replace h := hr m3 out2 k h
    clear hr
    refine wt_seq ?_
    refine wt_seq ?_
    refine wl_region wd_wide ?_
    refine rl_q rfl rfl rfl (v_move (v := (Value.int .i64 k)) hE5) ?_
    refine rl_q rfl rfl rfl (v_faddr hE1 Try.underlying24 rfl info_22) ?_
    refine rl_q rfl rfl rfl (v_load rfl Try.underlying22 rfl (Row.cell (hS.bx 1 rfl) (i := 1) rfl)) ?_
    refine rl_q rfl rfl rfl (v_move (v := (Value.int .i64 i)) hE4) ?_
    obtain ⟨hx, h⟩ := h
    refine rl_q rfl rfl rfl (v_iaddr rfl rfl Try.underlying22 info_117 (rd_ix (hS.rdr 2 rfl) hx)) ?_
    refine rl_q rfl rfl rfl (v_faddr rfl Try.underlying117 rfl info_3) ?_
    refine rl_q rfl rfl rfl (v_load (v := (Value.int .i64 ((ge g2 i.toNat).2.2))) rfl Try.underlying3 rfl (rd_f (hS.rdr 2 rfl) hx (fun q => ge_some q) 2 rfl)) ?_
    refine rl_q rfl rfl rfl (v_lss rfl rfl) ?_
    refine rl_end ?_
    by_cases hp2 : k < ((ge g2 i.toNat).2.2)
    · replace h := h.1 hp2
      refine wt_cond_t (congrArg Value.bool (decide_eq_true hp2)) ?_
      refine wt_skip ?_
      refine wt_seq ?_
      refine wt_block ?_
      refine wp_draw [0, 1, 2, 3, 4, 5, 6, 7, 8, 9, 10, 11, 12, 13, 14, 15, 16] (fun i => match i with | 13 => [0] | 14 => [0] | _ => []) wd_wide (by kernel_rfl) (by kernel_rfl) ?_
      replace hS := hS.drew
      refine rp_q rfl rfl rfl (v_move (v := (Value.slice Aout2 lout2 cout2)) hE3) ?_
      refine rp_q rfl rfl rfl (v_faddr hE1 Try.underlying24 rfl info_22) ?_
      refine rp_q rfl rfl rfl (v_load rfl Try.underlying22 rfl (Row.cell (hS.bx 1 rfl) (i := 1) rfl)) ?_
      refine rp_q rfl rfl rfl (v_move (v := (Value.int .i64 i)) hE4) ?_
      refine rp_q rfl rfl rfl (v_iaddr rfl rfl Try.underlying22 info_117 (rd_ix (hS.rdr 2 rfl) hx)) ?_
      refine rp_q rfl rfl rfl (v_faddr rfl Try.underlying117 rfl info_3) ?_
      refine rp_q rfl rfl rfl (v_load (v := (Value.int .i64 ((ge g2 i.toNat).1))) rfl Try.underlying3 rfl (rd_f (hS.rdr 2 rfl) hx (fun q => ge_some q) 0 rfl)) ?_
      refine rp_q rfl rfl rfl (v_faddr hE1 Try.underlying24 rfl info_22) ?_
      refine rp_q rfl rfl rfl (v_load rfl Try.underlying22 rfl (Row.cell (hS.bx 1 rfl) (i := 1) rfl)) ?_
      refine rp_q rfl rfl rfl (v_move (v := (Value.int .i64 i)) hE4) ?_
      refine rp_q rfl rfl rfl (v_iaddr rfl rfl Try.underlying22 info_117 (rd_ix (hS.rdr 2 rfl) hx)) ?_
      refine rp_q rfl rfl rfl (v_faddr rfl Try.underlying117 rfl info_3) ?_
      refine rp_q rfl rfl rfl (v_load (v := (Value.int .i64 ((ge g2 i.toNat).2.1))) rfl Try.underlying3 rfl (rd_f (hS.rdr 2 rfl) hx (fun q => ge_some q) 1 rfl)) ?_
      refine rp_n rfl rfl rfl rfl (n_builda (l := [(0, (Value.int .i64 ((ge g2 i.toNat).1))), (1, (Value.int .i64 ((ge g2 i.toNat).2.1)))]) (cells := [(Value.int .i64 ((ge g2 i.toNat).1)), (Value.int .i64 ((ge g2 i.toNat).2.1))]) (bp2 rfl rfl) Try.underlying196 info_196 info_3 rfl ?_)
      refine ⟨⟨fun hh => Bool.noConfusion (show false = true from hh), ⟨fun hh => Bool.noConfusion (show false = true from hh), ⟨fun hh => Bool.noConfusion (show false = true from hh), ⟨fun hh => Bool.noConfusion (show false = true from hh), ⟨fun hh => Bool.noConfusion (show false = true from hh), ⟨fun hh => Bool.noConfusion (show false = true from hh), ⟨fun hh => Bool.noConfusion (show false = true from hh), ⟨fun hh => Bool.noConfusion (show false = true from hh), ⟨fun hh => Bool.noConfusion (show false = true from hh), ⟨fun hh => Bool.noConfusion (show false = true from hh), ⟨fun hh => Bool.noConfusion (show false = true from hh), ⟨fun hh => Bool.noConfusion (show false = true from hh), ⟨fun _ => (v_move (v := (Value.slice Aout2 lout2 cout2)) hE3), trivial⟩⟩⟩⟩⟩⟩⟩⟩⟩⟩⟩⟩⟩, ?_⟩
      refine rp_n rfl rfl rfl rfl (n_bslice (l := [(0, (Value.agg #[(Value.int .i64 ((ge g2 i.toNat).1)), (Value.int .i64 ((ge g2 i.toNat).2.1))]))]) (cells := [(Value.int .i64 ((ge g2 i.toNat).1)), (Value.int .i64 ((ge g2 i.toNat).2.1))]) (bp1 rfl) Try.underlying183 info_196 rfl rfl ?_)
      intro g4 w5 hN
      replace hS := hS.litf (n := 1) 3 rfl (fP (fI .i64) (fI .i64)) hN ([((ge g2 i.toNat).1, (ge g2 i.toNat).2.1)] : List (Int × Int)) rfl (by decide) rfl
      clear hN
      refine ⟨⟨fun hh => Bool.noConfusion (show false = true from hh), ⟨fun hh => Bool.noConfusion (show false = true from hh), ⟨fun hh => Bool.noConfusion (show false = true from hh), ⟨fun hh => Bool.noConfusion (show false = true from hh), ⟨fun hh => Bool.noConfusion (show false = true from hh), ⟨fun hh => Bool.noConfusion (show false = true from hh), ⟨fun hh => Bool.noConfusion (show false = true from hh), ⟨fun hh => Bool.noConfusion (show false = true from hh), ⟨fun hh => Bool.noConfusion (show false = true from hh), ⟨fun hh => Bool.noConfusion (show false = true from hh), ⟨fun hh => Bool.noConfusion (show false = true from hh), ⟨fun hh => Bool.noConfusion (show false = true from hh), ⟨fun _ => (v_move (v := (Value.slice Aout2 lout2 cout2)) hE3), trivial⟩⟩⟩⟩⟩⟩⟩⟩⟩⟩⟩⟩⟩, ?_⟩
      obtain ⟨hx2, h⟩ := h
      refine rp_n rfl rfl rfl rfl (n_app (c := c2) rfl rfl Try.underlying183 Try.underlying183 info_196 rfl rfl (by decide) hS 0 rfl (hS.yo 3 rfl) hx2 ?_)
      clear hS
      intro A c w6 hS
      refine ⟨Stb.none _, ?_⟩
      refine rp_q rfl rfl rfl (v_assign (v := (Value.slice A (lout2 + 1) c)) rfl) ?_
      refine rp_end ?_
      refine wt_inBlock ?_
      refine wl_region wd_wide ?_
      refine rl_q rfl rfl rfl (v_move (v := (Value.int .i64 k)) hE5) ?_
      obtain ⟨hi, h⟩ := h
      refine rl_q rfl rfl rfl (v_add rfl rfl hi) ?_
      refine rl_q rfl rfl rfl (v_assign (v := (Value.int .i64 (k + 1))) rfl) ?_
      refine rl_end ?_
      obtain ⟨mq, hlt, h⟩ := h
      exact again2 mq _ _ _ ⟨_, _, _, _, _, h, rfl, hE1, rfl, hE4, rfl, (hS.sel [0, 1, 2] (by decide))⟩ hlt
    · replace h := h.2 hp2
      refine wt_cond_f (congrArg Value.bool (decide_eq_false hp2)) ?_
      refine wt_exit rfl ?_
      refine wt_inBlock ?_
      refine wl_region wd_wide ?_
      refine rl_q rfl rfl rfl (v_move (v := (Value.int .i64 i)) hE4) ?_
      obtain ⟨hi2, h⟩ := h
      refine rl_q rfl rfl rfl (v_add rfl rfl hi2) ?_
      refine rl_q rfl rfl rfl (v_assign (v := (Value.int .i64 (i + 1))) rfl) ?_
      refine rl_end ?_
      obtain ⟨mq, hlt, h⟩ := h
      exact again mq _ _ _ ⟨_, _, _, _, _, h, rfl, hE1, hE3, rfl, (hS.sel [0, 1, 2] (by decide))⟩ hlt
  · replace h := h.2 hp
    refine wt_cond_f (congrArg Value.bool (decide_eq_false hp)) ?_
    refine wt_exit rfl ?_
    refine wt_seq ?_
    refine wl_region wd_wide ?_
    refine rl_q rfl rfl rfl (v_move (v := (Value.slice Aout lout cout)) hE3) ?_
    refine rl_q rfl rfl rfl (v_assign (v := (Value.slice Aout lout cout)) rfl) ?_
    refine rl_end ?_
    exact wt_ret1 rfl rfl ⟨_, _, _, _, rfl, (hS.sel [0] (by decide)), h⟩

/-- sandpile/sandpileref08.Size: what it computes. -/
def pf_r08_Size (g : Int) (g2 : List (Int × Int × Int)) (R : Int → Prop) : Prop :=
pf_r08_Ends g g2 (fun (r : List (Int × Int)) =>
R ((r.length : Nat) : Int))
theorem pok_r08_Size {O : Nat → Prop} {w : World} {g : Int} {g2 : List (Int × Int × Int)} {Ag : Option Addr} {lg : Nat} {cg : Nat} {R : Int → Prop} (h : pf_r08_Size g g2 R) (hO : ∀ k, O k → k < w.heap.size) (a0 : (FP.sl c3 Ag lg cg g2).P O w) :
    Calls Try.prog 161 #[(Value.agg #[(Value.int .i64 g), (Value.slice Ag lg cg)])] w fun e w' => ∃ r2 : Int, e = .returned (Value.int .i64 r2) ∧ Sep w no O w' (rl []) ∧ R r2 := by
  unfold pf_r08_Size at h
  have hS : Sep w no O w (rl [Res.ro (FP.sl c3 Ag lg cg g2)]) := Sep.startl hO [(FP.sl c3 Ag lg cg g2)] ⟨a0, trivial⟩
  refine calls_sh (l := [(Value.agg #[(Value.int .i64 g), (Value.slice Ag lg cg)])]) Try.func161 rfl Try.ntmps161 (Nat.le_of_ble_eq_true rfl) ?_
  refine wt_seq ?_
  refine wl_region wd_wide ?_
  refine rl_n rfl rfl rfl rfl (n_box (v := (Value.agg #[(Value.int .i64 g), (Value.slice Ag lg cg)])) rfl ?_)
  intro g3 w2 hN
  replace hS : Sep w no O w2 (stl _ 1 (Res.box 24 g3 [(Value.int .i64 g), (Value.slice Ag lg cg)])) := hS.new 1 rfl hN
  clear hN
  refine ⟨Stb.none _, ?_⟩
  refine rl_q rfl rfl rfl (v_assign (v := (Value.int .i64 0)) rfl) ?_
  refine rl_end ?_
  refine wt_seq ?_
  refine wl_region wd_wide ?_
  refine rl_q rfl rfl rfl (v_loadn (vs := [(Value.int .i64 g), (Value.slice Ag lg cg)]) rfl Try.underlying24 rfl info_24 ⟨Row.cell (hS.bx 1 rfl) (i := 0) rfl, Row.cell (hS.bx 1 rfl) (i := 1) rfl, trivial⟩) ?_
  refine rl_n rfl rfl rfl rfl (n_call0 rfl (am1 rfl) enter_170 ((pok_r08_Ends h (no_lt _) (hS.rdr 0 rfl)).mono ?_))
  rintro _ w3 ⟨r, Ar, lr, cr, rfl, hC, h⟩
  replace hS := hS.call1 (hC.widen (flatS (flat_own (fP (fI .i64) (fI .i64)) _ _ _ _ _) flat0) hS.blt) 2 0 rfl
  clear hC
  refine ⟨_, rfl, ?_⟩
  refine ⟨Stb.none _, ?_⟩
  refine rl_q rfl rfl rfl (v_lenx (n := r.length) rfl Try.underlying183 (rd_len (hS.rdo 2 rfl))) ?_
  refine rl_q rfl rfl rfl (v_assign (v := (Value.int .i64 ((r.length : Nat) : Int))) rfl) ?_
  refine rl_end ?_
  exact wt_ret1 rfl rfl ⟨_, rfl, (hS.sel [] (by decide)), h⟩

/-- sandpile/sandpileref08.small: what it computes. -/
def pf_r08_small (g : Int) (g2 : List (Int × Int × Int)) (vertices : Int) (single : Int) (R : Bool → Prop) : Prop :=
((40 < ((g2.length : Nat) : Int) →
R false) ∧
(¬ (40 < ((g2.length : Nat) : Int)) →
pf_r08_Check g g2 (fun (r : Int) =>
((r = 0 →
((g ≤ vertices →
pf_r08_Size g g2 (fun (r2 : Int) =>
R (decide (r2 ≤ single)))) ∧
(¬ (g ≤ vertices) →
R false))) ∧
(¬ (r = 0) →
R true)))))
theorem pok_r08_small {O : Nat → Prop} {w : World} {g : Int} {g2 : List (Int × Int × Int)} {vertices : Int} {single : Int} {Ag : Option Addr} {lg : Nat} {cg : Nat} {R : Bool → Prop} (h : pf_r08_small g g2 vertices single R) (hO : ∀ k, O k → k < w.heap.size) (a0 : (FP.sl c3 Ag lg cg g2).P O w) :
    Calls Try.prog 145 #[(Value.agg #[(Value.int .i64 g), (Value.slice Ag lg cg)]), (Value.int .i64 vertices), (Value.int .i64 single)] w fun e w' => ∃ r3 : Bool, e = .returned (Value.bool (r3)) ∧ Sep w no O w' (rl []) ∧ R r3 := by
  unfold pf_r08_small at h
  have hS : Sep w no O w (rl [Res.ro (FP.sl c3 Ag lg cg g2)]) := Sep.startl hO [(FP.sl c3 Ag lg cg g2)] ⟨a0, trivial⟩
  refine calls_sh (l := [(Value.agg #[(Value.int .i64 g), (Value.slice Ag lg cg)]), (Value.int .i64 vertices), (Value.int .i64 single)]) Try.func145 rfl Try.ntmps145 (Nat.le_of_ble_eq_true rfl) ?_
  refine wt_seq ?_
  refine wl_region wd_wide ?_
  refine rl_n rfl rfl rfl rfl (n_box (v := (Value.agg #[(Value.int .i64 g), (Value.slice Ag lg cg)])) rfl ?_)
  intro g3 w2 hN
  replace hS : Sep w no O w2 (stl _ 1 (Res.box 24 g3 [(Value.int .i64 g), (Value.slice Ag lg cg)])) := hS.new 1 rfl hN
  clear hN
  refine ⟨Stb.none _, ?_⟩
  refine rl_q rfl rfl rfl (v_assign (v := (Value.bool (false))) rfl) ?_
  refine rl_end ?_
  refine wt_seq ?_
  refine wt_seq ?_
  refine wl_region wd_wide ?_
  refine rl_q rfl rfl rfl (v_faddr rfl Try.underlying24 rfl info_22) ?_
  refine rl_q rfl rfl rfl (v_load rfl Try.underlying22 rfl (Row.cell (hS.bx 1 rfl) (i := 1) rfl)) ?_
  refine rl_q rfl rfl rfl (v_lenx (n := g2.length) rfl Try.underlying22 (rd_len (hS.rdr 0 rfl))) ?_
  refine rl_q rfl rfl rfl (v_gtr rfl rfl) ?_
  refine rl_end ?_
  by_cases hp : 40 < ((g2.length : Nat) : Int)
  · replace h := h.1 hp
    refine wt_cond_t (congrArg Value.bool (decide_eq_true hp)) ?_
    refine wt_seq ?_
    refine wl_region wd_wide ?_
    refine rl_q rfl rfl rfl (v_assign (v := (Value.bool (false))) rfl) ?_
    refine rl_end ?_
    exact wt_ret1 rfl rfl ⟨_, rfl, (hS.sel [] (by decide)), h⟩
  · replace h := h.2 hp
    refine wt_cond_f (congrArg Value.bool (decide_eq_false hp)) ?_
    refine wt_skip ?_
    refine wt_seq ?_
    refine wt_seq ?_
    refine wl_region wd_wide ?_
    refine rl_q rfl rfl rfl (v_loadn (vs := [(Value.int .i64 g), (Value.slice Ag lg cg)]) rfl Try.underlying24 rfl info_24 ⟨Row.cell (hS.bx 1 rfl) (i := 0) rfl, Row.cell (hS.bx 1 rfl) (i := 1) rfl, trivial⟩) ?_
    refine rl_n rfl rfl rfl rfl (n_call0 rfl (am1 rfl) enter_120 ((pok_r08_Check h (no_lt _) (hS.rdr 0 rfl)).mono ?_))
    rintro _ w3 ⟨r, rfl, hC, h⟩
    replace hS := hS.pur hC.pure
    clear hC
    refine ⟨_, rfl, ?_⟩
    refine ⟨Stb.none _, ?_⟩
    refine rl_q rfl rfl rfl (v_neq rfl rfl) ?_
    refine rl_end ?_
    by_cases hp2 : r = 0
    · replace h := h.1 hp2
      refine wt_cond_f (congrArg Value.bool (congrArg Bool.not (decide_eq_true hp2))) ?_
      refine wt_skip ?_
      refine wt_seq ?_
      refine wl_region wd_wide ?_
      refine rl_q rfl rfl rfl (v_faddr rfl Try.underlying24 rfl info_3) ?_
      refine rl_q rfl rfl rfl (v_load rfl Try.underlying3 rfl (Row.cell (hS.bx 1 rfl) (i := 0) rfl)) ?_
      refine rl_q rfl rfl rfl (v_move (v := (Value.int .i64 vertices)) rfl) ?_
      refine rl_q rfl rfl rfl (v_leq rfl rfl) ?_
      refine rl_q rfl rfl rfl (v_move (v := (Value.bool (decide (g ≤ vertices)))) rfl) ?_
      by_cases hp3 : g ≤ vertices
      · replace h := h.1 hp3
        refine rl_q (wanted_g rfl (yE_of rfl (congrArg Value.bool (decide_eq_true hp3)))) rfl rfl (v_loadn (vs := [(Value.int .i64 g), (Value.slice Ag lg cg)]) rfl Try.underlying24 rfl info_24 ⟨Row.cell (hS.bx 1 rfl) (i := 0) rfl, Row.cell (hS.bx 1 rfl) (i := 1) rfl, trivial⟩) ?_
        refine rl_n (wanted_g rfl (yE_of rfl (congrArg Value.bool (decide_eq_true hp3)))) rfl rfl rfl (n_call0 rfl (am1 rfl) enter_161 ((pok_r08_Size h (no_lt _) (hS.rdr 0 rfl)).mono ?_))
        rintro _ w4 ⟨r2, rfl, hC, h⟩
        replace hS := hS.pur hC.pure
        clear hC
        refine ⟨_, rfl, ?_⟩
        refine ⟨Stb.none _, ?_⟩
        refine rl_q (wanted_g rfl (yE_of rfl (congrArg Value.bool (decide_eq_true hp3)))) rfl rfl (v_move (v := (Value.int .i64 single)) rfl) ?_
        refine rl_q (wanted_g rfl (yE_of rfl (congrArg Value.bool (decide_eq_true hp3)))) rfl rfl (v_leq rfl rfl) ?_
        refine rl_q rfl rfl rfl (v_pick_t (v := (Value.bool (decide (r2 ≤ single)))) (congrArg Value.bool (decide_eq_true hp3)) rfl) ?_
        refine rl_q rfl rfl rfl (v_assign (v := (Value.bool (decide (r2 ≤ single)))) rfl) ?_
        refine rl_end ?_
        exact wt_ret1 rfl rfl ⟨_, rfl, (hS.sel [] (by decide)), h⟩
      · replace h := h.2 hp3
        refine rl_p (wanted_n rfl (yE_of rfl (congrArg Value.bool (decide_eq_false hp3))) rfl) rfl ?_
        refine rl_p (wanted_n rfl (yE_of rfl (congrArg Value.bool (decide_eq_false hp3))) rfl) rfl ?_
        refine rl_p (wanted_n rfl (yE_of rfl (congrArg Value.bool (decide_eq_false hp3))) rfl) rfl ?_
        refine rl_p (wanted_n rfl (yE_of rfl (congrArg Value.bool (decide_eq_false hp3))) rfl) rfl ?_
        refine rl_q rfl rfl rfl (v_pick_f (v := (Value.bool (false))) (congrArg Value.bool (decide_eq_false hp3)) rfl) ?_
        refine rl_q rfl rfl rfl (v_assign (v := (Value.bool (false))) rfl) ?_
        refine rl_end ?_
        exact wt_ret1 rfl rfl ⟨_, rfl, (hS.sel [] (by decide)), h⟩
    · replace h := h.2 hp2
      refine wt_cond_t (congrArg Value.bool (congrArg Bool.not (decide_eq_false hp2))) ?_
      refine wt_seq ?_
      refine wl_region wd_wide ?_
      refine rl_q rfl rfl rfl (v_assign (v := (Value.bool (true))) rfl) ?_
      refine rl_end ?_
      exact wt_ret1 rfl rfl ⟨_, rfl, (hS.sel [] (by decide)), h⟩

/-- sandpile/sandpileref08.Few: what it computes. -/
def pf_r08_Few (g : Int) (g2 : List (Int × Int × Int)) (R : Bool → Prop) : Prop :=
pf_r08_small g g2 6 9 (fun (r : Bool) =>
R r)
theorem pok_r08_Few {O : Nat → Prop} {w : World} {g : Int} {g2 : List (Int × Int × Int)} {Ag : Option Addr} {lg : Nat} {cg : Nat} {R : Bool → Prop} (h : pf_r08_Few g g2 R) (hO : ∀ k, O k → k < w.heap.size) (a0 : (FP.sl c3 Ag lg cg g2).P O w) :
    Calls Try.prog 109 #[(Value.agg #[(Value.int .i64 g), (Value.slice Ag lg cg)])] w fun e w' => ∃ r2 : Bool, e = .returned (Value.bool (r2)) ∧ Sep w no O w' (rl []) ∧ R r2 := by
  unfold pf_r08_Few at h
  have hS : Sep w no O w (rl [Res.ro (FP.sl c3 Ag lg cg g2)]) := Sep.startl hO [(FP.sl c3 Ag lg cg g2)] ⟨a0, trivial⟩
  refine calls_sh (l := [(Value.agg #[(Value.int .i64 g), (Value.slice Ag lg cg)])]) Try.func109 rfl Try.ntmps109 (Nat.le_of_ble_eq_true rfl) ?_
  refine wt_seq ?_
  refine wl_region wd_wide ?_
  refine rl_n rfl rfl rfl rfl (n_box (v := (Value.agg #[(Value.int .i64 g), (Value.slice Ag lg cg)])) rfl ?_)
  intro g3 w2 hN
  replace hS : Sep w no O w2 (stl _ 1 (Res.box 24 g3 [(Value.int .i64 g), (Value.slice Ag lg cg)])) := hS.new 1 rfl hN
  clear hN
  refine ⟨Stb.none _, ?_⟩
  refine rl_q rfl rfl rfl (v_assign (v := (Value.bool (false))) rfl) ?_
  refine rl_end ?_
  refine wt_seq ?_
  refine wl_region wd_wide ?_
  refine rl_q rfl rfl rfl (v_loadn (vs := [(Value.int .i64 g), (Value.slice Ag lg cg)]) rfl Try.underlying24 rfl info_24 ⟨Row.cell (hS.bx 1 rfl) (i := 0) rfl, Row.cell (hS.bx 1 rfl) (i := 1) rfl, trivial⟩) ?_
  refine rl_n rfl rfl rfl rfl (n_call0 rfl (am3 rfl rfl rfl) enter_145 ((pok_r08_small h (no_lt _) (hS.rdr 0 rfl)).mono ?_))
  rintro _ w3 ⟨r, rfl, hC, h⟩
  replace hS := hS.pur hC.pure
  clear hC
  refine ⟨_, rfl, ?_⟩
  refine ⟨Stb.none _, ?_⟩
  refine rl_q rfl rfl rfl (v_assign (v := (Value.bool (r))) rfl) ?_
  refine rl_end ?_
  exact wt_ret1 rfl rfl ⟨_, rfl, (hS.sel [] (by decide)), h⟩

/-- sandpile/sandpileref08.Reached: what it computes. -/
def pf_r08_Reached (g : Int) (g2 : List (Int × Int × Int)) (v : Int) (R : (List Bool) → Prop) : Prop :=
((0 ≤ g ∧ g ≤ 1000000) ∧
((0 ≤ v ∧ v < (((List.replicate g.toNat false).length : Nat) : Int)) ∧
(∃ I2 : Nat → Int → (List Bool) → Prop, (∃ m0, I2 m0 0 ((List.replicate g.toNat false).set v.toNat true)) ∧ ∀ (m2 : Nat) (round : Int) (out : List Bool), I2 m2 round out → 
((round < g →
(∃ I3 : Nat → Int → (List Bool) → Prop, (∃ m0, I3 m0 0 out) ∧ ∀ (m3 : Nat) (a : Int) (out2 : List Bool), I3 m3 a out2 → 
((a < g →
(∃ I4 : Nat → Int → (List Bool) → Prop, (∃ m0, I4 m0 0 out2) ∧ ∀ (m4 : Nat) (b : Int) (out3 : List Bool), I4 m4 b out3 → 
((b < g →
((0 ≤ a ∧ a < ((out3.length : Nat) : Int)) ∧
((gb out3 a.toNat = true →
pf_r08_Between g g2 a b (fun (r : Int) =>
((0 < r →
((0 ≤ b ∧ b < ((out3.length : Nat) : Int)) ∧
(In64 (b + 1) ∧
∃ m5, m5 < m4 ∧ I4 m5 (b + 1) (out3.set b.toNat true)))) ∧
(¬ (0 < r) →
(In64 (b + 1) ∧
∃ m6, m6 < m4 ∧ I4 m6 (b + 1) out3))))) ∧
(¬ (gb out3 a.toNat = true) →
(In64 (b + 1) ∧
∃ m7, m7 < m4 ∧ I4 m7 (b + 1) out3))))) ∧
(¬ (b < g) →
(In64 (a + 1) ∧
∃ m8, m8 < m3 ∧ I3 m8 (a + 1) out3))))) ∧
(¬ (a < g) →
(In64 (round + 1) ∧
∃ m9, m9 < m2 ∧ I2 m9 (round + 1) out2))))) ∧
(¬ (round < g) →
R out)))))
theorem pok_r08_Reached {O : Nat → Prop} {w : World} {g : Int} {g2 : List (Int × Int × Int)} {v : Int} {Ag : Option Addr} {lg : Nat} {cg : Nat} {R : (List Bool) → Prop} (h : pf_r08_Reached g g2 v R) (hO : ∀ k, O k → k < w.heap.size) (a0 : (FP.sl c3 Ag lg cg g2).P O w) :
    Calls Try.prog 169 #[(Value.agg #[(Value.int .i64 g), (Value.slice Ag lg cg)]), (Value.int .i64 v)] w fun e w' => ∃ r2 : List Bool, ∃ Ar : Option Addr, ∃ lr : Nat, ∃ cr : Nat, e = .returned (Value.slice Ar lr cr) ∧ Sep w no O w' (rl [Res.own cB 4 Ar lr cr r2]) ∧ R r2 := by
  unfold pf_r08_Reached at h
  have hS : Sep w no O w (rl [Res.ro (FP.sl c3 Ag lg cg g2)]) := Sep.startl hO [(FP.sl c3 Ag lg cg g2)] ⟨a0, trivial⟩
  refine calls_sh (l := [(Value.agg #[(Value.int .i64 g), (Value.slice Ag lg cg)]), (Value.int .i64 v)]) Try.func169 rfl Try.ntmps169 (Nat.le_of_ble_eq_true rfl) ?_
  refine wt_seq ?_
  refine wl_region wd_wide ?_
  refine rl_n rfl rfl rfl rfl (n_box (v := (Value.agg #[(Value.int .i64 g), (Value.slice Ag lg cg)])) rfl ?_)
  intro g3 w2 hN
  replace hS : Sep w no O w2 (stl _ 1 (Res.box 24 g3 [(Value.int .i64 g), (Value.slice Ag lg cg)])) := hS.new 1 rfl hN
  clear hN
  refine ⟨Stb.none _, ?_⟩
  refine rl_q rfl rfl rfl (v_assign (v := (Value.slice none 0 0)) rfl) ?_
  refine rl_end ?_
  refine wt_seq ?_
  refine wl_region wd_wide ?_
  refine rl_q rfl rfl rfl (v_faddr rfl Try.underlying24 rfl info_3) ?_
  refine rl_q rfl rfl rfl (v_load rfl Try.underlying3 rfl (Row.cell (hS.bx 1 rfl) (i := 0) rfl)) ?_
  obtain ⟨hx, h⟩ := h
  refine rl_n rfl rfl rfl rfl (n_make rfl rfl Try.underlying102 info_4 (by decide) rfl hx ?_)
  intro g4 w3 hN
  replace hS := hS.made 2 rfl cB (Value.bool (false)) false (fun _ _ => rfl) hN (by omega)
  clear hN
  refine ⟨Stb.none _, ?_⟩
  refine rl_q rfl rfl rfl (v_assign (v := (Value.slice (some ⟨g4, 0, none⟩) g.toNat g.toNat)) rfl) ?_
  refine rl_end ?_
  refine wt_seq ?_
  refine wl_region wd_wide ?_
  refine rl_q rfl rfl rfl (v_move (v := (Value.slice (some ⟨g4, 0, none⟩) g.toNat g.toNat)) rfl) ?_
  refine rl_q rfl rfl rfl (v_move (v := (Value.int .i64 v)) rfl) ?_
  obtain ⟨hx2, h⟩ := h
  refine rl_q rfl rfl rfl (v_iaddr rfl rfl Try.underlying102 info_4 (rd_ix (hS.rdo 2 rfl) hx2)) ?_
  refine rl_n0 rfl rfl rfl (n_store (v := (Value.bool (true))) rfl rfl rfl info_4 (hS.wr 2 rfl rfl hx2) ?_)
  intro w4 e1
  replace hS := hS.st 2 rfl rfl hx2 (x := true) rfl e1
  clear e1
  refine ⟨Stb.none _, ?_⟩
  refine rl_end ?_
  refine wt_seq ?_
  refine wt_seq ?_
  refine wl_region wd_wide ?_
  refine rl_q rfl rfl rfl (v_assign (v := (Value.int .i64 0)) rfl) ?_
  refine rl_end ?_
  refine wt_block ?_
  obtain ⟨I2, ⟨m0, h0⟩, hr⟩ := h
  refine wt_loop (fun m E ds w' => ∃ round : Int, ∃ out : List Bool, ∃ Aout : Option Addr, ∃ lout : Nat, ∃ cout : Nat, I2 m round out ∧ ds = [] ∧ E 2 = (Value.pointer (some (⟨g3, 0, none⟩ : Addr))) ∧ E 5 = (Value.slice Aout lout cout) ∧ E 6 = (Value.int .i64 round) ∧ Sep w no O w' (rl [Res.box 24 g3 [(Value.int .i64 g), (Value.slice Ag lg cg)], Res.ro (FP.sl c3 Ag lg cg g2), Res.own cB 4 Aout lout cout out])) m0 ⟨_, _, _, _, _, h0, rfl, rfl, rfl, rfl, (hS.sel [1, 0, 2] (by decide))⟩ ?_
  clear h0 hS
  rintro m2 E ds w5 ⟨round, out, Aout, lout, cout, h, rfl, hE2, hE5, hE6, hS⟩ again
  replace h := hr m2 round out h
  clear hr
  refine wt_seq ?_
  refine wt_seq ?_
  refine wl_region wd_wide ?_
  refine rl_q rfl rfl rfl (v_move (v := (Value.int .i64 round)) hE6) ?_
  refine rl_q rfl rfl rfl (v_faddr hE2 Try.underlying24 rfl info_3) ?_
  refine rl_q rfl rfl rfl (v_load rfl Try.underlying3 rfl (Row.cell (hS.bx 0 rfl) (i := 0) rfl)) ?_
  refine rl_q rfl rfl rfl (v_lss rfl rfl) ?_
  refine rl_end ?_
  by_cases hp : round < g
  · replace h := h.1 hp
    refine wt_cond_t (congrArg Value.bool (decide_eq_true hp)) ?_
    refine wt_skip ?_
    refine wt_seq ?_
    refine wt_block ?_
    refine wt_seq ?_
    refine wl_region wd_wide ?_
    refine rl_q rfl rfl rfl (v_assign (v := (Value.int .i64 0)) rfl) ?_
    refine rl_end ?_
    refine wt_block ?_
    obtain ⟨I3, ⟨m0, h0⟩, hr⟩ := h
    refine wt_loop (fun m E ds w' => ∃ a : Int, ∃ out2 : List Bool, ∃ Aout2 : Option Addr, ∃ lout2 : Nat, ∃ cout2 : Nat, I3 m a out2 ∧ ds = [] ∧ E 2 = (Value.pointer (some (⟨g3, 0, none⟩ : Addr))) ∧ E 5 = (Value.slice Aout2 lout2 cout2) ∧ E 6 = (Value.int .i64 round) ∧ E 7 = (Value.int .i64 a) ∧ Sep w no O w' (rl [Res.box 24 g3 [(Value.int .i64 g), (Value.slice Ag lg cg)], Res.ro (FP.sl c3 Ag lg cg g2), Res.own cB 4 Aout2 lout2 cout2 out2])) m0 ⟨_, _, _, _, _, h0, rfl, hE2, hE5, hE6, rfl, (hS.sel [0, 1, 2] (by decide))⟩ ?_
    clear h0 hS
    rintro m3 E ds w6 ⟨a, out2, Aout2, lout2, cout2, h, rfl, hE2, hE5, hE6, hE7, hS⟩ again2
    replace h := hr m3 a out2 h
    clear hr
    refine wt_seq ?_
    refine wt_seq ?_
    refine wl_region wd_wide ?_
    refine rl_q rfl rfl rfl (v_move (v := (Value.int .i64 a)) hE7) ?_
    refine rl_q rfl rfl rfl (v_faddr hE2 Try.underlying24 rfl info_3) ?_
    refine rl_q rfl rfl rfl (v_load rfl Try.underlying3 rfl (Row.cell (hS.bx 0 rfl) (i := 0) rfl)) ?_
    refine rl_q rfl rfl rfl (v_lss rfl rfl) ?_
    refine rl_end ?_
    by_cases hp2 : a < g
    · replace h := h.1 hp2
      refine wt_cond_t (congrArg Value.bool (decide_eq_true hp2)) ?_
      refine wt_skip ?_
      refine wt_seq ?_
      refine wt_block ?_
      refine wt_seq ?_
      refine wl_region wd_wide ?_
      refine rl_q rfl rfl rfl (v_assign (v := (Value.int .i64 0)) rfl) ?_
      refine rl_end ?_
      refine wt_block ?_
      obtain ⟨I4, ⟨m0, h0⟩, hr⟩ := h
      refine wt_loop (fun m E ds w' => ∃ b : Int, ∃ out3 : List Bool, ∃ Aout3 : Option Addr, ∃ lout3 : Nat, ∃ cout3 : Nat, I4 m b out3 ∧ ds = [] ∧ E 2 = (Value.pointer (some (⟨g3, 0, none⟩ : Addr))) ∧ E 5 = (Value.slice Aout3 lout3 cout3) ∧ E 6 = (Value.int .i64 round) ∧ E 7 = (Value.int .i64 a) ∧ E 8 = (Value.int .i64 b) ∧ Sep w no O w' (rl [Res.box 24 g3 [(Value.int .i64 g), (Value.slice Ag lg cg)], Res.ro (FP.sl c3 Ag lg cg g2), Res.own cB 4 Aout3 lout3 cout3 out3])) m0 ⟨_, _, _, _, _, h0, rfl, hE2, hE5, hE6, hE7, rfl, (hS.sel [0, 1, 2] (by decide))⟩ ?_
      clear h0 hS
      rintro m4 E ds w7 ⟨b, out3, Aout3, lout3, cout3, h, rfl, hE2, hE5, hE6, hE7, hE8, hS⟩ again3
      replace h := hr m4 b out3 h
      clear hr
      refine wt_seq ?_
      refine wt_seq ?_
      refine wl_region wd_wide ?_
      refine rl_q rfl rfl rfl (v_move (v := (Value.int .i64 b)) hE8) ?_
      refine rl_q rfl rfl rfl (v_faddr hE2 Try.underlying24 rfl info_3) ?_
      refine rl_q rfl rfl rfl (v_load rfl Try.underlying3 rfl (Row.cell (hS.bx 0 rfl) (i := 0) rfl)) ?_
      refine rl_q rfl rfl rfl (v_lss rfl rfl) ?_
      refine rl_end ?_
      by_cases hp3 : b < g
      · replace h := h.1 hp3
        refine wt_cond_t (congrArg Value.bool (decide_eq_true hp3)) ?_
        refine wt_skip ?_
        refine wt_seq ?_
        refine wt_block ?_
        refine wt_seq ?_
        refine wl_region wd_wide ?_
        refine rl_q rfl rfl rfl (v_move (v := (Value.slice Aout3 lout3 cout3)) hE5) ?_
        refine rl_q rfl rfl rfl (v_move (v := (Value.int .i64 a)) hE7) ?_
        obtain ⟨hx3, h⟩ := h
        refine rl_q rfl rfl rfl (v_iaddr rfl rfl Try.underlying102 info_4 (rd_ix (hS.rdo 2 rfl) hx3)) ?_
        refine rl_q rfl rfl rfl (v_load (v := (Value.bool (gb out3 a.toNat))) rfl Try.underlying4 rfl (rd_1 (hS.rdo 2 rfl) hx3 (fun q => gb_some q) rfl)) ?_
        refine rl_q rfl rfl rfl (v_move (v := (Value.bool (gb out3 a.toNat))) rfl) ?_
        by_cases hp4 : gb out3 a.toNat = true
        · replace h := h.1 hp4
          refine rl_q (wanted_g rfl (yE_of rfl (congrArg Value.bool hp4))) rfl rfl (v_loadn (vs := [(Value.int .i64 g), (Value.slice Ag lg cg)]) hE2 Try.underlying24 rfl info_24 ⟨Row.cell (hS.bx 0 rfl) (i := 0) rfl, Row.cell (hS.bx 0 rfl) (i := 1) rfl, trivial⟩) ?_
          refine rl_q (wanted_g rfl (yE_of rfl (congrArg Value.bool hp4))) rfl rfl (v_move (v := (Value.int .i64 a)) hE7) ?_
          refine rl_q (wanted_g rfl (yE_of rfl (congrArg Value.bool hp4))) rfl rfl (v_move (v := (Value.int .i64 b)) hE8) ?_
          refine rl_n (wanted_g rfl (yE_of rfl (congrArg Value.bool hp4))) rfl rfl rfl (n_call0 rfl (am3 rfl rfl rfl) enter_136 ((pok_r08_Between h (no_lt _) (hS.rdr 1 rfl)).mono ?_))
          rintro _ w8 ⟨r, rfl, hC, h⟩
          replace hS := hS.pur hC.pure
          clear hC
          refine ⟨_, rfl, ?_⟩
          refine ⟨Stb.none _, ?_⟩
          refine rl_q (wanted_g rfl (yE_of rfl (congrArg Value.bool hp4))) rfl rfl (v_gtr rfl rfl) ?_
          refine rl_q rfl rfl rfl (v_pick_t (v := (Value.bool (decide (0 < r)))) (congrArg Value.bool hp4) rfl) ?_
          refine rl_end ?_
          by_cases hp5 : 0 < r
          · replace h := h.1 hp5
            refine wt_cond_t (congrArg Value.bool (decide_eq_true hp5)) ?_
            refine wl_region wd_wide ?_
            refine rl_q rfl rfl rfl (v_move (v := (Value.slice Aout3 lout3 cout3)) hE5) ?_
            refine rl_q rfl rfl rfl (v_move (v := (Value.int .i64 b)) hE8) ?_
            obtain ⟨hx4, h⟩ := h
            refine rl_q rfl rfl rfl (v_iaddr rfl rfl Try.underlying102 info_4 (rd_ix (hS.rdo 2 rfl) hx4)) ?_
            refine rl_n0 rfl rfl rfl (n_store (v := (Value.bool (true))) rfl rfl rfl info_4 (hS.wr 2 rfl rfl hx4) ?_)
            intro w9 e1
            replace hS := hS.st 2 rfl rfl hx4 (x := true) rfl e1
            clear e1
            refine ⟨Stb.none _, ?_⟩
            refine rl_end ?_
            refine wt_inBlock ?_
            refine wl_region wd_wide ?_
            refine rl_q rfl rfl rfl (v_move (v := (Value.int .i64 b)) hE8) ?_
            obtain ⟨hi, h⟩ := h
            refine rl_q rfl rfl rfl (v_add rfl rfl hi) ?_
            refine rl_q rfl rfl rfl (v_assign (v := (Value.int .i64 (b + 1))) rfl) ?_
            refine rl_end ?_
            obtain ⟨mq, hlt, h⟩ := h
            exact again3 mq _ _ _ ⟨_, _, _, _, _, h, rfl, hE2, hE5, hE6, hE7, rfl, (hS.sel [0, 1, 2] (by decide))⟩ hlt
          · replace h := h.2 hp5
            refine wt_cond_f (congrArg Value.bool (decide_eq_false hp5)) ?_
            refine wt_skip ?_
            refine wt_inBlock ?_
            refine wl_region wd_wide ?_
            refine rl_q rfl rfl rfl (v_move (v := (Value.int .i64 b)) hE8) ?_
            obtain ⟨hi2, h⟩ := h
            refine rl_q rfl rfl rfl (v_add rfl rfl hi2) ?_
            refine rl_q rfl rfl rfl (v_assign (v := (Value.int .i64 (b + 1))) rfl) ?_
            refine rl_end ?_
            obtain ⟨mq, hlt, h⟩ := h
            exact again3 mq _ _ _ ⟨_, _, _, _, _, h, rfl, hE2, hE5, hE6, hE7, rfl, (hS.sel [0, 1, 2] (by decide))⟩ hlt
        · replace h := h.2 hp4
          refine rl_p (wanted_n rfl (yE_of rfl (congrArg Value.bool (Bool.eq_false_iff.2 hp4))) rfl) rfl ?_
          refine rl_p (wanted_n rfl (yE_of rfl (congrArg Value.bool (Bool.eq_false_iff.2 hp4))) rfl) rfl ?_
          refine rl_p (wanted_n rfl (yE_of rfl (congrArg Value.bool (Bool.eq_false_iff.2 hp4))) rfl) rfl ?_
          refine rl_p (wanted_n rfl (yE_of rfl (congrArg Value.bool (Bool.eq_false_iff.2 hp4))) rfl) rfl ?_
          refine rl_p (wanted_n rfl (yE_of rfl (congrArg Value.bool (Bool.eq_false_iff.2 hp4))) rfl) rfl ?_
          refine rl_q rfl rfl rfl (v_pick_f (v := (Value.bool (false))) (congrArg Value.bool (Bool.eq_false_iff.2 hp4)) rfl) ?_
          refine rl_end ?_
          refine wt_cond_f rfl ?_
          refine wt_skip ?_
          refine wt_inBlock ?_
          refine wl_region wd_wide ?_
          refine rl_q rfl rfl rfl (v_move (v := (Value.int .i64 b)) hE8) ?_
          obtain ⟨hi3, h⟩ := h
          refine rl_q rfl rfl rfl (v_add rfl rfl hi3) ?_
          refine rl_q rfl rfl rfl (v_assign (v := (Value.int .i64 (b + 1))) rfl) ?_
          refine rl_end ?_
          obtain ⟨mq, hlt, h⟩ := h
          exact again3 mq _ _ _ ⟨_, _, _, _, _, h, rfl, hE2, hE5, hE6, hE7, rfl, (hS.sel [0, 1, 2] (by decide))⟩ hlt
      · replace h := h.2 hp3
        refine wt_cond_f (congrArg Value.bool (decide_eq_false hp3)) ?_
        refine wt_exit rfl ?_
        refine wt_inBlock ?_
        refine wl_region wd_wide ?_
        refine rl_q rfl rfl rfl (v_move (v := (Value.int .i64 a)) hE7) ?_
        obtain ⟨hi4, h⟩ := h
        refine rl_q rfl rfl rfl (v_add rfl rfl hi4) ?_
        refine rl_q rfl rfl rfl (v_assign (v := (Value.int .i64 (a + 1))) rfl) ?_
        refine rl_end ?_
        obtain ⟨mq, hlt, h⟩ := h
        exact again2 mq _ _ _ ⟨_, _, _, _, _, h, rfl, hE2, hE5, hE6, rfl, (hS.sel [0, 1, 2] (by decide))⟩ hlt
    · replace h := h.2 hp2
      refine wt_cond_f (congrArg Value.bool (decide_eq_false hp2)) ?_
      refine wt_exit rfl ?_
      refine wt_inBlock ?_
      refine wl_region wd_wide ?_
      refine rl_q rfl rfl rfl (v_move (v := (Value.int .i64 round)) hE6) ?_
      obtain ⟨hi5, h⟩ := h
      refine rl_q rfl rfl rfl (v_add rfl rfl hi5) ?_
      refine rl_q rfl rfl rfl (v_assign (v := (Value.int .i64 (round + 1))) rfl) ?_
      refine rl_end ?_
      obtain ⟨mq, hlt, h⟩ := h
      exact again mq _ _ _ ⟨_, _, _, _, _, h, rfl, hE2, hE5, rfl, (hS.sel [0, 1, 2] (by decide))⟩ hlt
  · replace h := h.2 hp
    refine wt_cond_f (congrArg Value.bool (decide_eq_false hp)) ?_
    refine wt_exit rfl ?_
    refine wt_seq ?_
    refine wl_region wd_wide ?_
    refine rl_q rfl rfl rfl (v_move (v := (Value.slice Aout lout cout)) hE5) ?_
    refine rl_q rfl rfl rfl (v_assign (v := (Value.slice Aout lout cout)) rfl) ?_
    refine rl_end ?_
    exact wt_ret1 rfl rfl ⟨_, _, _, _, rfl, (hS.sel [2] (by decide)), h⟩

/-- sandpile/sandpileref08.Parts: what it computes. -/
def pf_r08_Parts (g : Int) (g2 : List (Int × Int × Int)) (R : Int → Prop) : Prop :=
((0 ≤ g ∧ g ≤ 1000000) ∧
(∃ I2 : Nat → Int → Int → (List Bool) → Prop, (∃ m0, I2 m0 0 0 (List.replicate g.toNat false)) ∧ ∀ (m2 : Nat) (n : Int) (v : Int) (seen : List Bool), I2 m2 n v seen → 
((v < g →
((0 ≤ v ∧ v < ((seen.length : Nat) : Int)) ∧
((gb seen v.toNat = true →
(In64 (v + 1) ∧
∃ m3, m3 < m2 ∧ I2 m3 n (v + 1) seen)) ∧
(¬ (gb seen v.toNat = true) →
(In64 (n + 1) ∧
pf_r08_Reached g g2 v (fun (r : List Bool) =>
(∃ I3 : Nat → Int → (List Bool) → Prop, (∃ m0, I3 m0 0 seen) ∧ ∀ (m4 : Nat) (u : Int) (seen2 : List Bool), I3 m4 u seen2 → 
((u < g →
((0 ≤ u ∧ u < ((seen2.length : Nat) : Int)) ∧
((gb seen2 u.toNat = true →
(In64 (u + 1) ∧
∃ m5, m5 < m4 ∧ I3 m5 (u + 1) (seen2.set u.toNat true))) ∧
(¬ (gb seen2 u.toNat = true) →
((0 ≤ u ∧ u < ((r.length : Nat) : Int)) ∧
(In64 (u + 1) ∧
∃ m6, m6 < m4 ∧ I3 m6 (u + 1) (seen2.set u.toNat (gb r u.toNat)))))))) ∧
(¬ (u < g) →
(In64 (v + 1) ∧
∃ m7, m7 < m2 ∧ I2 m7 (n + 1) (v + 1) seen2)))))))))) ∧
(¬ (v < g) →
R n))))
theorem pok_r08_Parts {O : Nat → Prop} {w : World} {g : Int} {g2 : List (Int × Int × Int)} {Ag : Option Addr} {lg : Nat} {cg : Nat} {R : Int → Prop} (h : pf_r08_Parts g g2 R) (hO : ∀ k, O k → k < w.heap.size) (a0 : (FP.sl c3 Ag lg cg g2).P O w) :
    Calls Try.prog 155 #[(Value.agg #[(Value.int .i64 g), (Value.slice Ag lg cg)])] w fun e w' => ∃ r2 : Int, e = .returned (Value.int .i64 r2) ∧ Sep w no O w' (rl []) ∧ R r2 := by
  unfold pf_r08_Parts at h
  have hS : Sep w no O w (rl [Res.ro (FP.sl c3 Ag lg cg g2)]) := Sep.startl hO [(FP.sl c3 Ag lg cg g2)] ⟨a0, trivial⟩
  refine calls_sh (l := [(Value.agg #[(Value.int .i64 g), (Value.slice Ag lg cg)])]) Try.func155 rfl Try.ntmps155 (Nat.le_of_ble_eq_true rfl) ?_
  refine wt_seq ?_
  refine wl_region wd_wide ?_
  refine rl_n rfl rfl rfl rfl (n_box (v := (Value.agg #[(Value.int .i64 g), (Value.slice Ag lg cg)])) rfl ?_)
  intro g3 w2 hN
  replace hS : Sep w no O w2 (stl _ 1 (Res.box 24 g3 [(Value.int .i64 g), (Value.slice Ag lg cg)])) := hS.new 1 rfl hN
  clear hN
  refine ⟨Stb.none _, ?_⟩
  refine rl_q rfl rfl rfl (v_assign (v := (Value.int .i64 0)) rfl) ?_
  refine rl_end ?_
  refine wt_seq ?_
  refine wl_region wd_wide ?_
  refine rl_q rfl rfl rfl (v_assign (v := (Value.int .i64 0)) rfl) ?_
  refine rl_end ?_
  refine wt_seq ?_
  refine wl_region wd_wide ?_
  refine rl_q rfl rfl rfl (v_faddr rfl Try.underlying24 rfl info_3) ?_
  refine rl_q rfl rfl rfl (v_load rfl Try.underlying3 rfl (Row.cell (hS.bx 1 rfl) (i := 0) rfl)) ?_
  obtain ⟨hx, h⟩ := h
  refine rl_n rfl rfl rfl rfl (n_make rfl rfl Try.underlying102 info_4 (by decide) rfl hx ?_)
  intro g4 w3 hN
  replace hS := hS.made 2 rfl cB (Value.bool (false)) false (fun _ _ => rfl) hN (by omega)
  clear hN
  refine ⟨Stb.none _, ?_⟩
  refine rl_q rfl rfl rfl (v_assign (v := (Value.slice (some ⟨g4, 0, none⟩) g.toNat g.toNat)) rfl) ?_
  refine rl_end ?_
  refine wt_seq ?_
  refine wt_seq ?_
  refine wl_region wd_wide ?_
  refine rl_q rfl rfl rfl (v_assign (v := (Value.int .i64 0)) rfl) ?_
  refine rl_end ?_
  refine wt_block ?_
  obtain ⟨I2, ⟨m0, h0⟩, hr⟩ := h
  refine wt_loop (fun m E ds w' => ∃ n : Int, ∃ v : Int, ∃ seen : List Bool, ∃ Aseen : Option Addr, ∃ lseen : Nat, ∃ cseen : Nat, I2 m n v seen ∧ ds = [] ∧ E 1 = (Value.pointer (some (⟨g3, 0, none⟩ : Addr))) ∧ E 3 = (Value.int .i64 n) ∧ E 4 = (Value.slice Aseen lseen cseen) ∧ E 5 = (Value.int .i64 v) ∧ Sep w no O w' (rl [Res.box 24 g3 [(Value.int .i64 g), (Value.slice Ag lg cg)], Res.ro (FP.sl c3 Ag lg cg g2), Res.own cB 4 Aseen lseen cseen seen])) m0 ⟨_, _, _, _, _, _, h0, rfl, rfl, rfl, rfl, rfl, (hS.sel [1, 0, 2] (by decide))⟩ ?_
  clear h0 hS
  rintro m2 E ds w4 ⟨n, v, seen, Aseen, lseen, cseen, h, rfl, hE1, hE3, hE4, hE5, hS⟩ again
  replace h := hr m2 n v seen h
  clear hr
  refine wt_seq ?_
  refine wt_seq ?_
  refine wl_region wd_wide ?_
  refine rl_q rfl rfl rfl (v_move (v := (Value.int .i64 v)) hE5) ?_
  refine rl_q rfl rfl rfl (v_faddr hE1 Try.underlying24 rfl info_3) ?_
  refine rl_q rfl rfl rfl (v_load rfl Try.underlying3 rfl (Row.cell (hS.bx 0 rfl) (i := 0) rfl)) ?_
  refine rl_q rfl rfl rfl (v_lss rfl rfl) ?_
  refine rl_end ?_
  by_cases hp : v < g
  · replace h := h.1 hp
    refine wt_cond_t (congrArg Value.bool (decide_eq_true hp)) ?_
    refine wt_skip ?_
    refine wt_seq ?_
    refine wt_block ?_
    refine wt_seq ?_
    refine wt_seq ?_
    refine wl_region wd_wide ?_
    refine rl_q rfl rfl rfl (v_move (v := (Value.slice Aseen lseen cseen)) hE4) ?_
    refine rl_q rfl rfl rfl (v_move (v := (Value.int .i64 v)) hE5) ?_
    obtain ⟨hx2, h⟩ := h
    refine rl_q rfl rfl rfl (v_iaddr rfl rfl Try.underlying102 info_4 (rd_ix (hS.rdo 2 rfl) hx2)) ?_
    refine rl_q rfl rfl rfl (v_load (v := (Value.bool (gb seen v.toNat))) rfl Try.underlying4 rfl (rd_1 (hS.rdo 2 rfl) hx2 (fun q => gb_some q) rfl)) ?_
    refine rl_end ?_
    by_cases hp2 : gb seen v.toNat = true
    · replace h := h.1 hp2
      refine wt_cond_t (congrArg Value.bool hp2) ?_
      refine wt_exit rfl ?_
      refine wl_region wd_wide ?_
      refine rl_q rfl rfl rfl (v_move (v := (Value.int .i64 v)) hE5) ?_
      obtain ⟨hi, h⟩ := h
      refine rl_q rfl rfl rfl (v_add rfl rfl hi) ?_
      refine rl_q rfl rfl rfl (v_assign (v := (Value.int .i64 (v + 1))) rfl) ?_
      refine rl_end ?_
      obtain ⟨mq, hlt, h⟩ := h
      exact again mq _ _ _ ⟨_, _, _, _, _, _, h, rfl, hE1, hE3, hE4, rfl, (hS.sel [0, 1, 2] (by decide))⟩ hlt
    · replace h := h.2 hp2
      refine wt_cond_f (congrArg Value.bool (Bool.eq_false_iff.2 hp2)) ?_
      refine wt_skip ?_
      refine wt_seq ?_
      refine wl_region wd_wide ?_
      refine rl_q rfl rfl rfl (v_move (v := (Value.int .i64 n)) hE3) ?_
      obtain ⟨hi2, h⟩ := h
      refine rl_q rfl rfl rfl (v_add rfl rfl hi2) ?_
      refine rl_q rfl rfl rfl (v_assign (v := (Value.int .i64 (n + 1))) rfl) ?_
      refine rl_end ?_
      refine wt_seq ?_
      refine wl_region wd_wide ?_
      refine rl_q rfl rfl rfl (v_loadn (vs := [(Value.int .i64 g), (Value.slice Ag lg cg)]) hE1 Try.underlying24 rfl info_24 ⟨Row.cell (hS.bx 0 rfl) (i := 0) rfl, Row.cell (hS.bx 0 rfl) (i := 1) rfl, trivial⟩) ?_
      refine rl_q rfl rfl rfl (v_move (v := (Value.int .i64 v)) hE5) ?_
      refine rl_n rfl rfl rfl rfl (n_call0 rfl (am2 rfl rfl) enter_169 ((pok_r08_Reached h (no_lt _) (hS.rdr 1 rfl)).mono ?_))
      rintro _ w5 ⟨r, Ar, lr, cr, rfl, hC, h⟩
      replace hS := hS.call1 (hC.widen (flatS (flat_own fB _ _ _ _ _) flat0) hS.blt) 3 0 rfl
      clear hC
      refine ⟨_, rfl, ?_⟩
      refine ⟨Stb.none _, ?_⟩
      refine rl_q rfl rfl rfl (v_assign (v := (Value.slice Ar lr cr)) rfl) ?_
      refine rl_end ?_
      refine wt_seq ?_
      refine wl_region wd_wide ?_
      refine rl_q rfl rfl rfl (v_assign (v := (Value.int .i64 0)) rfl) ?_
      refine rl_end ?_
      refine wt_block ?_
      obtain ⟨I3, ⟨m0, h0⟩, hr⟩ := h
      refine wt_loop (fun m E ds w' => ∃ u : Int, ∃ seen2 : List Bool, ∃ Aseen2 : Option Addr, ∃ lseen2 : Nat, ∃ cseen2 : Nat, I3 m u seen2 ∧ ds = [] ∧ E 1 = (Value.pointer (some (⟨g3, 0, none⟩ : Addr))) ∧ E 3 = (Value.int .i64 (n + 1)) ∧ E 4 = (Value.slice Aseen2 lseen2 cseen2) ∧ E 5 = (Value.int .i64 v) ∧ E 6 = (Value.slice Ar lr cr) ∧ E 7 = (Value.int .i64 u) ∧ Sep w no O w' (rl [Res.box 24 g3 [(Value.int .i64 g), (Value.slice Ag lg cg)], Res.ro (FP.sl c3 Ag lg cg g2), Res.own cB 4 Aseen2 lseen2 cseen2 seen2, Res.own cB 4 Ar lr cr r])) m0 ⟨_, _, _, _, _, h0, rfl, hE1, rfl, hE4, hE5, rfl, rfl, (hS.sel [0, 1, 2, 3] (by decide))⟩ ?_
      clear h0 hS
      rintro m4 E ds w6 ⟨u, seen2, Aseen2, lseen2, cseen2, h, rfl, hE1, hE3, hE4, hE5, hE6, hE7, hS⟩ again2
      replace h := hr m4 u seen2 h
      clear hr
      refine wt_seq ?_
      refine wt_seq ?_
      refine wl_region wd_wide ?_
      refine rl_q rfl rfl rfl (v_move (v := (Value.int .i64 u)) hE7) ?_
      refine rl_q rfl rfl rfl (v_faddr hE1 Try.underlying24 rfl info_3) ?_
      refine rl_q rfl rfl rfl (v_load rfl Try.underlying3 rfl (Row.cell (hS.bx 0 rfl) (i := 0) rfl)) ?_
      refine rl_q rfl rfl rfl (v_lss rfl rfl) ?_
      refine rl_end ?_
      by_cases hp3 : u < g
      · replace h := h.1 hp3
        refine wt_cond_t (congrArg Value.bool (decide_eq_true hp3)) ?_
        refine wt_skip ?_
        refine wt_seq ?_
        refine wt_block ?_
        refine wl_region wd_wide ?_
        refine rl_q rfl rfl rfl (v_move (v := (Value.slice Aseen2 lseen2 cseen2)) hE4) ?_
        refine rl_q rfl rfl rfl (v_move (v := (Value.int .i64 u)) hE7) ?_
        refine rl_q rfl rfl rfl (v_move (v := (Value.slice Aseen2 lseen2 cseen2)) hE4) ?_
        refine rl_q rfl rfl rfl (v_move (v := (Value.int .i64 u)) hE7) ?_
        obtain ⟨hx3, h⟩ := h
        refine rl_q rfl rfl rfl (v_iaddr rfl rfl Try.underlying102 info_4 (rd_ix (hS.rdo 2 rfl) hx3)) ?_
        refine rl_q rfl rfl rfl (v_load (v := (Value.bool (gb seen2 u.toNat))) rfl Try.underlying4 rfl (rd_1 (hS.rdo 2 rfl) hx3 (fun q => gb_some q) rfl)) ?_
        refine rl_q rfl rfl rfl (v_move (v := (Value.bool (gb seen2 u.toNat))) rfl) ?_
        by_cases hp4 : gb seen2 u.toNat = true
        · replace h := h.1 hp4
          refine rl_p (wanted_n rfl (yE_of rfl (congrArg Value.bool hp4)) rfl) rfl ?_
          refine rl_p (wanted_n rfl (yE_of rfl (congrArg Value.bool hp4)) rfl) rfl ?_
          refine rl_p (wanted_n rfl (yE_of rfl (congrArg Value.bool hp4)) rfl) rfl ?_
          refine rl_p (wanted_n rfl (yE_of rfl (congrArg Value.bool hp4)) rfl) rfl ?_
          refine rl_q rfl rfl rfl (v_pick_t (v := (Value.bool (true))) (congrArg Value.bool hp4) rfl) ?_
          refine rl_q rfl rfl rfl (v_iaddr rfl rfl Try.underlying102 info_4 (rd_ix (hS.rdo 2 rfl) hx3)) ?_
          refine rl_n0 rfl rfl rfl (n_store (v := (Value.bool (true))) rfl rfl rfl info_4 (hS.wr 2 rfl rfl hx3) ?_)
          intro w7 e1
          replace hS := hS.st 2 rfl rfl hx3 (x := true) rfl e1
          clear e1
          refine ⟨Stb.none _, ?_⟩
          refine rl_end ?_
          refine wt_inBlock ?_
          refine wl_region wd_wide ?_
          refine rl_q rfl rfl rfl (v_move (v := (Value.int .i64 u)) hE7) ?_
          obtain ⟨hi3, h⟩ := h
          refine rl_q rfl rfl rfl (v_add rfl rfl hi3) ?_
          refine rl_q rfl rfl rfl (v_assign (v := (Value.int .i64 (u + 1))) rfl) ?_
          refine rl_end ?_
          obtain ⟨mq, hlt, h⟩ := h
          exact again2 mq _ _ _ ⟨_, _, _, _, _, h, rfl, hE1, hE3, hE4, hE5, hE6, rfl, (hS.sel [0, 1, 2, 3] (by decide))⟩ hlt
        · replace h := h.2 hp4
          refine rl_q (wanted_g rfl (yE_of rfl (congrArg Value.bool (Bool.eq_false_iff.2 hp4)))) rfl rfl (v_move (v := (Value.slice Ar lr cr)) hE6) ?_
          refine rl_q (wanted_g rfl (yE_of rfl (congrArg Value.bool (Bool.eq_false_iff.2 hp4)))) rfl rfl (v_move (v := (Value.int .i64 u)) hE7) ?_
          obtain ⟨hx4, h⟩ := h
          refine rl_q (wanted_g rfl (yE_of rfl (congrArg Value.bool (Bool.eq_false_iff.2 hp4)))) rfl rfl (v_iaddr rfl rfl Try.underlying102 info_4 (rd_ix (hS.rdo 3 rfl) hx4)) ?_
          refine rl_q (wanted_g rfl (yE_of rfl (congrArg Value.bool (Bool.eq_false_iff.2 hp4)))) rfl rfl (v_load (v := (Value.bool (gb r u.toNat))) rfl Try.underlying4 rfl (rd_1 (hS.rdo 3 rfl) hx4 (fun q => gb_some q) rfl)) ?_
          refine rl_q rfl rfl rfl (v_pick_f (v := (Value.bool (gb r u.toNat))) (congrArg Value.bool (Bool.eq_false_iff.2 hp4)) rfl) ?_
          refine rl_q rfl rfl rfl (v_iaddr rfl rfl Try.underlying102 info_4 (rd_ix (hS.rdo 2 rfl) hx3)) ?_
          refine rl_n0 rfl rfl rfl (n_store (v := (Value.bool (gb r u.toNat))) rfl rfl rfl info_4 (hS.wr 2 rfl rfl hx3) ?_)
          intro w8 e1
          replace hS := hS.st 2 rfl rfl hx3 (x := gb r u.toNat) rfl e1
          clear e1
          refine ⟨Stb.none _, ?_⟩
          refine rl_end ?_
          refine wt_inBlock ?_
          refine wl_region wd_wide ?_
          refine rl_q rfl rfl rfl (v_move (v := (Value.int .i64 u)) hE7) ?_
          obtain ⟨hi4, h⟩ := h
          refine rl_q rfl rfl rfl (v_add rfl rfl hi4) ?_
          refine rl_q rfl rfl rfl (v_assign (v := (Value.int .i64 (u + 1))) rfl) ?_
          refine rl_end ?_
          obtain ⟨mq, hlt, h⟩ := h
          exact again2 mq _ _ _ ⟨_, _, _, _, _, h, rfl, hE1, hE3, hE4, hE5, hE6, rfl, (hS.sel [0, 1, 2, 3] (by decide))⟩ hlt
      · replace h := h.2 hp3
        refine wt_cond_f (congrArg Value.bool (decide_eq_false hp3)) ?_
        refine wt_exit rfl ?_
        refine wt_inBlock ?_
        refine wl_region wd_wide ?_
        refine rl_q rfl rfl rfl (v_move (v := (Value.int .i64 v)) hE5) ?_
        obtain ⟨hi5, h⟩ := h
        refine rl_q rfl rfl rfl (v_add rfl rfl hi5) ?_
        refine rl_q rfl rfl rfl (v_assign (v := (Value.int .i64 (v + 1))) rfl) ?_
        refine rl_end ?_
        obtain ⟨mq, hlt, h⟩ := h
        exact again mq _ _ _ ⟨_, _, _, _, _, _, h, rfl, hE1, hE3, hE4, rfl, (hS.sel [0, 1, 2] (by decide))⟩ hlt
  · replace h := h.2 hp
    refine wt_cond_f (congrArg Value.bool (decide_eq_false hp)) ?_
    refine wt_exit rfl ?_
    refine wt_seq ?_
    refine wl_region wd_wide ?_
    refine rl_q rfl rfl rfl (v_move (v := (Value.int .i64 n)) hE3) ?_
    refine rl_q rfl rfl rfl (v_assign (v := (Value.int .i64 n)) rfl) ?_
    refine rl_end ?_
    exact wt_ret1 rfl rfl ⟨_, rfl, (hS.sel [] (by decide)), h⟩

/-- sandpile/sandpileref08.Connected: what it computes. -/
def pf_r08_Connected (g : Int) (g2 : List (Int × Int × Int)) (R : Bool → Prop) : Prop :=
pf_r08_Parts g g2 (fun (r : Int) =>
R (decide (r = 1)))
theorem pok_r08_Connected {O : Nat → Prop} {w : World} {g : Int} {g2 : List (Int × Int × Int)} {Ag : Option Addr} {lg : Nat} {cg : Nat} {R : Bool → Prop} (h : pf_r08_Connected g g2 R) (hO : ∀ k, O k → k < w.heap.size) (a0 : (FP.sl c3 Ag lg cg g2).P O w) :
    Calls Try.prog 121 #[(Value.agg #[(Value.int .i64 g), (Value.slice Ag lg cg)])] w fun e w' => ∃ r2 : Bool, e = .returned (Value.bool (r2)) ∧ Sep w no O w' (rl []) ∧ R r2 := by
  unfold pf_r08_Connected at h
  have hS : Sep w no O w (rl [Res.ro (FP.sl c3 Ag lg cg g2)]) := Sep.startl hO [(FP.sl c3 Ag lg cg g2)] ⟨a0, trivial⟩
  refine calls_sh (l := [(Value.agg #[(Value.int .i64 g), (Value.slice Ag lg cg)])]) Try.func121 rfl Try.ntmps121 (Nat.le_of_ble_eq_true rfl) ?_
  refine wt_seq ?_
  refine wl_region wd_wide ?_
  refine rl_n rfl rfl rfl rfl (n_box (v := (Value.agg #[(Value.int .i64 g), (Value.slice Ag lg cg)])) rfl ?_)
  intro g3 w2 hN
  replace hS : Sep w no O w2 (stl _ 1 (Res.box 24 g3 [(Value.int .i64 g), (Value.slice Ag lg cg)])) := hS.new 1 rfl hN
  clear hN
  refine ⟨Stb.none _, ?_⟩
  refine rl_q rfl rfl rfl (v_assign (v := (Value.bool (false))) rfl) ?_
  refine rl_end ?_
  refine wt_seq ?_
  refine wl_region wd_wide ?_
  refine rl_q rfl rfl rfl (v_loadn (vs := [(Value.int .i64 g), (Value.slice Ag lg cg)]) rfl Try.underlying24 rfl info_24 ⟨Row.cell (hS.bx 1 rfl) (i := 0) rfl, Row.cell (hS.bx 1 rfl) (i := 1) rfl, trivial⟩) ?_
  refine rl_n rfl rfl rfl rfl (n_call0 rfl (am1 rfl) enter_155 ((pok_r08_Parts h (no_lt _) (hS.rdr 0 rfl)).mono ?_))
  rintro _ w3 ⟨r, rfl, hC, h⟩
  replace hS := hS.pur hC.pure
  clear hC
  refine ⟨_, rfl, ?_⟩
  refine ⟨Stb.none _, ?_⟩
  refine rl_q rfl rfl rfl (v_eql rfl rfl) ?_
  refine rl_q rfl rfl rfl (v_assign (v := (Value.bool (decide (r = 1)))) rfl) ?_
  refine rl_end ?_
  exact wt_ret1 rfl rfl ⟨_, rfl, (hS.sel [] (by decide)), h⟩

/-- sandpile/sandpileref25.Few: what it computes. -/
def pf_r25_Few (g : Int) (g2 : List (Int × Int × Int)) (R : Bool → Prop) : Prop :=
pf_r08_Few g g2 (fun (r : Bool) =>
R r)
theorem pok_r25_Few {O : Nat → Prop} {w : World} {g : Int} {g2 : List (Int × Int × Int)} {Ag : Option Addr} {lg : Nat} {cg : Nat} {R : Bool → Prop} (h : pf_r25_Few g g2 R) (hO : ∀ k, O k → k < w.heap.size) (a0 : (FP.sl c3 Ag lg cg g2).P O w) :
    Calls Try.prog 61 #[(Value.agg #[(Value.int .i64 g), (Value.slice Ag lg cg)])] w fun e w' => ∃ r2 : Bool, e = .returned (Value.bool (r2)) ∧ Sep w no O w' (rl []) ∧ R r2 := by
  unfold pf_r25_Few at h
  have hS : Sep w no O w (rl [Res.ro (FP.sl c3 Ag lg cg g2)]) := Sep.startl hO [(FP.sl c3 Ag lg cg g2)] ⟨a0, trivial⟩
  refine calls_sh (l := [(Value.agg #[(Value.int .i64 g), (Value.slice Ag lg cg)])]) Try.func61 rfl Try.ntmps61 (Nat.le_of_ble_eq_true rfl) ?_
  refine wt_seq ?_
  refine wl_region wd_wide ?_
  refine rl_n rfl rfl rfl rfl (n_box (v := (Value.agg #[(Value.int .i64 g), (Value.slice Ag lg cg)])) rfl ?_)
  intro g3 w2 hN
  replace hS : Sep w no O w2 (stl _ 1 (Res.box 24 g3 [(Value.int .i64 g), (Value.slice Ag lg cg)])) := hS.new 1 rfl hN
  clear hN
  refine ⟨Stb.none _, ?_⟩
  refine rl_q rfl rfl rfl (v_assign (v := (Value.bool (false))) rfl) ?_
  refine rl_end ?_
  refine wt_seq ?_
  refine wl_region wd_wide ?_
  refine rl_q rfl rfl rfl (v_loadn (vs := [(Value.int .i64 g), (Value.slice Ag lg cg)]) rfl Try.underlying24 rfl info_24 ⟨Row.cell (hS.bx 1 rfl) (i := 0) rfl, Row.cell (hS.bx 1 rfl) (i := 1) rfl, trivial⟩) ?_
  refine rl_n rfl rfl rfl rfl (n_call0 rfl (am1 rfl) enter_109 ((pok_r08_Few h (no_lt _) (hS.rdr 0 rfl)).mono ?_))
  rintro _ w3 ⟨r, rfl, hC, h⟩
  replace hS := hS.pur hC.pure
  clear hC
  refine ⟨_, rfl, ?_⟩
  refine ⟨Stb.none _, ?_⟩
  refine rl_q rfl rfl rfl (v_assign (v := (Value.bool (r))) rfl) ?_
  refine rl_end ?_
  exact wt_ret1 rfl rfl ⟨_, rfl, (hS.sel [] (by decide)), h⟩

/-- sandpile/sandpileref25.Joined: what it computes. -/
def pf_r25_Joined (g : Int) (g2 : List (Int × Int × Int)) (R : Int → Prop) : Prop :=
pf_r08_Check g g2 (fun (r : Int) =>
((r = 0 →
pf_r08_Connected g g2 (fun (r2 : Bool) =>
((r2 = true →
R 0) ∧
(¬ (r2 = true) →
R 13)))) ∧
(¬ (r = 0) →
R r)))
theorem pok_r25_Joined {O : Nat → Prop} {w : World} {g : Int} {g2 : List (Int × Int × Int)} {Ag : Option Addr} {lg : Nat} {cg : Nat} {R : Int → Prop} (h : pf_r25_Joined g g2 R) (hO : ∀ k, O k → k < w.heap.size) (a0 : (FP.sl c3 Ag lg cg g2).P O w) :
    Calls Try.prog 70 #[(Value.agg #[(Value.int .i64 g), (Value.slice Ag lg cg)])] w fun e w' => ∃ r3 : Int, e = .returned (Value.int .i64 r3) ∧ Sep w no O w' (rl []) ∧ R r3 := by
  unfold pf_r25_Joined at h
  have hS : Sep w no O w (rl [Res.ro (FP.sl c3 Ag lg cg g2)]) := Sep.startl hO [(FP.sl c3 Ag lg cg g2)] ⟨a0, trivial⟩
  refine calls_sh (l := [(Value.agg #[(Value.int .i64 g), (Value.slice Ag lg cg)])]) Try.func70 rfl Try.ntmps70 (Nat.le_of_ble_eq_true rfl) ?_
  refine wt_seq ?_
  refine wl_region wd_wide ?_
  refine rl_n rfl rfl rfl rfl (n_box (v := (Value.agg #[(Value.int .i64 g), (Value.slice Ag lg cg)])) rfl ?_)
  intro g3 w2 hN
  replace hS : Sep w no O w2 (stl _ 1 (Res.box 24 g3 [(Value.int .i64 g), (Value.slice Ag lg cg)])) := hS.new 1 rfl hN
  clear hN
  refine ⟨Stb.none _, ?_⟩
  refine rl_q rfl rfl rfl (v_assign (v := (Value.int .i64 0)) rfl) ?_
  refine rl_end ?_
  refine wt_seq ?_
  refine wt_seq ?_
  refine wl_region wd_wide ?_
  refine rl_q rfl rfl rfl (v_loadn (vs := [(Value.int .i64 g), (Value.slice Ag lg cg)]) rfl Try.underlying24 rfl info_24 ⟨Row.cell (hS.bx 1 rfl) (i := 0) rfl, Row.cell (hS.bx 1 rfl) (i := 1) rfl, trivial⟩) ?_
  refine rl_n rfl rfl rfl rfl (n_call0 rfl (am1 rfl) enter_120 ((pok_r08_Check h (no_lt _) (hS.rdr 0 rfl)).mono ?_))
  rintro _ w3 ⟨r, rfl, hC, h⟩
  replace hS := hS.pur hC.pure
  clear hC
  refine ⟨_, rfl, ?_⟩
  refine ⟨Stb.none _, ?_⟩
  refine rl_q rfl rfl rfl (v_assign (v := (Value.int .i64 r)) rfl) ?_
  refine rl_end ?_
  refine wt_seq ?_
  refine wl_region wd_wide ?_
  refine rl_q rfl rfl rfl (v_move (v := (Value.int .i64 r)) rfl) ?_
  refine rl_q rfl rfl rfl (v_neq rfl rfl) ?_
  refine rl_end ?_
  by_cases hp : r = 0
  · replace h := h.1 hp
    refine wt_cond_f (congrArg Value.bool (congrArg Bool.not (decide_eq_true hp))) ?_
    refine wt_skip ?_
    refine wt_seq ?_
    refine wt_seq ?_
    refine wl_region wd_wide ?_
    refine rl_q rfl rfl rfl (v_loadn (vs := [(Value.int .i64 g), (Value.slice Ag lg cg)]) rfl Try.underlying24 rfl info_24 ⟨Row.cell (hS.bx 1 rfl) (i := 0) rfl, Row.cell (hS.bx 1 rfl) (i := 1) rfl, trivial⟩) ?_
    refine rl_n rfl rfl rfl rfl (n_call0 rfl (am1 rfl) enter_121 ((pok_r08_Connected h (no_lt _) (hS.rdr 0 rfl)).mono ?_))
    rintro _ w4 ⟨r2, rfl, hC, h⟩
    replace hS := hS.pur hC.pure
    clear hC
    refine ⟨_, rfl, ?_⟩
    refine ⟨Stb.none _, ?_⟩
    refine rl_q rfl rfl rfl (v_not rfl) ?_
    refine rl_end ?_
    by_cases hp2 : r2 = true
    · replace h := h.1 hp2
      refine wt_cond_f (congrArg Value.bool (congrArg Bool.not hp2)) ?_
      refine wt_skip ?_
      refine wt_seq ?_
      refine wl_region wd_wide ?_
      refine rl_q rfl rfl rfl (v_assign (v := (Value.int .i64 0)) rfl) ?_
      refine rl_end ?_
      exact wt_ret1 rfl rfl ⟨_, rfl, (hS.sel [] (by decide)), h⟩
    · replace h := h.2 hp2
      refine wt_cond_t (congrArg Value.bool (congrArg Bool.not (Bool.eq_false_iff.2 hp2))) ?_
      refine wt_seq ?_
      refine wl_region wd_wide ?_
      refine rl_q rfl rfl rfl (v_assign (v := (Value.int .i64 13)) rfl) ?_
      refine rl_end ?_
      exact wt_ret1 rfl rfl ⟨_, rfl, (hS.sel [] (by decide)), h⟩
  · replace h := h.2 hp
    refine wt_cond_t (congrArg Value.bool (congrArg Bool.not (decide_eq_false hp))) ?_
    refine wt_seq ?_
    refine wl_region wd_wide ?_
    refine rl_q rfl rfl rfl (v_move (v := (Value.int .i64 r)) rfl) ?_
    refine rl_q rfl rfl rfl (v_assign (v := (Value.int .i64 r)) rfl) ?_
    refine rl_end ?_
    exact wt_ret1 rfl rfl ⟨_, rfl, (hS.sel [] (by decide)), h⟩

/-- sandpile/sandpileref34.Few: what it computes. -/
def pf_r34_Few (g : Int) (g2 : List (Int × Int × Int)) (R : Bool → Prop) : Prop :=
pf_r25_Few g g2 (fun (r : Bool) =>
R r)
theorem pok_r34_Few {O : Nat → Prop} {w : World} {g : Int} {g2 : List (Int × Int × Int)} {Ag : Option Addr} {lg : Nat} {cg : Nat} {R : Bool → Prop} (h : pf_r34_Few g g2 R) (hO : ∀ k, O k → k < w.heap.size) (a0 : (FP.sl c3 Ag lg cg g2).P O w) :
    Calls Try.prog 14 #[(Value.agg #[(Value.int .i64 g), (Value.slice Ag lg cg)])] w fun e w' => ∃ r2 : Bool, e = .returned (Value.bool (r2)) ∧ Sep w no O w' (rl []) ∧ R r2 := by
  unfold pf_r34_Few at h
  have hS : Sep w no O w (rl [Res.ro (FP.sl c3 Ag lg cg g2)]) := Sep.startl hO [(FP.sl c3 Ag lg cg g2)] ⟨a0, trivial⟩
  refine calls_sh (l := [(Value.agg #[(Value.int .i64 g), (Value.slice Ag lg cg)])]) Try.func14 rfl Try.ntmps14 (Nat.le_of_ble_eq_true rfl) ?_
  refine wt_seq ?_
  refine wl_region wd_wide ?_
  refine rl_n rfl rfl rfl rfl (n_box (v := (Value.agg #[(Value.int .i64 g), (Value.slice Ag lg cg)])) rfl ?_)
  intro g3 w2 hN
  replace hS : Sep w no O w2 (stl _ 1 (Res.box 24 g3 [(Value.int .i64 g), (Value.slice Ag lg cg)])) := hS.new 1 rfl hN
  clear hN
  refine ⟨Stb.none _, ?_⟩
  refine rl_q rfl rfl rfl (v_assign (v := (Value.bool (false))) rfl) ?_
  refine rl_end ?_
  refine wt_seq ?_
  refine wl_region wd_wide ?_
  refine rl_q rfl rfl rfl (v_loadn (vs := [(Value.int .i64 g), (Value.slice Ag lg cg)]) rfl Try.underlying24 rfl info_24 ⟨Row.cell (hS.bx 1 rfl) (i := 0) rfl, Row.cell (hS.bx 1 rfl) (i := 1) rfl, trivial⟩) ?_
  refine rl_n rfl rfl rfl rfl (n_call0 rfl (am1 rfl) enter_61 ((pok_r25_Few h (no_lt _) (hS.rdr 0 rfl)).mono ?_))
  rintro _ w3 ⟨r, rfl, hC, h⟩
  replace hS := hS.pur hC.pure
  clear hC
  refine ⟨_, rfl, ?_⟩
  refine ⟨Stb.none _, ?_⟩
  refine rl_q rfl rfl rfl (v_assign (v := (Value.bool (r))) rfl) ?_
  refine rl_end ?_
  exact wt_ret1 rfl rfl ⟨_, rfl, (hS.sel [] (by decide)), h⟩

/-- sandpile/sandpileref34.Low: what it computes. -/
def pf_r34_Low (g : Int) (g2 : List (Int × Int × Int)) (d : List Int) (R : Bool → Prop) : Prop :=
((100 < ((d.length : Nat) : Int) →
R false) ∧
(¬ (100 < ((d.length : Nat) : Int)) →
pf_r17_Check d g (fun (r : Int) =>
((r = 0 →
(∃ I2 : Nat → Int → Prop, (∃ m0, I2 m0 0) ∧ ∀ (m2 : Nat) (i : Int), I2 m2 i → 
((i < ((d.length : Nat) : Int) →
((0 ≤ i ∧ i < ((d.length : Nat) : Int)) ∧
(((gi d i.toNat) < (-100) →
R false) ∧
(¬ ((gi d i.toNat) < (-100)) →
((100 < (gi d i.toNat) →
R false) ∧
(¬ (100 < (gi d i.toNat)) →
(In64 (i + 1) ∧
∃ m3, m3 < m2 ∧ I2 m3 (i + 1)))))))) ∧
(¬ (i < ((d.length : Nat) : Int)) →
R true)))) ∧
(¬ (r = 0) →
R true)))))
theorem pok_r34_Low {O : Nat → Prop} {w : World} {g : Int} {g2 : List (Int × Int × Int)} {d : List Int} {Ag : Option Addr} {lg : Nat} {cg : Nat} {Ad : Option Addr} {ld : Nat} {cd : Nat} {R : Bool → Prop} (h : pf_r34_Low g g2 d R) (hO : ∀ k, O k → k < w.heap.size) (a0 : (FP.sl c3 Ag lg cg g2).P O w) (a1 : (FP.sl cI Ad ld cd d).P O w) :
    Calls Try.prog 15 #[(Value.agg #[(Value.int .i64 g), (Value.slice Ag lg cg)]), (Value.slice Ad ld cd)] w fun e w' => ∃ r2 : Bool, e = .returned (Value.bool (r2)) ∧ Sep w no O w' (rl []) ∧ R r2 := by
  unfold pf_r34_Low at h
  have hS : Sep w no O w (rl [Res.ro (FP.sl c3 Ag lg cg g2), Res.ro (FP.sl cI Ad ld cd d)]) := Sep.startl hO [(FP.sl c3 Ag lg cg g2), (FP.sl cI Ad ld cd d)] ⟨a0, a1, trivial⟩
  refine calls_sh (l := [(Value.agg #[(Value.int .i64 g), (Value.slice Ag lg cg)]), (Value.slice Ad ld cd)]) Try.func15 rfl Try.ntmps15 (Nat.le_of_ble_eq_true rfl) ?_
  refine wt_seq ?_
  refine wl_region wd_wide ?_
  refine rl_n rfl rfl rfl rfl (n_box (v := (Value.agg #[(Value.int .i64 g), (Value.slice Ag lg cg)])) rfl ?_)
  intro g3 w2 hN
  replace hS : Sep w no O w2 (stl _ 2 (Res.box 24 g3 [(Value.int .i64 g), (Value.slice Ag lg cg)])) := hS.new 2 rfl hN
  clear hN
  refine ⟨Stb.none _, ?_⟩
  refine rl_q rfl rfl rfl (v_assign (v := (Value.bool (false))) rfl) ?_
  refine rl_end ?_
  refine wt_seq ?_
  refine wt_seq ?_
  refine wl_region wd_wide ?_
  refine rl_q rfl rfl rfl (v_move (v := (Value.slice Ad ld cd)) rfl) ?_
  refine rl_q rfl rfl rfl (v_lenx (n := d.length) rfl Try.underlying25 (rd_len (hS.rdr 1 rfl))) ?_
  refine rl_q rfl rfl rfl (v_gtr rfl rfl) ?_
  refine rl_end ?_
  by_cases hp : 100 < ((d.length : Nat) : Int)
  · replace h := h.1 hp
    refine wt_cond_t (congrArg Value.bool (decide_eq_true hp)) ?_
    refine wt_seq ?_
    refine wl_region wd_wide ?_
    refine rl_q rfl rfl rfl (v_assign (v := (Value.bool (false))) rfl) ?_
    refine rl_end ?_
    exact wt_ret1 rfl rfl ⟨_, rfl, (hS.sel [] (by decide)), h⟩
  · replace h := h.2 hp
    refine wt_cond_f (congrArg Value.bool (decide_eq_false hp)) ?_
    refine wt_skip ?_
    refine wt_seq ?_
    refine wt_seq ?_
    refine wl_region wd_wide ?_
    refine rl_q rfl rfl rfl (v_move (v := (Value.slice Ad ld cd)) rfl) ?_
    refine rl_q rfl rfl rfl (v_faddr rfl Try.underlying24 rfl info_3) ?_
    refine rl_q rfl rfl rfl (v_load rfl Try.underlying3 rfl (Row.cell (hS.bx 2 rfl) (i := 0) rfl)) ?_
    refine rl_n rfl rfl rfl rfl (n_call0 rfl (am2 rfl rfl) enter_26 ((pok_r17_Check h (no_lt _) (hS.rdr 1 rfl)).mono ?_))
    rintro _ w3 ⟨r, rfl, hC, h⟩
    replace hS := hS.pur hC.pure
    clear hC
    refine ⟨_, rfl, ?_⟩
    refine ⟨Stb.none _, ?_⟩
    refine rl_q rfl rfl rfl (v_neq rfl rfl) ?_
    refine rl_end ?_
    by_cases hp2 : r = 0
    · replace h := h.1 hp2
      refine wt_cond_f (congrArg Value.bool (congrArg Bool.not (decide_eq_true hp2))) ?_
      refine wt_skip ?_
      refine wt_seq ?_
      refine wt_seq ?_
      refine wl_region wd_wide ?_
      refine rl_q rfl rfl rfl (v_assign (v := (Value.int .i64 0)) rfl) ?_
      refine rl_end ?_
      refine wt_block ?_
      obtain ⟨I2, ⟨m0, h0⟩, hr⟩ := h
      refine wt_loop (fun m E ds w' => ∃ i : Int, I2 m i ∧ ds = [] ∧ E 1 = (Value.slice Ad ld cd) ∧ E 5 = (Value.int .i64 i) ∧ Sep w no O w' (rl [Res.ro (FP.sl cI Ad ld cd d)])) m0 ⟨_, h0, rfl, rfl, rfl, (hS.sel [1] (by decide))⟩ ?_
      clear h0 hS
      rintro m2 E ds w4 ⟨i, h, rfl, hE1, hE5, hS⟩ again
      replace h := hr m2 i h
      clear hr
      refine wt_seq ?_
      refine wt_seq ?_
      refine wl_region wd_wide ?_
      refine rl_q rfl rfl rfl (v_move (v := (Value.int .i64 i)) hE5) ?_
      refine rl_q rfl rfl rfl (v_move (v := (Value.slice Ad ld cd)) hE1) ?_
      refine rl_q rfl rfl rfl (v_lenx (n := d.length) rfl Try.underlying25 (rd_len (hS.rdr 0 rfl))) ?_
      refine rl_q rfl rfl rfl (v_lss rfl rfl) ?_
      refine rl_end ?_
      by_cases hp3 : i < ((d.length : Nat) : Int)
      · replace h := h.1 hp3
        refine wt_cond_t (congrArg Value.bool (decide_eq_true hp3)) ?_
        refine wt_skip ?_
        refine wt_seq ?_
        refine wt_block ?_
        refine wt_seq ?_
        refine wl_region wd_wide ?_
        refine rl_q rfl rfl rfl (v_move (v := (Value.slice Ad ld cd)) hE1) ?_
        refine rl_q rfl rfl rfl (v_move (v := (Value.int .i64 i)) hE5) ?_
        obtain ⟨hx, h⟩ := h
        refine rl_q rfl rfl rfl (v_iaddr rfl rfl Try.underlying25 info_3 (rd_ix (hS.rdr 0 rfl) hx)) ?_
        refine rl_q rfl rfl rfl (v_load (v := (Value.int .i64 (gi d i.toNat))) rfl Try.underlying3 rfl (rd_1 (hS.rdr 0 rfl) hx (fun q => gi_some q) rfl)) ?_
        refine rl_q rfl rfl rfl (v_lss rfl rfl) ?_
        refine rl_q rfl rfl rfl (v_move (v := (Value.bool (decide ((gi d i.toNat) < (-100))))) rfl) ?_
        by_cases hp4 : (gi d i.toNat) < (-100)
        · replace h := h.1 hp4
          refine rl_p (wanted_n rfl (yE_of rfl (congrArg Value.bool (decide_eq_true hp4))) rfl) rfl ?_
          refine rl_p (wanted_n rfl (yE_of rfl (congrArg Value.bool (decide_eq_true hp4))) rfl) rfl ?_
          refine rl_p (wanted_n rfl (yE_of rfl (congrArg Value.bool (decide_eq_true hp4))) rfl) rfl ?_
          refine rl_p (wanted_n rfl (yE_of rfl (congrArg Value.bool (decide_eq_true hp4))) rfl) rfl ?_
          refine rl_p (wanted_n rfl (yE_of rfl (congrArg Value.bool (decide_eq_true hp4))) rfl) rfl ?_
          refine rl_q rfl rfl rfl (v_pick_t (v := (Value.bool (true))) (congrArg Value.bool (decide_eq_true hp4)) rfl) ?_
          refine rl_end ?_
          refine wt_cond_t rfl ?_
          refine wt_seq ?_
          refine wl_region wd_wide ?_
          refine rl_q rfl rfl rfl (v_assign (v := (Value.bool (false))) rfl) ?_
          refine rl_end ?_
          exact wt_ret1 rfl rfl ⟨_, rfl, (hS.sel [] (by decide)), h⟩
        · replace h := h.2 hp4
          refine rl_q (wanted_g rfl (yE_of rfl (congrArg Value.bool (decide_eq_false hp4)))) rfl rfl (v_move (v := (Value.slice Ad ld cd)) hE1) ?_
          refine rl_q (wanted_g rfl (yE_of rfl (congrArg Value.bool (decide_eq_false hp4)))) rfl rfl (v_move (v := (Value.int .i64 i)) hE5) ?_
          refine rl_q (wanted_g rfl (yE_of rfl (congrArg Value.bool (decide_eq_false hp4)))) rfl rfl (v_iaddr rfl rfl Try.underlying25 info_3 (rd_ix (hS.rdr 0 rfl) hx)) ?_
          refine rl_q (wanted_g rfl (yE_of rfl (congrArg Value.bool (decide_eq_false hp4)))) rfl rfl (v_load (v := (Value.int .i64 (gi d i.toNat))) rfl Try.underlying3 rfl (rd_1 (hS.rdr 0 rfl) hx (fun q => gi_some q) rfl)) ?_
          refine rl_q (wanted_g rfl (yE_of rfl (congrArg Value.bool (decide_eq_false hp4)))) rfl rfl (v_gtr rfl rfl) ?_
          refine rl_q rfl rfl rfl (v_pick_f (v := (Value.bool (decide (100 < (gi d i.toNat))))) (congrArg Value.bool (decide_eq_false hp4)) rfl) ?_
          refine rl_end ?_
          by_cases hp5 : 100 < (gi d i.toNat)
          · replace h := h.1 hp5
            refine wt_cond_t (congrArg Value.bool (decide_eq_true hp5)) ?_
            refine wt_seq ?_
            refine wl_region wd_wide ?_
            refine rl_q rfl rfl rfl (v_assign (v := (Value.bool (false))) rfl) ?_
            refine rl_end ?_
            exact wt_ret1 rfl rfl ⟨_, rfl, (hS.sel [] (by decide)), h⟩
          · replace h := h.2 hp5
            refine wt_cond_f (congrArg Value.bool (decide_eq_false hp5)) ?_
            refine wt_skip ?_
            refine wt_inBlock ?_
            refine wl_region wd_wide ?_
            refine rl_q rfl rfl rfl (v_move (v := (Value.int .i64 i)) hE5) ?_
            obtain ⟨hi, h⟩ := h
            refine rl_q rfl rfl rfl (v_add rfl rfl hi) ?_
            refine rl_q rfl rfl rfl (v_assign (v := (Value.int .i64 (i + 1))) rfl) ?_
            refine rl_end ?_
            obtain ⟨mq, hlt, h⟩ := h
            exact again mq _ _ _ ⟨_, h, rfl, hE1, rfl, (hS.sel [0] (by decide))⟩ hlt
      · replace h := h.2 hp3
        refine wt_cond_f (congrArg Value.bool (decide_eq_false hp3)) ?_
        refine wt_exit rfl ?_
        refine wt_seq ?_
        refine wl_region wd_wide ?_
        refine rl_q rfl rfl rfl (v_assign (v := (Value.bool (true))) rfl) ?_
        refine rl_end ?_
        exact wt_ret1 rfl rfl ⟨_, rfl, (hS.sel [] (by decide)), h⟩
    · replace h := h.2 hp2
      refine wt_cond_t (congrArg Value.bool (congrArg Bool.not (decide_eq_false hp2))) ?_
      refine wt_seq ?_
      refine wl_region wd_wide ?_
      refine rl_q rfl rfl rfl (v_assign (v := (Value.bool (true))) rfl) ?_
      refine rl_end ?_
      exact wt_ret1 rfl rfl ⟨_, rfl, (hS.sel [] (by decide)), h⟩

end Go.Proofs.Ytnhmeckhlajeaaa

/- Pure forms of functions, made by program (pf.py), each with the proof that the code does so. -/
namespace Go.Proofs.Ytnhmeckhlajeaaa
open Go Go.RowKit Go.Shelf
set_option linter.unusedVariables false
set_option maxRecDepth 100000
set_option maxHeartbeats 1000000
/-- slices.Equal[sandpile/api.Divisor,int]: what it computes. -/
def pf_slices_Equal_Divisor (s1 : List Int) (s2 : List Int) (R : Bool → Prop) : Prop :=
((((s1.length : Nat) : Int) = ((s2.length : Nat) : Int) →
(∃ I2 : Nat → Int → Prop, (∃ m0, I2 m0 0) ∧ ∀ (m2 : Nat) (v : Int), I2 m2 v → 
((v < ((s1.length : Nat) : Int) →
((0 ≤ v ∧ v < ((s1.length : Nat) : Int)) ∧
((0 ≤ v ∧ v < ((s2.length : Nat) : Int)) ∧
(((gi s1 v.toNat) = (gi s2 v.toNat) →
(In64 (v + 1) ∧
∃ m3, m3 < m2 ∧ I2 m3 (v + 1))) ∧
(¬ ((gi s1 v.toNat) = (gi s2 v.toNat)) →
R false))))) ∧
(¬ (v < ((s1.length : Nat) : Int)) →
R true)))) ∧
(¬ (((s1.length : Nat) : Int) = ((s2.length : Nat) : Int)) →
R false))
theorem pok_slices_Equal_Divisor {O : Nat → Prop} {w : World} {s1 : List Int} {s2 : List Int} {As1 : Option Addr} {ls1 : Nat} {cs1 : Nat} {As2 : Option Addr} {ls2 : Nat} {cs2 : Nat} {R : Bool → Prop} (h : pf_slices_Equal_Divisor s1 s2 R) (hO : ∀ k, O k → k < w.heap.size) (a0 : (FP.sl cI As1 ls1 cs1 s1).P O w) (a1 : (FP.sl cI As2 ls2 cs2 s2).P O w) :
    Calls Try.prog 19 #[(Value.slice As1 ls1 cs1), (Value.slice As2 ls2 cs2)] w fun e w' => ∃ r : Bool, e = .returned (Value.bool (r)) ∧ Sep w no O w' (rl []) ∧ R r := by
  unfold pf_slices_Equal_Divisor at h
  have hS : Sep w no O w (rl [Res.ro (FP.sl cI As1 ls1 cs1 s1), Res.ro (FP.sl cI As2 ls2 cs2 s2)]) := Sep.startl hO [(FP.sl cI As1 ls1 cs1 s1), (FP.sl cI As2 ls2 cs2 s2)] ⟨a0, a1, trivial⟩
  refine calls_sh (l := [(Value.slice As1 ls1 cs1), (Value.slice As2 ls2 cs2)]) Try.func19 rfl Try.ntmps19 (Nat.le_of_ble_eq_true rfl) ?_
  refine wt_seq ?_
  refine wl_region wd_wide ?_
  refine rl_q rfl rfl rfl (v_assign (v := (Value.bool (false))) rfl) ?_
  refine rl_end ?_
  refine wt_seq ?_
  refine wt_seq ?_
  refine wl_region wd_wide ?_
  refine rl_q rfl rfl rfl (v_move (v := (Value.slice As1 ls1 cs1)) rfl) ?_
  refine rl_q rfl rfl rfl (v_lenx (n := s1.length) rfl Try.underlying26 (rd_len (hS.rdr 0 rfl))) ?_
  refine rl_q rfl rfl rfl (v_move (v := (Value.slice As2 ls2 cs2)) rfl) ?_
  refine rl_q rfl rfl rfl (v_lenx (n := s2.length) rfl Try.underlying26 (rd_len (hS.rdr 1 rfl))) ?_
  refine rl_q rfl rfl rfl (v_neq rfl rfl) ?_
  refine rl_end ?_
  by_cases hp : ((s1.length : Nat) : Int) = ((s2.length : Nat) : Int)
  · replace h := h.1 hp
    refine wt_cond_f (congrArg Value.bool (congrArg Bool.not (decide_eq_true hp))) ?_
    refine wt_skip ?_
    refine wt_seq ?_
    refine wt_seq ?_
    refine wl_region wd_wide ?_
    refine rl_q rfl rfl rfl (v_move (v := (Value.slice As1 ls1 cs1)) rfl) ?_
    refine rl_q rfl rfl rfl (v_lenx (n := s1.length) rfl Try.underlying26 (rd_len (hS.rdr 0 rfl))) ?_
    refine rl_q rfl rfl rfl (v_move (v := (Value.int .i64 0)) rfl) ?_
    refine rl_end ?_
    refine wt_block ?_
    obtain ⟨I2, ⟨m0, h0⟩, hr⟩ := h
    refine wt_loop (fun m E ds w' => ∃ v : Int, I2 m v ∧ ds = [] ∧ E 0 = (Value.slice As1 ls1 cs1) ∧ E 1 = (Value.slice As2 ls2 cs2) ∧ E 12 = (Value.int .i64 ((s1.length : Nat) : Int)) ∧ E 13 = (Value.int .i64 v) ∧ Sep w no O w' (rl [Res.ro (FP.sl cI As1 ls1 cs1 s1), Res.ro (FP.sl cI As2 ls2 cs2 s2)])) m0 ⟨_, h0, rfl, rfl, rfl, rfl, rfl, (hS.sel [0, 1] (by decide))⟩ ?_
    clear h0 hS
    rintro m2 E ds w2 ⟨v, h, rfl, hE0, hE1, hE12, hE13, hS⟩ again
    replace h := hr m2 v h
    clear hr
    refine wt_seq ?_
    refine wl_region wd_wide ?_
    refine rl_q rfl rfl rfl (v_lss hE13 hE12) ?_
    refine rl_end ?_
    refine wt_seq ?_
    by_cases hp2 : v < ((s1.length : Nat) : Int)
    · replace h := h.1 hp2
      refine wt_cond_t (congrArg Value.bool (decide_eq_true hp2)) ?_
      refine wt_skip ?_
      refine wt_seq ?_
      refine wt_block ?_
      refine wt_seq ?_
      refine wl_region wd_wide ?_
      refine rl_q rfl rfl rfl (v_move (v := (Value.int .i64 v)) hE13) ?_
      refine rl_q rfl rfl rfl (v_assign (v := (Value.int .i64 v)) rfl) ?_
      refine rl_end ?_
      refine wt_seq ?_
      refine wp_draw [0, 1, 2, 3, 4, 5, 6, 7, 8] st0 wd_wide (by kernel_rfl) (by kernel_rfl) ?_
      replace hS := hS.drew
      refine rp_q rfl rfl rfl (v_move (v := (Value.slice As1 ls1 cs1)) hE0) ?_
      refine rp_q rfl rfl rfl (v_move (v := (Value.int .i64 v)) rfl) ?_
      obtain ⟨hx, h⟩ := h
      refine rp_q rfl rfl rfl (v_iaddr rfl rfl Try.underlying26 info_3 (rd_ix (hS.rdr 0 rfl) hx)) ?_
      refine rp_q rfl rfl rfl (v_load (v := (Value.int .i64 (gi s1 v.toNat))) rfl Try.underlying3 rfl (rd_1 (hS.rdr 0 rfl) hx (fun q => gi_some q) rfl)) ?_
      refine rp_q rfl rfl rfl (v_move (v := (Value.slice As2 ls2 cs2)) hE1) ?_
      refine rp_q rfl rfl rfl (v_move (v := (Value.int .i64 v)) rfl) ?_
      obtain ⟨hx2, h⟩ := h
      refine rp_q rfl rfl rfl (v_iaddr rfl rfl Try.underlying26 info_3 (rd_ix (hS.rdr 1 rfl) hx2)) ?_
      refine rp_q rfl rfl rfl (v_load (v := (Value.int .i64 (gi s2 v.toNat))) rfl Try.underlying3 rfl (rd_1 (hS.rdr 1 rfl) hx2 (fun q => gi_some q) rfl)) ?_
      refine rp_q rfl rfl rfl (v_neq rfl rfl) ?_
      refine rp_end ?_
      by_cases hp3 : (gi s1 v.toNat) = (gi s2 v.toNat)
      · replace h := h.1 hp3
        refine wt_cond_f (congrArg Value.bool (congrArg Bool.not (decide_eq_true hp3))) ?_
        refine wt_skip ?_
        refine wt_inBlock ?_
        refine wl_region wd_wide ?_
        obtain ⟨hi, h⟩ := h
        refine rl_q rfl rfl rfl (v_add hE13 rfl hi) ?_
        refine rl_q rfl rfl rfl (v_move (v := (Value.int .i64 (v + 1))) rfl) ?_
        refine rl_end ?_
        obtain ⟨mq, hlt, h⟩ := h
        exact again mq _ _ _ ⟨_, h, rfl, hE0, hE1, hE12, rfl, (hS.sel [0, 1] (by decide))⟩ hlt
      · replace h := h.2 hp3
        refine wt_cond_t (congrArg Value.bool (congrArg Bool.not (decide_eq_false hp3))) ?_
        refine wt_seq ?_
        refine wl_region wd_wide ?_
        refine rl_q rfl rfl rfl (v_assign (v := (Value.bool (false))) rfl) ?_
        refine rl_end ?_
        exact wt_ret1 rfl rfl ⟨_, rfl, (hS.sel [] (by decide)), h⟩
    · replace h := h.2 hp2
      refine wt_cond_f (congrArg Value.bool (decide_eq_false hp2)) ?_
      refine wt_exit rfl ?_
      refine wt_seq ?_
      refine wl_region wd_wide ?_
      refine rl_q rfl rfl rfl (v_assign (v := (Value.bool (true))) rfl) ?_
      refine rl_end ?_
      exact wt_ret1 rfl rfl ⟨_, rfl, (hS.sel [] (by decide)), h⟩
  · replace h := h.2 hp
    refine wt_cond_t (congrArg Value.bool (congrArg Bool.not (decide_eq_false hp))) ?_
    refine wt_seq ?_
    refine wl_region wd_wide ?_
    refine rl_q rfl rfl rfl (v_assign (v := (Value.bool (false))) rfl) ?_
    refine rl_end ?_
    exact wt_ret1 rfl rfl ⟨_, rfl, (hS.sel [] (by decide)), h⟩

/-- slices.Clone[sandpile/api.Divisor,int]: what it computes. -/
def pf_slices_Clone_Divisor (s : List Int) (R : (List Int) → Prop) : Prop :=
(∀ nil : Bool, (nil = true → s = []) →
((nil = true →
R ([])) ∧
(¬ (nil = true) →
(0 + s.length ≤ 1000000000 ∧
R ([] ++ s)))))
theorem pok_slices_Clone_Divisor {O : Nat → Prop} {w : World} {s : List Int} {As : Option Addr} {ls : Nat} {cs : Nat} {R : (List Int) → Prop} (h : pf_slices_Clone_Divisor s R) (hO : ∀ k, O k → k < w.heap.size) (a0 : (FP.sl cI As ls cs s).P O w) :
    Calls Try.prog 22 #[(Value.slice As ls cs)] w fun e w' => ∃ r : List Int, ∃ Ar : Option Addr, ∃ lr : Nat, ∃ cr : Nat, e = .returned (Value.slice Ar lr cr) ∧ Sep w no O w' (rl [Res.own cI 3 Ar lr cr r]) ∧ R r := by
  unfold pf_slices_Clone_Divisor at h
  have hS : Sep w no O w (rl [Res.ro (FP.sl cI As ls cs s)]) := Sep.startl hO [(FP.sl cI As ls cs s)] ⟨a0, trivial⟩
  refine calls_sh (l := [(Value.slice As ls cs)]) Try.func22 rfl Try.ntmps22 (Nat.le_of_ble_eq_true rfl) ?_
  refine wt_seq ?_
  refine wl_region wd_wide ?_
  refine rl_q rfl rfl rfl (v_assign (v := (Value.slice none 0 0)) rfl) ?_
  refine rl_end ?_
  refine wt_seq ?_
  refine wt_seq ?_
  refine wl_region wd_wide ?_
  refine rl_q rfl rfl rfl (v_move (v := (Value.slice As ls cs)) rfl) ?_
  obtain ⟨nil, hn⟩ : ∃ b, Option.isNone As = b := ⟨_, rfl⟩
  replace h := h nil (by rw [← hn]; exact rd_nil (hS.rdr 0 rfl))
  refine rl_q rfl rfl rfl (v_seqlx rfl rfl Try.underlying26 hn) ?_
  refine rl_end ?_
  by_cases hp : nil = true
  · replace h := h.1 hp
    refine wt_cond_t (congrArg Value.bool hp) ?_
    refine wt_seq ?_
    refine wl_region wd_wide ?_
    refine rl_q rfl rfl rfl (v_assign (v := (Value.slice none 0 0)) rfl) ?_
    refine rl_end ?_
    replace hS := hS.nil 1 rfl cI 3
    exact wt_ret1 rfl rfl ⟨_, _, _, _, rfl, (hS.sel [1] (by decide)), h⟩
  · replace h := h.2 hp
    refine wt_cond_f (congrArg Value.bool (Bool.eq_false_iff.2 hp)) ?_
    refine wt_skip ?_
    refine wt_seq ?_
    refine wl_region wd_wide ?_
    refine rl_n rfl rfl rfl rfl (n_bslice (l := []) (cells := []) (bp0) Try.underlying26 info_3 rfl rfl ?_)
    intro g w2 hN
    replace hS := hS.litf (n := 0) 1 rfl (fI .i64) hN ([] : List Int) rfl (by decide) rfl
    clear hN
    refine ⟨Stb.none _, ?_⟩
    refine rl_q rfl rfl rfl (v_move (v := (Value.slice As ls cs)) rfl) ?_
    obtain ⟨hx, h⟩ := h
    refine rl_n rfl rfl rfl rfl (n_app (c := cI) rfl rfl Try.underlying26 Try.underlying26 info_3 rfl rfl (by decide) hS 1 rfl (hS.yr 0 rfl) hx ?_)
    clear hS
    intro A c w3 hS
    refine ⟨Stb.none _, ?_⟩
    refine rl_q rfl rfl rfl (v_assign (v := (Value.slice A (0 + ls) c)) rfl) ?_
    refine rl_end ?_
    exact wt_ret1 rfl rfl ⟨_, _, _, _, rfl, (hS.sel [1] (by decide)), h⟩
end Go.Proofs.Ytnhmeckhlajeaaa

/- Pure forms of functions, made by program (pf.py), each with the proof that the code does so. -/
namespace Go.Proofs.Ytnhmeckhlajeaaa
open Go Go.RowKit Go.Shelf
set_option linter.unusedVariables false
set_option maxRecDepth 100000
set_option maxHeartbeats 1000000
/-- sandpile/sandpilelaw34.right: what it computes. -/
def pf_l34_right (g : Int) (g2 : List (Int × Int × Int)) (d : List Int) (R : Bool → Prop) : Prop :=
pf_r34_Few g g2 (fun (r : Bool) =>
((r = true →
pf_r25_Joined g g2 (fun (r2 : Int) =>
((r2 = 0 →
pf_r17_Check d g (fun (r3 : Int) =>
((r3 = 0 →
pf_r34_Low g g2 d (fun (r4 : Bool) =>
R r4)) ∧
(¬ (r3 = 0) →
R false)))) ∧
(¬ (r2 = 0) →
R false)))) ∧
(¬ (r = true) →
R false)))
theorem pok_l34_right {O : Nat → Prop} {w : World} {g : Int} {g2 : List (Int × Int × Int)} {d : List Int} {Ag : Option Addr} {lg : Nat} {cg : Nat} {Ad : Option Addr} {ld : Nat} {cd : Nat} {R : Bool → Prop} (h : pf_l34_right g g2 d R) (hO : ∀ k, O k → k < w.heap.size) (a0 : (FP.sl c3 Ag lg cg g2).P O w) (a1 : (FP.sl cI Ad ld cd d).P O w) :
    Calls Try.prog 21 #[(Value.agg #[(Value.int .i64 g), (Value.slice Ag lg cg)]), (Value.slice Ad ld cd)] w fun e w' => ∃ r5 : Bool, e = .returned (Value.bool (r5)) ∧ Sep w no O w' (rl []) ∧ R r5 := by
  unfold pf_l34_right at h
  have hS : Sep w no O w (rl [Res.ro (FP.sl c3 Ag lg cg g2), Res.ro (FP.sl cI Ad ld cd d)]) := Sep.startl hO [(FP.sl c3 Ag lg cg g2), (FP.sl cI Ad ld cd d)] ⟨a0, a1, trivial⟩
  refine calls_sh (l := [(Value.agg #[(Value.int .i64 g), (Value.slice Ag lg cg)]), (Value.slice Ad ld cd)]) Try.func21 rfl Try.ntmps21 (Nat.le_of_ble_eq_true rfl) ?_
  refine wt_seq ?_
  refine wl_region wd_wide ?_
  refine rl_n rfl rfl rfl rfl (n_box (v := (Value.agg #[(Value.int .i64 g), (Value.slice Ag lg cg)])) rfl ?_)
  intro g3 w2 hN
  replace hS : Sep w no O w2 (stl _ 2 (Res.box 24 g3 [(Value.int .i64 g), (Value.slice Ag lg cg)])) := hS.new 2 rfl hN
  clear hN
  refine ⟨Stb.none _, ?_⟩
  refine rl_q rfl rfl rfl (v_assign (v := (Value.bool (false))) rfl) ?_
  refine rl_end ?_
  refine wt_seq ?_
  refine wl_region wd_wide ?_
  refine rl_q rfl rfl rfl (v_loadn (vs := [(Value.int .i64 g), (Value.slice Ag lg cg)]) rfl Try.underlying24 rfl info_24 ⟨Row.cell (hS.bx 2 rfl) (i := 0) rfl, Row.cell (hS.bx 2 rfl) (i := 1) rfl, trivial⟩) ?_
  refine rl_n rfl rfl rfl rfl (n_call0 rfl (am1 rfl) enter_14 ((pok_r34_Few h (no_lt _) (hS.rdr 0 rfl)).mono ?_))
  rintro _ w3 ⟨r, rfl, hC, h⟩
  replace hS := hS.pur hC.pure
  clear hC
  refine ⟨_, rfl, ?_⟩
  refine ⟨Stb.none _, ?_⟩
  refine rl_q rfl rfl rfl (v_move (v := (Value.bool (r))) rfl) ?_
  by_cases hp : r = true
  · replace h := h.1 hp
    refine rl_q (wanted_g rfl (yE_of rfl (congrArg Value.bool hp))) rfl rfl (v_loadn (vs := [(Value.int .i64 g), (Value.slice Ag lg cg)]) rfl Try.underlying24 rfl info_24 ⟨Row.cell (hS.bx 2 rfl) (i := 0) rfl, Row.cell (hS.bx 2 rfl) (i := 1) rfl, trivial⟩) ?_
    refine rl_n (wanted_g rfl (yE_of rfl (congrArg Value.bool hp))) rfl rfl rfl (n_call0 rfl (am1 rfl) enter_70 ((pok_r25_Joined h (no_lt _) (hS.rdr 0 rfl)).mono ?_))
    rintro _ w4 ⟨r2, rfl, hC, h⟩
    replace hS := hS.pur hC.pure
    clear hC
    refine ⟨_, rfl, ?_⟩
    refine ⟨Stb.none _, ?_⟩
    refine rl_q (wanted_g rfl (yE_of rfl (congrArg Value.bool hp))) rfl rfl (v_eql rfl rfl) ?_
    refine rl_q rfl rfl rfl (v_pick_t (v := (Value.bool (decide (r2 = 0)))) (congrArg Value.bool hp) rfl) ?_
    refine rl_q rfl rfl rfl (v_move (v := (Value.bool (decide (r2 = 0)))) rfl) ?_
    by_cases hp2 : r2 = 0
    · replace h := h.1 hp2
      refine rl_q (wanted_g rfl (yE_of rfl (congrArg Value.bool (decide_eq_true hp2)))) rfl rfl (v_move (v := (Value.slice Ad ld cd)) rfl) ?_
      refine rl_q (wanted_g rfl (yE_of rfl (congrArg Value.bool (decide_eq_true hp2)))) rfl rfl (v_faddr rfl Try.underlying24 rfl info_3) ?_
      refine rl_q (wanted_g rfl (yE_of rfl (congrArg Value.bool (decide_eq_true hp2)))) rfl rfl (v_load rfl Try.underlying3 rfl (Row.cell (hS.bx 2 rfl) (i := 0) rfl)) ?_
      refine rl_n (wanted_g rfl (yE_of rfl (congrArg Value.bool (decide_eq_true hp2)))) rfl rfl rfl (n_call0 rfl (am2 rfl rfl) enter_26 ((pok_r17_Check h (no_lt _) (hS.rdr 1 rfl)).mono ?_))
      rintro _ w5 ⟨r3, rfl, hC, h⟩
      replace hS := hS.pur hC.pure
      clear hC
      refine ⟨_, rfl, ?_⟩
      refine ⟨Stb.none _, ?_⟩
      refine rl_q (wanted_g rfl (yE_of rfl (congrArg Value.bool (decide_eq_true hp2)))) rfl rfl (v_eql rfl rfl) ?_
      refine rl_q rfl rfl rfl (v_pick_t (v := (Value.bool (decide (r3 = 0)))) (congrArg Value.bool (decide_eq_true hp2)) rfl) ?_
      refine rl_q rfl rfl rfl (v_move (v := (Value.bool (decide (r3 = 0)))) rfl) ?_
      by_cases hp3 : r3 = 0
      · replace h := h.1 hp3
        refine rl_q (wanted_g rfl (yE_of rfl (congrArg Value.bool (decide_eq_true hp3)))) rfl rfl (v_loadn (vs := [(Value.int .i64 g), (Value.slice Ag lg cg)]) rfl Try.underlying24 rfl info_24 ⟨Row.cell (hS.bx 2 rfl) (i := 0) rfl, Row.cell (hS.bx 2 rfl) (i := 1) rfl, trivial⟩) ?_
        refine rl_q (wanted_g rfl (yE_of rfl (congrArg Value.bool (decide_eq_true hp3)))) rfl rfl (v_move (v := (Value.slice Ad ld cd)) rfl) ?_
        refine rl_n (wanted_g rfl (yE_of rfl (congrArg Value.bool (decide_eq_true hp3)))) rfl rfl rfl (n_call0 rfl (am2 rfl rfl) enter_15 ((pok_r34_Low h (no_lt _) (hS.rdr 0 rfl) (hS.rdr 1 rfl)).mono ?_))
        rintro _ w6 ⟨r4, rfl, hC, h⟩
        replace hS := hS.pur hC.pure
        clear hC
        refine ⟨_, rfl, ?_⟩
        refine ⟨Stb.none _, ?_⟩
        refine rl_q rfl rfl rfl (v_pick_t (v := (Value.bool (r4))) (congrArg Value.bool (decide_eq_true hp3)) rfl) ?_
        refine rl_q rfl rfl rfl (v_assign (v := (Value.bool (r4))) rfl) ?_
        refine rl_end ?_
        exact wt_ret1 rfl rfl ⟨_, rfl, (hS.sel [] (by decide)), h⟩
      · replace h := h.2 hp3
        refine rl_p (wanted_n rfl (yE_of rfl (congrArg Value.bool (decide_eq_false hp3))) rfl) rfl ?_
        refine rl_p (wanted_n rfl (yE_of rfl (congrArg Value.bool (decide_eq_false hp3))) rfl) rfl ?_
        refine rl_p (wanted_n rfl (yE_of rfl (congrArg Value.bool (decide_eq_false hp3))) rfl) rfl ?_
        refine rl_q rfl rfl rfl (v_pick_f (v := (Value.bool (false))) (congrArg Value.bool (decide_eq_false hp3)) rfl) ?_
        refine rl_q rfl rfl rfl (v_assign (v := (Value.bool (false))) rfl) ?_
        refine rl_end ?_
        exact wt_ret1 rfl rfl ⟨_, rfl, (hS.sel [] (by decide)), h⟩
    · replace h := h.2 hp2
      refine rl_p (wanted_n rfl (yE_of rfl (congrArg Value.bool (decide_eq_false hp2))) rfl) rfl ?_
      refine rl_p (wanted_n rfl (yE_of rfl (congrArg Value.bool (decide_eq_false hp2))) rfl) rfl ?_
      refine rl_p (wanted_n rfl (yE_of rfl (congrArg Value.bool (decide_eq_false hp2))) rfl) rfl ?_
      refine rl_p (wanted_n rfl (yE_of rfl (congrArg Value.bool (decide_eq_false hp2))) rfl) rfl ?_
      refine rl_p (wanted_n rfl (yE_of rfl (congrArg Value.bool (decide_eq_false hp2))) rfl) rfl ?_
      refine rl_q rfl rfl rfl (v_pick_f (v := (Value.bool (false))) (congrArg Value.bool (decide_eq_false hp2)) rfl) ?_
      refine rl_q rfl rfl rfl (v_move (v := (Value.bool (false))) rfl) ?_
      refine rl_p (wanted_n rfl (yE_of rfl rfl) rfl) rfl ?_
      refine rl_p (wanted_n rfl (yE_of rfl rfl) rfl) rfl ?_
      refine rl_p (wanted_n rfl (yE_of rfl rfl) rfl) rfl ?_
      refine rl_q rfl rfl rfl (v_pick_f (v := (Value.bool (false))) rfl rfl) ?_
      refine rl_q rfl rfl rfl (v_assign (v := (Value.bool (false))) rfl) ?_
      refine rl_end ?_
      exact wt_ret1 rfl rfl ⟨_, rfl, (hS.sel [] (by decide)), h⟩
  · replace h := h.2 hp
    refine rl_p (wanted_n rfl (yE_of rfl (congrArg Value.bool (Bool.eq_false_iff.2 hp))) rfl) rfl ?_
    refine rl_p (wanted_n rfl (yE_of rfl (congrArg Value.bool (Bool.eq_false_iff.2 hp))) rfl) rfl ?_
    refine rl_p (wanted_n rfl (yE_of rfl (congrArg Value.bool (Bool.eq_false_iff.2 hp))) rfl) rfl ?_
    refine rl_q rfl rfl rfl (v_pick_f (v := (Value.bool (false))) (congrArg Value.bool (Bool.eq_false_iff.2 hp)) rfl) ?_
    refine rl_q rfl rfl rfl (v_move (v := (Value.bool (false))) rfl) ?_
    refine rl_p (wanted_n rfl (yE_of rfl rfl) rfl) rfl ?_
    refine rl_p (wanted_n rfl (yE_of rfl rfl) rfl) rfl ?_
    refine rl_p (wanted_n rfl (yE_of rfl rfl) rfl) rfl ?_
    refine rl_p (wanted_n rfl (yE_of rfl rfl) rfl) rfl ?_
    refine rl_p (wanted_n rfl (yE_of rfl rfl) rfl) rfl ?_
    refine rl_q rfl rfl rfl (v_pick_f (v := (Value.bool (false))) rfl rfl) ?_
    refine rl_q rfl rfl rfl (v_move (v := (Value.bool (false))) rfl) ?_
    refine rl_p (wanted_n rfl (yE_of rfl rfl) rfl) rfl ?_
    refine rl_p (wanted_n rfl (yE_of rfl rfl) rfl) rfl ?_
    refine rl_p (wanted_n rfl (yE_of rfl rfl) rfl) rfl ?_
    refine rl_q rfl rfl rfl (v_pick_f (v := (Value.bool (false))) rfl rfl) ?_
    refine rl_q rfl rfl rfl (v_assign (v := (Value.bool (false))) rfl) ?_
    refine rl_end ?_
    exact wt_ret1 rfl rfl ⟨_, rfl, (hS.sel [] (by decide)), h⟩
end Go.Proofs.Ytnhmeckhlajeaaa

/- Pure forms of functions, made by program (pf.py), each with the proof that the code does so. -/
namespace Go.Proofs.Ytnhmeckhlajeaaa
open Go Go.RowKit Go.Shelf
set_option linter.unusedVariables false
set_option maxRecDepth 100000
set_option maxHeartbeats 1000000
end Go.Proofs.Ytnhmeckhlajeaaa

/- Pure forms of functions, made by program (pf.py), each with the proof that the code does so. -/
namespace Go.Proofs.Ytnhmeckhlajeaaa
open Go Go.RowKit Go.Shelf
set_option linter.unusedVariables false
set_option maxRecDepth 100000
set_option maxHeartbeats 1000000
/-- slices.IndexFunc[sandpile/api.Script,int]: what it computes. -/
def pf_slices_IndexFunc_Script (s : List Int) (Ff : Int → (Bool → Prop) → Prop) (R : Int → Prop) : Prop :=
(∃ I2 : Nat → Int → Prop, (∃ m0, I2 m0 0) ∧ ∀ (m2 : Nat) (v : Int), I2 m2 v → 
((v < ((s.length : Nat) : Int) →
((0 ≤ v ∧ v < ((s.length : Nat) : Int)) ∧
Ff (gi s v.toNat) (fun (r : Bool) =>
((r = true →
R v) ∧
(¬ (r = true) →
(In64 (v + 1) ∧
∃ m3, m3 < m2 ∧ I2 m3 (v + 1))))))) ∧
(¬ (v < ((s.length : Nat) : Int)) →
R (-1))))
theorem pok_slices_IndexFunc_Script {O : Nat → Prop} {w : World} {s : List Int} {Ff : Int → (Bool → Prop) → Prop} {As : Option Addr} {ls : Nat} {cs : Nat} {f : Value} {R : Int → Prop} (h : pf_slices_IndexFunc_Script s Ff R) (hO : ∀ k, O k → k < w.heap.size) (a0 : (FP.sl cI As ls cs s).P O w) (a1 : (FP.st fun w' => ∃ (fid : Nat) (us : Array Value), f = Value.func (.func fid) #[] us ∧ Enters Try.prog fid ∧ ∀ (x0 : Int) (R : Bool → Prop), Ff x0 R → Calls Try.prog fid (#[(Value.int .i64 x0)] ++ us) w' fun e w'' => ∃ r0 : Bool, e = .returned (Value.bool (r0)) ∧ Sep w' no no w'' (rl []) ∧ R r0).P O w) :
    Calls Try.prog 79 #[(Value.slice As ls cs), f] w fun e w' => ∃ r2 : Int, e = .returned (Value.int .i64 r2) ∧ Sep w no O w' (rl []) ∧ R r2 := by
  unfold pf_slices_IndexFunc_Script at h
  have hS : Sep w no O w (rl [Res.ro (FP.sl cI As ls cs s), Res.ro (FP.st fun w' => ∃ (fid : Nat) (us : Array Value), f = Value.func (.func fid) #[] us ∧ Enters Try.prog fid ∧ ∀ (x0 : Int) (R : Bool → Prop), Ff x0 R → Calls Try.prog fid (#[(Value.int .i64 x0)] ++ us) w' fun e w'' => ∃ r0 : Bool, e = .returned (Value.bool (r0)) ∧ Sep w' no no w'' (rl []) ∧ R r0)]) := Sep.startl hO [(FP.sl cI As ls cs s), (FP.st fun w' => ∃ (fid : Nat) (us : Array Value), f = Value.func (.func fid) #[] us ∧ Enters Try.prog fid ∧ ∀ (x0 : Int) (R : Bool → Prop), Ff x0 R → Calls Try.prog fid (#[(Value.int .i64 x0)] ++ us) w' fun e w'' => ∃ r0 : Bool, e = .returned (Value.bool (r0)) ∧ Sep w' no no w'' (rl []) ∧ R r0)] ⟨a0, a1, trivial⟩
  refine calls_sh (l := [(Value.slice As ls cs), f]) Try.func79 rfl Try.ntmps79 (Nat.le_of_ble_eq_true rfl) ?_
  refine wt_seq ?_
  refine wl_region wd_wide ?_
  refine rl_q rfl rfl rfl (v_assign (v := (Value.int .i64 0)) rfl) ?_
  refine rl_end ?_
  refine wt_seq ?_
  refine wt_seq ?_
  refine wl_region wd_wide ?_
  refine rl_q rfl rfl rfl (v_move (v := (Value.slice As ls cs)) rfl) ?_
  refine rl_q rfl rfl rfl (v_lenx (n := s.length) rfl Try.underlying30 (rd_len (hS.rdr 0 rfl))) ?_
  refine rl_q rfl rfl rfl (v_move (v := (Value.int .i64 0)) rfl) ?_
  refine rl_end ?_
  refine wt_block ?_
  obtain ⟨I2, ⟨m0, h0⟩, hr⟩ := h
  refine wt_loop (fun m E ds w' => ∃ v : Int, I2 m v ∧ ds = [] ∧ E 0 = (Value.slice As ls cs) ∧ E 1 = f ∧ E 7 = (Value.int .i64 ((s.length : Nat) : Int)) ∧ E 8 = (Value.int .i64 v) ∧ Sep w no O w' (rl [Res.ro (FP.sl cI As ls cs s), Res.ro (FP.st fun w' => ∃ (fid : Nat) (us : Array Value), f = Value.func (.func fid) #[] us ∧ Enters Try.prog fid ∧ ∀ (x0 : Int) (R : Bool → Prop), Ff x0 R → Calls Try.prog fid (#[(Value.int .i64 x0)] ++ us) w' fun e w'' => ∃ r0 : Bool, e = .returned (Value.bool (r0)) ∧ Sep w' no no w'' (rl []) ∧ R r0)])) m0 ⟨_, h0, rfl, rfl, rfl, rfl, rfl, (hS.sel [0, 1] (by decide))⟩ ?_
  clear h0 hS
  rintro m2 E ds w2 ⟨v, h, rfl, hE0, hE1, hE7, hE8, hS⟩ again
  replace h := hr m2 v h
  clear hr
  refine wt_seq ?_
  refine wl_region wd_wide ?_
  refine rl_q rfl rfl rfl (v_lss hE8 hE7) ?_
  refine rl_end ?_
  refine wt_seq ?_
  by_cases hp : v < ((s.length : Nat) : Int)
  · replace h := h.1 hp
    refine wt_cond_t (congrArg Value.bool (decide_eq_true hp)) ?_
    refine wt_skip ?_
    refine wt_seq ?_
    refine wt_block ?_
    refine wt_seq ?_
    refine wl_region wd_wide ?_
    refine rl_q rfl rfl rfl (v_move (v := (Value.int .i64 v)) hE8) ?_
    refine rl_q rfl rfl rfl (v_assign (v := (Value.int .i64 v)) rfl) ?_
    refine rl_end ?_
    refine wt_seq ?_
    refine wl_region wd_wide ?_
    refine rl_q rfl rfl rfl (v_move (v := f) hE1) ?_
    refine rl_q rfl rfl rfl (v_move (v := (Value.slice As ls cs)) hE0) ?_
    refine rl_q rfl rfl rfl (v_move (v := (Value.int .i64 v)) rfl) ?_
    obtain ⟨hx, h⟩ := h
    refine rl_q rfl rfl rfl (v_iaddr rfl rfl Try.underlying30 info_3 (rd_ix (hS.rdr 0 rfl) hx)) ?_
    refine rl_q rfl rfl rfl (v_load (v := (Value.int .i64 (gi s v.toNat))) rfl Try.underlying3 rfl (rd_1 (hS.rdr 0 rfl) hx (fun q => gi_some q) rfl)) ?_
    obtain ⟨fid, us, hf, he, hcl⟩ := hS.ro 1 rfl _ (Keeps.refl _ _)
    replace h := hcl _ _ h
    clear hcl
    refine rl_n rfl rfl rfl rfl (n_call (hf) (am1 rfl) he (h.mono ?_))
    clear hf he
    rintro _ w3 ⟨r, rfl, hC, h⟩
    replace hS := hS.pur hC.pure
    clear hC
    refine ⟨_, rfl, ?_⟩
    refine ⟨Stb.none _, ?_⟩
    refine rl_end ?_
    by_cases hp2 : r = true
    · replace h := h.1 hp2
      refine wt_cond_t (congrArg Value.bool hp2) ?_
      refine wt_seq ?_
      refine wl_region wd_wide ?_
      refine rl_q rfl rfl rfl (v_move (v := (Value.int .i64 v)) rfl) ?_
      refine rl_q rfl rfl rfl (v_assign (v := (Value.int .i64 v)) rfl) ?_
      refine rl_end ?_
      exact wt_ret1 rfl rfl ⟨_, rfl, (hS.sel [] (by decide)), h⟩
    · replace h := h.2 hp2
      refine wt_cond_f (congrArg Value.bool (Bool.eq_false_iff.2 hp2)) ?_
      refine wt_skip ?_
      refine wt_inBlock ?_
      refine wl_region wd_wide ?_
      obtain ⟨hi, h⟩ := h
      refine rl_q rfl rfl rfl (v_add hE8 rfl hi) ?_
      refine rl_q rfl rfl rfl (v_move (v := (Value.int .i64 (v + 1))) rfl) ?_
      refine rl_end ?_
      obtain ⟨mq, hlt, h⟩ := h
      exact again mq _ _ _ ⟨_, h, rfl, hE0, hE1, hE7, rfl, (hS.sel [0, 1] (by decide))⟩ hlt
  · replace h := h.2 hp
    refine wt_cond_f (congrArg Value.bool (decide_eq_false hp)) ?_
    refine wt_exit rfl ?_
    refine wt_seq ?_
    refine wl_region wd_wide ?_
    refine rl_q rfl rfl rfl (v_assign (v := (Value.int .i64 (-1))) rfl) ?_
    refine rl_end ?_
    exact wt_ret1 rfl rfl ⟨_, rfl, (hS.sel [] (by decide)), h⟩

/-- slices.ContainsFunc[sandpile/api.Script,int]: what it computes. -/
def pf_slices_ContainsFunc_Script (s : List Int) (Ff : Int → (Bool → Prop) → Prop) (R : Bool → Prop) : Prop :=
pf_slices_IndexFunc_Script s Ff (fun (r : Int) =>
R (decide (0 ≤ r)))
theorem pok_slices_ContainsFunc_Script {O : Nat → Prop} {w : World} {s : List Int} {Ff : Int → (Bool → Prop) → Prop} {As : Option Addr} {ls : Nat} {cs : Nat} {f : Value} {R : Bool → Prop} (h : pf_slices_ContainsFunc_Script s Ff R) (hO : ∀ k, O k → k < w.heap.size) (a0 : (FP.sl cI As ls cs s).P O w) (a1 : (FP.st fun w' => ∃ (fid : Nat) (us : Array Value), f = Value.func (.func fid) #[] us ∧ Enters Try.prog fid ∧ ∀ (x0 : Int) (R : Bool → Prop), Ff x0 R → Calls Try.prog fid (#[(Value.int .i64 x0)] ++ us) w' fun e w'' => ∃ r0 : Bool, e = .returned (Value.bool (r0)) ∧ Sep w' no no w'' (rl []) ∧ R r0).P O w) :
    Calls Try.prog 35 #[(Value.slice As ls cs), f] w fun e w' => ∃ r2 : Bool, e = .returned (Value.bool (r2)) ∧ Sep w no O w' (rl []) ∧ R r2 := by
  unfold pf_slices_ContainsFunc_Script at h
  have hS : Sep w no O w (rl [Res.ro (FP.sl cI As ls cs s), Res.ro (FP.st fun w' => ∃ (fid : Nat) (us : Array Value), f = Value.func (.func fid) #[] us ∧ Enters Try.prog fid ∧ ∀ (x0 : Int) (R : Bool → Prop), Ff x0 R → Calls Try.prog fid (#[(Value.int .i64 x0)] ++ us) w' fun e w'' => ∃ r0 : Bool, e = .returned (Value.bool (r0)) ∧ Sep w' no no w'' (rl []) ∧ R r0)]) := Sep.startl hO [(FP.sl cI As ls cs s), (FP.st fun w' => ∃ (fid : Nat) (us : Array Value), f = Value.func (.func fid) #[] us ∧ Enters Try.prog fid ∧ ∀ (x0 : Int) (R : Bool → Prop), Ff x0 R → Calls Try.prog fid (#[(Value.int .i64 x0)] ++ us) w' fun e w'' => ∃ r0 : Bool, e = .returned (Value.bool (r0)) ∧ Sep w' no no w'' (rl []) ∧ R r0)] ⟨a0, a1, trivial⟩
  refine calls_sh (l := [(Value.slice As ls cs), f]) Try.func35 rfl Try.ntmps35 (Nat.le_of_ble_eq_true rfl) ?_
  refine wt_seq ?_
  refine wl_region wd_wide ?_
  refine rl_q rfl rfl rfl (v_assign (v := (Value.bool (false))) rfl) ?_
  refine rl_end ?_
  refine wt_seq ?_
  refine wl_region wd_wide ?_
  refine rl_q rfl rfl rfl (v_move (v := (Value.slice As ls cs)) rfl) ?_
  refine rl_q rfl rfl rfl (v_move (v := f) rfl) ?_
  refine rl_n rfl rfl rfl rfl (n_call0 rfl (am2 rfl rfl) enter_79 ((pok_slices_IndexFunc_Script h (no_lt _) (hS.rdr 0 rfl) (FP.sub _ (hS.ro 1 rfl) (fun _ _ h => h.elim) : FP.P _ no _)).mono ?_))
  rintro _ w2 ⟨r, rfl, hC, h⟩
  replace hS := hS.pur hC.pure
  clear hC
  refine ⟨_, rfl, ?_⟩
  refine ⟨Stb.none _, ?_⟩
  refine rl_q rfl rfl rfl (v_geq rfl rfl) ?_
  refine rl_q rfl rfl rfl (v_assign (v := (Value.bool (decide (0 ≤ r)))) rfl) ?_
  refine rl_end ?_
  exact wt_ret1 rfl rfl ⟨_, rfl, (hS.sel [] (by decide)), h⟩

/-- slices.IndexFunc[sandpile/api.Divisor,int]: what it computes. -/
def pf_slices_IndexFunc_Divisor (s : List Int) (Ff : Int → (Bool → Prop) → Prop) (R : Int → Prop) : Prop :=
(∃ I2 : Nat → Int → Prop, (∃ m0, I2 m0 0) ∧ ∀ (m2 : Nat) (v : Int), I2 m2 v → 
((v < ((s.length : Nat) : Int) →
((0 ≤ v ∧ v < ((s.length : Nat) : Int)) ∧
Ff (gi s v.toNat) (fun (r : Bool) =>
((r = true →
R v) ∧
(¬ (r = true) →
(In64 (v + 1) ∧
∃ m3, m3 < m2 ∧ I2 m3 (v + 1))))))) ∧
(¬ (v < ((s.length : Nat) : Int)) →
R (-1))))
theorem pok_slices_IndexFunc_Divisor {O : Nat → Prop} {w : World} {s : List Int} {Ff : Int → (Bool → Prop) → Prop} {As : Option Addr} {ls : Nat} {cs : Nat} {f : Value} {R : Int → Prop} (h : pf_slices_IndexFunc_Divisor s Ff R) (hO : ∀ k, O k → k < w.heap.size) (a0 : (FP.sl cI As ls cs s).P O w) (a1 : (FP.st fun w' => ∃ (fid : Nat) (us : Array Value), f = Value.func (.func fid) #[] us ∧ Enters Try.prog fid ∧ ∀ (x0 : Int) (R : Bool → Prop), Ff x0 R → Calls Try.prog fid (#[(Value.int .i64 x0)] ++ us) w' fun e w'' => ∃ r0 : Bool, e = .returned (Value.bool (r0)) ∧ Sep w' no no w'' (rl []) ∧ R r0).P O w) :
    Calls Try.prog 134 #[(Value.slice As ls cs), f] w fun e w' => ∃ r2 : Int, e = .returned (Value.int .i64 r2) ∧ Sep w no O w' (rl []) ∧ R r2 := by
  unfold pf_slices_IndexFunc_Divisor at h
  have hS : Sep w no O w (rl [Res.ro (FP.sl cI As ls cs s), Res.ro (FP.st fun w' => ∃ (fid : Nat) (us : Array Value), f = Value.func (.func fid) #[] us ∧ Enters Try.prog fid ∧ ∀ (x0 : Int) (R : Bool → Prop), Ff x0 R → Calls Try.prog fid (#[(Value.int .i64 x0)] ++ us) w' fun e w'' => ∃ r0 : Bool, e = .returned (Value.bool (r0)) ∧ Sep w' no no w'' (rl []) ∧ R r0)]) := Sep.startl hO [(FP.sl cI As ls cs s), (FP.st fun w' => ∃ (fid : Nat) (us : Array Value), f = Value.func (.func fid) #[] us ∧ Enters Try.prog fid ∧ ∀ (x0 : Int) (R : Bool → Prop), Ff x0 R → Calls Try.prog fid (#[(Value.int .i64 x0)] ++ us) w' fun e w'' => ∃ r0 : Bool, e = .returned (Value.bool (r0)) ∧ Sep w' no no w'' (rl []) ∧ R r0)] ⟨a0, a1, trivial⟩
  refine calls_sh (l := [(Value.slice As ls cs), f]) Try.func134 rfl Try.ntmps134 (Nat.le_of_ble_eq_true rfl) ?_
  refine wt_seq ?_
  refine wl_region wd_wide ?_
  refine rl_q rfl rfl rfl (v_assign (v := (Value.int .i64 0)) rfl) ?_
  refine rl_end ?_
  refine wt_seq ?_
  refine wt_seq ?_
  refine wl_region wd_wide ?_
  refine rl_q rfl rfl rfl (v_move (v := (Value.slice As ls cs)) rfl) ?_
  refine rl_q rfl rfl rfl (v_lenx (n := s.length) rfl Try.underlying26 (rd_len (hS.rdr 0 rfl))) ?_
  refine rl_q rfl rfl rfl (v_move (v := (Value.int .i64 0)) rfl) ?_
  refine rl_end ?_
  refine wt_block ?_
  obtain ⟨I2, ⟨m0, h0⟩, hr⟩ := h
  refine wt_loop (fun m E ds w' => ∃ v : Int, I2 m v ∧ ds = [] ∧ E 0 = (Value.slice As ls cs) ∧ E 1 = f ∧ E 7 = (Value.int .i64 ((s.length : Nat) : Int)) ∧ E 8 = (Value.int .i64 v) ∧ Sep w no O w' (rl [Res.ro (FP.sl cI As ls cs s), Res.ro (FP.st fun w' => ∃ (fid : Nat) (us : Array Value), f = Value.func (.func fid) #[] us ∧ Enters Try.prog fid ∧ ∀ (x0 : Int) (R : Bool → Prop), Ff x0 R → Calls Try.prog fid (#[(Value.int .i64 x0)] ++ us) w' fun e w'' => ∃ r0 : Bool, e = .returned (Value.bool (r0)) ∧ Sep w' no no w'' (rl []) ∧ R r0)])) m0 ⟨_, h0, rfl, rfl, rfl, rfl, rfl, (hS.sel [0, 1] (by decide))⟩ ?_
  clear h0 hS
  rintro m2 E ds w2 ⟨v, h, rfl, hE0, hE1, hE7, hE8, hS⟩ again
  replace h := hr m2 v h
  clear hr
  refine wt_seq ?_
  refine wl_region wd_wide ?_
  refine rl_q rfl rfl rfl (v_lss hE8 hE7) ?_
  refine rl_end ?_
  refine wt_seq ?_
  by_cases hp : v < ((s.length : Nat) : Int)
  · replace h := h.1 hp
    refine wt_cond_t (congrArg Value.bool (decide_eq_true hp)) ?_
    refine wt_skip ?_
    refine wt_seq ?_
    refine wt_block ?_
    refine wt_seq ?_
    refine wl_region wd_wide ?_
    refine rl_q rfl rfl rfl (v_move (v := (Value.int .i64 v)) hE8) ?_
    refine rl_q rfl rfl rfl (v_assign (v := (Value.int .i64 v)) rfl) ?_
    refine rl_end ?_
    refine wt_seq ?_
    refine wl_region wd_wide ?_
    refine rl_q rfl rfl rfl (v_move (v := f) hE1) ?_
    refine rl_q rfl rfl rfl (v_move (v := (Value.slice As ls cs)) hE0) ?_
    refine rl_q rfl rfl rfl (v_move (v := (Value.int .i64 v)) rfl) ?_
    obtain ⟨hx, h⟩ := h
    refine rl_q rfl rfl rfl (v_iaddr rfl rfl Try.underlying26 info_3 (rd_ix (hS.rdr 0 rfl) hx)) ?_
    refine rl_q rfl rfl rfl (v_load (v := (Value.int .i64 (gi s v.toNat))) rfl Try.underlying3 rfl (rd_1 (hS.rdr 0 rfl) hx (fun q => gi_some q) rfl)) ?_
    obtain ⟨fid, us, hf, he, hcl⟩ := hS.ro 1 rfl _ (Keeps.refl _ _)
    replace h := hcl _ _ h
    clear hcl
    refine rl_n rfl rfl rfl rfl (n_call (hf) (am1 rfl) he (h.mono ?_))
    clear hf he
    rintro _ w3 ⟨r, rfl, hC, h⟩
    replace hS := hS.pur hC.pure
    clear hC
    refine ⟨_, rfl, ?_⟩
    refine ⟨Stb.none _, ?_⟩
    refine rl_end ?_
    by_cases hp2 : r = true
    · replace h := h.1 hp2
      refine wt_cond_t (congrArg Value.bool hp2) ?_
      refine wt_seq ?_
      refine wl_region wd_wide ?_
      refine rl_q rfl rfl rfl (v_move (v := (Value.int .i64 v)) rfl) ?_
      refine rl_q rfl rfl rfl (v_assign (v := (Value.int .i64 v)) rfl) ?_
      refine rl_end ?_
      exact wt_ret1 rfl rfl ⟨_, rfl, (hS.sel [] (by decide)), h⟩
    · replace h := h.2 hp2
      refine wt_cond_f (congrArg Value.bool (Bool.eq_false_iff.2 hp2)) ?_
      refine wt_skip ?_
      refine wt_inBlock ?_
      refine wl_region wd_wide ?_
      obtain ⟨hi, h⟩ := h
      refine rl_q rfl rfl rfl (v_add hE8 rfl hi) ?_
      refine rl_q rfl rfl rfl (v_move (v := (Value.int .i64 (v + 1))) rfl) ?_
      refine rl_end ?_
      obtain ⟨mq, hlt, h⟩ := h
      exact again mq _ _ _ ⟨_, h, rfl, hE0, hE1, hE7, rfl, (hS.sel [0, 1] (by decide))⟩ hlt
  · replace h := h.2 hp
    refine wt_cond_f (congrArg Value.bool (decide_eq_false hp)) ?_
    refine wt_exit rfl ?_
    refine wt_seq ?_
    refine wl_region wd_wide ?_
    refine rl_q rfl rfl rfl (v_assign (v := (Value.int .i64 (-1))) rfl) ?_
    refine rl_end ?_
    exact wt_ret1 rfl rfl ⟨_, rfl, (hS.sel [] (by decide)), h⟩

/-- slices.ContainsFunc[sandpile/api.Divisor,int]: what it computes. -/
def pf_slices_ContainsFunc_Divisor (s : List Int) (Ff : Int → (Bool → Prop) → Prop) (R : Bool → Prop) : Prop :=
pf_slices_IndexFunc_Divisor s Ff (fun (r : Int) =>
R (decide (0 ≤ r)))
theorem pok_slices_ContainsFunc_Divisor {O : Nat → Prop} {w : World} {s : List Int} {Ff : Int → (Bool → Prop) → Prop} {As : Option Addr} {ls : Nat} {cs : Nat} {f : Value} {R : Bool → Prop} (h : pf_slices_ContainsFunc_Divisor s Ff R) (hO : ∀ k, O k → k < w.heap.size) (a0 : (FP.sl cI As ls cs s).P O w) (a1 : (FP.st fun w' => ∃ (fid : Nat) (us : Array Value), f = Value.func (.func fid) #[] us ∧ Enters Try.prog fid ∧ ∀ (x0 : Int) (R : Bool → Prop), Ff x0 R → Calls Try.prog fid (#[(Value.int .i64 x0)] ++ us) w' fun e w'' => ∃ r0 : Bool, e = .returned (Value.bool (r0)) ∧ Sep w' no no w'' (rl []) ∧ R r0).P O w) :
    Calls Try.prog 95 #[(Value.slice As ls cs), f] w fun e w' => ∃ r2 : Bool, e = .returned (Value.bool (r2)) ∧ Sep w no O w' (rl []) ∧ R r2 := by
  unfold pf_slices_ContainsFunc_Divisor at h
  have hS : Sep w no O w (rl [Res.ro (FP.sl cI As ls cs s), Res.ro (FP.st fun w' => ∃ (fid : Nat) (us : Array Value), f = Value.func (.func fid) #[] us ∧ Enters Try.prog fid ∧ ∀ (x0 : Int) (R : Bool → Prop), Ff x0 R → Calls Try.prog fid (#[(Value.int .i64 x0)] ++ us) w' fun e w'' => ∃ r0 : Bool, e = .returned (Value.bool (r0)) ∧ Sep w' no no w'' (rl []) ∧ R r0)]) := Sep.startl hO [(FP.sl cI As ls cs s), (FP.st fun w' => ∃ (fid : Nat) (us : Array Value), f = Value.func (.func fid) #[] us ∧ Enters Try.prog fid ∧ ∀ (x0 : Int) (R : Bool → Prop), Ff x0 R → Calls Try.prog fid (#[(Value.int .i64 x0)] ++ us) w' fun e w'' => ∃ r0 : Bool, e = .returned (Value.bool (r0)) ∧ Sep w' no no w'' (rl []) ∧ R r0)] ⟨a0, a1, trivial⟩
  refine calls_sh (l := [(Value.slice As ls cs), f]) Try.func95 rfl Try.ntmps95 (Nat.le_of_ble_eq_true rfl) ?_
  refine wt_seq ?_
  refine wl_region wd_wide ?_
  refine rl_q rfl rfl rfl (v_assign (v := (Value.bool (false))) rfl) ?_
  refine rl_end ?_
  refine wt_seq ?_
  refine wl_region wd_wide ?_
  refine rl_q rfl rfl rfl (v_move (v := (Value.slice As ls cs)) rfl) ?_
  refine rl_q rfl rfl rfl (v_move (v := f) rfl) ?_
  refine rl_n rfl rfl rfl rfl (n_call0 rfl (am2 rfl rfl) enter_134 ((pok_slices_IndexFunc_Divisor h (no_lt _) (hS.rdr 0 rfl) (FP.sub _ (hS.ro 1 rfl) (fun _ _ h => h.elim) : FP.P _ no _)).mono ?_))
  rintro _ w2 ⟨r, rfl, hC, h⟩
  replace hS := hS.pur hC.pure
  clear hC
  refine ⟨_, rfl, ?_⟩
  refine ⟨Stb.none _, ?_⟩
  refine rl_q rfl rfl rfl (v_geq rfl rfl) ?_
  refine rl_q rfl rfl rfl (v_assign (v := (Value.bool (decide (0 ≤ r)))) rfl) ?_
  refine rl_end ?_
  exact wt_ret1 rfl rfl ⟨_, rfl, (hS.sel [] (by decide)), h⟩

/-- cmp.isNaN[int]: what it computes. -/
def pf_cmp_isNaN_int (x : Int) (R : Bool → Prop) : Prop :=
R (!(decide (x = x)))
theorem pok_cmp_isNaN_int {O : Nat → Prop} {w : World} {x : Int} {R : Bool → Prop} (h : pf_cmp_isNaN_int x R) (hO : ∀ k, O k → k < w.heap.size) :
    Calls Try.prog 130 #[(Value.int .i64 x)] w fun e w' => ∃ r : Bool, e = .returned (Value.bool (r)) ∧ Sep w no O w' (rl []) ∧ R r := by
  unfold pf_cmp_isNaN_int at h
  have hS : Sep w no O w (rl []) := Sep.start w hO
  refine calls_sh (l := [(Value.int .i64 x)]) Try.func130 rfl Try.ntmps130 (Nat.le_of_ble_eq_true rfl) ?_
  refine wt_seq ?_
  refine wl_region wd_wide ?_
  refine rl_q rfl rfl rfl (v_assign (v := (Value.bool (false))) rfl) ?_
  refine rl_end ?_
  refine wt_seq ?_
  refine wl_region wd_wide ?_
  refine rl_q rfl rfl rfl (v_move (v := (Value.int .i64 x)) rfl) ?_
  refine rl_q rfl rfl rfl (v_move (v := (Value.int .i64 x)) rfl) ?_
  refine rl_q rfl rfl rfl (v_neq rfl rfl) ?_
  refine rl_q rfl rfl rfl (v_assign (v := (Value.bool (!(decide (x = x))))) rfl) ?_
  refine rl_end ?_
  exact wt_ret1 rfl rfl ⟨_, rfl, (hS.sel [] (by decide)), h⟩

end Go.Proofs.Ytnhmeckhlajeaaa
