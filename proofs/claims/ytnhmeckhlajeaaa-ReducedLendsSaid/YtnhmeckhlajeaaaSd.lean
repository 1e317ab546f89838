/- Shallow forms of functions, made by program (sh.py), each with the proof that the code does so. -/
import Derived.Test.YtnhmeckhlajeaaaTy
namespace Go.Proofs.Ytnhmeckhlajeaaa
open Go Go.RowKit Go.Shelf
set_option linter.unusedVariables false
set_option maxRecDepth 100000
set_option maxHeartbeats 1000000
/-- sandpile/sandpilelaw34.awake: what its code does. -/
def sh_l34_awake (w : World) (R : Bool → World → Prop) : Prop :=
(Calls Try.prog 62 #[] w fun e w2 => ∃ r2 : Int, ∃ Ar : Option Addr, ∃ lr : Nat, ∃ cr : Nat, e = .returned (Value.agg #[(Value.int .i64 r2), (Value.slice Ar lr cr)]) ∧
(∀ (g : Nat) (w3 : World), New w2 g w3 #[(Value.int .i64 (-1)), (Value.int .i64 2), (Value.int .i64 0)] 3 →
(Calls Try.prog 17 #[(Value.agg #[(Value.int .i64 r2), (Value.slice Ar lr cr)]), (Value.int .i64 0), (Value.slice (some ⟨g, 0, none⟩) 3 3)] w3 fun e w4 => ∃ Ar2 : Option Addr, ∃ lr2 : Nat, ∃ cr2 : Nat, ∃ Ar3 : Option Addr, ∃ lr3 : Nat, ∃ cr3 : Nat, ∃ r3 : Int, e = .returned (Value.tuple #[(Value.slice Ar2 lr2 cr2), (Value.slice Ar3 lr3 cr3), (Value.int .i64 r3)]) ∧
(Calls Try.prog 62 #[] w4 fun e w5 => ∃ r4 : Int, ∃ Ar4 : Option Addr, ∃ lr4 : Nat, ∃ cr4 : Nat, e = .returned (Value.agg #[(Value.int .i64 r4), (Value.slice Ar4 lr4 cr4)]) ∧
(∀ (g2 : Nat) (w6 : World), New w5 g2 w6 #[(Value.int .i64 2), (Value.int .i64 (-1)), (Value.int .i64 0)] 3 →
(Calls Try.prog 17 #[(Value.agg #[(Value.int .i64 r4), (Value.slice Ar4 lr4 cr4)]), (Value.int .i64 0), (Value.slice (some ⟨g2, 0, none⟩) 3 3)] w6 fun e w7 => ∃ Ar5 : Option Addr, ∃ lr5 : Nat, ∃ cr5 : Nat, ∃ Ar6 : Option Addr, ∃ lr6 : Nat, ∃ cr6 : Nat, ∃ r5 : Int, e = .returned (Value.tuple #[(Value.slice Ar5 lr5 cr5), (Value.slice Ar6 lr6 cr6), (Value.int .i64 r5)]) ∧
(Calls Try.prog 62 #[] w7 fun e w8 => ∃ r6 : Int, ∃ Ar7 : Option Addr, ∃ lr7 : Nat, ∃ cr7 : Nat, e = .returned (Value.agg #[(Value.int .i64 r6), (Value.slice Ar7 lr7 cr7)]) ∧
(∀ (g3 : Nat) (w9 : World), New w8 g3 w9 #[(Value.int .i64 0), (Value.int .i64 2), (Value.int .i64 0)] 3 →
(Calls Try.prog 31 #[(Value.agg #[(Value.int .i64 r6), (Value.slice Ar7 lr7 cr7)]), (Value.int .i64 0), (Value.slice (some ⟨g3, 0, none⟩) 3 3)] w9 fun e w10 => ∃ Ar8 : Option Addr, ∃ lr8 : Nat, ∃ cr8 : Nat, ∃ r7 : Int, e = .returned (Value.tuple #[(Value.slice Ar8 lr8 cr8), (Value.int .i64 r7)]) ∧
(Calls Try.prog 62 #[] w10 fun e w11 => ∃ r8 : Int, ∃ Ar9 : Option Addr, ∃ lr9 : Nat, ∃ cr9 : Nat, e = .returned (Value.agg #[(Value.int .i64 r8), (Value.slice Ar9 lr9 cr9)]) ∧
(∀ (g4 : Nat) (w12 : World), New w11 g4 w12 #[(Value.int .i64 0), (Value.int .i64 1), (Value.int .i64 1)] 3 →
(Calls Try.prog 31 #[(Value.agg #[(Value.int .i64 r8), (Value.slice Ar9 lr9 cr9)]), (Value.int .i64 0), (Value.slice (some ⟨g4, 0, none⟩) 3 3)] w12 fun e w13 => ∃ Ar10 : Option Addr, ∃ lr10 : Nat, ∃ cr10 : Nat, ∃ r9 : Int, e = .returned (Value.tuple #[(Value.slice Ar10 lr10 cr10), (Value.int .i64 r9)]) ∧
(Calls Try.prog 62 #[] w13 fun e w14 => ∃ r10 : Int, ∃ Ar11 : Option Addr, ∃ lr11 : Nat, ∃ cr11 : Nat, e = .returned (Value.agg #[(Value.int .i64 r10), (Value.slice Ar11 lr11 cr11)]) ∧
(∀ (g5 : Nat) (w15 : World), New w14 g5 w15 #[(Value.int .i64 0), (Value.int .i64 1), (Value.int .i64 0)] 3 →
(Calls Try.prog 31 #[(Value.agg #[(Value.int .i64 r10), (Value.slice Ar11 lr11 cr11)]), (Value.int .i64 0), (Value.slice (some ⟨g5, 0, none⟩) 3 3)] w15 fun e w16 => ∃ Ar12 : Option Addr, ∃ lr12 : Nat, ∃ cr12 : Nat, ∃ r11 : Int, e = .returned (Value.tuple #[(Value.slice Ar12 lr12 cr12), (Value.int .i64 r11)]) ∧
(∃ J2 : World → Prop, (∀ (w17 : World), J2 w17 → (∀ (g6 : Nat) (w18 : World), New w17 g6 w18 #[(Value.int .i64 1)] 3 →
(Calls Try.prog 33 #[(Value.slice Ar8 lr8 cr8), (Value.slice (some ⟨g6, 0, none⟩) 1 1)] w18 fun e w19 => ∃ r12 : Bool, e = .returned (Value.bool (r12)) ∧
((r12 = true →
(∀ (g7 : Nat) (w20 : World), New w19 g7 w20 #[(Value.int .i64 1), (Value.int .i64 2)] 3 →
(Calls Try.prog 33 #[(Value.slice Ar10 lr10 cr10), (Value.slice (some ⟨g7, 0, none⟩) 2 2)] w20 fun e w21 => ∃ r13 : Bool, e = .returned (Value.bool (r13)) ∧
((r13 = true →
R (decide (((lr12 : Nat) : Int) = 0)) w21) ∧
(¬ (r13 = true) →
R false w21))))) ∧
(¬ (r12 = true) →
R false w19))))) ∧
(In64 (r3 + r5) ∧
(In64 ((r3 + r5) + r7) ∧
(In64 (((r3 + r5) + r7) + r9) ∧
(In64 ((((r3 + r5) + r7) + r9) + r11) ∧
((((((r3 + r5) + r7) + r9) + r11) = 0 →
(∀ (g8 : Nat) (w22 : World), New w16 g8 w22 #[(Value.int .i64 0), (Value.int .i64 0), (Value.int .i64 1)] 3 →
(Calls Try.prog 19 #[(Value.slice Ar2 lr2 cr2), (Value.slice (some ⟨g8, 0, none⟩) 3 3)] w22 fun e w23 => ∃ r14 : Bool, e = .returned (Value.bool (r14)) ∧
((r14 = true →
(∀ (g9 : Nat) (w24 : World), New w23 g9 w24 #[(Value.int .i64 0), (Value.int .i64 1), (Value.int .i64 0)] 3 →
(Calls Try.prog 20 #[(Value.slice Ar3 lr3 cr3), (Value.slice (some ⟨g9, 0, none⟩) 3 3)] w24 fun e w25 => ∃ r15 : Bool, e = .returned (Value.bool (r15)) ∧
((r15 = true →
(Calls Try.prog 19 #[(Value.slice Ar5 lr5 cr5), (Value.slice Ar2 lr2 cr2)] w25 fun e w26 => ∃ r16 : Bool, e = .returned (Value.bool (r16)) ∧
((r16 = true →
(∀ (g10 : Nat) (w27 : World), New w26 g10 w27 #[(Value.int .i64 0), (Value.int .i64 (-1)), (Value.int .i64 (-1))] 3 →
(Calls Try.prog 20 #[(Value.slice Ar6 lr6 cr6), (Value.slice (some ⟨g10, 0, none⟩) 3 3)] w27 fun e w28 => ∃ r17 : Bool, e = .returned (Value.bool (r17)) ∧
((r17 = true →
J2 w28) ∧
(¬ (r17 = true) →
R false w28))))) ∧
(¬ (r16 = true) →
R false w26)))) ∧
(¬ (r15 = true) →
R false w25))))) ∧
(¬ (r14 = true) →
R false w23))))) ∧
(¬ (((((r3 + r5) + r7) + r9) + r11) = 0) →
R false w16))))))))))))))))))))))
theorem ok_l34_awake (w : World) (R : Bool → World → Prop) (h : sh_l34_awake w R) :
    Calls Try.prog 16 #[] w fun e w' => ∃ r : Bool, e = .returned (Value.bool (r)) ∧ R r w' := by
  unfold sh_l34_awake at h
  refine calls_sh (l := []) Try.func16 rfl Try.ntmps16 (Nat.le_of_ble_eq_true rfl) ?_
  refine wt_seq ?_
  refine wl_region wd_wide ?_
  refine rl_q rfl rfl rfl (v_assign (v := (Value.bool (false))) rfl) ?_
  refine rl_end ?_
  refine wt_seq ?_
  refine wl_region wd_wide ?_
  refine rl_n rfl rfl rfl rfl (n_call0 rfl (am0) enter_62 (h.mono ?_))
  rintro _ w2 ⟨r2, Ar, lr, cr, rfl, h⟩
  refine ⟨_, rfl, Stb.none _, ?_⟩
  refine rl_n rfl rfl rfl rfl (n_bslice (l := [(0, (Value.int .i64 (-1))), (1, (Value.int .i64 2)), (2, (Value.int .i64 0))]) (cells := [(Value.int .i64 (-1)), (Value.int .i64 2), (Value.int .i64 0)]) (bp3 rfl rfl rfl) Try.underlying26 info_3 rfl rfl ?_)
  intro g w3 hN
  replace h := h g w3 hN
  clear hN
  refine ⟨Stb.none _, ?_⟩
  refine rl_n rfl rfl rfl rfl (n_call0 rfl (am3 rfl rfl rfl) enter_17 (h.mono ?_))
  rintro _ w4 ⟨Ar2, lr2, cr2, Ar3, lr3, cr3, r3, rfl, h⟩
  refine ⟨_, rfl, Stb.none _, ?_⟩
  refine rl_q rfl rfl rfl (v_move (v := (Value.tuple #[(Value.slice Ar2 lr2 cr2), (Value.slice Ar3 lr3 cr3), (Value.int .i64 r3)])) rfl) ?_
  refine rl_q rfl rfl rfl (v_extract (v := (Value.slice Ar2 lr2 cr2)) rfl rfl) ?_
  refine rl_q rfl rfl rfl (v_extract (v := (Value.slice Ar3 lr3 cr3)) rfl rfl) ?_
  refine rl_q rfl rfl rfl (v_extract (v := (Value.int .i64 r3)) rfl rfl) ?_
  refine rl_q rfl rfl rfl (v_assign (v := (Value.slice Ar2 lr2 cr2)) rfl) ?_
  refine rl_q rfl rfl rfl (v_assign (v := (Value.slice Ar3 lr3 cr3)) rfl) ?_
  refine rl_q rfl rfl rfl (v_assign (v := (Value.int .i64 r3)) rfl) ?_
  refine rl_end ?_
  refine wt_seq ?_
  refine wl_region wd_wide ?_
  refine rl_n rfl rfl rfl rfl (n_call0 rfl (am0) enter_62 (h.mono ?_))
  rintro _ w5 ⟨r4, Ar4, lr4, cr4, rfl, h⟩
  refine ⟨_, rfl, Stb.none _, ?_⟩
  refine rl_n rfl rfl rfl rfl (n_bslice (l := [(0, (Value.int .i64 2)), (1, (Value.int .i64 (-1))), (2, (Value.int .i64 0))]) (cells := [(Value.int .i64 2), (Value.int .i64 (-1)), (Value.int .i64 0)]) (bp3 rfl rfl rfl) Try.underlying26 info_3 rfl rfl ?_)
  intro g2 w6 hN2
  replace h := h g2 w6 hN2
  clear hN2
  refine ⟨Stb.none _, ?_⟩
  refine rl_n rfl rfl rfl rfl (n_call0 rfl (am3 rfl rfl rfl) enter_17 (h.mono ?_))
  rintro _ w7 ⟨Ar5, lr5, cr5, Ar6, lr6, cr6, r5, rfl, h⟩
  refine ⟨_, rfl, Stb.none _, ?_⟩
  refine rl_q rfl rfl rfl (v_move (v := (Value.tuple #[(Value.slice Ar5 lr5 cr5), (Value.slice Ar6 lr6 cr6), (Value.int .i64 r5)])) rfl) ?_
  refine rl_q rfl rfl rfl (v_extract (v := (Value.slice Ar5 lr5 cr5)) rfl rfl) ?_
  refine rl_q rfl rfl rfl (v_extract (v := (Value.slice Ar6 lr6 cr6)) rfl rfl) ?_
  refine rl_q rfl rfl rfl (v_extract (v := (Value.int .i64 r5)) rfl rfl) ?_
  refine rl_q rfl rfl rfl (v_assign (v := (Value.slice Ar5 lr5 cr5)) rfl) ?_
  refine rl_q rfl rfl rfl (v_assign (v := (Value.slice Ar6 lr6 cr6)) rfl) ?_
  refine rl_q rfl rfl rfl (v_assign (v := (Value.int .i64 r5)) rfl) ?_
  refine rl_end ?_
  refine wt_seq ?_
  refine wl_region wd_wide ?_
  refine rl_n rfl rfl rfl rfl (n_call0 rfl (am0) enter_62 (h.mono ?_))
  rintro _ w8 ⟨r6, Ar7, lr7, cr7, rfl, h⟩
  refine ⟨_, rfl, Stb.none _, ?_⟩
  refine rl_n rfl rfl rfl rfl (n_bslice (l := [(0, (Value.int .i64 0)), (1, (Value.int .i64 2)), (2, (Value.int .i64 0))]) (cells := [(Value.int .i64 0), (Value.int .i64 2), (Value.int .i64 0)]) (bp3 rfl rfl rfl) Try.underlying26 info_3 rfl rfl ?_)
  intro g3 w9 hN3
  replace h := h g3 w9 hN3
  clear hN3
  refine ⟨Stb.none _, ?_⟩
  refine rl_n rfl rfl rfl rfl (n_call0 rfl (am3 rfl rfl rfl) enter_31 (h.mono ?_))
  rintro _ w10 ⟨Ar8, lr8, cr8, r7, rfl, h⟩
  refine ⟨_, rfl, Stb.none _, ?_⟩
  refine rl_q rfl rfl rfl (v_move (v := (Value.tuple #[(Value.slice Ar8 lr8 cr8), (Value.int .i64 r7)])) rfl) ?_
  refine rl_q rfl rfl rfl (v_extract (v := (Value.slice Ar8 lr8 cr8)) rfl rfl) ?_
  refine rl_q rfl rfl rfl (v_extract (v := (Value.int .i64 r7)) rfl rfl) ?_
  refine rl_q rfl rfl rfl (v_assign (v := (Value.slice Ar8 lr8 cr8)) rfl) ?_
  refine rl_q rfl rfl rfl (v_assign (v := (Value.int .i64 r7)) rfl) ?_
  refine rl_end ?_
  refine wt_seq ?_
  refine wl_region wd_wide ?_
  refine rl_n rfl rfl rfl rfl (n_call0 rfl (am0) enter_62 (h.mono ?_))
  rintro _ w11 ⟨r8, Ar9, lr9, cr9, rfl, h⟩
  refine ⟨_, rfl, Stb.none _, ?_⟩
  refine rl_n rfl rfl rfl rfl (n_bslice (l := [(0, (Value.int .i64 0)), (1, (Value.int .i64 1)), (2, (Value.int .i64 1))]) (cells := [(Value.int .i64 0), (Value.int .i64 1), (Value.int .i64 1)]) (bp3 rfl rfl rfl) Try.underlying26 info_3 rfl rfl ?_)
  intro g4 w12 hN4
  replace h := h g4 w12 hN4
  clear hN4
  refine ⟨Stb.none _, ?_⟩
  refine rl_n rfl rfl rfl rfl (n_call0 rfl (am3 rfl rfl rfl) enter_31 (h.mono ?_))
  rintro _ w13 ⟨Ar10, lr10, cr10, r9, rfl, h⟩
  refine ⟨_, rfl, Stb.none _, ?_⟩
  refine rl_q rfl rfl rfl (v_move (v := (Value.tuple #[(Value.slice Ar10 lr10 cr10), (Value.int .i64 r9)])) rfl) ?_
  refine rl_q rfl rfl rfl (v_extract (v := (Value.slice Ar10 lr10 cr10)) rfl rfl) ?_
  refine rl_q rfl rfl rfl (v_extract (v := (Value.int .i64 r9)) rfl rfl) ?_
  refine rl_q rfl rfl rfl (v_assign (v := (Value.slice Ar10 lr10 cr10)) rfl) ?_
  refine rl_q rfl rfl rfl (v_assign (v := (Value.int .i64 r9)) rfl) ?_
  refine rl_end ?_
  refine wt_seq ?_
  refine wl_region wd_wide ?_
  refine rl_n rfl rfl rfl rfl (n_call0 rfl (am0) enter_62 (h.mono ?_))
  rintro _ w14 ⟨r10, Ar11, lr11, cr11, rfl, h⟩
  refine ⟨_, rfl, Stb.none _, ?_⟩
  refine rl_n rfl rfl rfl rfl (n_bslice (l := [(0, (Value.int .i64 0)), (1, (Value.int .i64 1)), (2, (Value.int .i64 0))]) (cells := [(Value.int .i64 0), (Value.int .i64 1), (Value.int .i64 0)]) (bp3 rfl rfl rfl) Try.underlying26 info_3 rfl rfl ?_)
  intro g5 w15 hN5
  replace h := h g5 w15 hN5
  clear hN5
  refine ⟨Stb.none _, ?_⟩
  refine rl_n rfl rfl rfl rfl (n_call0 rfl (am3 rfl rfl rfl) enter_31 (h.mono ?_))
  rintro _ w16 ⟨Ar12, lr12, cr12, r11, rfl, h⟩
  refine ⟨_, rfl, Stb.none _, ?_⟩
  refine rl_q rfl rfl rfl (v_move (v := (Value.tuple #[(Value.slice Ar12 lr12 cr12), (Value.int .i64 r11)])) rfl) ?_
  refine rl_q rfl rfl rfl (v_extract (v := (Value.slice Ar12 lr12 cr12)) rfl rfl) ?_
  refine rl_q rfl rfl rfl (v_extract (v := (Value.int .i64 r11)) rfl rfl) ?_
  refine rl_q rfl rfl rfl (v_assign (v := (Value.slice Ar12 lr12 cr12)) rfl) ?_
  refine rl_q rfl rfl rfl (v_assign (v := (Value.int .i64 r11)) rfl) ?_
  refine rl_end ?_
  refine wt_seq ?_
  refine wt_seq ?_
  obtain ⟨J2, hJ, h⟩ := h
  refine wt_cutT1 (fun E ds w' => J2 w' ∧ ds = [] ∧ E 7 = (Value.slice Ar8 lr8 cr8) ∧ E 9 = (Value.slice Ar10 lr10 cr10) ∧ E 11 = (Value.slice Ar12 lr12 cr12)) ?_ ?_
  · rintro E ds w17 ⟨h, rfl, hE7, hE9, hE11⟩
    replace h := hJ w17 h
    refine wt_seq ?_
    refine wl_region wd_wide ?_
    refine rl_q rfl rfl rfl (v_move (v := (Value.slice Ar8 lr8 cr8)) hE7) ?_
    refine rl_n rfl rfl rfl rfl (n_bslice (l := [(0, (Value.int .i64 1))]) (cells := [(Value.int .i64 1)]) (bp1 rfl) Try.underlying25 info_3 rfl rfl ?_)
    intro g6 w18 hN6
    replace h := h g6 w18 hN6
    clear hN6
    refine ⟨Stb.none _, ?_⟩
    refine rl_n rfl rfl rfl rfl (n_call0 rfl (am2 rfl rfl) enter_33 (h.mono ?_))
    rintro _ w19 ⟨r12, rfl, h⟩
    refine ⟨_, rfl, Stb.none _, ?_⟩
    refine rl_q rfl rfl rfl (v_move (v := (Value.bool (r12))) rfl) ?_
    by_cases hp : r12 = true
    · replace h := h.1 hp
      refine rl_q (wanted_g rfl (yE_of rfl (congrArg Value.bool hp))) rfl rfl (v_move (v := (Value.slice Ar10 lr10 cr10)) hE9) ?_
      refine rl_n (wanted_g rfl (yE_of rfl (congrArg Value.bool hp))) rfl rfl rfl (n_bslice (l := [(0, (Value.int .i64 1)), (1, (Value.int .i64 2))]) (cells := [(Value.int .i64 1), (Value.int .i64 2)]) (bp2 rfl rfl) Try.underlying25 info_3 rfl rfl ?_)
      intro g7 w20 hN7
      replace h := h g7 w20 hN7
      clear hN7
      refine ⟨Stb.none _, ?_⟩
      refine rl_n (wanted_g rfl (yE_of rfl (congrArg Value.bool hp))) rfl rfl rfl (n_call0 rfl (am2 rfl rfl) enter_33 (h.mono ?_))
      rintro _ w21 ⟨r13, rfl, h⟩
      refine ⟨_, rfl, Stb.none _, ?_⟩
      refine rl_q rfl rfl rfl (v_pick_t (v := (Value.bool (r13))) (congrArg Value.bool hp) rfl) ?_
      refine rl_q rfl rfl rfl (v_move (v := (Value.bool (r13))) rfl) ?_
      by_cases hp2 : r13 = true
      · replace h := h.1 hp2
        refine rl_q (wanted_g rfl (yE_of rfl (congrArg Value.bool hp2))) rfl rfl (v_move (v := (Value.slice Ar12 lr12 cr12)) hE11) ?_
        refine rl_q (wanted_g rfl (yE_of rfl (congrArg Value.bool hp2))) rfl rfl (v_len rfl Try.underlying25) ?_
        refine rl_q (wanted_g rfl (yE_of rfl (congrArg Value.bool hp2))) rfl rfl (v_eql rfl rfl) ?_
        refine rl_q rfl rfl rfl (v_pick_t (v := (Value.bool (decide (((lr12 : Nat) : Int) = 0)))) (congrArg Value.bool hp2) rfl) ?_
        refine rl_q rfl rfl rfl (v_assign (v := (Value.bool (decide (((lr12 : Nat) : Int) = 0)))) rfl) ?_
        refine rl_end ?_
        exact wt_ret1 rfl rfl ⟨_, rfl, h⟩
      · replace h := h.2 hp2
        refine rl_p (wanted_n rfl (yE_of rfl (congrArg Value.bool (Bool.eq_false_iff.2 hp2))) rfl) rfl ?_
        refine rl_p (wanted_n rfl (yE_of rfl (congrArg Value.bool (Bool.eq_false_iff.2 hp2))) rfl) rfl ?_
        refine rl_p (wanted_n rfl (yE_of rfl (congrArg Value.bool (Bool.eq_false_iff.2 hp2))) rfl) rfl ?_
        refine rl_q rfl rfl rfl (v_pick_f (v := (Value.bool (false))) (congrArg Value.bool (Bool.eq_false_iff.2 hp2)) rfl) ?_
        refine rl_q rfl rfl rfl (v_assign (v := (Value.bool (false))) rfl) ?_
        refine rl_end ?_
        exact wt_ret1 rfl rfl ⟨_, rfl, h⟩
    · replace h := h.2 hp
      refine rl_p (wanted_n rfl (yE_of rfl (congrArg Value.bool (Bool.eq_false_iff.2 hp))) rfl) rfl ?_
      refine rl_p (wanted_n rfl (yE_of rfl (congrArg Value.bool (Bool.eq_false_iff.2 hp))) rfl) rfl ?_
      refine rl_p (wanted_n rfl (yE_of rfl (congrArg Value.bool (Bool.eq_false_iff.2 hp))) rfl) rfl ?_
      refine rl_q rfl rfl rfl (v_pick_f (v := (Value.bool (false))) (congrArg Value.bool (Bool.eq_false_iff.2 hp)) rfl) ?_
      refine rl_q rfl rfl rfl (v_move (v := (Value.bool (false))) rfl) ?_
      refine rl_p (wanted_n rfl (yE_of rfl rfl) rfl) rfl ?_
      refine rl_p (wanted_n rfl (yE_of rfl rfl) rfl) rfl ?_
      refine rl_p (wanted_n rfl (yE_of rfl rfl) rfl) rfl ?_
      refine rl_q rfl rfl rfl (v_pick_f (v := (Value.bool (false))) rfl rfl) ?_
      refine rl_q rfl rfl rfl (v_assign (v := (Value.bool (false))) rfl) ?_
      refine rl_end ?_
      exact wt_ret1 rfl rfl ⟨_, rfl, h⟩
  clear hJ
  intro j
  refine wl_region wd_wide ?_
  refine rl_q rfl rfl rfl (v_move (v := (Value.int .i64 r3)) rfl) ?_
  refine rl_q rfl rfl rfl (v_move (v := (Value.int .i64 r5)) rfl) ?_
  obtain ⟨hi, h⟩ := h
  refine rl_q rfl rfl rfl (v_add rfl rfl hi) ?_
  refine rl_q rfl rfl rfl (v_move (v := (Value.int .i64 r7)) rfl) ?_
  obtain ⟨hi2, h⟩ := h
  refine rl_q rfl rfl rfl (v_add rfl rfl hi2) ?_
  refine rl_q rfl rfl rfl (v_move (v := (Value.int .i64 r9)) rfl) ?_
  obtain ⟨hi3, h⟩ := h
  refine rl_q rfl rfl rfl (v_add rfl rfl hi3) ?_
  refine rl_q rfl rfl rfl (v_move (v := (Value.int .i64 r11)) rfl) ?_
  obtain ⟨hi4, h⟩ := h
  refine rl_q rfl rfl rfl (v_add rfl rfl hi4) ?_
  refine rl_q rfl rfl rfl (v_neq rfl rfl) ?_
  refine rl_q rfl rfl rfl (v_move (v := (Value.bool (!(decide (((((r3 + r5) + r7) + r9) + r11) = 0))))) rfl) ?_
  by_cases hp3 : ((((r3 + r5) + r7) + r9) + r11) = 0
  · replace h := h.1 hp3
    refine rl_q (wanted_g rfl (yE_of rfl (congrArg Value.bool (congrArg Bool.not (decide_eq_true hp3))))) rfl rfl (v_move (v := (Value.slice Ar2 lr2 cr2)) rfl) ?_
    refine rl_n (wanted_g rfl (yE_of rfl (congrArg Value.bool (congrArg Bool.not (decide_eq_true hp3))))) rfl rfl rfl (n_bslice (l := [(0, (Value.int .i64 0)), (1, (Value.int .i64 0)), (2, (Value.int .i64 1))]) (cells := [(Value.int .i64 0), (Value.int .i64 0), (Value.int .i64 1)]) (bp3 rfl rfl rfl) Try.underlying26 info_3 rfl rfl ?_)
    intro g8 w22 hN8
    replace h := h g8 w22 hN8
    clear hN8
    refine ⟨Stb.none _, ?_⟩
    refine rl_n (wanted_g rfl (yE_of rfl (congrArg Value.bool (congrArg Bool.not (decide_eq_true hp3))))) rfl rfl rfl (n_call0 rfl (am2 rfl rfl) enter_19 (h.mono ?_))
    rintro _ w23 ⟨r14, rfl, h⟩
    refine ⟨_, rfl, Stb.none _, ?_⟩
    refine rl_q (wanted_g rfl (yE_of rfl (congrArg Value.bool (congrArg Bool.not (decide_eq_true hp3))))) rfl rfl (v_not rfl) ?_
    refine rl_q rfl rfl rfl (v_pick_f (v := (Value.bool (!(r14)))) (congrArg Value.bool (congrArg Bool.not (decide_eq_true hp3))) rfl) ?_
    refine rl_q rfl rfl rfl (v_move (v := (Value.bool (!(r14)))) rfl) ?_
    by_cases hp4 : r14 = true
    · replace h := h.1 hp4
      refine rl_q (wanted_g rfl (yE_of rfl (congrArg Value.bool (congrArg Bool.not hp4)))) rfl rfl (v_move (v := (Value.slice Ar3 lr3 cr3)) rfl) ?_
      refine rl_n (wanted_g rfl (yE_of rfl (congrArg Value.bool (congrArg Bool.not hp4)))) rfl rfl rfl (n_bslice (l := [(0, (Value.int .i64 0)), (1, (Value.int .i64 1)), (2, (Value.int .i64 0))]) (cells := [(Value.int .i64 0), (Value.int .i64 1), (Value.int .i64 0)]) (bp3 rfl rfl rfl) Try.underlying30 info_3 rfl rfl ?_)
      intro g9 w24 hN9
      replace h := h g9 w24 hN9
      clear hN9
      refine ⟨Stb.none _, ?_⟩
      refine rl_n (wanted_g rfl (yE_of rfl (congrArg Value.bool (congrArg Bool.not hp4)))) rfl rfl rfl (n_call0 rfl (am2 rfl rfl) enter_20 (h.mono ?_))
      rintro _ w25 ⟨r15, rfl, h⟩
      refine ⟨_, rfl, Stb.none _, ?_⟩
      refine rl_q (wanted_g rfl (yE_of rfl (congrArg Value.bool (congrArg Bool.not hp4)))) rfl rfl (v_not rfl) ?_
      refine rl_q rfl rfl rfl (v_pick_f (v := (Value.bool (!(r15)))) (congrArg Value.bool (congrArg Bool.not hp4)) rfl) ?_
      refine rl_q rfl rfl rfl (v_move (v := (Value.bool (!(r15)))) rfl) ?_
      by_cases hp5 : r15 = true
      · replace h := h.1 hp5
        refine rl_q (wanted_g rfl (yE_of rfl (congrArg Value.bool (congrArg Bool.not hp5)))) rfl rfl (v_move (v := (Value.slice Ar5 lr5 cr5)) rfl) ?_
        refine rl_q (wanted_g rfl (yE_of rfl (congrArg Value.bool (congrArg Bool.not hp5)))) rfl rfl (v_move (v := (Value.slice Ar2 lr2 cr2)) rfl) ?_
        refine rl_n (wanted_g rfl (yE_of rfl (congrArg Value.bool (congrArg Bool.not hp5)))) rfl rfl rfl (n_call0 rfl (am2 rfl rfl) enter_19 (h.mono ?_))
        rintro _ w26 ⟨r16, rfl, h⟩
        refine ⟨_, rfl, Stb.none _, ?_⟩
        refine rl_q (wanted_g rfl (yE_of rfl (congrArg Value.bool (congrArg Bool.not hp5)))) rfl rfl (v_not rfl) ?_
        refine rl_q rfl rfl rfl (v_pick_f (v := (Value.bool (!(r16)))) (congrArg Value.bool (congrArg Bool.not hp5)) rfl) ?_
        refine rl_q rfl rfl rfl (v_move (v := (Value.bool (!(r16)))) rfl) ?_
        by_cases hp6 : r16 = true
        · replace h := h.1 hp6
          refine rl_q (wanted_g rfl (yE_of rfl (congrArg Value.bool (congrArg Bool.not hp6)))) rfl rfl (v_move (v := (Value.slice Ar6 lr6 cr6)) rfl) ?_
          refine rl_n (wanted_g rfl (yE_of rfl (congrArg Value.bool (congrArg Bool.not hp6)))) rfl rfl rfl (n_bslice (l := [(0, (Value.int .i64 0)), (1, (Value.int .i64 (-1))), (2, (Value.int .i64 (-1)))]) (cells := [(Value.int .i64 0), (Value.int .i64 (-1)), (Value.int .i64 (-1))]) (bp3 rfl rfl rfl) Try.underlying30 info_3 rfl rfl ?_)
          intro g10 w27 hN10
          replace h := h g10 w27 hN10
          clear hN10
          refine ⟨Stb.none _, ?_⟩
          refine rl_n (wanted_g rfl (yE_of rfl (congrArg Value.bool (congrArg Bool.not hp6)))) rfl rfl rfl (n_call0 rfl (am2 rfl rfl) enter_20 (h.mono ?_))
          rintro _ w28 ⟨r17, rfl, h⟩
          refine ⟨_, rfl, Stb.none _, ?_⟩
          refine rl_q (wanted_g rfl (yE_of rfl (congrArg Value.bool (congrArg Bool.not hp6)))) rfl rfl (v_not rfl) ?_
          refine rl_q rfl rfl rfl (v_pick_f (v := (Value.bool (!(r17)))) (congrArg Value.bool (congrArg Bool.not hp6)) rfl) ?_
          refine rl_end ?_
          by_cases hp7 : r17 = true
          · replace h := h.1 hp7
            refine wt_cond_f (congrArg Value.bool (congrArg Bool.not hp7)) ?_
            refine wt_skip ?_
            exact j _ _ _ ⟨h, rfl, rfl, rfl, rfl⟩
          · replace h := h.2 hp7
            refine wt_cond_t (congrArg Value.bool (congrArg Bool.not (Bool.eq_false_iff.2 hp7))) ?_
            refine wt_seq ?_
            refine wl_region wd_wide ?_
            refine rl_q rfl rfl rfl (v_assign (v := (Value.bool (false))) rfl) ?_
            refine rl_end ?_
            exact wt_ret1 rfl rfl ⟨_, rfl, h⟩
        · replace h := h.2 hp6
          refine rl_p (wanted_n rfl (yE_of rfl (congrArg Value.bool (congrArg Bool.not (Bool.eq_false_iff.2 hp6)))) rfl) rfl ?_
          refine rl_p (wanted_n rfl (yE_of rfl (congrArg Value.bool (congrArg Bool.not (Bool.eq_false_iff.2 hp6)))) rfl) rfl ?_
          refine rl_p (wanted_n rfl (yE_of rfl (congrArg Value.bool (congrArg Bool.not (Bool.eq_false_iff.2 hp6)))) rfl) rfl ?_
          refine rl_p (wanted_n rfl (yE_of rfl (congrArg Value.bool (congrArg Bool.not (Bool.eq_false_iff.2 hp6)))) rfl) rfl ?_
          refine rl_q rfl rfl rfl (v_pick_t (v := (Value.bool (true))) (congrArg Value.bool (congrArg Bool.not (Bool.eq_false_iff.2 hp6))) rfl) ?_
          refine rl_end ?_
          refine wt_cond_t rfl ?_
          refine wt_seq ?_
          refine wl_region wd_wide ?_
          refine rl_q rfl rfl rfl (v_assign (v := (Value.bool (false))) rfl) ?_
          refine rl_end ?_
          exact wt_ret1 rfl rfl ⟨_, rfl, h⟩
      · replace h := h.2 hp5
        refine rl_p (wanted_n rfl (yE_of rfl (congrArg Value.bool (congrArg Bool.not (Bool.eq_false_iff.2 hp5)))) rfl) rfl ?_
        refine rl_p (wanted_n rfl (yE_of rfl (congrArg Value.bool (congrArg Bool.not (Bool.eq_false_iff.2 hp5)))) rfl) rfl ?_
        refine rl_p (wanted_n rfl (yE_of rfl (congrArg Value.bool (congrArg Bool.not (Bool.eq_false_iff.2 hp5)))) rfl) rfl ?_
        refine rl_p (wanted_n rfl (yE_of rfl (congrArg Value.bool (congrArg Bool.not (Bool.eq_false_iff.2 hp5)))) rfl) rfl ?_
        refine rl_q rfl rfl rfl (v_pick_t (v := (Value.bool (true))) (congrArg Value.bool (congrArg Bool.not (Bool.eq_false_iff.2 hp5))) rfl) ?_
        refine rl_q rfl rfl rfl (v_move (v := (Value.bool (true))) rfl) ?_
        refine rl_p (wanted_n rfl (yE_of rfl rfl) rfl) rfl ?_
        refine rl_p (wanted_n rfl (yE_of rfl rfl) rfl) rfl ?_
        refine rl_p (wanted_n rfl (yE_of rfl rfl) rfl) rfl ?_
        refine rl_p (wanted_n rfl (yE_of rfl rfl) rfl) rfl ?_
        refine rl_q rfl rfl rfl (v_pick_t (v := (Value.bool (true))) rfl rfl) ?_
        refine rl_end ?_
        refine wt_cond_t rfl ?_
        refine wt_seq ?_
        refine wl_region wd_wide ?_
        refine rl_q rfl rfl rfl (v_assign (v := (Value.bool (false))) rfl) ?_
        refine rl_end ?_
        exact wt_ret1 rfl rfl ⟨_, rfl, h⟩
    · replace h := h.2 hp4
      refine rl_p (wanted_n rfl (yE_of rfl (congrArg Value.bool (congrArg Bool.not (Bool.eq_false_iff.2 hp4)))) rfl) rfl ?_
      refine rl_p (wanted_n rfl (yE_of rfl (congrArg Value.bool (congrArg Bool.not (Bool.eq_false_iff.2 hp4)))) rfl) rfl ?_
      refine rl_p (wanted_n rfl (yE_of rfl (congrArg Value.bool (congrArg Bool.not (Bool.eq_false_iff.2 hp4)))) rfl) rfl ?_
      refine rl_p (wanted_n rfl (yE_of rfl (congrArg Value.bool (congrArg Bool.not (Bool.eq_false_iff.2 hp4)))) rfl) rfl ?_
      refine rl_q rfl rfl rfl (v_pick_t (v := (Value.bool (true))) (congrArg Value.bool (congrArg Bool.not (Bool.eq_false_iff.2 hp4))) rfl) ?_
      refine rl_q rfl rfl rfl (v_move (v := (Value.bool (true))) rfl) ?_
      refine rl_p (wanted_n rfl (yE_of rfl rfl) rfl) rfl ?_
      refine rl_p (wanted_n rfl (yE_of rfl rfl) rfl) rfl ?_
      refine rl_p (wanted_n rfl (yE_of rfl rfl) rfl) rfl ?_
      refine rl_p (wanted_n rfl (yE_of rfl rfl) rfl) rfl ?_
      refine rl_q rfl rfl rfl (v_pick_t (v := (Value.bool (true))) rfl rfl) ?_
      refine rl_q rfl rfl rfl (v_move (v := (Value.bool (true))) rfl) ?_
      refine rl_p (wanted_n rfl (yE_of rfl rfl) rfl) rfl ?_
      refine rl_p (wanted_n rfl (yE_of rfl rfl) rfl) rfl ?_
      refine rl_p (wanted_n rfl (yE_of rfl rfl) rfl) rfl ?_
      refine rl_p (wanted_n rfl (yE_of rfl rfl) rfl) rfl ?_
      refine rl_q rfl rfl rfl (v_pick_t (v := (Value.bool (true))) rfl rfl) ?_
      refine rl_end ?_
      refine wt_cond_t rfl ?_
      refine wt_seq ?_
      refine wl_region wd_wide ?_
      refine rl_q rfl rfl rfl (v_assign (v := (Value.bool (false))) rfl) ?_
      refine rl_end ?_
      exact wt_ret1 rfl rfl ⟨_, rfl, h⟩
  · replace h := h.2 hp3
    refine rl_p (wanted_n rfl (yE_of rfl (congrArg Value.bool (congrArg Bool.not (decide_eq_false hp3)))) rfl) rfl ?_
    refine rl_p (wanted_n rfl (yE_of rfl (congrArg Value.bool (congrArg Bool.not (decide_eq_false hp3)))) rfl) rfl ?_
    refine rl_p (wanted_n rfl (yE_of rfl (congrArg Value.bool (congrArg Bool.not (decide_eq_false hp3)))) rfl) rfl ?_
    refine rl_p (wanted_n rfl (yE_of rfl (congrArg Value.bool (congrArg Bool.not (decide_eq_false hp3)))) rfl) rfl ?_
    refine rl_q rfl rfl rfl (v_pick_t (v := (Value.bool (true))) (congrArg Value.bool (congrArg Bool.not (decide_eq_false hp3))) rfl) ?_
    refine rl_q rfl rfl rfl (v_move (v := (Value.bool (true))) rfl) ?_
    refine rl_p (wanted_n rfl (yE_of rfl rfl) rfl) rfl ?_
    refine rl_p (wanted_n rfl (yE_of rfl rfl) rfl) rfl ?_
    refine rl_p (wanted_n rfl (yE_of rfl rfl) rfl) rfl ?_
    refine rl_p (wanted_n rfl (yE_of rfl rfl) rfl) rfl ?_
    refine rl_q rfl rfl rfl (v_pick_t (v := (Value.bool (true))) rfl rfl) ?_
    refine rl_q rfl rfl rfl (v_move (v := (Value.bool (true))) rfl) ?_
    refine rl_p (wanted_n rfl (yE_of rfl rfl) rfl) rfl ?_
    refine rl_p (wanted_n rfl (yE_of rfl rfl) rfl) rfl ?_
    refine rl_p (wanted_n rfl (yE_of rfl rfl) rfl) rfl ?_
    refine rl_p (wanted_n rfl (yE_of rfl rfl) rfl) rfl ?_
    refine rl_q rfl rfl rfl (v_pick_t (v := (Value.bool (true))) rfl rfl) ?_
    refine rl_q rfl rfl rfl (v_move (v := (Value.bool (true))) rfl) ?_
    refine rl_p (wanted_n rfl (yE_of rfl rfl) rfl) rfl ?_
    refine rl_p (wanted_n rfl (yE_of rfl rfl) rfl) rfl ?_
    refine rl_p (wanted_n rfl (yE_of rfl rfl) rfl) rfl ?_
    refine rl_p (wanted_n rfl (yE_of rfl rfl) rfl) rfl ?_
    refine rl_q rfl rfl rfl (v_pick_t (v := (Value.bool (true))) rfl rfl) ?_
    refine rl_end ?_
    refine wt_cond_t rfl ?_
    refine wt_seq ?_
    refine wl_region wd_wide ?_
    refine rl_q rfl rfl rfl (v_assign (v := (Value.bool (false))) rfl) ?_
    refine rl_end ?_
    exact wt_ret1 rfl rfl ⟨_, rfl, h⟩
end Go.Proofs.Ytnhmeckhlajeaaa
