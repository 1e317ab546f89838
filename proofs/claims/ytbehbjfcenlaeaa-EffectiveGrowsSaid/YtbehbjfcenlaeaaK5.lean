/- Texts laid together: PEa, PEb, SpA, Bor, SpB, SpC, SpT, SpE, SpG, L34. -/
import Derived.Test.YtbehbjfcenlaeaaK4
/- Pure forms of functions, made by program (pf.py), each with the proof that the code does so. -/
namespace Go.Proofs.Ytbehbjfcenlaeaa
open Go Go.RowKit Go.Shelf
set_option linter.unusedVariables false
set_option maxRecDepth 100000
set_option maxHeartbeats 1000000
/-- sandpile/effective.given: what it computes. -/
def pf_effective_given (g : Int) (g2 : List (Int × Int × Int)) (d : List Int) (R : Int → Prop) : Prop :=
pf_reduced_IsReduced g g2 0 d (fun (r : Bool) (r2 : Int) =>
R r2)
theorem pok_effective_given {O : Nat → Prop} {w : World} {g : Int} {g2 : List (Int × Int × Int)} {d : List Int} {Ag : Option Addr} {lg : Nat} {cg : Nat} {Ad : Option Addr} {ld : Nat} {cd : Nat} {R : Int → Prop} (h : pf_effective_given g g2 d R) (hO : ∀ k, O k → k < w.heap.size) (a0 : (FP.sl c3 Ag lg cg g2).P O w) (a1 : (FP.sl cI Ad ld cd d).P O w) :
    Calls Try.prog 61 #[(Value.agg #[(Value.int .i64 g), (Value.slice Ag lg cg)]), (Value.slice Ad ld cd)] w fun e w' => ∃ r3 : Int, e = .returned (Value.int .i64 r3) ∧ Sep w no O w' (rl []) ∧ R r3 := by
  unfold pf_effective_given at h; have hS : Sep w no O w (rl [Res.ro (FP.sl c3 Ag lg cg g2), Res.ro (FP.sl cI Ad ld cd d)]) := Sep.startl hO [(FP.sl c3 Ag lg cg g2), (FP.sl cI Ad ld cd d)] ⟨a0, a1, trivial⟩; refine calls_sh (l := [(Value.agg #[(Value.int .i64 g), (Value.slice Ag lg cg)]), (Value.slice Ad ld cd)]) Try.func61 rfl Try.ntmps61 (Nat.le_of_ble_eq_true rfl) ?_; refine wt_seq ?_; refine wl_region wd_wide ?_; refine rl_n rfl rfl rfl rfl (n_box (v := (.agg #[(.int .i64 g), (.slice Ag lg cg)])) rfl ?_); intro g3 w2 hN; replace hS : Sep w no O w2 (stl _ 2 (Res.box 24 g3 [(Value.int .i64 g), (Value.slice Ag lg cg)])) := hS.new 2 rfl hN; clear hN; refine ⟨Stb.none _, ?_⟩; refine rl_q rfl rfl rfl (v_assign (v := (.int .i64 0)) rfl) ?_; refine rl_end ?_; refine wt_seq ?_; refine wl_region wd_wide ?_; refine rl_q rfl rfl rfl (v_loadn (vs := [(.int .i64 g), (.slice Ag lg cg)]) rfl Try.underlying24 rfl info_24 ⟨Row.cell (hS.bx 2 rfl) (i := 0) rfl, Row.cell (hS.bx 2 rfl) (i := 1) rfl, trivial⟩) ?_; refine rl_q rfl rfl rfl (v_move (v := (.slice Ad ld cd)) rfl) ?_; refine rl_n rfl rfl rfl rfl (n_call0 rfl (am3 rfl rfl rfl) enter_68 ((pok_reduced_IsReduced h (no_lt _) (hS.rdr 0 rfl) (hS.rdr 1 rfl)).mono ?_)); rintro _ w3 ⟨r, r2, rfl, hC, h⟩; replace hS := hS.pur hC.pure; clear hC; refine ⟨_, rfl, ?_⟩; refine ⟨Stb.none _, ?_⟩; refine rl_q rfl rfl rfl (v_move (v := (.tuple #[(.bool (r)), (.int .i64 r2)])) rfl) ?_; refine rl_q rfl rfl rfl (v_extract (v := (.bool (r))) rfl rfl) ?_
  refine rl_q rfl rfl rfl (v_extract (v := (.int .i64 r2)) rfl rfl) ?_; refine rl_q rfl rfl rfl (v_assign (v := (.bool (r))) rfl) ?_; refine rl_q rfl rfl rfl (v_assign (v := (.int .i64 r2)) rfl) ?_; refine rl_end ?_; refine wt_seq ?_; refine wl_region wd_wide ?_; refine rl_q rfl rfl rfl (v_move (v := (.int .i64 r2)) rfl) ?_; refine rl_q rfl rfl rfl (v_assign (v := (.int .i64 r2)) rfl) ?_; refine rl_end ?_; exact wt_ret1 rfl rfl ⟨_, rfl, (hS.sel [] (by decide)), h⟩

/-- sandpile/effective.Winnable: what it computes. -/
def pf_effective_Winnable (g : Int) (g2 : List (Int × Int × Int)) (d : List Int) (R : Bool → (List Int) → (List Int) → Int → Prop) : Prop :=
pf_reduced_Reduce g g2 0 d (fun (r : List Int) (r2 : List Int) (r3 : Int) =>
((r3 = 0 →
((0 ≤ (0 : Int) ∧ (0 : Int) < ((r.length : Nat) : Int)) ∧
R (decide (0 ≤ (gi r (0 : Int).toNat))) r r2 0)) ∧
(¬ (r3 = 0) →
R false ([]) ([]) r3)))
theorem pok_effective_Winnable {O : Nat → Prop} {w : World} {g : Int} {g2 : List (Int × Int × Int)} {d : List Int} {Ag : Option Addr} {lg : Nat} {cg : Nat} {Ad : Option Addr} {ld : Nat} {cd : Nat} {R : Bool → (List Int) → (List Int) → Int → Prop} (h : pf_effective_Winnable g g2 d R) (hO : ∀ k, O k → k < w.heap.size) (a0 : (FP.sl c3 Ag lg cg g2).P O w) (a1 : (FP.sl cI Ad ld cd d).P O w) :
    Calls Try.prog 30 #[(Value.agg #[(Value.int .i64 g), (Value.slice Ag lg cg)]), (Value.slice Ad ld cd)] w fun e w' => ∃ r4 : Bool, ∃ r5 : List Int, ∃ r6 : List Int, ∃ r7 : Int, ∃ Ar3 : Option Addr, ∃ lr3 : Nat, ∃ cr3 : Nat, ∃ Ar4 : Option Addr, ∃ lr4 : Nat, ∃ cr4 : Nat, e = .returned (Value.tuple #[(Value.bool (r4)), (Value.slice Ar3 lr3 cr3), (Value.slice Ar4 lr4 cr4), (Value.int .i64 r7)]) ∧ Sep w no O w' (rl [Res.own cI 3 Ar3 lr3 cr3 r5, Res.own cI 3 Ar4 lr4 cr4 r6]) ∧ R r4 r5 r6 r7 := by
  unfold pf_effective_Winnable at h; have hS : Sep w no O w (rl [Res.ro (FP.sl c3 Ag lg cg g2), Res.ro (FP.sl cI Ad ld cd d)]) := Sep.startl hO [(FP.sl c3 Ag lg cg g2), (FP.sl cI Ad ld cd d)] ⟨a0, a1, trivial⟩; refine calls_sh (l := [(Value.agg #[(Value.int .i64 g), (Value.slice Ag lg cg)]), (Value.slice Ad ld cd)]) Try.func30 rfl Try.ntmps30 (Nat.le_of_ble_eq_true rfl) ?_; refine wt_seq ?_; refine wl_region wd_wide ?_; refine rl_n rfl rfl rfl rfl (n_box (v := (.agg #[(.int .i64 g), (.slice Ag lg cg)])) rfl ?_); intro g3 w2 hN; replace hS : Sep w no O w2 (stl _ 2 (Res.box 24 g3 [(Value.int .i64 g), (Value.slice Ag lg cg)])) := hS.new 2 rfl hN; clear hN; refine ⟨Stb.none _, ?_⟩; refine rl_q rfl rfl rfl (v_assign (v := (.bool (false))) rfl) ?_; refine rl_q rfl rfl rfl (v_assign (v := (.slice none 0 0)) rfl) ?_; refine rl_q rfl rfl rfl (v_assign (v := (.slice none 0 0)) rfl) ?_; refine rl_q rfl rfl rfl (v_assign (v := (.int .i64 0)) rfl) ?_; refine rl_end ?_; refine wt_seq ?_; refine wl_region wd_wide ?_; refine rl_q rfl rfl rfl (v_loadn (vs := [(.int .i64 g), (.slice Ag lg cg)]) rfl Try.underlying24 rfl info_24 ⟨Row.cell (hS.bx 2 rfl) (i := 0) rfl, Row.cell (hS.bx 2 rfl) (i := 1) rfl, trivial⟩) ?_; refine rl_q rfl rfl rfl (v_move (v := (.slice Ad ld cd)) rfl) ?_; refine rl_n rfl rfl rfl rfl (n_call0 rfl (am3 rfl rfl rfl) enter_82 ((pok_reduced_Reduce h (no_lt _) (hS.rdr 0 rfl) (hS.rdr 1 rfl)).mono ?_)); rintro _ w3 ⟨r, r2, r3, Ar, lr, cr, Ar2, lr2, cr2, rfl, hC, h⟩
  replace hS := hS.call2 (hC.widen (flatS (flat_own (fI .i64) _ _ _ _ _) (flatS (flat_own (fI .i64) _ _ _ _ _) flat0)) hS.blt) 3 0 4 1 rfl rfl (by decide) (by decide); clear hC; refine ⟨_, rfl, ?_⟩; refine ⟨Stb.none _, ?_⟩; refine rl_q rfl rfl rfl (v_move (v := (.tuple #[(.slice Ar lr cr), (.slice Ar2 lr2 cr2), (.int .i64 r3)])) rfl) ?_; refine rl_q rfl rfl rfl (v_extract (v := (.slice Ar lr cr)) rfl rfl) ?_; refine rl_q rfl rfl rfl (v_extract (v := (.slice Ar2 lr2 cr2)) rfl rfl) ?_; refine rl_q rfl rfl rfl (v_extract (v := (.int .i64 r3)) rfl rfl) ?_; refine rl_q rfl rfl rfl (v_assign (v := (.slice Ar lr cr)) rfl) ?_; refine rl_q rfl rfl rfl (v_assign (v := (.slice Ar2 lr2 cr2)) rfl) ?_; refine rl_q rfl rfl rfl (v_assign (v := (.int .i64 r3)) rfl) ?_; refine rl_end ?_; refine wt_seq ?_; refine wt_seq ?_; refine wl_region wd_wide ?_; refine rl_q rfl rfl rfl (v_move (v := (.int .i64 r3)) rfl) ?_; refine rl_q rfl rfl rfl (v_neq rfl rfl) ?_; refine rl_end ?_; by_cases hp : r3 = 0
  · replace h := h.1 hp; refine wt_cond_f (congrArg Value.bool (congrArg Bool.not (decide_eq_true hp))) ?_; refine wt_skip ?_; refine wt_seq ?_; refine wl_region wd_wide ?_; refine rl_q rfl rfl rfl (v_move (v := (.slice Ar lr cr)) rfl) ?_; obtain ⟨hx, h⟩ := h; refine rl_q rfl rfl rfl (v_iaddr rfl rfl Try.underlying26 info_3 (rd_ix (hS.rdo 3 rfl) hx)) ?_; refine rl_q rfl rfl rfl (v_load (v := (.int .i64 (gi r (0 : Int).toNat))) rfl Try.underlying3 rfl (rd_1 (hS.rdo 3 rfl) hx (fun q => gi_some q) rfl)) ?_; refine rl_q rfl rfl rfl (v_geq rfl rfl) ?_; refine rl_q rfl rfl rfl (v_move (v := (.slice Ar lr cr)) rfl) ?_; refine rl_q rfl rfl rfl (v_move (v := (.slice Ar2 lr2 cr2)) rfl) ?_; refine rl_q rfl rfl rfl (v_assign (v := (.bool (decide (0 ≤ (gi r (0 : Int).toNat))))) rfl) ?_; refine rl_q rfl rfl rfl (v_assign (v := (.slice Ar lr cr)) rfl) ?_; refine rl_q rfl rfl rfl (v_assign (v := (.slice Ar2 lr2 cr2)) rfl) ?_; refine rl_q rfl rfl rfl (v_assign (v := (.int .i64 0)) rfl) ?_; refine rl_end ?_; exact wt_ret4 rfl rfl rfl rfl rfl ⟨_, _, _, _, _, _, _, _, _, _, rfl, (hS.sel [3, 4] (by decide)), h⟩
  · replace h := h.2 hp; refine wt_cond_t (congrArg Value.bool (congrArg Bool.not (decide_eq_false hp))) ?_; refine wt_seq ?_; refine wl_region wd_wide ?_; refine rl_q rfl rfl rfl (v_move (v := (.int .i64 r3)) rfl) ?_; refine rl_q rfl rfl rfl (v_assign (v := (.bool (false))) rfl) ?_; refine rl_q rfl rfl rfl (v_assign (v := (.slice none 0 0)) rfl) ?_; refine rl_q rfl rfl rfl (v_assign (v := (.slice none 0 0)) rfl) ?_; refine rl_q rfl rfl rfl (v_assign (v := (.int .i64 r3)) rfl) ?_; refine rl_end ?_; replace hS := hS.nil 5 rfl cI 3; replace hS := hS.nil 6 rfl cI 3; exact wt_ret4 rfl rfl rfl rfl rfl ⟨_, _, _, _, _, _, _, _, _, _, rfl, (hS.sel [5, 6] (by decide)), h⟩

/-- sandpile/effective.price: what it computes. -/
def pf_effective_price (g : Int) (g2 : List (Int × Int × Int)) (d : List Int) (v : Int) (R : Int → Int → Prop) : Prop :=
pf_reduced_Reduce g g2 v d (fun (r : List Int) (r2 : List Int) (r3 : Int) =>
((r3 = 0 →
((0 ≤ v ∧ v < ((r.length : Nat) : Int)) ∧
(In64 (-(gi r v.toNat)) ∧
R (mxF 0 (-(gi r v.toNat))) 0))) ∧
(¬ (r3 = 0) →
R 0 r3)))
theorem pok_effective_price {O : Nat → Prop} {w : World} {g : Int} {g2 : List (Int × Int × Int)} {d : List Int} {v : Int} {Ag : Option Addr} {lg : Nat} {cg : Nat} {Ad : Option Addr} {ld : Nat} {cd : Nat} {R : Int → Int → Prop} (h : pf_effective_price g g2 d v R) (hO : ∀ k, O k → k < w.heap.size) (a0 : (FP.sl c3 Ag lg cg g2).P O w) (a1 : (FP.sl cI Ad ld cd d).P O w) :
    Calls Try.prog 74 #[(Value.agg #[(Value.int .i64 g), (Value.slice Ag lg cg)]), (Value.slice Ad ld cd), (Value.int .i64 v)] w fun e w' => ∃ r4 : Int, ∃ r5 : Int, e = .returned (Value.tuple #[(Value.int .i64 r4), (Value.int .i64 r5)]) ∧ Sep w no O w' (rl []) ∧ R r4 r5 := by
  unfold pf_effective_price at h; have hS : Sep w no O w (rl [Res.ro (FP.sl c3 Ag lg cg g2), Res.ro (FP.sl cI Ad ld cd d)]) := Sep.startl hO [(FP.sl c3 Ag lg cg g2), (FP.sl cI Ad ld cd d)] ⟨a0, a1, trivial⟩; refine calls_sh (l := [(Value.agg #[(Value.int .i64 g), (Value.slice Ag lg cg)]), (Value.slice Ad ld cd), (Value.int .i64 v)]) Try.func74 rfl Try.ntmps74 (Nat.le_of_ble_eq_true rfl) ?_; refine wt_seq ?_; refine wl_region wd_wide ?_; refine rl_n rfl rfl rfl rfl (n_box (v := (.agg #[(.int .i64 g), (.slice Ag lg cg)])) rfl ?_); intro g3 w2 hN; replace hS : Sep w no O w2 (stl _ 2 (Res.box 24 g3 [(Value.int .i64 g), (Value.slice Ag lg cg)])) := hS.new 2 rfl hN; clear hN; refine ⟨Stb.none _, ?_⟩; refine rl_q rfl rfl rfl (v_assign (v := (.int .i64 0)) rfl) ?_; refine rl_q rfl rfl rfl (v_assign (v := (.int .i64 0)) rfl) ?_; refine rl_end ?_; refine wt_seq ?_; refine wl_region wd_wide ?_; refine rl_q rfl rfl rfl (v_loadn (vs := [(.int .i64 g), (.slice Ag lg cg)]) rfl Try.underlying24 rfl info_24 ⟨Row.cell (hS.bx 2 rfl) (i := 0) rfl, Row.cell (hS.bx 2 rfl) (i := 1) rfl, trivial⟩) ?_; refine rl_q rfl rfl rfl (v_move (v := (.int .i64 v)) rfl) ?_; refine rl_q rfl rfl rfl (v_move (v := (.slice Ad ld cd)) rfl) ?_; refine rl_n rfl rfl rfl rfl (n_call0 rfl (am3 rfl rfl rfl) enter_82 ((pok_reduced_Reduce h (no_lt _) (hS.rdr 0 rfl) (hS.rdr 1 rfl)).mono ?_)); rintro _ w3 ⟨r, r2, r3, Ar, lr, cr, Ar2, lr2, cr2, rfl, hC, h⟩
  replace hS := hS.call2 (hC.widen (flatS (flat_own (fI .i64) _ _ _ _ _) (flatS (flat_own (fI .i64) _ _ _ _ _) flat0)) hS.blt) 3 0 4 1 rfl rfl (by decide) (by decide); clear hC; refine ⟨_, rfl, ?_⟩; refine ⟨Stb.none _, ?_⟩; refine rl_q rfl rfl rfl (v_move (v := (.tuple #[(.slice Ar lr cr), (.slice Ar2 lr2 cr2), (.int .i64 r3)])) rfl) ?_; refine rl_q rfl rfl rfl (v_extract (v := (.slice Ar lr cr)) rfl rfl) ?_; refine rl_q rfl rfl rfl (v_extract (v := (.slice Ar2 lr2 cr2)) rfl rfl) ?_; refine rl_q rfl rfl rfl (v_extract (v := (.int .i64 r3)) rfl rfl) ?_; refine rl_q rfl rfl rfl (v_assign (v := (.slice Ar lr cr)) rfl) ?_; refine rl_q rfl rfl rfl (v_assign (v := (.slice Ar2 lr2 cr2)) rfl) ?_; refine rl_q rfl rfl rfl (v_assign (v := (.int .i64 r3)) rfl) ?_; refine rl_end ?_; refine wt_seq ?_; refine wt_seq ?_; refine wl_region wd_wide ?_; refine rl_q rfl rfl rfl (v_move (v := (.int .i64 r3)) rfl) ?_; refine rl_q rfl rfl rfl (v_neq rfl rfl) ?_; refine rl_end ?_; by_cases hp : r3 = 0
  · replace h := h.1 hp; refine wt_cond_f (congrArg Value.bool (congrArg Bool.not (decide_eq_true hp))) ?_; refine wt_skip ?_; refine wt_seq ?_; refine wl_region wd_wide ?_; refine rl_q rfl rfl rfl (v_move (v := (.slice Ar lr cr)) rfl) ?_; refine rl_q rfl rfl rfl (v_move (v := (.int .i64 v)) rfl) ?_; obtain ⟨hx, h⟩ := h; refine rl_q rfl rfl rfl (v_iaddr rfl rfl Try.underlying26 info_3 (rd_ix (hS.rdo 3 rfl) hx)) ?_; refine rl_q rfl rfl rfl (v_load (v := (.int .i64 (gi r v.toNat))) rfl Try.underlying3 rfl (rd_1 (hS.rdo 3 rfl) hx (fun q => gi_some q) rfl)) ?_; obtain ⟨hi, h⟩ := h; refine rl_q rfl rfl rfl (v_neg rfl hi) ?_; refine rl_q rfl rfl rfl (v_max2 rfl rfl) ?_; refine rl_q rfl rfl rfl (v_assign (v := (.int .i64 (mxF 0 (-(gi r v.toNat))))) rfl) ?_; refine rl_q rfl rfl rfl (v_assign (v := (.int .i64 0)) rfl) ?_; refine rl_end ?_; exact wt_ret2 rfl rfl rfl ⟨_, _, rfl, (hS.sel [] (by decide)), h⟩
  · replace h := h.2 hp; refine wt_cond_t (congrArg Value.bool (congrArg Bool.not (decide_eq_false hp))) ?_; refine wt_seq ?_; refine wl_region wd_wide ?_; refine rl_q rfl rfl rfl (v_move (v := (.int .i64 r3)) rfl) ?_; refine rl_q rfl rfl rfl (v_assign (v := (.int .i64 0)) rfl) ?_; refine rl_q rfl rfl rfl (v_assign (v := (.int .i64 r3)) rfl) ?_; refine rl_end ?_; exact wt_ret2 rfl rfl rfl ⟨_, _, rfl, (hS.sel [] (by decide)), h⟩

/-- sandpile/effective.prices: what it computes. -/
def pf_effective_prices (g : Int) (g2 : List (Int × Int × Int)) (d : List Int) (R : Prop) : Prop :=
R
theorem pok_effective_prices {O : Nat → Prop} {w : World} {g : Int} {g2 : List (Int × Int × Int)} {d : List Int} {Ag : Option Addr} {lg : Nat} {cg : Nat} {Ad : Option Addr} {ld : Nat} {cd : Nat} {R : Prop} (h : pf_effective_prices g g2 d R) (hO : ∀ k, O k → k < w.heap.size) (a0 : (FP.sl c3 Ag lg cg g2).P O w) (a1 : (FP.sl cI Ad ld cd d).P O w) :
    Calls Try.prog 78 #[(Value.agg #[(Value.int .i64 g), (Value.slice Ag lg cg)]), (Value.slice Ad ld cd)] w fun e w' => ∃ gr : Nat, ∃ gr2 : Nat, e = .returned (Value.func (Fn.func 126) #[] #[(Value.pointer (some (⟨gr, 0, none⟩ : Addr))), (Value.pointer (some (⟨gr2, 0, none⟩ : Addr)))]) ∧ Sep w no O w' (rl [Res.box 24 gr [(Value.int .i64 g), (Value.slice Ag lg cg)], Res.box 26 gr2 [(Value.slice Ad ld cd)]]) ∧ R := by
  unfold pf_effective_prices at h; have hS : Sep w no O w (rl [Res.ro (FP.sl c3 Ag lg cg g2), Res.ro (FP.sl cI Ad ld cd d)]) := Sep.startl hO [(FP.sl c3 Ag lg cg g2), (FP.sl cI Ad ld cd d)] ⟨a0, a1, trivial⟩; refine calls_sh (l := [(Value.agg #[(Value.int .i64 g), (Value.slice Ag lg cg)]), (Value.slice Ad ld cd)]) Try.func78 rfl Try.ntmps78 (Nat.le_of_ble_eq_true rfl) ?_; refine wt_seq ?_; refine wl_region wd_wide ?_; refine rl_n rfl rfl rfl rfl (n_box (v := (.agg #[(.int .i64 g), (.slice Ag lg cg)])) rfl ?_); intro g3 w2 hN; replace hS : Sep w no O w2 (stl _ 2 (Res.box 24 g3 [(Value.int .i64 g), (Value.slice Ag lg cg)])) := hS.new 2 rfl hN; clear hN; refine ⟨Stb.none _, ?_⟩; refine rl_n rfl rfl rfl rfl (n_box (v := (.slice Ad ld cd)) rfl ?_); intro g4 w3 hN; replace hS : Sep w no O w3 (stl _ 3 (Res.box 26 g4 [(Value.slice Ad ld cd)])) := hS.new 3 rfl hN; clear hN; refine ⟨Stb.none _, ?_⟩; refine rl_q rfl rfl rfl (v_assign (v := Value.nilFunc) rfl) ?_; refine rl_end ?_; refine wt_seq ?_; refine wl_region wd_wide ?_; refine rl_q rfl rfl rfl (v_func (am0) (am2 rfl rfl)) ?_; refine rl_q rfl rfl rfl (v_assign (v := (Value.func (Fn.func 126) #[] #[(.pointer (some (⟨g3, 0, none⟩ : Addr))), (.pointer (some (⟨g4, 0, none⟩ : Addr)))])) rfl) ?_; refine rl_end ?_; exact wt_ret1 rfl rfl ⟨_, _, rfl, (hS.sel [2, 3] (by decide)), h⟩

/-- sandpile/effective.Price: what it computes. -/
def pf_effective_Price (g : Int) (g2 : List (Int × Int × Int)) (d : List Int) (v : Int) (R : Int → Int → Prop) : Prop :=
pf_effective_given g g2 d (fun (r : Int) =>
((r = 0 →
(∃ J2 : Prop, (J2 → pf_effective_price g g2 d v (fun (r2 : Int) (r3 : Int) =>
R r2 r3)) ∧
((v < 0 →
R 0 2) ∧
(¬ (v < 0) →
((g ≤ v →
R 0 2) ∧
(¬ (g ≤ v) →
J2)))))) ∧
(¬ (r = 0) →
R 0 r)))
theorem pok_effective_Price {O : Nat → Prop} {w : World} {g : Int} {g2 : List (Int × Int × Int)} {d : List Int} {v : Int} {Ag : Option Addr} {lg : Nat} {cg : Nat} {Ad : Option Addr} {ld : Nat} {cd : Nat} {R : Int → Int → Prop} (h : pf_effective_Price g g2 d v R) (hO : ∀ k, O k → k < w.heap.size) (a0 : (FP.sl c3 Ag lg cg g2).P O w) (a1 : (FP.sl cI Ad ld cd d).P O w) :
    Calls Try.prog 24 #[(Value.agg #[(Value.int .i64 g), (Value.slice Ag lg cg)]), (Value.slice Ad ld cd), (Value.int .i64 v)] w fun e w' => ∃ r4 : Int, ∃ r5 : Int, e = .returned (Value.tuple #[(Value.int .i64 r4), (Value.int .i64 r5)]) ∧ Sep w no O w' (rl []) ∧ R r4 r5 := by
  unfold pf_effective_Price at h; have hS : Sep w no O w (rl [Res.ro (FP.sl c3 Ag lg cg g2), Res.ro (FP.sl cI Ad ld cd d)]) := Sep.startl hO [(FP.sl c3 Ag lg cg g2), (FP.sl cI Ad ld cd d)] ⟨a0, a1, trivial⟩; refine calls_sh (l := [(Value.agg #[(Value.int .i64 g), (Value.slice Ag lg cg)]), (Value.slice Ad ld cd), (Value.int .i64 v)]) Try.func24 rfl Try.ntmps24 (Nat.le_of_ble_eq_true rfl) ?_; refine wt_seq ?_; refine wl_region wd_wide ?_; refine rl_n rfl rfl rfl rfl (n_box (v := (.agg #[(.int .i64 g), (.slice Ag lg cg)])) rfl ?_); intro g3 w2 hN; replace hS : Sep w no O w2 (stl _ 2 (Res.box 24 g3 [(Value.int .i64 g), (Value.slice Ag lg cg)])) := hS.new 2 rfl hN; clear hN; refine ⟨Stb.none _, ?_⟩; refine rl_q rfl rfl rfl (v_assign (v := (.int .i64 0)) rfl) ?_; refine rl_q rfl rfl rfl (v_assign (v := (.int .i64 0)) rfl) ?_; refine rl_end ?_; refine wt_seq ?_; refine wt_seq ?_; refine wl_region wd_wide ?_; refine rl_q rfl rfl rfl (v_loadn (vs := [(.int .i64 g), (.slice Ag lg cg)]) rfl Try.underlying24 rfl info_24 ⟨Row.cell (hS.bx 2 rfl) (i := 0) rfl, Row.cell (hS.bx 2 rfl) (i := 1) rfl, trivial⟩) ?_; refine rl_q rfl rfl rfl (v_move (v := (.slice Ad ld cd)) rfl) ?_; refine rl_n rfl rfl rfl rfl (n_call0 rfl (am2 rfl rfl) enter_61 ((pok_effective_given h (no_lt _) (hS.rdr 0 rfl) (hS.rdr 1 rfl)).mono ?_)); rintro _ w3 ⟨r, rfl, hC, h⟩; replace hS := hS.pur hC.pure; clear hC; refine ⟨_, rfl, ?_⟩; refine ⟨Stb.none _, ?_⟩; refine rl_q rfl rfl rfl (v_assign (v := (.int .i64 r)) rfl) ?_
  refine rl_end ?_; refine wt_seq ?_; refine wl_region wd_wide ?_; refine rl_q rfl rfl rfl (v_move (v := (.int .i64 r)) rfl) ?_; refine rl_q rfl rfl rfl (v_neq rfl rfl) ?_; refine rl_end ?_; by_cases hp : r = 0
  · replace h := h.1 hp; refine wt_cond_f (congrArg Value.bool (congrArg Bool.not (decide_eq_true hp))) ?_; refine wt_skip ?_; refine wt_seq ?_; refine wt_seq ?_; obtain ⟨J2, hJ, h⟩ := h; refine wt_cutT1 (fun E ds w' => J2 ∧ ds = [] ∧ E 1 = (Value.slice Ad ld cd) ∧ E 2 = (Value.int .i64 v) ∧ E 3 = (Value.pointer (some (⟨g3, 0, none⟩ : Addr))) ∧ Sep w no O w' (rl [Res.ro (FP.sl cI Ad ld cd d), Res.box 24 g3 [(Value.int .i64 g), (Value.slice Ag lg cg)], Res.ro (FP.sl c3 Ag lg cg g2)])) ?_ ?_
    · clear h hS; rintro E ds w4 ⟨h, rfl, hE1, hE2, hE3, hS⟩; replace h := hJ h; refine wt_seq ?_; refine wl_region wd_wide ?_; refine rl_q rfl rfl rfl (v_loadn (vs := [(.int .i64 g), (.slice Ag lg cg)]) hE3 Try.underlying24 rfl info_24 ⟨Row.cell (hS.bx 1 rfl) (i := 0) rfl, Row.cell (hS.bx 1 rfl) (i := 1) rfl, trivial⟩) ?_; refine rl_q rfl rfl rfl (v_move (v := (.slice Ad ld cd)) hE1) ?_; refine rl_q rfl rfl rfl (v_move (v := (.int .i64 v)) hE2) ?_; refine rl_n rfl rfl rfl rfl (n_call0 rfl (am3 rfl rfl rfl) enter_74 ((pok_effective_price h (no_lt _) (hS.rdr 2 rfl) (hS.rdr 0 rfl)).mono ?_)); rintro _ w5 ⟨r2, r3, rfl, hC, h⟩; replace hS := hS.pur hC.pure; clear hC; refine ⟨_, rfl, ?_⟩; refine ⟨Stb.none _, ?_⟩; refine rl_q rfl rfl rfl (v_extract (v := (.int .i64 r2)) rfl rfl) ?_; refine rl_q rfl rfl rfl (v_extract (v := (.int .i64 r3)) rfl rfl) ?_; refine rl_q rfl rfl rfl (v_assign (v := (.int .i64 r2)) rfl) ?_; refine rl_q rfl rfl rfl (v_assign (v := (.int .i64 r3)) rfl) ?_; refine rl_end ?_; exact wt_ret2 rfl rfl rfl ⟨_, _, rfl, (hS.sel [] (by decide)), h⟩
    clear hJ; intro j; refine wl_region wd_wide ?_; refine rl_q rfl rfl rfl (v_move (v := (.int .i64 v)) rfl) ?_; refine rl_q rfl rfl rfl (v_lss rfl rfl) ?_; refine rl_q rfl rfl rfl (v_move (v := (.bool (decide (v < 0)))) rfl) ?_; by_cases hp2 : v < 0
    · replace h := h.1 hp2; refine rl_p (wanted_n rfl (yE_of rfl (congrArg Value.bool (decide_eq_true hp2))) rfl) rfl ?_; refine rl_p (wanted_n rfl (yE_of rfl (congrArg Value.bool (decide_eq_true hp2))) rfl) rfl ?_; refine rl_p (wanted_n rfl (yE_of rfl (congrArg Value.bool (decide_eq_true hp2))) rfl) rfl ?_; refine rl_p (wanted_n rfl (yE_of rfl (congrArg Value.bool (decide_eq_true hp2))) rfl) rfl ?_; refine rl_q rfl rfl rfl (v_pick_t (v := (.bool (true))) (congrArg Value.bool (decide_eq_true hp2)) rfl) ?_; refine rl_end ?_; refine wt_cond_t rfl ?_; refine wt_seq ?_; refine wl_region wd_wide ?_; refine rl_q rfl rfl rfl (v_assign (v := (.int .i64 0)) rfl) ?_; refine rl_q rfl rfl rfl (v_assign (v := (.int .i64 2)) rfl) ?_; refine rl_end ?_; exact wt_ret2 rfl rfl rfl ⟨_, _, rfl, (hS.sel [] (by decide)), h⟩
    · replace h := h.2 hp2; refine rl_q (wanted_g rfl (yE_of rfl (congrArg Value.bool (decide_eq_false hp2)))) rfl rfl (v_move (v := (.int .i64 v)) rfl) ?_; refine rl_q (wanted_g rfl (yE_of rfl (congrArg Value.bool (decide_eq_false hp2)))) rfl rfl (v_faddr rfl Try.underlying24 rfl info_3) ?_; refine rl_q (wanted_g rfl (yE_of rfl (congrArg Value.bool (decide_eq_false hp2)))) rfl rfl (v_load rfl Try.underlying3 rfl (Row.cell (hS.bx 2 rfl) (i := 0) rfl)) ?_; refine rl_q (wanted_g rfl (yE_of rfl (congrArg Value.bool (decide_eq_false hp2)))) rfl rfl (v_geq rfl rfl) ?_; refine rl_q rfl rfl rfl (v_pick_f (v := (.bool (decide (g ≤ v)))) (congrArg Value.bool (decide_eq_false hp2)) rfl) ?_; refine rl_end ?_; by_cases hp3 : g ≤ v
      · replace h := h.1 hp3; refine wt_cond_t (congrArg Value.bool (decide_eq_true hp3)) ?_; refine wt_seq ?_; refine wl_region wd_wide ?_; refine rl_q rfl rfl rfl (v_assign (v := (.int .i64 0)) rfl) ?_; refine rl_q rfl rfl rfl (v_assign (v := (.int .i64 2)) rfl) ?_; refine rl_end ?_; exact wt_ret2 rfl rfl rfl ⟨_, _, rfl, (hS.sel [] (by decide)), h⟩
      · replace h := h.2 hp3; refine wt_cond_f (congrArg Value.bool (decide_eq_false hp3)) ?_; refine wt_skip ?_; exact j _ _ _ ⟨h, rfl, rfl, rfl, rfl, (hS.sel [1, 2, 0] (by decide))⟩
  · replace h := h.2 hp; refine wt_cond_t (congrArg Value.bool (congrArg Bool.not (decide_eq_false hp))) ?_; refine wt_seq ?_; refine wl_region wd_wide ?_; refine rl_q rfl rfl rfl (v_move (v := (.int .i64 r)) rfl) ?_; refine rl_q rfl rfl rfl (v_assign (v := (.int .i64 0)) rfl) ?_; refine rl_q rfl rfl rfl (v_assign (v := (.int .i64 r)) rfl) ?_; refine rl_end ?_; exact wt_ret2 rfl rfl rfl ⟨_, _, rfl, (hS.sel [] (by decide)), h⟩

/-- sandpile/effective.prices$1: what it yields. -/
def pf_effective_prices_1 (cap : Int) (cap2 : List (Int × Int × Int)) (cap3 : List Int) (Pr R : List (Int × Int) → Prop) : Prop :=
(∃ I2 : Nat → (List (Int × Int)) → Int → Prop, (∃ m0, I2 m0 ([]) 0) ∧ ∀ (m2 : Nat) (pre2 : List (Int × Int)) (v : Int), I2 m2 pre2 v → 
((v < cap →
pf_effective_price cap cap2 cap3 v (fun (r : Int) (r2 : Int) =>
(Pr (pre2 ++ [(r, r2)]) ∧
(((r2 = 0 →
(In64 (v + 1) ∧
∃ m3, m3 < m2 ∧ I2 m3 (pre2 ++ [(r, r2)]) (v + 1))) ∧
(¬ (r2 = 0) →
R (pre2 ++ [(r, r2)]))) ∧
True)))) ∧
(¬ (v < cap) →
R pre2)))
theorem pok_effective_prices_1 {w : World} {T0 G0 : BS} {cap : Int} {cap2 : List (Int × Int × Int)} {cap3 : List Int} {gc : Nat} {Acap : Option Addr} {lcap : Nat} {ccap : Nat} {gc2 : Nat} {Acap2 : Option Addr} {lcap2 : Nat} {ccap2 : Nat} {Pr R : List (Int × Int) → Prop} (h : pf_effective_prices_1 cap cap2 cap3 Pr R) (hS0 : Sep w G0 T0 w (rl [Res.box 24 gc [(Value.int .i64 cap), (Value.slice Acap lcap ccap)], Res.ro (FP.sl c3 Acap lcap ccap cap2), Res.box 26 gc2 [(Value.slice Acap2 lcap2 ccap2)], Res.ro (FP.sl cI Acap2 lcap2 ccap2 cap3)])) :
    GenSays Try.prog 126 #[(Value.pointer (some (⟨gc, 0, none⟩ : Addr))), (Value.pointer (some (⟨gc2, 0, none⟩ : Addr)))] (fun x : Int × Int => #[(Value.int .i64 x.1), (Value.int .i64 x.2)]) (fun _ => FP.tt) Pr R T0 G0 w := by
  unfold pf_effective_prices_1 at h; intro l J Jx T1 w1 hs hJ hp hT; obtain ⟨G, hJ, hS⟩ := gen_start hS0 hs hJ hp hT; clear hS0 hp hT; refine callsIn_gen (l := [(Value.func (.yield l) #[] #[]), (Value.pointer (some (⟨gc, 0, none⟩ : Addr))), (Value.pointer (some (⟨gc2, 0, none⟩ : Addr)))]) Try.func126 rfl Try.ntmps126 (Nat.le_of_ble_eq_true rfl) rfl ?_; refine wt_seq ?_; refine wl_region wd_wide ?_; refine rl_q rfl rfl rfl (v_faddr rfl Try.underlying24 rfl info_3) ?_; refine rl_q rfl rfl rfl (v_load rfl Try.underlying3 rfl (Row.cell (hS.bx 0 rfl) (i := 0) rfl)) ?_; refine rl_q rfl rfl rfl (v_move (v := (.int .i64 0)) rfl) ?_; refine rl_end ?_; refine wt_block ?_; obtain ⟨I2, ⟨m0, h0⟩, hr⟩ := h; refine wt_loop (fun m E ds w' => ∃ pre2 : List (Int × Int), ∃ v : Int, ∃ T2 : BS, ∃ G2 : BS, ∃ wb2 : World, I2 m pre2 v ∧ ds = [] ∧ E 0 = (Value.func (.yield l) #[] #[]) ∧ E 1 = (Value.pointer (some (⟨gc, 0, none⟩ : Addr))) ∧ E 2 = (Value.pointer (some (⟨gc2, 0, none⟩ : Addr))) ∧ E 8 = (Value.int .i64 cap) ∧ E 9 = (Value.int .i64 v) ∧ J T2 G2 pre2 wb2 ∧ Sep wb2 G2 T2 w' (rl [Res.box 24 gc [(Value.int .i64 cap), (Value.slice Acap lcap ccap)], Res.ro (FP.sl c3 Acap lcap ccap cap2), Res.box 26 gc2 [(Value.slice Acap2 lcap2 ccap2)], Res.ro (FP.sl cI Acap2 lcap2 ccap2 cap3)])) m0 ⟨_, _, _, _, _, h0, rfl, rfl, rfl, rfl, rfl, rfl, hJ, (hS.sel [0, 1, 2, 3] (by decide))⟩ ?_; clear h0 hS hJ; rintro m2 E ds w2 ⟨pre2, v, T2, G2, wb2, h, rfl, hE0, hE1, hE2, hE8, hE9, hJ, hS⟩ again
  replace h := hr m2 pre2 v h; clear hr; refine wt_seq ?_; refine wl_region wd_wide ?_; refine rl_q rfl rfl rfl (v_lss hE9 hE8) ?_; refine rl_end ?_; refine wt_seq ?_; by_cases hp : v < cap
  · replace h := h.1 hp; refine wt_cond_t (congrArg Value.bool (decide_eq_true hp)) ?_; refine wt_skip ?_; refine wt_seq ?_; refine wt_block ?_; refine wt_seq ?_; refine wl_region wd_wide ?_; refine rl_q rfl rfl rfl (v_move (v := (.int .i64 v)) hE9) ?_; refine rl_q rfl rfl rfl (v_assign (v := (.int .i64 v)) rfl) ?_; refine rl_end ?_; refine wt_seq ?_; refine wl_region wd_wide ?_; refine rl_q rfl rfl rfl (v_loadn (vs := [(.int .i64 cap), (.slice Acap lcap ccap)]) hE1 Try.underlying24 rfl info_24 ⟨Row.cell (hS.bx 0 rfl) (i := 0) rfl, Row.cell (hS.bx 0 rfl) (i := 1) rfl, trivial⟩) ?_; refine rl_q rfl rfl rfl (v_load hE2 Try.underlying26 rfl (Row.cell (hS.bx 2 rfl) (i := 0) rfl)) ?_; refine rl_q rfl rfl rfl (v_move (v := (.int .i64 v)) rfl) ?_; refine rl_n rfl rfl rfl rfl (n_call0 rfl (am3 rfl rfl rfl) enter_74 ((pok_effective_price h (no_lt _) (hS.rdr 1 rfl) (hS.rdr 3 rfl)).mono ?_)); rintro _ w3 ⟨r, r2, rfl, hC, h⟩; replace hS := hS.pur hC.pure; clear hC; refine ⟨_, rfl, ?_⟩; refine ⟨Stb.none _, ?_⟩; refine rl_q rfl rfl rfl (v_move (v := (.tuple #[(.int .i64 r), (.int .i64 r2)])) rfl) ?_; refine rl_q rfl rfl rfl (v_extract (v := (.int .i64 r)) rfl rfl) ?_; refine rl_q rfl rfl rfl (v_extract (v := (.int .i64 r2)) rfl rfl) ?_; refine rl_q rfl rfl rfl (v_assign (v := (.int .i64 r)) rfl) ?_; refine rl_q rfl rfl rfl (v_assign (v := (.int .i64 r2)) rfl) ?_; refine rl_end ?_; refine wt_seq ?_; refine wl_region wd_wide ?_
    refine rl_q rfl rfl rfl (v_move (v := (Value.func (.yield l) #[] #[])) hE0) ?_; refine rl_q rfl rfl rfl (v_move (v := (.int .i64 r)) rfl) ?_; refine rl_q rfl rfl rfl (v_move (v := (.int .i64 r2)) rfl) ?_; obtain ⟨hPr, hyes, hno⟩ := h; refine rl_n rfl rfl rfl rfl (n_yield (m := 1) rfl (am2 rfl rfl) (gen_yield (x := (r, r2)) hs hJ hS hPr trivial ?_ ?_))
    · clear hno hJ hS; have h := hyes; clear hyes; intro T3 w4 hJ hS; generalize OwnB _ = G3 at hJ hS; refine ⟨_, rfl, ?_⟩; refine ⟨Stb.none _, ?_⟩; refine rl_q rfl rfl rfl (v_not rfl) ?_; refine rl_q rfl rfl rfl (v_move (v := (.bool (!(true)))) rfl) ?_; refine rl_q (wanted_g rfl (yE_of rfl (congrArg Value.bool (congrArg Bool.not rfl)))) rfl rfl (v_move (v := (.int .i64 r2)) rfl) ?_; refine rl_q (wanted_g rfl (yE_of rfl (congrArg Value.bool (congrArg Bool.not rfl)))) rfl rfl (v_neq rfl rfl) ?_; refine rl_q rfl rfl rfl (v_pick_f (v := (.bool (!(decide (r2 = 0))))) (congrArg Value.bool (congrArg Bool.not rfl)) rfl) ?_; refine rl_end ?_; by_cases hp2 : r2 = 0
      · replace h := h.1 hp2; refine wt_cond_f (congrArg Value.bool (congrArg Bool.not (decide_eq_true hp2))) ?_; refine wt_skip ?_; refine wt_inBlock ?_; refine wl_region wd_wide ?_; obtain ⟨hi, h⟩ := h; refine rl_q rfl rfl rfl (v_add hE9 rfl hi) ?_; refine rl_q rfl rfl rfl (v_move (v := (.int .i64 (v + 1))) rfl) ?_; refine rl_end ?_; obtain ⟨mq, hlt, h⟩ := h; exact again mq _ _ _ ⟨_, _, _, _, _, h, rfl, hE0, hE1, hE2, hE8, rfl, hJ, (hS.sel [0, 1, 2, 3] (by decide))⟩ hlt
      · replace h := h.2 hp2; refine wt_cond_t (congrArg Value.bool (congrArg Bool.not (decide_eq_false hp2))) ?_; exact wt_ret0 rfl ⟨⟨_, rfl⟩, gen_end hs hJ hS h⟩
    · clear hyes hJ hS; have h := hno; clear hno; intro T4 w5 hJ hS; generalize OwnB _ = G4 at hJ hS; refine ⟨_, rfl, ?_⟩; refine ⟨Stb.none _, ?_⟩; refine rl_q rfl rfl rfl (v_not rfl) ?_; refine rl_q rfl rfl rfl (v_move (v := (.bool (!(false)))) rfl) ?_; refine rl_p (wanted_n rfl (yE_of rfl (congrArg Value.bool (congrArg Bool.not rfl))) rfl) rfl ?_; refine rl_p (wanted_n rfl (yE_of rfl (congrArg Value.bool (congrArg Bool.not rfl))) rfl) rfl ?_; refine rl_q rfl rfl rfl (v_pick_t (v := (.bool (true))) (congrArg Value.bool (congrArg Bool.not rfl)) rfl) ?_; refine rl_end ?_; refine wt_cond_t rfl ?_; exact wt_ret0 rfl ⟨⟨_, rfl⟩, gen_endx hs hJ hS⟩
  · replace h := h.2 hp; refine wt_cond_f (congrArg Value.bool (decide_eq_false hp)) ?_; refine wt_exit rfl ?_; exact wt_end0 rfl ⟨⟨_, rfl⟩, gen_end hs hJ hS h⟩

/-- sandpile/effective.Needy: what it computes. -/
def pf_effective_Needy (g : Int) (g2 : List (Int × Int × Int)) (d : List Int) (R : (List Int) → Int → Prop) : Prop :=
pf_effective_Winnable g g2 d (fun (r : Bool) (r2 : List Int) (r3 : List Int) (r4 : Int) =>
((r4 = 0 →
((r = true →
R ([]) 15) ∧
(¬ (r = true) →
pf_effective_prices g g2 d ((∃ Pr Rr : List (Int × Int) → Prop, pf_effective_prices_1 g g2 d Pr Rr ∧
(∃ I2 : List (Int × Int) → (List Int) → Int → Prop, I2 [] ([]) 0 ∧
(∀ (pre : List (Int × Int)) (y : Int) (y2 : Int) (out : List Int) (v : Int), I2 pre out v → Pr (pre ++ [(y, y2)]) →
((y2 = 0 →
((y = 1 →
(out.length + 1 ≤ 1000000000 ∧
(In64 (v + 1) ∧
I2 (pre ++ [(y, y2)]) (out ++ [v]) (v + 1)))) ∧
(¬ (y = 1) →
(In64 (v + 1) ∧
I2 (pre ++ [(y, y2)]) out (v + 1))))) ∧
(¬ (y2 = 0) →
R ([]) y2))) ∧
(∀ (ys : List (Int × Int)) (out : List Int) (v : Int), I2 ys out v → Rr ys →
R out 0))))))) ∧
(¬ (r4 = 0) →
R ([]) r4)))
theorem pok_effective_Needy {O : Nat → Prop} {w : World} {g : Int} {g2 : List (Int × Int × Int)} {d : List Int} {Ag : Option Addr} {lg : Nat} {cg : Nat} {Ad : Option Addr} {ld : Nat} {cd : Nat} {R : (List Int) → Int → Prop} (h : pf_effective_Needy g g2 d R) (hO : ∀ k, O k → k < w.heap.size) (a0 : (FP.sl c3 Ag lg cg g2).P O w) (a1 : (FP.sl cI Ad ld cd d).P O w) :
    Calls Try.prog 26 #[(Value.agg #[(Value.int .i64 g), (Value.slice Ag lg cg)]), (Value.slice Ad ld cd)] w fun e w' => ∃ r9 : List Int, ∃ r10 : Int, ∃ Ar5 : Option Addr, ∃ lr5 : Nat, ∃ cr5 : Nat, e = .returned (Value.tuple #[(Value.slice Ar5 lr5 cr5), (Value.int .i64 r10)]) ∧ Sep w no O w' (rl [Res.own cI 3 Ar5 lr5 cr5 r9]) ∧ R r9 r10 := by
  unfold pf_effective_Needy at h; have hS : Sep w no O w (rl [Res.ro (FP.sl c3 Ag lg cg g2), Res.ro (FP.sl cI Ad ld cd d)]) := Sep.startl hO [(FP.sl c3 Ag lg cg g2), (FP.sl cI Ad ld cd d)] ⟨a0, a1, trivial⟩; refine calls_shm (l := [(Value.agg #[(Value.int .i64 g), (Value.slice Ag lg cg)]), (Value.slice Ad ld cd)]) Try.func26 rfl Try.ntmps26 (Nat.le_of_ble_eq_true rfl) ?_; refine wt_seq ?_; refine wl_region wd_wide ?_; refine rl_n rfl rfl rfl rfl (n_box (v := (.agg #[(.int .i64 g), (.slice Ag lg cg)])) rfl ?_); intro g3 w2 hN; replace hS : Sep w no O w2 (stl _ 2 (Res.box 24 g3 [(Value.int .i64 g), (Value.slice Ag lg cg)])) := hS.new 2 rfl hN; clear hN; refine ⟨Stb.none _, ?_⟩; refine rl_n rfl rfl rfl rfl (n_alloc info_25 ?_); intro g4 w3 hN; replace hS : Sep w no O w3 (stl _ 3 (Res.box 25 g4 [(Value.slice none 0 0)])) := hS.new 3 rfl hN; clear hN; refine ⟨Stb.none _, ?_⟩; refine rl_n rfl rfl rfl rfl (n_alloc info_32 ?_); intro g5 w4 hN; replace hS : Sep w no O w4 (stl _ 4 (Res.box 32 g5 [(Value.int .i64 0)])) := hS.new 4 rfl hN; clear hN; refine ⟨Stb.none _, ?_⟩; refine rl_end ?_; refine wt_seq ?_; refine wl_region wd_wide ?_; refine rl_q rfl rfl rfl (v_loadn (vs := [(.int .i64 g), (.slice Ag lg cg)]) rfl Try.underlying24 rfl info_24 ⟨Row.cell (hS.bx 2 rfl) (i := 0) rfl, Row.cell (hS.bx 2 rfl) (i := 1) rfl, trivial⟩) ?_; refine rl_q rfl rfl rfl (v_move (v := (.slice Ad ld cd)) rfl) ?_
  refine rl_n rfl rfl rfl rfl (n_call0 rfl (am2 rfl rfl) enter_30 ((pok_effective_Winnable h (no_lt _) (hS.rdr 0 rfl) (hS.rdr 1 rfl)).mono ?_)); rintro _ w5 ⟨r, r2, r3, r4, Ar, lr, cr, Ar2, lr2, cr2, rfl, hC, h⟩; replace hS := hS.call2 (hC.widen (flatS (flat_own (fI .i64) _ _ _ _ _) (flatS (flat_own (fI .i64) _ _ _ _ _) flat0)) hS.blt) 5 0 6 1 rfl rfl (by decide) (by decide); clear hC; refine ⟨_, rfl, ?_⟩; refine ⟨Stb.none _, ?_⟩; refine rl_q rfl rfl rfl (v_move (v := (.tuple #[(.bool (r)), (.slice Ar lr cr), (.slice Ar2 lr2 cr2), (.int .i64 r4)])) rfl) ?_; refine rl_q rfl rfl rfl (v_extract (v := (.bool (r))) rfl rfl) ?_; refine rl_q rfl rfl rfl (v_extract (v := (.slice Ar lr cr)) rfl rfl) ?_; refine rl_q rfl rfl rfl (v_extract (v := (.slice Ar2 lr2 cr2)) rfl rfl) ?_; refine rl_q rfl rfl rfl (v_extract (v := (.int .i64 r4)) rfl rfl) ?_; refine rl_q rfl rfl rfl (v_assign (v := (.bool (r))) rfl) ?_; refine rl_q rfl rfl rfl (v_assign (v := (.slice Ar lr cr)) rfl) ?_; refine rl_q rfl rfl rfl (v_assign (v := (.slice Ar2 lr2 cr2)) rfl) ?_; refine rl_q rfl rfl rfl (v_assign (v := (.int .i64 r4)) rfl) ?_; refine rl_end ?_; refine wt_seq ?_; refine wt_block ?_; refine wt_seq ?_; refine wl_region wd_wide ?_; refine rl_q rfl rfl rfl (v_move (v := (.int .i64 r4)) rfl) ?_; refine rl_q rfl rfl rfl (v_neq rfl rfl) ?_; refine rl_q rfl rfl rfl (v_assign (v := (.bool (!(decide (r4 = 0))))) rfl) ?_; refine rl_end ?_; by_cases hp : r4 = 0
  · replace h := h.1 hp; refine wt_cond_f (congrArg Value.bool (congrArg Bool.not (decide_eq_true hp))) ?_; refine wt_seq ?_; refine wl_region wd_wide ?_; refine rl_q rfl rfl rfl (v_move (v := (.bool (r))) rfl) ?_; refine rl_q rfl rfl rfl (v_assign (v := (.bool (r))) rfl) ?_; refine rl_end ?_; by_cases hp2 : r = true
    · replace h := h.1 hp2; refine wt_cond_t (congrArg Value.bool hp2) ?_; refine wt_seq ?_; refine wl_region wd_wide ?_; refine rl_n0 rfl rfl rfl (n_store (v := (.slice none 0 0)) rfl rfl rfl info_25 (hS.bwr 3 rfl (j := 0) rfl) ?_); intro w6 e1; replace hS := hS.bst 3 rfl 0 (Value.slice none 0 0) e1; clear e1; refine ⟨Stb.none _, ?_⟩; refine rl_n0 rfl rfl rfl (n_store (v := (.int .i64 15)) rfl rfl rfl info_32 (hS.bwr 4 rfl (j := 0) rfl) ?_); intro w7 e1; replace hS := hS.bst 4 rfl 0 (Value.int .i64 15) e1; clear e1; refine ⟨Stb.none _, ?_⟩; refine rl_end ?_; replace hS := hS.nil 7 rfl cI 3; exact wt_ret (q_retc2 (rs := []) hS 3 4 rfl rfl [] (by simp) (by decide) (by decide) (by simp) (by simp) rfl rfl rfl Try.underlying25 rfl Try.underlying32 rfl (fun w9 hk => ⟨_, _, _, _, _, rfl, (hS.unmark [] [7] (by decide) (by decide) (by simp) hk), h⟩))
    · replace h := h.2 hp2; refine wt_cond_f (congrArg Value.bool (Bool.eq_false_iff.2 hp2)) ?_; refine wt_skip ?_; refine wt_inBlock ?_; refine wt_seq ?_; refine wl_region wd_wide ?_; refine rl_n rfl rfl rfl rfl (n_alloc info_25 ?_); intro g6 w8 hN; replace hS : Sep w no O w8 (stl _ 7 (Res.box 25 g6 [(Value.slice none 0 0)])) := hS.new 7 rfl hN; clear hN; refine ⟨Stb.none _, ?_⟩; refine rl_end ?_; refine wt_seq ?_; refine wl_region wd_wide ?_; refine rl_n rfl rfl rfl rfl (n_alloc info_3 ?_); intro g7 w9 hN; replace hS : Sep w no O w9 (stl _ 8 (Res.box 3 g7 [(Value.int .i64 0)])) := hS.new 8 rfl hN; clear hN; refine ⟨Stb.none _, ?_⟩; refine rl_n0 rfl rfl rfl (n_store (v := (.int .i64 0)) rfl rfl rfl info_3 (hS.bwr 8 rfl (j := 0) rfl) ?_); intro w10 e1; replace hS := hS.bst 8 rfl 0 (Value.int .i64 0) e1; clear e1; refine ⟨Stb.none _, ?_⟩; refine rl_end ?_; refine wt_seq ?_; refine wt_seq ?_; refine wl_region wd_wide ?_; refine rl_q rfl rfl rfl (v_loadn (vs := [(.int .i64 g), (.slice Ag lg cg)]) rfl Try.underlying24 rfl info_24 ⟨Row.cell (hS.bx 2 rfl) (i := 0) rfl, Row.cell (hS.bx 2 rfl) (i := 1) rfl, trivial⟩) ?_; refine rl_q rfl rfl rfl (v_move (v := (.slice Ad ld cd)) rfl) ?_; refine rl_n rfl rfl rfl rfl (n_call0 rfl (am2 rfl rfl) enter_78 ((pok_effective_prices h hS.blt (hS.ro 0 rfl) (hS.ro 1 rfl)).mono ?_)); rintro _ w11 ⟨gc, gc2, rfl, hC, h⟩; replace hS := hS.call2 hC 9 0 10 1 rfl rfl (by decide) (by decide); clear hC; refine ⟨_, rfl, ?_⟩; refine ⟨Stb.none _, ?_⟩
      refine rl_end ?_; refine wt_block ?_; replace hS := hS.nil 11 rfl cI 3; obtain ⟨Pr, Rr, hgp, I2, h0, hb, h⟩ := h; refine wt_iterS hS [3, 4, 7, 11, 8] [9, 0, 10, 1] (by decide) (by decide) ⟨.inl (by decide), .inr rfl, .inl (by decide), .inr rfl, trivial⟩ rfl enter_126 (val := (fun x : Int × Int => #[(Value.int .i64 x.1), (Value.int .i64 x.2)])) (pass := fun _ => FP.tt) (Pr := Pr) (R := Rr) (fun _ => rfl) rfl (fun pr LL => ∃ out : List Int, ∃ v : Int, ∃ Aout : Option Addr, ∃ lout : Nat, ∃ cout : Nat, I2 pr out v ∧ LL = [Res.box 25 g4 [(Value.slice none 0 0)], Res.box 32 g5 [(Value.int .i64 0)], Res.box 25 g6 [(Value.slice Aout lout cout)], Res.own cI 3 Aout lout cout out, Res.box 3 g7 [(Value.int .i64 v)]]) (fun c ys LL => c = none ∧ ∃ r7 : List Int, ∃ r8 : Int, ∃ Ar4 : Option Addr, ∃ lr4 : Nat, ∃ cr4 : Nat, LL = [Res.box 25 g4 [(Value.slice Ar4 lr4 cr4)], Res.box 32 g5 [(Value.int .i64 r8)], Res.own cI 3 Ar4 lr4 cr4 r7] ∧ R r7 r8) ⟨_, _, _, _, _, h0, rfl⟩ (fun T G hG => pok_effective_prices_1 hgp hG) ?_ ?_ ?_
      · clear h h0 hS hgp; rintro ll rdy busy S O2 pre ⟨y, y2⟩ w12 _ ⟨out, v, Aout, lout, cout, hI, rfl⟩ hPr hpass hS; have h := hb pre y y2 out v hI hPr; clear hb hI hPr hpass; refine wt_seq ?_; refine wl_region (wd_round ll) ?_; refine rl_q rfl rfl rfl (v_assign (v := (.int .i64 y)) rfl) ?_; refine rl_end ?_; refine wl_region (wd_round ll) ?_; refine rl_q rfl rfl rfl (v_assign (v := (.int .i64 y2)) rfl) ?_; refine rl_end ?_; refine wt_nil fun a ra => ⟨rfl, _, _, ra, hS, ⟨5, rfl⟩, ?_⟩; intro w14 hw; replace hS := hS.flip 5 rfl busy hw; clear hw ra a; refine wt_block ?_; refine wt_seq ?_; refine wt_seq ?_; refine wl_region (wd_round ll) ?_; refine rl_q rfl rfl rfl (v_move (v := (.int .i64 y2)) rfl) ?_; refine rl_q rfl rfl rfl (v_neq rfl rfl) ?_; refine rl_end ?_; by_cases hp3 : y2 = 0
        · replace h := h.1 hp3; refine wt_cond_f (congrArg Value.bool (congrArg Bool.not (decide_eq_true hp3))) ?_; refine wt_skip ?_; refine wt_seq ?_; refine wt_seq ?_; refine wl_region (wd_round ll) ?_; refine rl_q rfl rfl rfl (v_move (v := (.int .i64 y)) rfl) ?_; refine rl_q rfl rfl rfl (v_eql rfl rfl) ?_; refine rl_end ?_; by_cases hp4 : y = 1
          · replace h := h.1 hp4; refine wt_cond_t (congrArg Value.bool (decide_eq_true hp4)) ?_; refine wl_region (wd_round ll) ?_; refine rl_q rfl rfl rfl (v_load rfl Try.underlying25 rfl (Row.cell (hS.bx 2 rfl) (i := 0) rfl)) ?_; refine rl_q rfl rfl rfl (v_load rfl Try.underlying3 rfl (Row.cell (hS.bx 4 rfl) (i := 0) rfl)) ?_; refine rl_n rfl rfl rfl rfl (n_bslice (l := [(0, (.int .i64 v))]) (cells := [(.int .i64 v)]) (bp1 rfl) Try.underlying25 info_3 rfl rfl ?_); intro g8 w15 hN; replace hS := hS.litf (n := 1) 6 rfl (fI .i64) hN ([v] : List Int) rfl (by decide) rfl; clear hN; refine ⟨Stb.none _, ?_⟩; obtain ⟨hx, h⟩ := h; refine rl_n rfl rfl rfl rfl (n_app (c := cI) rfl rfl Try.underlying25 Try.underlying25 info_3 rfl rfl (by decide) hS 3 rfl (hS.yo 6 rfl) hx ?_); clear hS; intro A c w16 hS; refine ⟨Stb.none _, ?_⟩; refine rl_n0 rfl rfl rfl (n_store (v := (.slice A (lout + 1) c)) rfl rfl rfl info_25 (hS.bwr 2 rfl (j := 0) rfl) ?_); intro w17 e1; replace hS := hS.bst 2 rfl 0 (Value.slice A (lout + 1) c) e1; clear e1; refine ⟨Stb.none _, ?_⟩; refine rl_end ?_; refine wl_region (wd_round ll) ?_; refine rl_q rfl rfl rfl (v_load rfl Try.underlying3 rfl (Row.cell (hS.bx 4 rfl) (i := 0) rfl)) ?_; obtain ⟨hi, h⟩ := h; refine rl_q rfl rfl rfl (v_add rfl rfl hi) ?_; refine rl_n0 rfl rfl rfl (n_store (v := (.int .i64 (v + 1))) rfl rfl rfl info_3 (hS.bwr 4 rfl (j := 0) rfl) ?_); intro w18 e1; replace hS := hS.bst 4 rfl 0 (Value.int .i64 (v + 1)) e1; clear e1; refine ⟨Stb.none _, ?_⟩
            refine rl_end ?_; refine wt_inBlock ?_; exact wt_nil fun a r => ⟨_, ⟨_, _, _, _, _, h, rfl⟩, (hS.sel [0, 1, 2, 3, 4, 5] (by decide))⟩
          · replace h := h.2 hp4; refine wt_cond_f (congrArg Value.bool (decide_eq_false hp4)) ?_; refine wt_skip ?_; refine wl_region (wd_round ll) ?_; refine rl_q rfl rfl rfl (v_load rfl Try.underlying3 rfl (Row.cell (hS.bx 4 rfl) (i := 0) rfl)) ?_; obtain ⟨hi2, h⟩ := h; refine rl_q rfl rfl rfl (v_add rfl rfl hi2) ?_; refine rl_n0 rfl rfl rfl (n_store (v := (.int .i64 (v + 1))) rfl rfl rfl info_3 (hS.bwr 4 rfl (j := 0) rfl) ?_); intro w19 e1; replace hS := hS.bst 4 rfl 0 (Value.int .i64 (v + 1)) e1; clear e1; refine ⟨Stb.none _, ?_⟩; refine rl_end ?_; refine wt_inBlock ?_; exact wt_nil fun a r => ⟨_, ⟨_, _, _, _, _, h, rfl⟩, (hS.sel [0, 1, 2, 3, 4, 5] (by decide))⟩
        · replace h := h.2 hp3; refine wt_cond_t (congrArg Value.bool (congrArg Bool.not (decide_eq_false hp3))) ?_; refine wt_seq ?_; refine wl_region (wd_round ll) ?_; refine rl_q rfl rfl rfl (v_move (v := (.int .i64 y2)) rfl) ?_; refine rl_n0 rfl rfl rfl (n_store (v := (.slice none 0 0)) rfl rfl rfl info_25 (hS.bwr 0 rfl (j := 0) rfl) ?_); intro w20 e1; replace hS := hS.bst 0 rfl 0 (Value.slice none 0 0) e1; clear e1; refine ⟨Stb.none _, ?_⟩; refine rl_n0 rfl rfl rfl (n_store (v := (.int .i64 y2)) rfl rfl rfl info_32 (hS.bwr 1 rfl (j := 0) rfl) ?_); intro w21 e1; replace hS := hS.bst 1 rfl 0 (Value.int .i64 y2) e1; clear e1; refine ⟨Stb.none _, ?_⟩; refine rl_end ?_; replace hS := hS.nil 6 rfl cI 3; exact wt_ret fun a r => ⟨_, ⟨rfl, ([]), y2, none, 0, 0, rfl, h⟩, (hS.sel [0, 1, 6, 5] (by decide))⟩
      · clear hb h0 hS hgp; rintro D ys w13 _ hRr ⟨out, v, Aout, lout, cout, hI, rfl⟩ hS; replace h := h ys out v hI hRr; clear hI hRr; refine wt_inBlock ?_; refine wt_seq ?_; refine wl_region wd_wide ?_; refine rl_q rfl rfl rfl (v_load rfl Try.underlying25 rfl (Row.cell (hS.bx 2 rfl) (i := 0) rfl)) ?_; refine rl_n0 rfl rfl rfl (n_store (v := (.slice Aout lout cout)) rfl rfl rfl info_25 (hS.bwr 0 rfl (j := 0) rfl) ?_); intro w22 e1; replace hS := hS.bst 0 rfl 0 (Value.slice Aout lout cout) e1; clear e1; refine ⟨Stb.none _, ?_⟩; refine rl_n0 rfl rfl rfl (n_store (v := (.int .i64 0)) rfl rfl rfl info_32 (hS.bwr 1 rfl (j := 0) rfl) ?_); intro w23 e1; replace hS := hS.bst 1 rfl 0 (Value.int .i64 0) e1; clear e1; refine ⟨Stb.none _, ?_⟩; refine rl_end ?_; exact wt_ret (q_retc2 (rs := [D]) hS 0 1 rfl rfl [5] (unmark1 5 rfl) (by decide) (by decide) (by simp) (hS.marked 5 rfl) rfl rfl rfl Try.underlying25 rfl Try.underlying32 rfl (fun w9 hk => ⟨_, _, _, _, _, rfl, (hS.unmark [5] [3] (by decide) (by decide) (unmark1 5 rfl) hk), h⟩))
      · clear h hb h0 hS hgp; rintro D2 c ys W9 _ ⟨rfl, r7, r8, Ar4, lr4, cr4, rfl, h⟩ hS; exact q_retc2 (rs := [D2]) hS 0 1 rfl rfl [3] (unmark1 3 rfl) (by decide) (by decide) (by simp) (hS.marked 3 rfl) rfl rfl rfl Try.underlying25 rfl Try.underlying32 rfl (fun w9 hk => ⟨_, _, _, _, _, rfl, (hS.unmark [3] [2] (by decide) (by decide) (unmark1 3 rfl) hk), h⟩)
  · replace h := h.2 hp; refine wt_cond_t (congrArg Value.bool (congrArg Bool.not (decide_eq_false hp))) ?_; refine wt_seq ?_; refine wl_region wd_wide ?_; refine rl_q rfl rfl rfl (v_move (v := (.int .i64 r4)) rfl) ?_; refine rl_n0 rfl rfl rfl (n_store (v := (.slice none 0 0)) rfl rfl rfl info_25 (hS.bwr 3 rfl (j := 0) rfl) ?_); intro w24 e1; replace hS := hS.bst 3 rfl 0 (Value.slice none 0 0) e1; clear e1; refine ⟨Stb.none _, ?_⟩; refine rl_n0 rfl rfl rfl (n_store (v := (.int .i64 r4)) rfl rfl rfl info_32 (hS.bwr 4 rfl (j := 0) rfl) ?_); intro w25 e1; replace hS := hS.bst 4 rfl 0 (Value.int .i64 r4) e1; clear e1; refine ⟨Stb.none _, ?_⟩; refine rl_end ?_; replace hS := hS.nil 7 rfl cI 3; exact wt_ret (q_retc2 (rs := []) hS 3 4 rfl rfl [] (by simp) (by decide) (by decide) (by simp) (by simp) rfl rfl rfl Try.underlying25 rfl Try.underlying32 rfl (fun w9 hk => ⟨_, _, _, _, _, rfl, (hS.unmark [] [7] (by decide) (by decide) (by simp) hk), h⟩))

/-- sandpile/effective.led: what it computes. -/
def pf_effective_led (g : Int) (g2 : List (Int × Int × Int)) (d : List Int) (s : List Int) (R : (List Int) → Prop) : Prop :=
pf_slices_Clone_Divisor d (fun (r : List Int) =>
(∃ I2 : Nat → Int → (List Int) → Prop, (∃ m0, I2 m0 0 r) ∧ ∀ (m2 : Nat) (v : Int) (out : List Int), I2 m2 v out → 
((v < ((g2.length : Nat) : Int) →
((0 ≤ v ∧ v < ((g2.length : Nat) : Int)) ∧
((0 ≤ ((ge g2 v.toNat).1) ∧ ((ge g2 v.toNat).1) < ((s.length : Nat) : Int)) ∧
((0 ≤ ((ge g2 v.toNat).2.1) ∧ ((ge g2 v.toNat).2.1) < ((s.length : Nat) : Int)) ∧
(In64 ((gi s ((ge g2 v.toNat).1).toNat) - (gi s ((ge g2 v.toNat).2.1).toNat)) ∧
(In64 (((ge g2 v.toNat).2.2) * ((gi s ((ge g2 v.toNat).1).toNat) - (gi s ((ge g2 v.toNat).2.1).toNat))) ∧
((0 ≤ ((ge g2 v.toNat).1) ∧ ((ge g2 v.toNat).1) < ((out.length : Nat) : Int)) ∧
(In64 ((gi out ((ge g2 v.toNat).1).toNat) - (((ge g2 v.toNat).2.2) * ((gi s ((ge g2 v.toNat).1).toNat) - (gi s ((ge g2 v.toNat).2.1).toNat)))) ∧
((0 ≤ ((ge g2 v.toNat).2.1) ∧ ((ge g2 v.toNat).2.1) < (((out.set ((ge g2 v.toNat).1).toNat ((gi out ((ge g2 v.toNat).1).toNat) - (((ge g2 v.toNat).2.2) * ((gi s ((ge g2 v.toNat).1).toNat) - (gi s ((ge g2 v.toNat).2.1).toNat))))).length : Nat) : Int)) ∧
(In64 ((gi (out.set ((ge g2 v.toNat).1).toNat ((gi out ((ge g2 v.toNat).1).toNat) - (((ge g2 v.toNat).2.2) * ((gi s ((ge g2 v.toNat).1).toNat) - (gi s ((ge g2 v.toNat).2.1).toNat))))) ((ge g2 v.toNat).2.1).toNat) + (((ge g2 v.toNat).2.2) * ((gi s ((ge g2 v.toNat).1).toNat) - (gi s ((ge g2 v.toNat).2.1).toNat)))) ∧
(In64 (v + 1) ∧
∃ m3, m3 < m2 ∧ I2 m3 (v + 1) ((out.set ((ge g2 v.toNat).1).toNat ((gi out ((ge g2 v.toNat).1).toNat) - (((ge g2 v.toNat).2.2) * ((gi s ((ge g2 v.toNat).1).toNat) - (gi s ((ge g2 v.toNat).2.1).toNat))))).set ((ge g2 v.toNat).2.1).toNat ((gi (out.set ((ge g2 v.toNat).1).toNat ((gi out ((ge g2 v.toNat).1).toNat) - (((ge g2 v.toNat).2.2) * ((gi s ((ge g2 v.toNat).1).toNat) - (gi s ((ge g2 v.toNat).2.1).toNat))))) ((ge g2 v.toNat).2.1).toNat) + (((ge g2 v.toNat).2.2) * ((gi s ((ge g2 v.toNat).1).toNat) - (gi s ((ge g2 v.toNat).2.1).toNat)))))))))))))))) ∧
(¬ (v < ((g2.length : Nat) : Int)) →
R out))))
theorem pok_effective_led {O : Nat → Prop} {w : World} {g : Int} {g2 : List (Int × Int × Int)} {d : List Int} {s : List Int} {Ag : Option Addr} {lg : Nat} {cg : Nat} {Ad : Option Addr} {ld : Nat} {cd : Nat} {As : Option Addr} {ls : Nat} {cs : Nat} {R : (List Int) → Prop} (h : pf_effective_led g g2 d s R) (hO : ∀ k, O k → k < w.heap.size) (a0 : (FP.sl c3 Ag lg cg g2).P O w) (a1 : (FP.sl cI Ad ld cd d).P O w) (a2 : (FP.sl cI As ls cs s).P O w) :
    Calls Try.prog 114 #[(Value.agg #[(Value.int .i64 g), (Value.slice Ag lg cg)]), (Value.slice Ad ld cd), (Value.slice As ls cs)] w fun e w' => ∃ r2 : List Int, ∃ Ar2 : Option Addr, ∃ lr2 : Nat, ∃ cr2 : Nat, e = .returned (Value.slice Ar2 lr2 cr2) ∧ Sep w no O w' (rl [Res.own cI 3 Ar2 lr2 cr2 r2]) ∧ R r2 := by
  unfold pf_effective_led at h; have hS : Sep w no O w (rl [Res.ro (FP.sl c3 Ag lg cg g2), Res.ro (FP.sl cI Ad ld cd d), Res.ro (FP.sl cI As ls cs s)]) := Sep.startl hO [(FP.sl c3 Ag lg cg g2), (FP.sl cI Ad ld cd d), (FP.sl cI As ls cs s)] ⟨a0, a1, a2, trivial⟩; refine calls_sh (l := [(Value.agg #[(Value.int .i64 g), (Value.slice Ag lg cg)]), (Value.slice Ad ld cd), (Value.slice As ls cs)]) Try.func114 rfl Try.ntmps114 (Nat.le_of_ble_eq_true rfl) ?_; refine wt_seq ?_; refine wl_region wd_wide ?_; refine rl_n rfl rfl rfl rfl (n_box (v := (.agg #[(.int .i64 g), (.slice Ag lg cg)])) rfl ?_); intro g3 w2 hN; replace hS : Sep w no O w2 (stl _ 3 (Res.box 24 g3 [(Value.int .i64 g), (Value.slice Ag lg cg)])) := hS.new 3 rfl hN; clear hN; refine ⟨Stb.none _, ?_⟩; refine rl_q rfl rfl rfl (v_assign (v := (.slice none 0 0)) rfl) ?_; refine rl_end ?_; refine wt_seq ?_; refine wl_region wd_wide ?_; refine rl_q rfl rfl rfl (v_move (v := (.slice Ad ld cd)) rfl) ?_; refine rl_n rfl rfl rfl rfl (n_call0 rfl (am1 rfl) enter_31 ((pok_slices_Clone_Divisor h (no_lt _) (hS.rdr 1 rfl)).mono ?_)); rintro _ w3 ⟨r, Ar, lr, cr, rfl, hC, h⟩; replace hS := hS.call1 (hC.widen (flatS (flat_own (fI .i64) _ _ _ _ _) flat0) hS.blt) 4 0 rfl; clear hC; refine ⟨_, rfl, ?_⟩; refine ⟨Stb.none _, ?_⟩; refine rl_q rfl rfl rfl (v_assign (v := (.slice Ar lr cr)) rfl) ?_; refine rl_end ?_; refine wt_seq ?_; refine wt_seq ?_; refine wl_region wd_wide ?_
  refine rl_q rfl rfl rfl (v_faddr rfl Try.underlying24 rfl info_22) ?_; refine rl_q rfl rfl rfl (v_load rfl Try.underlying22 rfl (Row.cell (hS.bx 3 rfl) (i := 1) rfl)) ?_; refine rl_q rfl rfl rfl (v_lenx (n := g2.length) rfl Try.underlying22 (rd_len (hS.rdr 0 rfl))) ?_; refine rl_q rfl rfl rfl (v_move (v := (.int .i64 0)) rfl) ?_; refine rl_end ?_; refine wt_block ?_; obtain ⟨I2, ⟨m0, h0⟩, hr⟩ := h; refine wt_loop (fun m E ds w' => ∃ v : Int, ∃ out : List Int, ∃ Aout : Option Addr, ∃ lout : Nat, ∃ cout : Nat, I2 m v out ∧ ds = [] ∧ E 2 = (Value.slice As ls cs) ∧ E 7 = (Value.slice Aout lout cout) ∧ E 14 = (Value.slice Ag lg cg) ∧ E 15 = (Value.int .i64 ((g2.length : Nat) : Int)) ∧ E 16 = (Value.int .i64 v) ∧ Sep w no O w' (rl [Res.ro (FP.sl cI As ls cs s), Res.own cI 3 Aout lout cout out, Res.ro (FP.sl c3 Ag lg cg g2)])) m0 ⟨_, _, _, _, _, h0, rfl, rfl, rfl, rfl, rfl, rfl, (hS.sel [2, 4, 0] (by decide))⟩ ?_; clear h0 hS; rintro m2 E ds w4 ⟨v, out, Aout, lout, cout, h, rfl, hE2, hE7, hE14, hE15, hE16, hS⟩ again; replace h := hr m2 v out h; clear hr; refine wt_seq ?_; refine wl_region wd_wide ?_; refine rl_q rfl rfl rfl (v_lss hE16 hE15) ?_; refine rl_end ?_; refine wt_seq ?_; by_cases hp : v < ((g2.length : Nat) : Int)
  · replace h := h.1 hp; refine wt_cond_t (congrArg Value.bool (decide_eq_true hp)) ?_; refine wt_skip ?_; refine wt_seq ?_; refine wt_block ?_; refine wt_seq ?_; refine wl_region wd_wide ?_; obtain ⟨hx, h⟩ := h; refine rl_q rfl rfl rfl (v_iaddr hE14 hE16 Try.underlying22 info_63 (rd_ix (hS.rdr 2 rfl) hx)) ?_; refine rl_q rfl rfl rfl (v_loadn (vs := [(.int .i64 ((ge g2 v.toNat).1)), (.int .i64 ((ge g2 v.toNat).2.1)), (.int .i64 ((ge g2 v.toNat).2.2))]) rfl Try.underlying63 rfl info_63 (rd_fs (hS.rdr 2 rfl) hx (fun q => ge_some q))) ?_; refine rl_n rfl rfl rfl rfl (n_alloc info_63 ?_); intro g4 w5 hN; replace hS : Sep w no O w5 (stl _ 3 (Res.box 63 g4 [(Value.int .i64 0), (Value.int .i64 0), (Value.int .i64 0)])) := hS.new 3 rfl hN; clear hN; refine ⟨Stb.none _, ?_⟩; refine rl_n0 rfl rfl rfl (n_storen (b := g4) (o := 0) (cells := #[(.int .i64 ((ge g2 v.toNat).1)), (.int .i64 ((ge g2 v.toNat).2.1)), (.int .i64 ((ge g2 v.toNat).2.2))]) rfl rfl info_63 rfl rfl (there_row (hS.bx 3 rfl) (Nat.le_of_ble_eq_true rfl)) ?_); intro w6 e1; replace hS := hS.bstn 3 rfl 0 [(Value.int .i64 ((ge g2 v.toNat).1)), (Value.int .i64 ((ge g2 v.toNat).2.1)), (Value.int .i64 ((ge g2 v.toNat).2.2))] e1; clear e1; refine ⟨Stb.none _, ?_⟩; refine rl_end ?_; refine wt_seq ?_; refine wp_draw [0, 1, 2, 3, 4, 5, 6, 7, 8, 9, 10, 11, 12, 13, 14] st0 wd_wide (by kernel_rfl) (by kernel_rfl) ?_; replace hS := hS.drew; refine rp_q rfl rfl rfl (v_faddr rfl Try.underlying63 rfl info_3) ?_
    refine rp_q rfl rfl rfl (v_load rfl Try.underlying3 rfl (Row.cell (hS.bx 3 rfl) (i := 2) rfl)) ?_; refine rp_q rfl rfl rfl (v_move (v := (.slice As ls cs)) hE2) ?_; refine rp_q rfl rfl rfl (v_faddr rfl Try.underlying63 rfl info_3) ?_; refine rp_q rfl rfl rfl (v_load rfl Try.underlying3 rfl (Row.cell (hS.bx 3 rfl) (i := 0) rfl)) ?_; obtain ⟨hx2, h⟩ := h; refine rp_q rfl rfl rfl (v_iaddr rfl rfl Try.underlying27 info_3 (rd_ix (hS.rdr 0 rfl) hx2)) ?_; refine rp_q rfl rfl rfl (v_load (v := (.int .i64 (gi s ((ge g2 v.toNat).1).toNat))) rfl Try.underlying3 rfl (rd_1 (hS.rdr 0 rfl) hx2 (fun q => gi_some q) rfl)) ?_; refine rp_q rfl rfl rfl (v_move (v := (.slice As ls cs)) hE2) ?_; refine rp_q rfl rfl rfl (v_faddr rfl Try.underlying63 rfl info_3) ?_; refine rp_q rfl rfl rfl (v_load rfl Try.underlying3 rfl (Row.cell (hS.bx 3 rfl) (i := 1) rfl)) ?_; obtain ⟨hx3, h⟩ := h; refine rp_q rfl rfl rfl (v_iaddr rfl rfl Try.underlying27 info_3 (rd_ix (hS.rdr 0 rfl) hx3)) ?_; refine rp_q rfl rfl rfl (v_load (v := (.int .i64 (gi s ((ge g2 v.toNat).2.1).toNat))) rfl Try.underlying3 rfl (rd_1 (hS.rdr 0 rfl) hx3 (fun q => gi_some q) rfl)) ?_; obtain ⟨hi, h⟩ := h; refine rp_q rfl rfl rfl (v_sub rfl rfl hi) ?_; obtain ⟨hi2, h⟩ := h; refine rp_q rfl rfl rfl (v_mul rfl rfl hi2) ?_; refine rp_q rfl rfl rfl (v_assign (v := (.int .i64 (((ge g2 v.toNat).2.2) * ((gi s ((ge g2 v.toNat).1).toNat) - (gi s ((ge g2 v.toNat).2.1).toNat))))) rfl) ?_; refine rp_end ?_; refine wt_seq ?_
    refine wl_region wd_wide ?_; refine rl_q rfl rfl rfl (v_move (v := (.slice Aout lout cout)) hE7) ?_; refine rl_q rfl rfl rfl (v_faddr rfl Try.underlying63 rfl info_3) ?_; refine rl_q rfl rfl rfl (v_load rfl Try.underlying3 rfl (Row.cell (hS.bx 3 rfl) (i := 0) rfl)) ?_; obtain ⟨hx4, h⟩ := h; refine rl_q rfl rfl rfl (v_iaddr rfl rfl Try.underlying26 info_3 (rd_ix (hS.rdo 1 rfl) hx4)) ?_; refine rl_q rfl rfl rfl (v_load (v := (.int .i64 (gi out ((ge g2 v.toNat).1).toNat))) rfl Try.underlying3 rfl (rd_1 (hS.rdo 1 rfl) hx4 (fun q => gi_some q) rfl)) ?_; refine rl_q rfl rfl rfl (v_move (v := (.int .i64 (((ge g2 v.toNat).2.2) * ((gi s ((ge g2 v.toNat).1).toNat) - (gi s ((ge g2 v.toNat).2.1).toNat))))) rfl) ?_; obtain ⟨hi3, h⟩ := h; refine rl_q rfl rfl rfl (v_sub rfl rfl hi3) ?_; refine rl_q rfl rfl rfl (v_iaddr rfl rfl Try.underlying26 info_3 (rd_ix (hS.rdo 1 rfl) hx4)) ?_; refine rl_n0 rfl rfl rfl (n_store (v := (.int .i64 ((gi out ((ge g2 v.toNat).1).toNat) - (((ge g2 v.toNat).2.2) * ((gi s ((ge g2 v.toNat).1).toNat) - (gi s ((ge g2 v.toNat).2.1).toNat)))))) rfl rfl rfl info_3 (hS.wr 1 rfl rfl hx4) ?_); intro w7 e1; replace hS := hS.st 1 rfl rfl hx4 (x := (gi out ((ge g2 v.toNat).1).toNat) - (((ge g2 v.toNat).2.2) * ((gi s ((ge g2 v.toNat).1).toNat) - (gi s ((ge g2 v.toNat).2.1).toNat)))) rfl e1; clear e1; refine ⟨Stb.none _, ?_⟩; refine rl_end ?_; refine wl_region wd_wide ?_; refine rl_q rfl rfl rfl (v_move (v := (.slice Aout lout cout)) hE7) ?_
    refine rl_q rfl rfl rfl (v_faddr rfl Try.underlying63 rfl info_3) ?_; refine rl_q rfl rfl rfl (v_load rfl Try.underlying3 rfl (Row.cell (hS.bx 3 rfl) (i := 1) rfl)) ?_; obtain ⟨hx5, h⟩ := h; refine rl_q rfl rfl rfl (v_iaddr rfl rfl Try.underlying26 info_3 (rd_ix (hS.rdo 1 rfl) hx5)) ?_; refine rl_q rfl rfl rfl (v_load (v := (.int .i64 (gi (out.set ((ge g2 v.toNat).1).toNat ((gi out ((ge g2 v.toNat).1).toNat) - (((ge g2 v.toNat).2.2) * ((gi s ((ge g2 v.toNat).1).toNat) - (gi s ((ge g2 v.toNat).2.1).toNat))))) ((ge g2 v.toNat).2.1).toNat))) rfl Try.underlying3 rfl (rd_1 (hS.rdo 1 rfl) hx5 (fun q => gi_some q) rfl)) ?_; refine rl_q rfl rfl rfl (v_move (v := (.int .i64 (((ge g2 v.toNat).2.2) * ((gi s ((ge g2 v.toNat).1).toNat) - (gi s ((ge g2 v.toNat).2.1).toNat))))) rfl) ?_; obtain ⟨hi4, h⟩ := h; refine rl_q rfl rfl rfl (v_add rfl rfl hi4) ?_; refine rl_q rfl rfl rfl (v_iaddr rfl rfl Try.underlying26 info_3 (rd_ix (hS.rdo 1 rfl) hx5)) ?_; refine rl_n0 rfl rfl rfl (n_store (v := (.int .i64 ((gi (out.set ((ge g2 v.toNat).1).toNat ((gi out ((ge g2 v.toNat).1).toNat) - (((ge g2 v.toNat).2.2) * ((gi s ((ge g2 v.toNat).1).toNat) - (gi s ((ge g2 v.toNat).2.1).toNat))))) ((ge g2 v.toNat).2.1).toNat) + (((ge g2 v.toNat).2.2) * ((gi s ((ge g2 v.toNat).1).toNat) - (gi s ((ge g2 v.toNat).2.1).toNat)))))) rfl rfl rfl info_3 (hS.wr 1 rfl rfl hx5) ?_); intro w8 e1
    replace hS := hS.st 1 rfl rfl hx5 (x := (gi (out.set ((ge g2 v.toNat).1).toNat ((gi out ((ge g2 v.toNat).1).toNat) - (((ge g2 v.toNat).2.2) * ((gi s ((ge g2 v.toNat).1).toNat) - (gi s ((ge g2 v.toNat).2.1).toNat))))) ((ge g2 v.toNat).2.1).toNat) + (((ge g2 v.toNat).2.2) * ((gi s ((ge g2 v.toNat).1).toNat) - (gi s ((ge g2 v.toNat).2.1).toNat)))) rfl e1; clear e1; refine ⟨Stb.none _, ?_⟩; refine rl_end ?_; refine wt_inBlock ?_; refine wl_region wd_wide ?_; obtain ⟨hi5, h⟩ := h; refine rl_q rfl rfl rfl (v_add hE16 rfl hi5) ?_; refine rl_q rfl rfl rfl (v_move (v := (.int .i64 (v + 1))) rfl) ?_; refine rl_end ?_; obtain ⟨mq, hlt, h⟩ := h; exact again mq _ _ _ ⟨_, _, _, _, _, h, rfl, hE2, hE7, hE14, hE15, rfl, (hS.sel [0, 1, 2] (by decide))⟩ hlt
  · replace h := h.2 hp; refine wt_cond_f (congrArg Value.bool (decide_eq_false hp)) ?_; refine wt_exit rfl ?_; refine wt_seq ?_; refine wl_region wd_wide ?_; refine rl_q rfl rfl rfl (v_move (v := (.slice Aout lout cout)) hE7) ?_; refine rl_q rfl rfl rfl (v_assign (v := (.slice Aout lout cout)) rfl) ?_; refine rl_end ?_; exact wt_ret1 rfl rfl ⟨_, _, _, _, rfl, (hS.sel [1] (by decide)), h⟩

/-- (sandpile/effective.proof).check: what it computes. -/
def pf_effective_proof_check (Fp : (List Int) → (Bool → Prop) → Prop) (g : Int) (g2 : List (Int × Int × Int)) (d : List Int) (s : List Int) (R : Int → Prop) : Prop :=
pf_firing_Check g g2 s (fun (r : Int) =>
((r = 0 →
pf_effective_led g g2 d s (fun (r2 : List Int) =>
Fp r2 (fun (r3 : Bool) =>
((r3 = true →
R 0) ∧
(¬ (r3 = true) →
R 16))))) ∧
(¬ (r = 0) →
R r)))
theorem pok_effective_proof_check {O : Nat → Prop} {w : World} {Fp : (List Int) → (Bool → Prop) → Prop} {g : Int} {g2 : List (Int × Int × Int)} {d : List Int} {s : List Int} {p : Value} {Ag : Option Addr} {lg : Nat} {cg : Nat} {Ad : Option Addr} {ld : Nat} {cd : Nat} {As : Option Addr} {ls : Nat} {cs : Nat} {R : Int → Prop} (h : pf_effective_proof_check Fp g g2 d s R) (hO : ∀ k, O k → k < w.heap.size) (a0 : (FP.st fun w' => ∃ (fid : Nat) (us : Array Value), p = Value.func (.func fid) #[] us ∧ Enters Try.prog fid ∧ ∀ (x0 : List Int) (Ax0 : Option Addr) (lx0 : Nat) (cx0 : Nat) (R : Bool → Prop), Fp x0 R → (FP.sl cI Ax0 lx0 cx0 x0).P no w' → Calls Try.prog fid (#[(Value.slice Ax0 lx0 cx0)] ++ us) w' fun e w'' => ∃ r0 : Bool, e = .returned (Value.bool (r0)) ∧ Sep w' no no w'' (rl []) ∧ R r0).P O w) (a1 : (FP.sl c3 Ag lg cg g2).P O w) (a2 : (FP.sl cI Ad ld cd d).P O w) (a3 : (FP.sl cI As ls cs s).P O w) :
    Calls Try.prog 63 #[(Value.agg #[p]), (Value.agg #[(Value.int .i64 g), (Value.slice Ag lg cg)]), (Value.slice Ad ld cd), (Value.slice As ls cs)] w fun e w' => ∃ r4 : Int, e = .returned (Value.int .i64 r4) ∧ Sep w no O w' (rl []) ∧ R r4 := by
  unfold pf_effective_proof_check at h; have hS : Sep w no O w (rl [Res.ro (FP.st fun w' => ∃ (fid : Nat) (us : Array Value), p = Value.func (.func fid) #[] us ∧ Enters Try.prog fid ∧ ∀ (x0 : List Int) (Ax0 : Option Addr) (lx0 : Nat) (cx0 : Nat) (R : Bool → Prop), Fp x0 R → (FP.sl cI Ax0 lx0 cx0 x0).P no w' → Calls Try.prog fid (#[(Value.slice Ax0 lx0 cx0)] ++ us) w' fun e w'' => ∃ r0 : Bool, e = .returned (Value.bool (r0)) ∧ Sep w' no no w'' (rl []) ∧ R r0), Res.ro (FP.sl c3 Ag lg cg g2), Res.ro (FP.sl cI Ad ld cd d), Res.ro (FP.sl cI As ls cs s)]) := Sep.startl hO [(FP.st fun w' => ∃ (fid : Nat) (us : Array Value), p = Value.func (.func fid) #[] us ∧ Enters Try.prog fid ∧ ∀ (x0 : List Int) (Ax0 : Option Addr) (lx0 : Nat) (cx0 : Nat) (R : Bool → Prop), Fp x0 R → (FP.sl cI Ax0 lx0 cx0 x0).P no w' → Calls Try.prog fid (#[(Value.slice Ax0 lx0 cx0)] ++ us) w' fun e w'' => ∃ r0 : Bool, e = .returned (Value.bool (r0)) ∧ Sep w' no no w'' (rl []) ∧ R r0), (FP.sl c3 Ag lg cg g2), (FP.sl cI Ad ld cd d), (FP.sl cI As ls cs s)] ⟨a0, a1, a2, a3, trivial⟩; refine calls_sh (l := [(Value.agg #[p]), (Value.agg #[(Value.int .i64 g), (Value.slice Ag lg cg)]), (Value.slice Ad ld cd), (Value.slice As ls cs)]) Try.func63 rfl Try.ntmps63 (Nat.le_of_ble_eq_true rfl) ?_; refine wt_seq ?_; refine wl_region wd_wide ?_; refine rl_n rfl rfl rfl rfl (n_box (v := (.agg #[p])) rfl ?_); intro g3 w2 hN; replace hS : Sep w no O w2 (stl _ 4 (Res.box 98 g3 [p])) := hS.new 4 rfl hN; clear hN
  refine ⟨Stb.none _, ?_⟩; refine rl_n rfl rfl rfl rfl (n_box (v := (.agg #[(.int .i64 g), (.slice Ag lg cg)])) rfl ?_); intro g4 w3 hN; replace hS : Sep w no O w3 (stl _ 5 (Res.box 24 g4 [(Value.int .i64 g), (Value.slice Ag lg cg)])) := hS.new 5 rfl hN; clear hN; refine ⟨Stb.none _, ?_⟩; refine rl_q rfl rfl rfl (v_assign (v := (.int .i64 0)) rfl) ?_; refine rl_end ?_; refine wt_seq ?_; refine wt_seq ?_; refine wl_region wd_wide ?_; refine rl_q rfl rfl rfl (v_loadn (vs := [(.int .i64 g), (.slice Ag lg cg)]) rfl Try.underlying24 rfl info_24 ⟨Row.cell (hS.bx 5 rfl) (i := 0) rfl, Row.cell (hS.bx 5 rfl) (i := 1) rfl, trivial⟩) ?_; refine rl_q rfl rfl rfl (v_move (v := (.slice As ls cs)) rfl) ?_; refine rl_n rfl rfl rfl rfl (n_call0 rfl (am2 rfl rfl) enter_84 ((pok_firing_Check h (no_lt _) (hS.rdr 1 rfl) (hS.rdr 3 rfl)).mono ?_)); rintro _ w4 ⟨r, rfl, hC, h⟩; replace hS := hS.pur hC.pure; clear hC; refine ⟨_, rfl, ?_⟩; refine ⟨Stb.none _, ?_⟩; refine rl_q rfl rfl rfl (v_assign (v := (.int .i64 r)) rfl) ?_; refine rl_end ?_; refine wt_seq ?_; refine wl_region wd_wide ?_; refine rl_q rfl rfl rfl (v_move (v := (.int .i64 r)) rfl) ?_; refine rl_q rfl rfl rfl (v_neq rfl rfl) ?_; refine rl_end ?_; by_cases hp : r = 0
  · replace h := h.1 hp; refine wt_cond_f (congrArg Value.bool (congrArg Bool.not (decide_eq_true hp))) ?_; refine wt_skip ?_; refine wt_seq ?_; refine wt_seq ?_; refine wp_draw [0, 1, 2, 3, 4, 5, 6, 7] (fun i => match i with | 5 => [0, 1] | _ => []) wd_wide (by kernel_rfl) (by kernel_rfl) ?_; replace hS := hS.drew; refine rp_q rfl rfl rfl (v_faddr rfl Try.underlying98 rfl info_39) ?_; refine rp_q rfl rfl rfl (v_load rfl Try.underlying39 rfl (Row.cell (hS.bx 4 rfl) (i := 0) rfl)) ?_; refine rp_q rfl rfl rfl (v_loadn (vs := [(.int .i64 g), (.slice Ag lg cg)]) rfl Try.underlying24 rfl info_24 ⟨Row.cell (hS.bx 5 rfl) (i := 0) rfl, Row.cell (hS.bx 5 rfl) (i := 1) rfl, trivial⟩) ?_; refine rp_q rfl rfl rfl (v_move (v := (.slice Ad ld cd)) rfl) ?_; refine rp_q rfl rfl rfl (v_move (v := (.slice As ls cs)) rfl) ?_; refine rp_n rfl rfl rfl rfl (n_call0 rfl (am3 rfl rfl rfl) enter_114 ((pok_effective_led h (no_lt _) (hS.rdr 1 rfl) (hS.rdr 2 rfl) (hS.rdr 3 rfl)).mono ?_)); rintro _ w5 ⟨r2, Ar, lr, cr, rfl, hC, h⟩; replace hS := hS.call1 (hC.widen (flatS (flat_own (fI .i64) _ _ _ _ _) flat0) hS.blt) 6 0 rfl; clear hC; refine ⟨_, rfl, ?_⟩; refine ⟨⟨fun hh => Bool.noConfusion (show false = true from hh), ⟨fun hh => Bool.noConfusion (show false = true from hh), ⟨fun hh => Bool.noConfusion (show false = true from hh), ⟨fun _ => (v_load rfl Try.underlying39 rfl (Row.cell (hS.bx 4 rfl) (i := 0) rfl)), ⟨fun _ => (v_faddr rfl Try.underlying98 rfl info_39), trivial⟩⟩⟩⟩⟩, ?_⟩
    obtain ⟨fid, us, hf, he, hcl⟩ := hS.ro 0 rfl _ (Keeps.refl _ _); replace h := hcl _ _ _ _ _ h (hS.rdo 6 rfl); clear hcl; refine rp_n rfl rfl rfl rfl (n_call (hf) (am1 rfl) he (h.mono ?_)); clear hf he; rintro _ w6 ⟨r3, rfl, hC, h⟩; replace hS := hS.pur hC.pure; clear hC; refine ⟨_, rfl, ?_⟩; refine ⟨Stb.none _, ?_⟩; refine rp_q rfl rfl rfl (v_not rfl) ?_; refine rp_end ?_; by_cases hp2 : r3 = true
    · replace h := h.1 hp2; refine wt_cond_f (congrArg Value.bool (congrArg Bool.not hp2)) ?_; refine wt_skip ?_; refine wt_seq ?_; refine wl_region wd_wide ?_; refine rl_q rfl rfl rfl (v_assign (v := (.int .i64 0)) rfl) ?_; refine rl_end ?_; exact wt_ret1 rfl rfl ⟨_, rfl, (hS.sel [] (by decide)), h⟩
    · replace h := h.2 hp2; refine wt_cond_t (congrArg Value.bool (congrArg Bool.not (Bool.eq_false_iff.2 hp2))) ?_; refine wt_seq ?_; refine wl_region wd_wide ?_; refine rl_q rfl rfl rfl (v_assign (v := (.int .i64 16)) rfl) ?_; refine rl_end ?_; exact wt_ret1 rfl rfl ⟨_, rfl, (hS.sel [] (by decide)), h⟩
  · replace h := h.2 hp; refine wt_cond_t (congrArg Value.bool (congrArg Bool.not (decide_eq_false hp))) ?_; refine wt_seq ?_; refine wl_region wd_wide ?_; refine rl_q rfl rfl rfl (v_move (v := (.int .i64 r)) rfl) ?_; refine rl_q rfl rfl rfl (v_assign (v := (.int .i64 r)) rfl) ?_; refine rl_end ?_; exact wt_ret1 rfl rfl ⟨_, rfl, (hS.sel [] (by decide)), h⟩

/-- sandpile/effective.paid: what it computes. -/
def pf_effective_paid_v2 (d : List Int) (R : Bool → Prop) : Prop :=
pf_slices_Min_Divisor d (fun (r : Int) =>
R (decide (0 ≤ r)))
theorem pok_effective_paid_v2 {O : Nat → Prop} {w : World} {d : List Int} {Ad : Option Addr} {ld : Nat} {cd : Nat} {R : Bool → Prop} (h : pf_effective_paid_v2 d R) (hO : ∀ k, O k → k < w.heap.size) (a0 : (FP.sl cI Ad ld cd d).P O w) :
    Calls Try.prog 62 #[(Value.slice Ad ld cd)] w fun e w' => ∃ r2 : Bool, e = .returned (Value.bool (r2)) ∧ Sep w no O w' (rl []) ∧ R r2 := by
  unfold pf_effective_paid_v2 at h; have hS : Sep w no O w (rl [Res.ro (FP.sl cI Ad ld cd d)]) := Sep.startl hO [(FP.sl cI Ad ld cd d)] ⟨a0, trivial⟩; refine calls_sh (l := [(Value.slice Ad ld cd)]) Try.func62 rfl Try.ntmps62 (Nat.le_of_ble_eq_true rfl) ?_; refine wt_seq ?_; refine wl_region wd_wide ?_; refine rl_q rfl rfl rfl (v_assign (v := (.bool (false))) rfl) ?_; refine rl_end ?_; refine wt_seq ?_; refine wl_region wd_wide ?_; refine rl_q rfl rfl rfl (v_move (v := (.slice Ad ld cd)) rfl) ?_; refine rl_n rfl rfl rfl rfl (n_call0 rfl (am1 rfl) enter_105 ((pok_slices_Min_Divisor h (no_lt _) (hS.rdr 0 rfl)).mono ?_)); rintro _ w2 ⟨r, rfl, hC, h⟩; replace hS := hS.pur hC.pure; clear hC; refine ⟨_, rfl, ?_⟩; refine ⟨Stb.none _, ?_⟩; refine rl_q rfl rfl rfl (v_geq rfl rfl) ?_; refine rl_q rfl rfl rfl (v_assign (v := (.bool (decide (0 ≤ r)))) rfl) ?_; refine rl_end ?_; exact wt_ret1 rfl rfl ⟨_, rfl, (hS.sel [] (by decide)), h⟩

/-- sandpile/effective.VerifyWin: what it computes. -/
def pf_effective_VerifyWin (g : Int) (g2 : List (Int × Int × Int)) (d : List Int) (s : List Int) (R : Int → Prop) : Prop :=
pf_effective_given g g2 d (fun (r : Int) =>
((r = 0 →
pf_effective_proof_check (fun x R => pf_effective_paid_v2 x R) g g2 d s (fun (r2 : Int) =>
R r2)) ∧
(¬ (r = 0) →
R r)))
theorem pok_effective_VerifyWin {O : Nat → Prop} {w : World} {g : Int} {g2 : List (Int × Int × Int)} {d : List Int} {s : List Int} {Ag : Option Addr} {lg : Nat} {cg : Nat} {Ad : Option Addr} {ld : Nat} {cd : Nat} {As : Option Addr} {ls : Nat} {cs : Nat} {R : Int → Prop} (h : pf_effective_VerifyWin g g2 d s R) (hO : ∀ k, O k → k < w.heap.size) (a0 : (FP.sl c3 Ag lg cg g2).P O w) (a1 : (FP.sl cI Ad ld cd d).P O w) (a2 : (FP.sl cI As ls cs s).P O w) :
    Calls Try.prog 18 #[(Value.agg #[(Value.int .i64 g), (Value.slice Ag lg cg)]), (Value.slice Ad ld cd), (Value.slice As ls cs)] w fun e w' => ∃ r3 : Int, e = .returned (Value.int .i64 r3) ∧ Sep w no O w' (rl []) ∧ R r3 := by
  unfold pf_effective_VerifyWin at h; have hS : Sep w no O w (rl [Res.ro (FP.sl c3 Ag lg cg g2), Res.ro (FP.sl cI Ad ld cd d), Res.ro (FP.sl cI As ls cs s)]) := Sep.startl hO [(FP.sl c3 Ag lg cg g2), (FP.sl cI Ad ld cd d), (FP.sl cI As ls cs s)] ⟨a0, a1, a2, trivial⟩; refine calls_sh (l := [(Value.agg #[(Value.int .i64 g), (Value.slice Ag lg cg)]), (Value.slice Ad ld cd), (Value.slice As ls cs)]) Try.func18 rfl Try.ntmps18 (Nat.le_of_ble_eq_true rfl) ?_; refine wt_seq ?_; refine wl_region wd_wide ?_; refine rl_n rfl rfl rfl rfl (n_box (v := (.agg #[(.int .i64 g), (.slice Ag lg cg)])) rfl ?_); intro g3 w2 hN; replace hS : Sep w no O w2 (stl _ 3 (Res.box 24 g3 [(Value.int .i64 g), (Value.slice Ag lg cg)])) := hS.new 3 rfl hN; clear hN; refine ⟨Stb.none _, ?_⟩; refine rl_q rfl rfl rfl (v_assign (v := (.int .i64 0)) rfl) ?_; refine rl_end ?_; refine wt_seq ?_; refine wt_seq ?_; refine wl_region wd_wide ?_; refine rl_q rfl rfl rfl (v_loadn (vs := [(.int .i64 g), (.slice Ag lg cg)]) rfl Try.underlying24 rfl info_24 ⟨Row.cell (hS.bx 3 rfl) (i := 0) rfl, Row.cell (hS.bx 3 rfl) (i := 1) rfl, trivial⟩) ?_; refine rl_q rfl rfl rfl (v_move (v := (.slice Ad ld cd)) rfl) ?_; refine rl_n rfl rfl rfl rfl (n_call0 rfl (am2 rfl rfl) enter_61 ((pok_effective_given h (no_lt _) (hS.rdr 0 rfl) (hS.rdr 1 rfl)).mono ?_)); rintro _ w3 ⟨r, rfl, hC, h⟩; replace hS := hS.pur hC.pure; clear hC; refine ⟨_, rfl, ?_⟩; refine ⟨Stb.none _, ?_⟩; refine rl_q rfl rfl rfl (v_assign (v := (.int .i64 r)) rfl) ?_
  refine rl_end ?_; refine wt_seq ?_; refine wl_region wd_wide ?_; refine rl_q rfl rfl rfl (v_move (v := (.int .i64 r)) rfl) ?_; refine rl_q rfl rfl rfl (v_neq rfl rfl) ?_; refine rl_end ?_; by_cases hp : r = 0
  · replace h := h.1 hp; refine wt_cond_f (congrArg Value.bool (congrArg Bool.not (decide_eq_true hp))) ?_; refine wt_skip ?_; refine wt_seq ?_; refine wl_region wd_wide ?_; refine rl_n rfl rfl rfl rfl (n_build (l := [(0, (Value.func (Fn.func 62) #[] #[]))]) (cells := [(Value.func (Fn.func 62) #[] #[])]) (places := [(0, 1)]) (bp1 rfl) Try.underlying98 info_98 (by kernel_rfl) rfl ?_); refine ⟨Stb.none _, ?_⟩; refine rl_q rfl rfl rfl (v_loadn (vs := [(.int .i64 g), (.slice Ag lg cg)]) rfl Try.underlying24 rfl info_24 ⟨Row.cell (hS.bx 3 rfl) (i := 0) rfl, Row.cell (hS.bx 3 rfl) (i := 1) rfl, trivial⟩) ?_; refine rl_q rfl rfl rfl (v_move (v := (.slice Ad ld cd)) rfl) ?_; refine rl_q rfl rfl rfl (v_move (v := (.slice As ls cs)) rfl) ?_; refine rl_n rfl rfl rfl rfl (n_call0 rfl (am4 rfl rfl rfl rfl) enter_63 ((pok_effective_proof_check h (no_lt _) (fun w' hk => ⟨62, #[], rfl, enter_62, fun x Ax lx cx R hF hz0 => cast_calls (by simp) (pok_effective_paid_v2 hF (no_lt _) hz0)⟩) (hS.rdr 0 rfl) (hS.rdr 1 rfl) (hS.rdr 2 rfl)).mono ?_)); rintro _ w4 ⟨r2, rfl, hC, h⟩; replace hS := hS.pur hC.pure; clear hC; refine ⟨_, rfl, ?_⟩; refine ⟨Stb.none _, ?_⟩; refine rl_q rfl rfl rfl (v_assign (v := (.int .i64 r2)) rfl) ?_; refine rl_end ?_; exact wt_ret1 rfl rfl ⟨_, rfl, (hS.sel [] (by decide)), h⟩
  · replace h := h.2 hp; refine wt_cond_t (congrArg Value.bool (congrArg Bool.not (decide_eq_false hp))) ?_; refine wt_seq ?_; refine wl_region wd_wide ?_; refine rl_q rfl rfl rfl (v_move (v := (.int .i64 r)) rfl) ?_; refine rl_q rfl rfl rfl (v_assign (v := (.int .i64 r)) rfl) ?_; refine rl_end ?_; exact wt_ret1 rfl rfl ⟨_, rfl, (hS.sel [] (by decide)), h⟩

/-- sandpile/effective.VerifyLoss$1: what it computes. -/
def pf_effective_VerifyLoss_1_v2 (x : List Int) (cap : Int) (cap2 : Int) (cap3 : List (Int × Int × Int)) (R : Bool → (List Int) → Prop) : Prop :=
((0 ≤ cap ∧ cap < ((x.length : Nat) : Int)) ∧
pf_reduced_IsReduced cap2 cap3 cap (x.set cap.toNat 0) (fun (r : Bool) (r2 : Int) =>
(((gi x cap.toNat) < 0 →
((r = true →
R (decide (r2 = 0)) (x.set cap.toNat 0)) ∧
(¬ (r = true) →
R false (x.set cap.toNat 0)))) ∧
(¬ ((gi x cap.toNat) < 0) →
R false (x.set cap.toNat 0)))))
theorem pok_effective_VerifyLoss_1_v2 {S O : Nat → Prop} {w : World} {x : List Int} {cap : Int} {cap2 : Int} {cap3 : List (Int × Int × Int)} {Ax : Option Addr} {lx : Nat} {cx : Nat} {gc : Nat} {gc2 : Nat} {Acap : Option Addr} {lcap : Nat} {ccap : Nat} {R : Bool → (List Int) → Prop} (h : pf_effective_VerifyLoss_1_v2 x cap cap2 cap3 R) (hS : Sep w S O w (rl [Res.own cI 3 Ax lx cx x, Res.box 3 gc [(Value.int .i64 cap)], Res.box 24 gc2 [(Value.int .i64 cap2), (Value.slice Acap lcap ccap)], Res.ro (FP.sl c3 Acap lcap ccap cap3)])) :
    Calls Try.prog 69 #[(Value.slice Ax lx cx), (Value.pointer (some (⟨gc, 0, none⟩ : Addr))), (Value.pointer (some (⟨gc2, 0, none⟩ : Addr)))] w fun e w' => ∃ r3 : Bool, ∃ z : List Int, ∃ Az : Option Addr, ∃ lz : Nat, ∃ cz : Nat, e = .returned (Value.bool (r3)) ∧ Sep w S O w' (rl [Res.own cI 3 Az lz cz z, Res.box 3 gc [(Value.int .i64 cap)], Res.box 24 gc2 [(Value.int .i64 cap2), (Value.slice Acap lcap ccap)]]) ∧ R r3 z := by
  unfold pf_effective_VerifyLoss_1_v2 at h; refine calls_sh (l := [(Value.slice Ax lx cx), (Value.pointer (some (⟨gc, 0, none⟩ : Addr))), (Value.pointer (some (⟨gc2, 0, none⟩ : Addr)))]) Try.func69 rfl Try.ntmps69 (Nat.le_of_ble_eq_true rfl) ?_; refine wt_seq ?_; refine wl_region wd_wide ?_; refine rl_q rfl rfl rfl (v_assign (v := (.bool (false))) rfl) ?_; refine rl_end ?_; refine wt_seq ?_; refine wl_region wd_wide ?_; refine rl_q rfl rfl rfl (v_move (v := (.slice Ax lx cx)) rfl) ?_; refine rl_q rfl rfl rfl (v_load rfl Try.underlying3 rfl (Row.cell (hS.bx 1 rfl) (i := 0) rfl)) ?_; obtain ⟨hx, h⟩ := h; refine rl_q rfl rfl rfl (v_iaddr rfl rfl Try.underlying26 info_3 (rd_ix (hS.rdo 0 rfl) hx)) ?_; refine rl_q rfl rfl rfl (v_load (v := (.int .i64 (gi x cap.toNat))) rfl Try.underlying3 rfl (rd_1 (hS.rdo 0 rfl) hx (fun q => gi_some q) rfl)) ?_; refine rl_q rfl rfl rfl (v_lss rfl rfl) ?_; refine rl_q rfl rfl rfl (v_assign (v := (.bool (decide ((gi x cap.toNat) < 0)))) rfl) ?_; refine rl_end ?_; refine wt_seq ?_; refine wl_region wd_wide ?_; refine rl_q rfl rfl rfl (v_move (v := (.slice Ax lx cx)) rfl) ?_; refine rl_q rfl rfl rfl (v_load rfl Try.underlying3 rfl (Row.cell (hS.bx 1 rfl) (i := 0) rfl)) ?_; refine rl_q rfl rfl rfl (v_iaddr rfl rfl Try.underlying26 info_3 (rd_ix (hS.rdo 0 rfl) hx)) ?_; refine rl_n0 rfl rfl rfl (n_store (v := (.int .i64 0)) rfl rfl rfl info_3 (hS.wr 0 rfl rfl hx) ?_); intro w2 e1; replace hS := hS.st 0 rfl rfl hx (x := 0) rfl e1; clear e1
  refine ⟨Stb.none _, ?_⟩; refine rl_end ?_; refine wt_seq ?_; refine wl_region wd_wide ?_; refine rl_q rfl rfl rfl (v_loadn (vs := [(.int .i64 cap2), (.slice Acap lcap ccap)]) rfl Try.underlying24 rfl info_24 ⟨Row.cell (hS.bx 2 rfl) (i := 0) rfl, Row.cell (hS.bx 2 rfl) (i := 1) rfl, trivial⟩) ?_; refine rl_q rfl rfl rfl (v_load rfl Try.underlying3 rfl (Row.cell (hS.bx 1 rfl) (i := 0) rfl)) ?_; refine rl_q rfl rfl rfl (v_move (v := (.slice Ax lx cx)) rfl) ?_; refine rl_n rfl rfl rfl rfl (n_call0 rfl (am3 rfl rfl rfl) enter_68 ((pok_reduced_IsReduced h (no_lt _) (hS.rdr 3 rfl) (hS.rdo 0 rfl)).mono ?_)); rintro _ w3 ⟨r, r2, rfl, hC, h⟩; replace hS := hS.pur hC.pure; clear hC; refine ⟨_, rfl, ?_⟩; refine ⟨Stb.none _, ?_⟩; refine rl_q rfl rfl rfl (v_move (v := (.tuple #[(.bool (r)), (.int .i64 r2)])) rfl) ?_; refine rl_q rfl rfl rfl (v_extract (v := (.bool (r))) rfl rfl) ?_; refine rl_q rfl rfl rfl (v_extract (v := (.int .i64 r2)) rfl rfl) ?_; refine rl_q rfl rfl rfl (v_assign (v := (.bool (r))) rfl) ?_; refine rl_q rfl rfl rfl (v_assign (v := (.int .i64 r2)) rfl) ?_; refine rl_end ?_; refine wt_seq ?_; refine wl_region wd_wide ?_; refine rl_q rfl rfl rfl (v_move (v := (.bool (decide ((gi x cap.toNat) < 0)))) rfl) ?_; refine rl_q rfl rfl rfl (v_move (v := (.bool (decide ((gi x cap.toNat) < 0)))) rfl) ?_; by_cases hp : (gi x cap.toNat) < 0
  · replace h := h.1 hp; refine rl_q (wanted_g rfl (yE_of rfl (congrArg Value.bool (decide_eq_true hp)))) rfl rfl (v_move (v := (.bool (r))) rfl) ?_; refine rl_q rfl rfl rfl (v_pick_t (v := (.bool (r))) (congrArg Value.bool (decide_eq_true hp)) rfl) ?_; refine rl_q rfl rfl rfl (v_move (v := (.bool (r))) rfl) ?_; by_cases hp2 : r = true
    · replace h := h.1 hp2; refine rl_q (wanted_g rfl (yE_of rfl (congrArg Value.bool hp2))) rfl rfl (v_move (v := (.int .i64 r2)) rfl) ?_; refine rl_q (wanted_g rfl (yE_of rfl (congrArg Value.bool hp2))) rfl rfl (v_eql rfl rfl) ?_; refine rl_q rfl rfl rfl (v_pick_t (v := (.bool (decide (r2 = 0)))) (congrArg Value.bool hp2) rfl) ?_; refine rl_q rfl rfl rfl (v_assign (v := (.bool (decide (r2 = 0)))) rfl) ?_; refine rl_end ?_; exact wt_ret1 rfl rfl ⟨_, _, _, _, _, rfl, (hS.sel [0, 1, 2] (by decide)), h⟩
    · replace h := h.2 hp2; refine rl_p (wanted_n rfl (yE_of rfl (congrArg Value.bool (Bool.eq_false_iff.2 hp2))) rfl) rfl ?_; refine rl_p (wanted_n rfl (yE_of rfl (congrArg Value.bool (Bool.eq_false_iff.2 hp2))) rfl) rfl ?_; refine rl_q rfl rfl rfl (v_pick_f (v := (.bool (false))) (congrArg Value.bool (Bool.eq_false_iff.2 hp2)) rfl) ?_; refine rl_q rfl rfl rfl (v_assign (v := (.bool (false))) rfl) ?_; refine rl_end ?_; exact wt_ret1 rfl rfl ⟨_, _, _, _, _, rfl, (hS.sel [0, 1, 2] (by decide)), h⟩
  · replace h := h.2 hp; refine rl_p (wanted_n rfl (yE_of rfl (congrArg Value.bool (decide_eq_false hp))) rfl) rfl ?_; refine rl_q rfl rfl rfl (v_pick_f (v := (.bool (false))) (congrArg Value.bool (decide_eq_false hp)) rfl) ?_; refine rl_q rfl rfl rfl (v_move (v := (.bool (false))) rfl) ?_; refine rl_p (wanted_n rfl (yE_of rfl rfl) rfl) rfl ?_; refine rl_p (wanted_n rfl (yE_of rfl rfl) rfl) rfl ?_; refine rl_q rfl rfl rfl (v_pick_f (v := (.bool (false))) rfl rfl) ?_; refine rl_q rfl rfl rfl (v_assign (v := (.bool (false))) rfl) ?_; refine rl_end ?_; exact wt_ret1 rfl rfl ⟨_, _, _, _, _, rfl, (hS.sel [0, 1, 2] (by decide)), h⟩

/-- (sandpile/effective.proof).check: what it computes. -/
def pf_effective_proof_check_v2 (p : Int) (p2 : Int) (p3 : List (Int × Int × Int)) (g : Int) (g2 : List (Int × Int × Int)) (d : List Int) (s : List Int) (R : Int → Prop) : Prop :=
pf_firing_Check g g2 s (fun (r : Int) =>
((r = 0 →
pf_effective_led g g2 d s (fun (r2 : List Int) =>
pf_effective_VerifyLoss_1_v2 r2 p p2 p3 (fun (r3 : Bool) (y : List Int) =>
((r3 = true →
R 0) ∧
(¬ (r3 = true) →
R 16))))) ∧
(¬ (r = 0) →
R r)))
theorem pok_effective_proof_check_v2 {S O : Nat → Prop} {w : World} {p : Int} {p2 : Int} {p3 : List (Int × Int × Int)} {g : Int} {g2 : List (Int × Int × Int)} {d : List Int} {s : List Int} {gc : Nat} {gc2 : Nat} {Ap : Option Addr} {lp : Nat} {cp : Nat} {Ag : Option Addr} {lg : Nat} {cg : Nat} {Ad : Option Addr} {ld : Nat} {cd : Nat} {As : Option Addr} {ls : Nat} {cs : Nat} {R : Int → Prop} (h : pf_effective_proof_check_v2 p p2 p3 g g2 d s R) (hS : Sep w S O w (rl [Res.box 3 gc [(Value.int .i64 p)], Res.box 24 gc2 [(Value.int .i64 p2), (Value.slice Ap lp cp)], Res.ro (FP.sl c3 Ap lp cp p3), Res.ro (FP.sl c3 Ag lg cg g2), Res.ro (FP.sl cI Ad ld cd d), Res.ro (FP.sl cI As ls cs s)])) :
    Calls Try.prog 63 #[(Value.agg #[(Value.func (Fn.func 69) #[] #[(Value.pointer (some (⟨gc, 0, none⟩ : Addr))), (Value.pointer (some (⟨gc2, 0, none⟩ : Addr)))])]), (Value.agg #[(Value.int .i64 g), (Value.slice Ag lg cg)]), (Value.slice Ad ld cd), (Value.slice As ls cs)] w fun e w' => ∃ r4 : Int, e = .returned (Value.int .i64 r4) ∧ Sep w S O w' (rl [Res.box 3 gc [(Value.int .i64 p)], Res.box 24 gc2 [(Value.int .i64 p2), (Value.slice Ap lp cp)]]) ∧ R r4 := by
  unfold pf_effective_proof_check_v2 at h; refine calls_sh (l := [(Value.agg #[(Value.func (Fn.func 69) #[] #[(Value.pointer (some (⟨gc, 0, none⟩ : Addr))), (Value.pointer (some (⟨gc2, 0, none⟩ : Addr)))])]), (Value.agg #[(Value.int .i64 g), (Value.slice Ag lg cg)]), (Value.slice Ad ld cd), (Value.slice As ls cs)]) Try.func63 rfl Try.ntmps63 (Nat.le_of_ble_eq_true rfl) ?_; refine wt_seq ?_; refine wl_region wd_wide ?_; refine rl_n rfl rfl rfl rfl (n_box (v := (.agg #[(Value.func (Fn.func 69) #[] #[(.pointer (some (⟨gc, 0, none⟩ : Addr))), (.pointer (some (⟨gc2, 0, none⟩ : Addr)))])])) rfl ?_); intro g3 w2 hN; replace hS : Sep w S O w2 (stl _ 6 (Res.box 98 g3 [(Value.func (Fn.func 69) #[] #[(Value.pointer (some (⟨gc, 0, none⟩ : Addr))), (Value.pointer (some (⟨gc2, 0, none⟩ : Addr)))])])) := hS.new 6 rfl hN; clear hN; refine ⟨Stb.none _, ?_⟩; refine rl_n rfl rfl rfl rfl (n_box (v := (.agg #[(.int .i64 g), (.slice Ag lg cg)])) rfl ?_); intro g4 w3 hN; replace hS : Sep w S O w3 (stl _ 7 (Res.box 24 g4 [(Value.int .i64 g), (Value.slice Ag lg cg)])) := hS.new 7 rfl hN; clear hN; refine ⟨Stb.none _, ?_⟩; refine rl_q rfl rfl rfl (v_assign (v := (.int .i64 0)) rfl) ?_; refine rl_end ?_; refine wt_seq ?_; refine wt_seq ?_; refine wl_region wd_wide ?_; refine rl_q rfl rfl rfl (v_loadn (vs := [(.int .i64 g), (.slice Ag lg cg)]) rfl Try.underlying24 rfl info_24 ⟨Row.cell (hS.bx 7 rfl) (i := 0) rfl, Row.cell (hS.bx 7 rfl) (i := 1) rfl, trivial⟩) ?_
  refine rl_q rfl rfl rfl (v_move (v := (.slice As ls cs)) rfl) ?_; refine rl_n rfl rfl rfl rfl (n_call0 rfl (am2 rfl rfl) enter_84 ((pok_firing_Check h (no_lt _) (hS.rdr 3 rfl) (hS.rdr 5 rfl)).mono ?_)); rintro _ w4 ⟨r, rfl, hC, h⟩; replace hS := hS.pur hC.pure; clear hC; refine ⟨_, rfl, ?_⟩; refine ⟨Stb.none _, ?_⟩; refine rl_q rfl rfl rfl (v_assign (v := (.int .i64 r)) rfl) ?_; refine rl_end ?_; refine wt_seq ?_; refine wl_region wd_wide ?_; refine rl_q rfl rfl rfl (v_move (v := (.int .i64 r)) rfl) ?_; refine rl_q rfl rfl rfl (v_neq rfl rfl) ?_; refine rl_end ?_; by_cases hp : r = 0
  · replace h := h.1 hp; refine wt_cond_f (congrArg Value.bool (congrArg Bool.not (decide_eq_true hp))) ?_; refine wt_skip ?_; refine wt_seq ?_; refine wt_seq ?_; refine wp_draw [0, 1, 2, 3, 4, 5, 6, 7] (fun i => match i with | 5 => [0, 1] | _ => []) wd_wide (by kernel_rfl) (by kernel_rfl) ?_; replace hS := hS.drew; refine rp_q rfl rfl rfl (v_faddr rfl Try.underlying98 rfl info_39) ?_; refine rp_q rfl rfl rfl (v_load rfl Try.underlying39 rfl (Row.cell (hS.bx 6 rfl) (i := 0) rfl)) ?_; refine rp_q rfl rfl rfl (v_loadn (vs := [(.int .i64 g), (.slice Ag lg cg)]) rfl Try.underlying24 rfl info_24 ⟨Row.cell (hS.bx 7 rfl) (i := 0) rfl, Row.cell (hS.bx 7 rfl) (i := 1) rfl, trivial⟩) ?_; refine rp_q rfl rfl rfl (v_move (v := (.slice Ad ld cd)) rfl) ?_; refine rp_q rfl rfl rfl (v_move (v := (.slice As ls cs)) rfl) ?_; refine rp_n rfl rfl rfl rfl (n_call0 rfl (am3 rfl rfl rfl) enter_114 ((pok_effective_led h (no_lt _) (hS.rdr 3 rfl) (hS.rdr 4 rfl) (hS.rdr 5 rfl)).mono ?_)); rintro _ w5 ⟨r2, Ar, lr, cr, rfl, hC, h⟩; replace hS := hS.call1 (hC.widen (flatS (flat_own (fI .i64) _ _ _ _ _) flat0) hS.blt) 8 0 rfl; clear hC; refine ⟨_, rfl, ?_⟩; refine ⟨⟨fun hh => Bool.noConfusion (show false = true from hh), ⟨fun hh => Bool.noConfusion (show false = true from hh), ⟨fun hh => Bool.noConfusion (show false = true from hh), ⟨fun _ => (v_load rfl Try.underlying39 rfl (Row.cell (hS.bx 6 rfl) (i := 0) rfl)), ⟨fun _ => (v_faddr rfl Try.underlying98 rfl info_39), trivial⟩⟩⟩⟩⟩, ?_⟩
    have hB := hS.lend (asc [(8, 0), (0, 1), (1, 2)]) [8, 0, 1, 2] (by decide) ⟨.inl (ne_none rfl), .inl (ne_none rfl), .inl (ne_none rfl), .inr rfl, trivial⟩; refine rp_n rfl rfl rfl rfl (n_call (vs := #[(.slice Ar lr cr)]) (us := #[(.pointer (some (⟨gc, 0, none⟩ : Addr))), (.pointer (some (⟨gc2, 0, none⟩ : Addr)))]) rfl (am1 rfl) enter_69 ((cast_calls (by simp) (pok_effective_VerifyLoss_1_v2 h hB)).mono ?_)); rintro _ w6 ⟨r3, y, A, l, c, rfl, hC, h⟩; replace hS := hS.back (asc [(8, 0), (0, 1), (1, 2)]) (asc_inj (by decide)) hC; clear hC hB; refine ⟨_, rfl, ?_⟩; refine ⟨Stb.none _, ?_⟩; refine rp_q rfl rfl rfl (v_not rfl) ?_; refine rp_end ?_; by_cases hp2 : r3 = true
    · replace h := h.1 hp2; refine wt_cond_f (congrArg Value.bool (congrArg Bool.not hp2)) ?_; refine wt_skip ?_; refine wt_seq ?_; refine wl_region wd_wide ?_; refine rl_q rfl rfl rfl (v_assign (v := (.int .i64 0)) rfl) ?_; refine rl_end ?_; exact wt_ret1 rfl rfl ⟨_, rfl, (hS.sel [0, 1] (by decide)), h⟩
    · replace h := h.2 hp2; refine wt_cond_t (congrArg Value.bool (congrArg Bool.not (Bool.eq_false_iff.2 hp2))) ?_; refine wt_seq ?_; refine wl_region wd_wide ?_; refine rl_q rfl rfl rfl (v_assign (v := (.int .i64 16)) rfl) ?_; refine rl_end ?_; exact wt_ret1 rfl rfl ⟨_, rfl, (hS.sel [0, 1] (by decide)), h⟩
  · replace h := h.2 hp; refine wt_cond_t (congrArg Value.bool (congrArg Bool.not (decide_eq_false hp))) ?_; refine wt_seq ?_; refine wl_region wd_wide ?_; refine rl_q rfl rfl rfl (v_move (v := (.int .i64 r)) rfl) ?_; refine rl_q rfl rfl rfl (v_assign (v := (.int .i64 r)) rfl) ?_; refine rl_end ?_; exact wt_ret1 rfl rfl ⟨_, rfl, (hS.sel [0, 1] (by decide)), h⟩

/-- sandpile/effective.VerifyLoss: what it computes. -/
def pf_effective_VerifyLoss (g : Int) (g2 : List (Int × Int × Int)) (q : Int) (d : List Int) (s : List Int) (R : Int → Prop) : Prop :=
pf_reduced_IsReduced g g2 q d (fun (r : Bool) (r2 : Int) =>
((r2 = 0 →
pf_effective_proof_check_v2 q g g2 g g2 d s (fun (r3 : Int) =>
R r3)) ∧
(¬ (r2 = 0) →
R r2)))
theorem pok_effective_VerifyLoss {O : Nat → Prop} {w : World} {g : Int} {g2 : List (Int × Int × Int)} {q : Int} {d : List Int} {s : List Int} {Ag : Option Addr} {lg : Nat} {cg : Nat} {Ad : Option Addr} {ld : Nat} {cd : Nat} {As : Option Addr} {ls : Nat} {cs : Nat} {R : Int → Prop} (h : pf_effective_VerifyLoss g g2 q d s R) (hO : ∀ k, O k → k < w.heap.size) (a0 : (FP.sl c3 Ag lg cg g2).P O w) (a1 : (FP.sl cI Ad ld cd d).P O w) (a2 : (FP.sl cI As ls cs s).P O w) :
    Calls Try.prog 20 #[(Value.agg #[(Value.int .i64 g), (Value.slice Ag lg cg)]), (Value.int .i64 q), (Value.slice Ad ld cd), (Value.slice As ls cs)] w fun e w' => ∃ r4 : Int, e = .returned (Value.int .i64 r4) ∧ Sep w no O w' (rl []) ∧ R r4 := by
  unfold pf_effective_VerifyLoss at h; have hS : Sep w no O w (rl [Res.ro (FP.sl c3 Ag lg cg g2), Res.ro (FP.sl cI Ad ld cd d), Res.ro (FP.sl cI As ls cs s)]) := Sep.startl hO [(FP.sl c3 Ag lg cg g2), (FP.sl cI Ad ld cd d), (FP.sl cI As ls cs s)] ⟨a0, a1, a2, trivial⟩; refine calls_sh (l := [(Value.agg #[(Value.int .i64 g), (Value.slice Ag lg cg)]), (Value.int .i64 q), (Value.slice Ad ld cd), (Value.slice As ls cs)]) Try.func20 rfl Try.ntmps20 (Nat.le_of_ble_eq_true rfl) ?_; refine wt_seq ?_; refine wl_region wd_wide ?_; refine rl_n rfl rfl rfl rfl (n_box (v := (.agg #[(.int .i64 g), (.slice Ag lg cg)])) rfl ?_); intro g3 w2 hN; replace hS : Sep w no O w2 (stl _ 3 (Res.box 24 g3 [(Value.int .i64 g), (Value.slice Ag lg cg)])) := hS.new 3 rfl hN; clear hN; refine ⟨Stb.none _, ?_⟩; refine rl_n rfl rfl rfl rfl (n_box (v := (.int .i64 q)) rfl ?_); intro g4 w3 hN; replace hS : Sep w no O w3 (stl _ 4 (Res.box 3 g4 [(Value.int .i64 q)])) := hS.new 4 rfl hN; clear hN; refine ⟨Stb.none _, ?_⟩; refine rl_q rfl rfl rfl (v_assign (v := (.int .i64 0)) rfl) ?_; refine rl_end ?_; refine wt_seq ?_; refine wt_seq ?_; refine wl_region wd_wide ?_; refine rl_q rfl rfl rfl (v_loadn (vs := [(.int .i64 g), (.slice Ag lg cg)]) rfl Try.underlying24 rfl info_24 ⟨Row.cell (hS.bx 3 rfl) (i := 0) rfl, Row.cell (hS.bx 3 rfl) (i := 1) rfl, trivial⟩) ?_; refine rl_q rfl rfl rfl (v_load rfl Try.underlying3 rfl (Row.cell (hS.bx 4 rfl) (i := 0) rfl)) ?_
  refine rl_q rfl rfl rfl (v_move (v := (.slice Ad ld cd)) rfl) ?_; refine rl_n rfl rfl rfl rfl (n_call0 rfl (am3 rfl rfl rfl) enter_68 ((pok_reduced_IsReduced h (no_lt _) (hS.rdr 0 rfl) (hS.rdr 1 rfl)).mono ?_)); rintro _ w4 ⟨r, r2, rfl, hC, h⟩; replace hS := hS.pur hC.pure; clear hC; refine ⟨_, rfl, ?_⟩; refine ⟨Stb.none _, ?_⟩; refine rl_q rfl rfl rfl (v_move (v := (.tuple #[(.bool (r)), (.int .i64 r2)])) rfl) ?_; refine rl_q rfl rfl rfl (v_extract (v := (.bool (r))) rfl rfl) ?_; refine rl_q rfl rfl rfl (v_extract (v := (.int .i64 r2)) rfl rfl) ?_; refine rl_q rfl rfl rfl (v_assign (v := (.bool (r))) rfl) ?_; refine rl_q rfl rfl rfl (v_assign (v := (.int .i64 r2)) rfl) ?_; refine rl_end ?_; refine wt_seq ?_; refine wl_region wd_wide ?_; refine rl_q rfl rfl rfl (v_move (v := (.int .i64 r2)) rfl) ?_; refine rl_q rfl rfl rfl (v_neq rfl rfl) ?_; refine rl_end ?_; by_cases hp : r2 = 0
  · replace h := h.1 hp; refine wt_cond_f (congrArg Value.bool (congrArg Bool.not (decide_eq_true hp))) ?_; refine wt_skip ?_; refine wt_seq ?_; refine wl_region wd_wide ?_; refine rl_q rfl rfl rfl (v_func (am0) (am2 rfl rfl)) ?_; refine rl_n rfl rfl rfl rfl (n_build (l := [(0, (Value.func (Fn.func 69) #[] #[(.pointer (some (⟨g4, 0, none⟩ : Addr))), (.pointer (some (⟨g3, 0, none⟩ : Addr)))]))]) (cells := [(Value.func (Fn.func 69) #[] #[(.pointer (some (⟨g4, 0, none⟩ : Addr))), (.pointer (some (⟨g3, 0, none⟩ : Addr)))])]) (places := [(0, 1)]) (bp1 rfl) Try.underlying98 info_98 (by kernel_rfl) rfl ?_); refine ⟨Stb.none _, ?_⟩; refine rl_q rfl rfl rfl (v_loadn (vs := [(.int .i64 g), (.slice Ag lg cg)]) rfl Try.underlying24 rfl info_24 ⟨Row.cell (hS.bx 3 rfl) (i := 0) rfl, Row.cell (hS.bx 3 rfl) (i := 1) rfl, trivial⟩) ?_; refine rl_q rfl rfl rfl (v_move (v := (.slice Ad ld cd)) rfl) ?_; refine rl_q rfl rfl rfl (v_move (v := (.slice As ls cs)) rfl) ?_; replace hS := hS.addro 5 rfl _ (hS.ro 0 rfl); have hB := hS.lend (asc [(4, 0), (3, 1)]) [4, 3, 0, 5, 1, 2] (by decide) ⟨.inl (ne_none rfl), .inl (ne_none rfl), .inr rfl, .inr rfl, .inr rfl, .inr rfl, trivial⟩
    refine rl_n rfl rfl rfl rfl (n_call (vs := #[(.agg #[(Value.func (Fn.func 69) #[] #[(.pointer (some (⟨g4, 0, none⟩ : Addr))), (.pointer (some (⟨g3, 0, none⟩ : Addr)))])]), (.agg #[(.int .i64 g), (.slice Ag lg cg)]), (.slice Ad ld cd), (.slice As ls cs)]) (us := #[]) rfl (am4 rfl rfl rfl rfl) enter_63 ((cast_calls (by simp) (pok_effective_proof_check_v2 h hB)).mono ?_)); rintro _ w5 ⟨r3, rfl, hC, h⟩; replace hS := hS.back (asc [(4, 0), (3, 1)]) (asc_inj (by decide)) hC; clear hC hB; refine ⟨_, rfl, ?_⟩; refine ⟨Stb.none _, ?_⟩; refine rl_q rfl rfl rfl (v_assign (v := (.int .i64 r3)) rfl) ?_; refine rl_end ?_; exact wt_ret1 rfl rfl ⟨_, rfl, (hS.sel [] (by decide)), h⟩
  · replace h := h.2 hp; refine wt_cond_t (congrArg Value.bool (congrArg Bool.not (decide_eq_false hp))) ?_; refine wt_seq ?_; refine wl_region wd_wide ?_; refine rl_q rfl rfl rfl (v_move (v := (.int .i64 r2)) rfl) ?_; refine rl_q rfl rfl rfl (v_assign (v := (.int .i64 r2)) rfl) ?_; refine rl_end ?_; exact wt_ret1 rfl rfl ⟨_, rfl, (hS.sel [] (by decide)), h⟩

end Go.Proofs.Ytbehbjfcenlaeaa

/- Pure forms of functions, made by program (pf.py), each with the proof that the code does so. -/
namespace Go.Proofs.Ytbehbjfcenlaeaa
open Go Go.RowKit Go.Shelf
set_option linter.unusedVariables false
set_option maxRecDepth 100000
set_option maxHeartbeats 1000000
/-- slices.IndexFunc[[]sandpile/api.Divisor,sandpile/api.Divisor]: what it computes. -/
def pf_slices_IndexFunc_DivisorS (s : List (List Int)) (Ff : (List Int) → (Bool → Prop) → Prop) (R : Int → Prop) : Prop :=
(∃ I2 : Nat → Int → Prop, (∃ m0, I2 m0 0) ∧ ∀ (m2 : Nat) (v : Int), I2 m2 v → 
((v < ((s.length : Nat) : Int) →
((0 ≤ v ∧ v < ((s.length : Nat) : Int)) ∧
Ff (gx s v.toNat) (fun (r : Bool) =>
((r = true →
R v) ∧
(¬ (r = true) →
(In64 (v + 1) ∧
∃ m3, m3 < m2 ∧ I2 m3 (v + 1))))))) ∧
(¬ (v < ((s.length : Nat) : Int)) →
R (-1))))
theorem pok_slices_IndexFunc_DivisorS {O : Nat → Prop} {w : World} {s : List (List Int)} {Ff : (List Int) → (Bool → Prop) → Prop} {As : Option Addr} {ls : Nat} {cs : Nat} {f : Value} {R : Int → Prop} (h : pf_slices_IndexFunc_DivisorS s Ff R) (hO : ∀ k, O k → k < w.heap.size) (hA0 : (FP.sl (cL cI) As ls cs s).P O w) (hA1 : (FP.st fun w' => ∃ (fid : Nat) (us : Array Value), f = Value.func (.func fid) #[] us ∧ Enters Try.prog fid ∧ ∀ (x0 : List Int) (Ax0 : Option Addr) (lx0 : Nat) (cx0 : Nat) (R : Bool → Prop), Ff x0 R → (FP.sl cI Ax0 lx0 cx0 x0).P no w' → Calls Try.prog fid (#[(Value.slice Ax0 lx0 cx0)] ++ us) w' fun e w'' => ∃ r0 : Bool, e = .returned (Value.bool (r0)) ∧ Sep w' no no w'' (rl []) ∧ R r0).P O w) :
    Calls Try.prog 129 #[(Value.slice As ls cs), f] w fun e w' => ∃ r2 : Int, e = .returned (Value.int .i64 r2) ∧ Sep w no O w' (rl []) ∧ R r2 := by
  unfold pf_slices_IndexFunc_DivisorS at h; have hS : Sep w no O w (rl [Res.ro (FP.sl (cL cI) As ls cs s), Res.ro (FP.st fun w' => ∃ (fid : Nat) (us : Array Value), f = Value.func (.func fid) #[] us ∧ Enters Try.prog fid ∧ ∀ (x0 : List Int) (Ax0 : Option Addr) (lx0 : Nat) (cx0 : Nat) (R : Bool → Prop), Ff x0 R → (FP.sl cI Ax0 lx0 cx0 x0).P no w' → Calls Try.prog fid (#[(Value.slice Ax0 lx0 cx0)] ++ us) w' fun e w'' => ∃ r0 : Bool, e = .returned (Value.bool (r0)) ∧ Sep w' no no w'' (rl []) ∧ R r0)]) := Sep.startl hO [(FP.sl (cL cI) As ls cs s), (FP.st fun w' => ∃ (fid : Nat) (us : Array Value), f = Value.func (.func fid) #[] us ∧ Enters Try.prog fid ∧ ∀ (x0 : List Int) (Ax0 : Option Addr) (lx0 : Nat) (cx0 : Nat) (R : Bool → Prop), Ff x0 R → (FP.sl cI Ax0 lx0 cx0 x0).P no w' → Calls Try.prog fid (#[(Value.slice Ax0 lx0 cx0)] ++ us) w' fun e w'' => ∃ r0 : Bool, e = .returned (Value.bool (r0)) ∧ Sep w' no no w'' (rl []) ∧ R r0)] ⟨hA0, hA1, trivial⟩; refine calls_sh (l := [(Value.slice As ls cs), f]) Try.func129 rfl Try.ntmps129 (Nat.le_of_ble_eq_true rfl) ?_; refine wt_seq ?_; refine wl_region wd_wide ?_; refine rl_q rfl rfl rfl (v_assign (v := (.int .i64 0)) rfl) ?_; refine rl_end ?_; refine wt_seq ?_; refine wt_seq ?_; refine wl_region wd_wide ?_; refine rl_q rfl rfl rfl (v_move (v := (.slice As ls cs)) rfl) ?_; refine rl_q rfl rfl rfl (v_lenx (n := s.length) rfl Try.underlying66 (rd_len (hS.rdr 0 rfl))) ?_; refine rl_q rfl rfl rfl (v_move (v := (.int .i64 0)) rfl) ?_
  refine rl_end ?_; refine wt_block ?_; obtain ⟨I2, ⟨m0, h0⟩, hr⟩ := h; refine wt_loop (fun m E ds w' => ∃ v : Int, I2 m v ∧ ds = [] ∧ E 0 = (Value.slice As ls cs) ∧ E 1 = f ∧ E 7 = (Value.int .i64 ((s.length : Nat) : Int)) ∧ E 8 = (Value.int .i64 v) ∧ Sep w no O w' (rl [Res.ro (FP.sl (cL cI) As ls cs s), Res.ro (FP.st fun w' => ∃ (fid : Nat) (us : Array Value), f = Value.func (.func fid) #[] us ∧ Enters Try.prog fid ∧ ∀ (x0 : List Int) (Ax0 : Option Addr) (lx0 : Nat) (cx0 : Nat) (R : Bool → Prop), Ff x0 R → (FP.sl cI Ax0 lx0 cx0 x0).P no w' → Calls Try.prog fid (#[(Value.slice Ax0 lx0 cx0)] ++ us) w' fun e w'' => ∃ r0 : Bool, e = .returned (Value.bool (r0)) ∧ Sep w' no no w'' (rl []) ∧ R r0)])) m0 ⟨_, h0, rfl, rfl, rfl, rfl, rfl, (hS.sel [0, 1] (by decide))⟩ ?_; clear h0 hS; rintro m2 E ds w2 ⟨v, h, rfl, hE0, hE1, hE7, hE8, hS⟩ again; replace h := hr m2 v h; clear hr; refine wt_seq ?_; refine wl_region wd_wide ?_; refine rl_q rfl rfl rfl (v_lss hE8 hE7) ?_; refine rl_end ?_; refine wt_seq ?_; by_cases hp : v < ((s.length : Nat) : Int)
  · replace h := h.1 hp; refine wt_cond_t (congrArg Value.bool (decide_eq_true hp)) ?_; refine wt_skip ?_; refine wt_seq ?_; refine wt_block ?_; refine wt_seq ?_; refine wl_region wd_wide ?_; refine rl_q rfl rfl rfl (v_move (v := (.int .i64 v)) hE8) ?_; refine rl_q rfl rfl rfl (v_assign (v := (.int .i64 v)) rfl) ?_; refine rl_end ?_; refine wt_seq ?_; refine wl_region wd_wide ?_; refine rl_q rfl rfl rfl (v_move (v := f) hE1) ?_; refine rl_q rfl rfl rfl (v_move (v := (.slice As ls cs)) hE0) ?_; refine rl_q rfl rfl rfl (v_move (v := (.int .i64 v)) rfl) ?_; obtain ⟨hx, h⟩ := h; refine rl_q rfl rfl rfl (v_iaddr rfl rfl Try.underlying66 info_26 (rd_ix (hS.rdr 0 rfl) hx)) ?_; obtain ⟨A, l, c, hc, hq⟩ := hS.el 0 rfl hx 2 3 rfl rfl (by decide); replace hS := hq; clear hq; refine rl_q rfl rfl rfl (v_load (v := (.slice A l c)) rfl Try.underlying26 rfl (hS.clr 3 rfl)) ?_; obtain ⟨fid, us, hf, he, hcl⟩ := hS.ro 1 rfl _ (Keeps.refl _ _); replace h := hcl _ _ _ _ _ h (hS.rdr 2 rfl); clear hcl; refine rl_n rfl rfl rfl rfl (n_call (hf) (am1 rfl) he (h.mono ?_)); clear hf he; rintro _ w3 ⟨r, rfl, hC, h⟩; replace hS := hS.pur hC.pure; clear hC; refine ⟨_, rfl, ?_⟩; refine ⟨Stb.none _, ?_⟩; refine rl_end ?_; by_cases hp2 : r = true
    · replace h := h.1 hp2; refine wt_cond_t (congrArg Value.bool hp2) ?_; refine wt_seq ?_; refine wl_region wd_wide ?_; refine rl_q rfl rfl rfl (v_move (v := (.int .i64 v)) rfl) ?_; refine rl_q rfl rfl rfl (v_assign (v := (.int .i64 v)) rfl) ?_; refine rl_end ?_; exact wt_ret1 rfl rfl ⟨_, rfl, (hS.sel [] (by decide)), h⟩
    · replace h := h.2 hp2; refine wt_cond_f (congrArg Value.bool (Bool.eq_false_iff.2 hp2)) ?_; refine wt_skip ?_; refine wt_inBlock ?_; refine wl_region wd_wide ?_; obtain ⟨hi, h⟩ := h; refine rl_q rfl rfl rfl (v_add hE8 rfl hi) ?_; refine rl_q rfl rfl rfl (v_move (v := (.int .i64 (v + 1))) rfl) ?_; refine rl_end ?_; obtain ⟨mq, hlt, h⟩ := h; exact again mq _ _ _ ⟨_, h, rfl, hE0, hE1, hE7, rfl, (hS.sel [0, 1] (by decide))⟩ hlt
  · replace h := h.2 hp; refine wt_cond_f (congrArg Value.bool (decide_eq_false hp)) ?_; refine wt_exit rfl ?_; refine wt_seq ?_; refine wl_region wd_wide ?_; refine rl_q rfl rfl rfl (v_assign (v := (.int .i64 (-1))) rfl) ?_; refine rl_end ?_; exact wt_ret1 rfl rfl ⟨_, rfl, (hS.sel [] (by decide)), h⟩

/-- slices.ContainsFunc[[]sandpile/api.Divisor,sandpile/api.Divisor]: what it computes. -/
def pf_slices_ContainsFunc_DivisorS (s : List (List Int)) (Ff : (List Int) → (Bool → Prop) → Prop) (R : Bool → Prop) : Prop :=
pf_slices_IndexFunc_DivisorS s Ff (fun (r : Int) =>
R (decide (0 ≤ r)))
theorem pok_slices_ContainsFunc_DivisorS {O : Nat → Prop} {w : World} {s : List (List Int)} {Ff : (List Int) → (Bool → Prop) → Prop} {As : Option Addr} {ls : Nat} {cs : Nat} {f : Value} {R : Bool → Prop} (h : pf_slices_ContainsFunc_DivisorS s Ff R) (hO : ∀ k, O k → k < w.heap.size) (hA0 : (FP.sl (cL cI) As ls cs s).P O w) (hA1 : (FP.st fun w' => ∃ (fid : Nat) (us : Array Value), f = Value.func (.func fid) #[] us ∧ Enters Try.prog fid ∧ ∀ (x0 : List Int) (Ax0 : Option Addr) (lx0 : Nat) (cx0 : Nat) (R : Bool → Prop), Ff x0 R → (FP.sl cI Ax0 lx0 cx0 x0).P no w' → Calls Try.prog fid (#[(Value.slice Ax0 lx0 cx0)] ++ us) w' fun e w'' => ∃ r0 : Bool, e = .returned (Value.bool (r0)) ∧ Sep w' no no w'' (rl []) ∧ R r0).P O w) :
    Calls Try.prog 80 #[(Value.slice As ls cs), f] w fun e w' => ∃ r2 : Bool, e = .returned (Value.bool (r2)) ∧ Sep w no O w' (rl []) ∧ R r2 := by
  unfold pf_slices_ContainsFunc_DivisorS at h; have hS : Sep w no O w (rl [Res.ro (FP.sl (cL cI) As ls cs s), Res.ro (FP.st fun w' => ∃ (fid : Nat) (us : Array Value), f = Value.func (.func fid) #[] us ∧ Enters Try.prog fid ∧ ∀ (x0 : List Int) (Ax0 : Option Addr) (lx0 : Nat) (cx0 : Nat) (R : Bool → Prop), Ff x0 R → (FP.sl cI Ax0 lx0 cx0 x0).P no w' → Calls Try.prog fid (#[(Value.slice Ax0 lx0 cx0)] ++ us) w' fun e w'' => ∃ r0 : Bool, e = .returned (Value.bool (r0)) ∧ Sep w' no no w'' (rl []) ∧ R r0)]) := Sep.startl hO [(FP.sl (cL cI) As ls cs s), (FP.st fun w' => ∃ (fid : Nat) (us : Array Value), f = Value.func (.func fid) #[] us ∧ Enters Try.prog fid ∧ ∀ (x0 : List Int) (Ax0 : Option Addr) (lx0 : Nat) (cx0 : Nat) (R : Bool → Prop), Ff x0 R → (FP.sl cI Ax0 lx0 cx0 x0).P no w' → Calls Try.prog fid (#[(Value.slice Ax0 lx0 cx0)] ++ us) w' fun e w'' => ∃ r0 : Bool, e = .returned (Value.bool (r0)) ∧ Sep w' no no w'' (rl []) ∧ R r0)] ⟨hA0, hA1, trivial⟩; refine calls_sh (l := [(Value.slice As ls cs), f]) Try.func80 rfl Try.ntmps80 (Nat.le_of_ble_eq_true rfl) ?_; refine wt_seq ?_; refine wl_region wd_wide ?_; refine rl_q rfl rfl rfl (v_assign (v := (.bool (false))) rfl) ?_; refine rl_end ?_; refine wt_seq ?_; refine wl_region wd_wide ?_; refine rl_q rfl rfl rfl (v_move (v := (.slice As ls cs)) rfl) ?_; refine rl_q rfl rfl rfl (v_move (v := f) rfl) ?_
  refine rl_n rfl rfl rfl rfl (n_call0 rfl (am2 rfl rfl) enter_129 ((pok_slices_IndexFunc_DivisorS h (no_lt _) (hS.rdr 0 rfl) (FP.sub _ (hS.ro 1 rfl) (fun _ _ h => h.elim) : FP.P _ no _)).mono ?_)); rintro _ w2 ⟨r, rfl, hC, h⟩; replace hS := hS.pur hC.pure; clear hC; refine ⟨_, rfl, ?_⟩; refine ⟨Stb.none _, ?_⟩; refine rl_q rfl rfl rfl (v_geq rfl rfl) ?_; refine rl_q rfl rfl rfl (v_assign (v := (.bool (decide (0 ≤ r)))) rfl) ?_; refine rl_end ?_; exact wt_ret1 rfl rfl ⟨_, rfl, (hS.sel [] (by decide)), h⟩

/-- sandpile/chips.own: what it computes. -/
def pf_chips_own (l : List (List Int)) (R : Int → Prop) : Prop :=
(∃ I2 : Nat → Int → Prop, (∃ m0, I2 m0 0) ∧ ∀ (m2 : Nat) (v : Int), I2 m2 v → 
((v < ((l.length : Nat) : Int) →
((0 ≤ v ∧ v < ((l.length : Nat) : Int)) ∧
pf_chips_Check (gx l v.toNat) (((gx l v.toNat).length : Nat) : Int) (fun (r : Int) =>
((r = 0 →
(In64 (v + 1) ∧
∃ m3, m3 < m2 ∧ I2 m3 (v + 1))) ∧
(¬ (r = 0) →
R r))))) ∧
(¬ (v < ((l.length : Nat) : Int)) →
(∃ I3 : Nat → Int → Prop, (∃ m0, I3 m0 0) ∧ ∀ (m4 : Nat) (v2 : Int), I3 m4 v2 → 
((v2 < ((l.length : Nat) : Int) →
((0 ≤ v2 ∧ v2 < ((l.length : Nat) : Int)) ∧
((0 ≤ (0 : Int) ∧ (0 : Int) < ((l.length : Nat) : Int)) ∧
(((((gx l v2.toNat).length : Nat) : Int) = (((gx l (0 : Int).toNat).length : Nat) : Int) →
(In64 (v2 + 1) ∧
∃ m5, m5 < m4 ∧ I3 m5 (v2 + 1))) ∧
(¬ ((((gx l v2.toNat).length : Nat) : Int) = (((gx l (0 : Int).toNat).length : Nat) : Int)) →
R 8))))) ∧
(¬ (v2 < ((l.length : Nat) : Int)) →
R 0))))))
theorem pok_chips_own {O : Nat → Prop} {w : World} {l : List (List Int)} {Al : Option Addr} {ll : Nat} {cl : Nat} {R : Int → Prop} (h : pf_chips_own l R) (hO : ∀ k, O k → k < w.heap.size) (hA0 : (FP.sl (cL cI) Al ll cl l).P O w) :
    Calls Try.prog 136 #[(Value.slice Al ll cl)] w fun e w' => ∃ r2 : Int, e = .returned (Value.int .i64 r2) ∧ Sep w no O w' (rl []) ∧ R r2 := by
  unfold pf_chips_own at h; have hS : Sep w no O w (rl [Res.ro (FP.sl (cL cI) Al ll cl l)]) := Sep.startl hO [(FP.sl (cL cI) Al ll cl l)] ⟨hA0, trivial⟩; refine calls_sh (l := [(Value.slice Al ll cl)]) Try.func136 rfl Try.ntmps136 (Nat.le_of_ble_eq_true rfl) ?_; refine wt_seq ?_; refine wl_region wd_wide ?_; refine rl_q rfl rfl rfl (v_assign (v := (.int .i64 0)) rfl) ?_; refine rl_end ?_; refine wt_seq ?_; refine wt_seq ?_; refine wl_region wd_wide ?_; refine rl_q rfl rfl rfl (v_move (v := (.slice Al ll cl)) rfl) ?_; refine rl_q rfl rfl rfl (v_lenx (n := l.length) rfl Try.underlying66 (rd_len (hS.rdr 0 rfl))) ?_; refine rl_q rfl rfl rfl (v_move (v := (.int .i64 0)) rfl) ?_; refine rl_end ?_; refine wt_block ?_; obtain ⟨I2, ⟨m0, h0⟩, hr⟩ := h; refine wt_loop (fun m E ds w' => ∃ v : Int, I2 m v ∧ ds = [] ∧ E 0 = (Value.slice Al ll cl) ∧ E 8 = (Value.slice Al ll cl) ∧ E 9 = (Value.int .i64 ((l.length : Nat) : Int)) ∧ E 10 = (Value.int .i64 v) ∧ Sep w no O w' (rl [Res.ro (FP.sl (cL cI) Al ll cl l)])) m0 ⟨_, h0, rfl, rfl, rfl, rfl, rfl, (hS.sel [0] (by decide))⟩ ?_; clear h0 hS; rintro m2 E ds w2 ⟨v, h, rfl, hE0, hE8, hE9, hE10, hS⟩ again; replace h := hr m2 v h; clear hr; refine wt_seq ?_; refine wl_region wd_wide ?_; refine rl_q rfl rfl rfl (v_lss hE10 hE9) ?_; refine rl_end ?_; refine wt_seq ?_; by_cases hp : v < ((l.length : Nat) : Int)
  · replace h := h.1 hp; refine wt_cond_t (congrArg Value.bool (decide_eq_true hp)) ?_; refine wt_skip ?_; refine wt_seq ?_; refine wt_block ?_; refine wt_seq ?_; refine wl_region wd_wide ?_; obtain ⟨hx, h⟩ := h; refine rl_q rfl rfl rfl (v_iaddr hE8 hE10 Try.underlying66 info_26 (rd_ix (hS.rdr 0 rfl) hx)) ?_; obtain ⟨A, l2, c, hc, hq⟩ := hS.el 0 rfl hx 1 2 rfl rfl (by decide); replace hS := hq; clear hq; refine rl_q rfl rfl rfl (v_load (v := (.slice A l2 c)) rfl Try.underlying26 rfl (hS.clr 2 rfl)) ?_; refine rl_q rfl rfl rfl (v_assign (v := (.slice A l2 c)) rfl) ?_; refine rl_end ?_; refine wt_seq ?_; refine wl_region wd_wide ?_; refine rl_q rfl rfl rfl (v_move (v := (.slice A l2 c)) rfl) ?_; refine rl_q rfl rfl rfl (v_move (v := (.slice A l2 c)) rfl) ?_; refine rl_q rfl rfl rfl (v_lenx (n := (gx l v.toNat).length) rfl Try.underlying26 (rd_len (hS.rdr 1 rfl))) ?_; refine rl_n rfl rfl rfl rfl (n_call0 rfl (am2 rfl rfl) enter_104 ((pok_chips_Check h (no_lt _) (hS.rdr 1 rfl)).mono ?_)); rintro _ w3 ⟨r, rfl, hC, h⟩; replace hS := hS.pur hC.pure; clear hC; refine ⟨_, rfl, ?_⟩; refine ⟨Stb.none _, ?_⟩; refine rl_q rfl rfl rfl (v_assign (v := (.int .i64 r)) rfl) ?_; refine rl_end ?_; refine wt_seq ?_; refine wl_region wd_wide ?_; refine rl_q rfl rfl rfl (v_move (v := (.int .i64 r)) rfl) ?_; refine rl_q rfl rfl rfl (v_neq rfl rfl) ?_; refine rl_end ?_; by_cases hp2 : r = 0
    · replace h := h.1 hp2; refine wt_cond_f (congrArg Value.bool (congrArg Bool.not (decide_eq_true hp2))) ?_; refine wt_skip ?_; refine wt_inBlock ?_; refine wl_region wd_wide ?_; obtain ⟨hi, h⟩ := h; refine rl_q rfl rfl rfl (v_add hE10 rfl hi) ?_; refine rl_q rfl rfl rfl (v_move (v := (.int .i64 (v + 1))) rfl) ?_; refine rl_end ?_; obtain ⟨mq, hlt, h⟩ := h; exact again mq _ _ _ ⟨_, h, rfl, hE0, hE8, hE9, rfl, (hS.sel [0] (by decide))⟩ hlt
    · replace h := h.2 hp2; refine wt_cond_t (congrArg Value.bool (congrArg Bool.not (decide_eq_false hp2))) ?_; refine wt_seq ?_; refine wl_region wd_wide ?_; refine rl_q rfl rfl rfl (v_move (v := (.int .i64 r)) rfl) ?_; refine rl_q rfl rfl rfl (v_assign (v := (.int .i64 r)) rfl) ?_; refine rl_end ?_; exact wt_ret1 rfl rfl ⟨_, rfl, (hS.sel [] (by decide)), h⟩
  · replace h := h.2 hp; refine wt_cond_f (congrArg Value.bool (decide_eq_false hp)) ?_; refine wt_exit rfl ?_; refine wt_seq ?_; refine wt_seq ?_; refine wl_region wd_wide ?_; refine rl_q rfl rfl rfl (v_move (v := (.slice Al ll cl)) hE0) ?_; refine rl_q rfl rfl rfl (v_lenx (n := l.length) rfl Try.underlying66 (rd_len (hS.rdr 0 rfl))) ?_; refine rl_q rfl rfl rfl (v_move (v := (.int .i64 0)) rfl) ?_; refine rl_end ?_; refine wt_block ?_; obtain ⟨I3, ⟨m0, h0⟩, hr⟩ := h; refine wt_loop (fun m E ds w' => ∃ v2 : Int, I3 m v2 ∧ ds = [] ∧ E 0 = (Value.slice Al ll cl) ∧ E 22 = (Value.slice Al ll cl) ∧ E 23 = (Value.int .i64 ((l.length : Nat) : Int)) ∧ E 24 = (Value.int .i64 v2) ∧ Sep w no O w' (rl [Res.ro (FP.sl (cL cI) Al ll cl l)])) m0 ⟨_, h0, rfl, hE0, rfl, rfl, rfl, (hS.sel [0] (by decide))⟩ ?_; clear h0 hS; rintro m4 E ds w4 ⟨v2, h, rfl, hE0, hE22, hE23, hE24, hS⟩ again2; replace h := hr m4 v2 h; clear hr; refine wt_seq ?_; refine wl_region wd_wide ?_; refine rl_q rfl rfl rfl (v_lss hE24 hE23) ?_; refine rl_end ?_; refine wt_seq ?_; by_cases hp3 : v2 < ((l.length : Nat) : Int)
    · replace h := h.1 hp3; refine wt_cond_t (congrArg Value.bool (decide_eq_true hp3)) ?_; refine wt_skip ?_; refine wt_seq ?_; refine wt_block ?_; refine wt_seq ?_; refine wl_region wd_wide ?_; obtain ⟨hx2, h⟩ := h; refine rl_q rfl rfl rfl (v_iaddr hE22 hE24 Try.underlying66 info_26 (rd_ix (hS.rdr 0 rfl) hx2)) ?_; obtain ⟨A2, l3, c2, hc2, hq⟩ := hS.el 0 rfl hx2 1 2 rfl rfl (by decide); replace hS := hq; clear hq; refine rl_q rfl rfl rfl (v_load (v := (.slice A2 l3 c2)) rfl Try.underlying26 rfl (hS.clr 2 rfl)) ?_; refine rl_q rfl rfl rfl (v_assign (v := (.slice A2 l3 c2)) rfl) ?_; refine rl_end ?_; refine wt_seq ?_; refine wl_region wd_wide ?_; refine rl_q rfl rfl rfl (v_move (v := (.slice A2 l3 c2)) rfl) ?_; refine rl_q rfl rfl rfl (v_lenx (n := (gx l v2.toNat).length) rfl Try.underlying26 (rd_len (hS.rdr 1 rfl))) ?_; refine rl_q rfl rfl rfl (v_move (v := (.slice Al ll cl)) hE0) ?_; obtain ⟨hx3, h⟩ := h; refine rl_q rfl rfl rfl (v_iaddr rfl rfl Try.underlying66 info_26 (rd_ix (hS.rdr 0 rfl) hx3)) ?_; obtain ⟨A3, l4, c3, hc3, hq⟩ := hS.el 0 rfl hx3 3 4 rfl rfl (by decide); replace hS := hq; clear hq; refine rl_q rfl rfl rfl (v_load (v := (.slice A3 l4 c3)) rfl Try.underlying26 rfl (hS.clr 4 rfl)) ?_; refine rl_q rfl rfl rfl (v_lenx (n := (gx l (0 : Int).toNat).length) rfl Try.underlying26 (rd_len (hS.rdr 3 rfl))) ?_; refine rl_q rfl rfl rfl (v_neq rfl rfl) ?_; refine rl_end ?_
      by_cases hp4 : (((gx l v2.toNat).length : Nat) : Int) = (((gx l (0 : Int).toNat).length : Nat) : Int)
      · replace h := h.1 hp4; refine wt_cond_f (congrArg Value.bool (congrArg Bool.not (decide_eq_true hp4))) ?_; refine wt_skip ?_; refine wt_inBlock ?_; refine wl_region wd_wide ?_; obtain ⟨hi2, h⟩ := h; refine rl_q rfl rfl rfl (v_add hE24 rfl hi2) ?_; refine rl_q rfl rfl rfl (v_move (v := (.int .i64 (v2 + 1))) rfl) ?_; refine rl_end ?_; obtain ⟨mq, hlt, h⟩ := h; exact again2 mq _ _ _ ⟨_, h, rfl, hE0, hE22, hE23, rfl, (hS.sel [0] (by decide))⟩ hlt
      · replace h := h.2 hp4; refine wt_cond_t (congrArg Value.bool (congrArg Bool.not (decide_eq_false hp4))) ?_; refine wt_seq ?_; refine wl_region wd_wide ?_; refine rl_q rfl rfl rfl (v_assign (v := (.int .i64 8)) rfl) ?_; refine rl_end ?_; exact wt_ret1 rfl rfl ⟨_, rfl, (hS.sel [] (by decide)), h⟩
    · replace h := h.2 hp3; refine wt_cond_f (congrArg Value.bool (decide_eq_false hp3)) ?_; refine wt_exit rfl ?_; refine wt_seq ?_; refine wl_region wd_wide ?_; refine rl_q rfl rfl rfl (v_assign (v := (.int .i64 0)) rfl) ?_; refine rl_end ?_; exact wt_ret1 rfl rfl ⟨_, rfl, (hS.sel [] (by decide)), h⟩

/-- sandpile/chips.each: what it computes. -/
def pf_chips_each (a : List Int) (b : List Int) (Ff : Int → Int → (Int → Prop) → Prop) (R : (List Int) → Int → Prop) : Prop :=
pf_chips_own ([a, b]) (fun (r : Int) =>
((r = 0 →
((0 ≤ ((a.length : Nat) : Int) ∧ ((a.length : Nat) : Int) ≤ 1000000) ∧
(∃ I2 : Nat → Int → (List Int) → Prop, (∃ m0, I2 m0 0 (List.replicate ((a.length : Nat) : Int).toNat (0 : Int))) ∧ ∀ (m2 : Nat) (v : Int) (out : List Int), I2 m2 v out → 
((v < (((List.replicate ((a.length : Nat) : Int).toNat (0 : Int)).length : Nat) : Int) →
((0 ≤ v ∧ v < ((a.length : Nat) : Int)) ∧
((0 ≤ v ∧ v < ((b.length : Nat) : Int)) ∧
Ff (gi a v.toNat) (gi b v.toNat) (fun (r2 : Int) =>
((0 ≤ v ∧ v < ((out.length : Nat) : Int)) ∧
((0 ≤ v ∧ v < (((out.set v.toNat r2).length : Nat) : Int)) ∧
pf_chips_within (gi (out.set v.toNat r2) v.toNat) (fun (r3 : Bool) =>
((r3 = true →
(In64 (v + 1) ∧
∃ m3, m3 < m2 ∧ I2 m3 (v + 1) (out.set v.toNat r2))) ∧
(¬ (r3 = true) →
R ([]) 11))))))))) ∧
(¬ (v < (((List.replicate ((a.length : Nat) : Int).toNat (0 : Int)).length : Nat) : Int)) →
R out 0))))) ∧
(¬ (r = 0) →
R ([]) r)))
theorem pok_chips_each {O : Nat → Prop} {w : World} {a : List Int} {b : List Int} {Ff : Int → Int → (Int → Prop) → Prop} {Aa : Option Addr} {la : Nat} {ca : Nat} {Ab : Option Addr} {lb : Nat} {cb : Nat} {f : Value} {R : (List Int) → Int → Prop} (h : pf_chips_each a b Ff R) (hO : ∀ k, O k → k < w.heap.size) (hA0 : (FP.sl cI Aa la ca a).P O w) (hA1 : (FP.sl cI Ab lb cb b).P O w) (hA2 : (FP.st fun w' => ∃ (fid : Nat) (us : Array Value), f = Value.func (.func fid) #[] us ∧ Enters Try.prog fid ∧ ∀ (x0 : Int) (x1 : Int) (R : Int → Prop), Ff x0 x1 R → Calls Try.prog fid (#[(Value.int .i64 x0), (Value.int .i64 x1)] ++ us) w' fun e w'' => ∃ r0 : Int, e = .returned (Value.int .i64 r0) ∧ Sep w' no no w'' (rl []) ∧ R r0).P O w) :
    Calls Try.prog 88 #[(Value.slice Aa la ca), (Value.slice Ab lb cb), f] w fun e w' => ∃ r4 : List Int, ∃ r5 : Int, ∃ Ar : Option Addr, ∃ lr : Nat, ∃ cr : Nat, e = .returned (Value.tuple #[(Value.slice Ar lr cr), (Value.int .i64 r5)]) ∧ Sep w no O w' (rl [Res.own cI 3 Ar lr cr r4]) ∧ R r4 r5 := by
  unfold pf_chips_each at h; have hS : Sep w no O w (rl [Res.ro (FP.sl cI Aa la ca a), Res.ro (FP.sl cI Ab lb cb b), Res.ro (FP.st fun w' => ∃ (fid : Nat) (us : Array Value), f = Value.func (.func fid) #[] us ∧ Enters Try.prog fid ∧ ∀ (x0 : Int) (x1 : Int) (R : Int → Prop), Ff x0 x1 R → Calls Try.prog fid (#[(Value.int .i64 x0), (Value.int .i64 x1)] ++ us) w' fun e w'' => ∃ r0 : Int, e = .returned (Value.int .i64 r0) ∧ Sep w' no no w'' (rl []) ∧ R r0)]) := Sep.startl hO [(FP.sl cI Aa la ca a), (FP.sl cI Ab lb cb b), (FP.st fun w' => ∃ (fid : Nat) (us : Array Value), f = Value.func (.func fid) #[] us ∧ Enters Try.prog fid ∧ ∀ (x0 : Int) (x1 : Int) (R : Int → Prop), Ff x0 x1 R → Calls Try.prog fid (#[(Value.int .i64 x0), (Value.int .i64 x1)] ++ us) w' fun e w'' => ∃ r0 : Int, e = .returned (Value.int .i64 r0) ∧ Sep w' no no w'' (rl []) ∧ R r0)] ⟨hA0, hA1, hA2, trivial⟩; refine calls_sh (l := [(Value.slice Aa la ca), (Value.slice Ab lb cb), f]) Try.func88 rfl Try.ntmps88 (Nat.le_of_ble_eq_true rfl) ?_; refine wt_seq ?_; refine wl_region wd_wide ?_; refine rl_q rfl rfl rfl (v_assign (v := (.slice none 0 0)) rfl) ?_; refine rl_q rfl rfl rfl (v_assign (v := (.int .i64 0)) rfl) ?_; refine rl_end ?_; refine wt_seq ?_; refine wt_seq ?_; refine wl_region wd_wide ?_; refine rl_q rfl rfl rfl (v_move (v := (.slice Aa la ca)) rfl) ?_; refine rl_q rfl rfl rfl (v_move (v := (.slice Ab lb cb)) rfl) ?_
  refine rl_n rfl rfl rfl rfl (n_bslice (l := [(0, (.slice Aa la ca)), (1, (.slice Ab lb cb))]) (cells := [(.slice Aa la ca), (.slice Ab lb cb)]) (bp2 rfl rfl) Try.underlying66 info_26 rfl rfl ?_); intro g w2 hN; replace hS := hS.lit (n := 2) (c := (cL cI)) 3 rfl hN ([a, b] : List (List Int)) rfl (by decide) ⟨[(Value.slice Aa la ca)], _, rfl, (ro_R (hS.ro 0 rfl)), ⟨[(Value.slice Ab lb cb)], _, rfl, (ro_R (hS.ro 1 rfl)), rfl⟩⟩; clear hN; refine ⟨Stb.none _, ?_⟩; refine rl_n rfl rfl rfl rfl (n_call0 rfl (am1 rfl) enter_136 ((pok_chips_own h (no_lt _) (hS.rdo 3 rfl)).mono ?_)); rintro _ w3 ⟨r, rfl, hC, h⟩; replace hS := hS.pur hC.pure; clear hC; refine ⟨_, rfl, ?_⟩; refine ⟨Stb.none _, ?_⟩; refine rl_q rfl rfl rfl (v_assign (v := (.int .i64 r)) rfl) ?_; refine rl_end ?_; refine wt_seq ?_; refine wl_region wd_wide ?_; refine rl_q rfl rfl rfl (v_move (v := (.int .i64 r)) rfl) ?_; refine rl_q rfl rfl rfl (v_neq rfl rfl) ?_; refine rl_end ?_; by_cases hp : r = 0
  · replace h := h.1 hp; refine wt_cond_f (congrArg Value.bool (congrArg Bool.not (decide_eq_true hp))) ?_; refine wt_skip ?_; refine wt_seq ?_; refine wl_region wd_wide ?_; refine rl_q rfl rfl rfl (v_move (v := (.slice Aa la ca)) rfl) ?_; refine rl_q rfl rfl rfl (v_lenx (n := a.length) rfl Try.underlying26 (rd_len (hS.rdr 0 rfl))) ?_; obtain ⟨hx, h⟩ := h; refine rl_n rfl rfl rfl rfl (n_make rfl rfl Try.underlying26 info_3 (by decide) rfl hx ?_); intro g2 w4 hN; replace hS := hS.made 4 rfl cI (Value.int .i64 0) (0 : Int) (fun _ _ => rfl) hN (by omega); clear hN; refine ⟨Stb.none _, ?_⟩; refine rl_q rfl rfl rfl (v_assign (v := (.slice (some ⟨g2, 0, none⟩) (((a.length : Nat) : Int).toNat) (((a.length : Nat) : Int).toNat))) rfl) ?_; refine rl_end ?_; refine wt_seq ?_; refine wt_seq ?_; refine wl_region wd_wide ?_; refine rl_q rfl rfl rfl (v_move (v := (.slice (some ⟨g2, 0, none⟩) (((a.length : Nat) : Int).toNat) (((a.length : Nat) : Int).toNat))) rfl) ?_; refine rl_q rfl rfl rfl (v_lenx (n := (List.replicate ((a.length : Nat) : Int).toNat (0 : Int)).length) rfl Try.underlying26 (rd_len (hS.rdo 4 rfl))) ?_; refine rl_q rfl rfl rfl (v_move (v := (.int .i64 0)) rfl) ?_; refine rl_end ?_; refine wt_block ?_; obtain ⟨I2, ⟨m0, h0⟩, hr⟩ := h
    refine wt_loop (fun m E ds w' => ∃ v : Int, ∃ out : List Int, ∃ Aout : Option Addr, ∃ lout : Nat, ∃ cout : Nat, I2 m v out ∧ ds = [] ∧ E 0 = (Value.slice Aa la ca) ∧ E 1 = (Value.slice Ab lb cb) ∧ E 2 = f ∧ E 9 = (Value.slice Aout lout cout) ∧ E 22 = (Value.int .i64 (((List.replicate ((a.length : Nat) : Int).toNat (0 : Int)).length : Nat) : Int)) ∧ E 23 = (Value.int .i64 v) ∧ Sep w no O w' (rl [Res.ro (FP.sl cI Aa la ca a), Res.ro (FP.sl cI Ab lb cb b), Res.ro (FP.st fun w' => ∃ (fid : Nat) (us : Array Value), f = Value.func (.func fid) #[] us ∧ Enters Try.prog fid ∧ ∀ (x0 : Int) (x1 : Int) (R : Int → Prop), Ff x0 x1 R → Calls Try.prog fid (#[(Value.int .i64 x0), (Value.int .i64 x1)] ++ us) w' fun e w'' => ∃ r0 : Int, e = .returned (Value.int .i64 r0) ∧ Sep w' no no w'' (rl []) ∧ R r0), Res.own cI 3 Aout lout cout out])) m0 ⟨_, _, _, _, _, h0, rfl, rfl, rfl, rfl, rfl, rfl, rfl, (hS.sel [0, 1, 2, 4] (by decide))⟩ ?_; clear h0 hS; rintro m2 E ds w5 ⟨v, out, Aout, lout, cout, h, rfl, hE0, hE1, hE2, hE9, hE22, hE23, hS⟩ again; replace h := hr m2 v out h; clear hr; refine wt_seq ?_; refine wl_region wd_wide ?_; refine rl_q rfl rfl rfl (v_lss hE23 hE22) ?_; refine rl_end ?_; refine wt_seq ?_; by_cases hp2 : v < (((List.replicate ((a.length : Nat) : Int).toNat (0 : Int)).length : Nat) : Int)
    · replace h := h.1 hp2; refine wt_cond_t (congrArg Value.bool (decide_eq_true hp2)) ?_; refine wt_skip ?_; refine wt_seq ?_; refine wt_block ?_; refine wt_seq ?_; refine wl_region wd_wide ?_; refine rl_q rfl rfl rfl (v_move (v := (.int .i64 v)) hE23) ?_; refine rl_q rfl rfl rfl (v_assign (v := (.int .i64 v)) rfl) ?_; refine rl_end ?_; refine wt_seq ?_; refine wp_draw [0, 1, 2, 3, 4, 5, 6, 7, 8, 9, 10, 11, 12, 13] (fun i => match i with | 11 => [0, 1] | _ => []) wd_wide (by kernel_rfl) (by kernel_rfl) ?_; replace hS := hS.drew; refine rp_q rfl rfl rfl (v_move (v := (.slice Aout lout cout)) hE9) ?_; refine rp_q rfl rfl rfl (v_move (v := (.int .i64 v)) rfl) ?_; refine rp_q rfl rfl rfl (v_move (v := f) hE2) ?_; refine rp_q rfl rfl rfl (v_move (v := (.slice Aa la ca)) hE0) ?_; refine rp_q rfl rfl rfl (v_move (v := (.int .i64 v)) rfl) ?_; obtain ⟨hx2, h⟩ := h; refine rp_q rfl rfl rfl (v_iaddr rfl rfl Try.underlying26 info_3 (rd_ix (hS.rdr 0 rfl) hx2)) ?_; refine rp_q rfl rfl rfl (v_load (v := (.int .i64 (gi a v.toNat))) rfl Try.underlying3 rfl (rd_1 (hS.rdr 0 rfl) hx2 (fun q => gi_some q) rfl)) ?_; refine rp_q rfl rfl rfl (v_move (v := (.slice Ab lb cb)) hE1) ?_; refine rp_q rfl rfl rfl (v_move (v := (.int .i64 v)) rfl) ?_; obtain ⟨hx3, h⟩ := h; refine rp_q rfl rfl rfl (v_iaddr rfl rfl Try.underlying26 info_3 (rd_ix (hS.rdr 1 rfl) hx3)) ?_
      refine rp_q rfl rfl rfl (v_load (v := (.int .i64 (gi b v.toNat))) rfl Try.underlying3 rfl (rd_1 (hS.rdr 1 rfl) hx3 (fun q => gi_some q) rfl)) ?_; obtain ⟨fid, us, hf, he, hcl⟩ := hS.ro 2 rfl _ (Keeps.refl _ _); replace h := hcl _ _ _ h; clear hcl; refine rp_n rfl rfl rfl rfl (n_call (hf) (am2 rfl rfl) he (h.mono ?_)); clear hf he; rintro _ w6 ⟨r2, rfl, hC, h⟩; replace hS := hS.pur hC.pure; clear hC; refine ⟨_, rfl, ?_⟩; refine ⟨⟨fun hh => Bool.noConfusion (show false = true from hh), ⟨fun hh => Bool.noConfusion (show false = true from hh), ⟨fun hh => Bool.noConfusion (show false = true from hh), ⟨fun hh => Bool.noConfusion (show false = true from hh), ⟨fun hh => Bool.noConfusion (show false = true from hh), ⟨fun hh => Bool.noConfusion (show false = true from hh), ⟨fun hh => Bool.noConfusion (show false = true from hh), ⟨fun hh => Bool.noConfusion (show false = true from hh), ⟨fun hh => Bool.noConfusion (show false = true from hh), ⟨fun _ => (v_move (v := (Value.int .i64 v)) rfl), ⟨fun _ => (v_move (v := (Value.slice Aout lout cout)) hE9), trivial⟩⟩⟩⟩⟩⟩⟩⟩⟩⟩⟩, ?_⟩; obtain ⟨hx4, h⟩ := h; refine rp_q rfl rfl rfl (v_iaddr rfl rfl Try.underlying26 info_3 (rd_ix (hS.rdo 3 rfl) hx4)) ?_; refine rp_n0 rfl rfl rfl (n_store (v := (.int .i64 r2)) rfl rfl rfl info_3 (hS.wr 3 rfl rfl hx4) ?_); intro w7 e1; replace hS := hS.st 3 rfl rfl hx4 (x := r2) rfl e1; clear e1; refine ⟨Stb.none _, ?_⟩; refine rp_end ?_; refine wt_seq ?_; refine wl_region wd_wide ?_
      refine rl_q rfl rfl rfl (v_move (v := (.slice Aout lout cout)) hE9) ?_; refine rl_q rfl rfl rfl (v_move (v := (.int .i64 v)) rfl) ?_; obtain ⟨hx5, h⟩ := h; refine rl_q rfl rfl rfl (v_iaddr rfl rfl Try.underlying26 info_3 (rd_ix (hS.rdo 3 rfl) hx5)) ?_; refine rl_q rfl rfl rfl (v_load (v := (.int .i64 (gi (out.set v.toNat r2) v.toNat))) rfl Try.underlying3 rfl (rd_1 (hS.rdo 3 rfl) hx5 (fun q => gi_some q) rfl)) ?_; refine rl_n rfl rfl rfl rfl (n_call0 rfl (am1 rfl) enter_137 ((pok_chips_within h (no_lt _)).mono ?_)); rintro _ w8 ⟨r3, rfl, hC, h⟩; replace hS := hS.pur hC.pure; clear hC; refine ⟨_, rfl, ?_⟩; refine ⟨Stb.none _, ?_⟩; refine rl_q rfl rfl rfl (v_not rfl) ?_; refine rl_end ?_; by_cases hp3 : r3 = true
      · replace h := h.1 hp3; refine wt_cond_f (congrArg Value.bool (congrArg Bool.not hp3)) ?_; refine wt_skip ?_; refine wt_inBlock ?_; refine wl_region wd_wide ?_; obtain ⟨hi, h⟩ := h; refine rl_q rfl rfl rfl (v_add hE23 rfl hi) ?_; refine rl_q rfl rfl rfl (v_move (v := (.int .i64 (v + 1))) rfl) ?_; refine rl_end ?_; obtain ⟨mq, hlt, h⟩ := h; exact again mq _ _ _ ⟨_, _, _, _, _, h, rfl, hE0, hE1, hE2, hE9, hE22, rfl, (hS.sel [0, 1, 2, 3] (by decide))⟩ hlt
      · replace h := h.2 hp3; refine wt_cond_t (congrArg Value.bool (congrArg Bool.not (Bool.eq_false_iff.2 hp3))) ?_; refine wt_seq ?_; refine wl_region wd_wide ?_; refine rl_q rfl rfl rfl (v_assign (v := (.slice none 0 0)) rfl) ?_; refine rl_q rfl rfl rfl (v_assign (v := (.int .i64 11)) rfl) ?_; refine rl_end ?_; replace hS := hS.nil 4 rfl cI 3; exact wt_ret2 rfl rfl rfl ⟨_, _, _, _, _, rfl, (hS.sel [4] (by decide)), h⟩
    · replace h := h.2 hp2; refine wt_cond_f (congrArg Value.bool (decide_eq_false hp2)) ?_; refine wt_exit rfl ?_; refine wt_seq ?_; refine wl_region wd_wide ?_; refine rl_q rfl rfl rfl (v_move (v := (.slice Aout lout cout)) hE9) ?_; refine rl_q rfl rfl rfl (v_assign (v := (.slice Aout lout cout)) rfl) ?_; refine rl_q rfl rfl rfl (v_assign (v := (.int .i64 0)) rfl) ?_; refine rl_end ?_; exact wt_ret2 rfl rfl rfl ⟨_, _, _, _, _, rfl, (hS.sel [3] (by decide)), h⟩
  · replace h := h.2 hp; refine wt_cond_t (congrArg Value.bool (congrArg Bool.not (decide_eq_false hp))) ?_; refine wt_seq ?_; refine wl_region wd_wide ?_; refine rl_q rfl rfl rfl (v_move (v := (.int .i64 r)) rfl) ?_; refine rl_q rfl rfl rfl (v_assign (v := (.slice none 0 0)) rfl) ?_; refine rl_q rfl rfl rfl (v_assign (v := (.int .i64 r)) rfl) ?_; refine rl_end ?_; replace hS := hS.nil 4 rfl cI 3; exact wt_ret2 rfl rfl rfl ⟨_, _, _, _, _, rfl, (hS.sel [4] (by decide)), h⟩

/-- sandpile/chips.Add$1: what it computes. -/
def pf_chips_Add_1 (x : Int) (y : Int) (R : Int → Prop) : Prop :=
(In64 (x + y) ∧
R (x + y))
theorem pok_chips_Add_1 {O : Nat → Prop} {w : World} {x : Int} {y : Int} {R : Int → Prop} (h : pf_chips_Add_1 x y R) (hO : ∀ k, O k → k < w.heap.size) :
    Calls Try.prog 89 #[(Value.int .i64 x), (Value.int .i64 y)] w fun e w' => ∃ r : Int, e = .returned (Value.int .i64 r) ∧ Sep w no O w' (rl []) ∧ R r := by
  unfold pf_chips_Add_1 at h; have hS : Sep w no O w (rl []) := Sep.start w hO; refine calls_sh (l := [(Value.int .i64 x), (Value.int .i64 y)]) Try.func89 rfl Try.ntmps89 (Nat.le_of_ble_eq_true rfl) ?_; refine wt_seq ?_; refine wl_region wd_wide ?_; refine rl_q rfl rfl rfl (v_assign (v := (.int .i64 0)) rfl) ?_; refine rl_end ?_; refine wt_seq ?_; refine wl_region wd_wide ?_; refine rl_q rfl rfl rfl (v_move (v := (.int .i64 x)) rfl) ?_; refine rl_q rfl rfl rfl (v_move (v := (.int .i64 y)) rfl) ?_; obtain ⟨hi, h⟩ := h; refine rl_q rfl rfl rfl (v_add rfl rfl hi) ?_; refine rl_q rfl rfl rfl (v_assign (v := (.int .i64 (x + y))) rfl) ?_; refine rl_end ?_; exact wt_ret1 rfl rfl ⟨_, rfl, (hS.sel [] (by decide)), h⟩

/-- sandpile/chips.Add: what it computes. -/
def pf_chips_Add (a : List Int) (b : List Int) (R : (List Int) → Int → Prop) : Prop :=
pf_chips_each a b (fun x x2 R => pf_chips_Add_1 x x2 R) (fun (r : List Int) (r2 : Int) =>
R r r2)
theorem pok_chips_Add {O : Nat → Prop} {w : World} {a : List Int} {b : List Int} {Aa : Option Addr} {la : Nat} {ca : Nat} {Ab : Option Addr} {lb : Nat} {cb : Nat} {R : (List Int) → Int → Prop} (h : pf_chips_Add a b R) (hO : ∀ k, O k → k < w.heap.size) (hA0 : (FP.sl cI Aa la ca a).P O w) (hA1 : (FP.sl cI Ab lb cb b).P O w) :
    Calls Try.prog 36 #[(Value.slice Aa la ca), (Value.slice Ab lb cb)] w fun e w' => ∃ r3 : List Int, ∃ r4 : Int, ∃ Ar2 : Option Addr, ∃ lr2 : Nat, ∃ cr2 : Nat, e = .returned (Value.tuple #[(Value.slice Ar2 lr2 cr2), (Value.int .i64 r4)]) ∧ Sep w no O w' (rl [Res.own cI 3 Ar2 lr2 cr2 r3]) ∧ R r3 r4 := by
  unfold pf_chips_Add at h; have hS : Sep w no O w (rl [Res.ro (FP.sl cI Aa la ca a), Res.ro (FP.sl cI Ab lb cb b)]) := Sep.startl hO [(FP.sl cI Aa la ca a), (FP.sl cI Ab lb cb b)] ⟨hA0, hA1, trivial⟩; refine calls_sh (l := [(Value.slice Aa la ca), (Value.slice Ab lb cb)]) Try.func36 rfl Try.ntmps36 (Nat.le_of_ble_eq_true rfl) ?_; refine wt_seq ?_; refine wl_region wd_wide ?_; refine rl_q rfl rfl rfl (v_assign (v := (.slice none 0 0)) rfl) ?_; refine rl_q rfl rfl rfl (v_assign (v := (.int .i64 0)) rfl) ?_; refine rl_end ?_; refine wt_seq ?_; refine wl_region wd_wide ?_; refine rl_q rfl rfl rfl (v_move (v := (.slice Aa la ca)) rfl) ?_; refine rl_q rfl rfl rfl (v_move (v := (.slice Ab lb cb)) rfl) ?_; refine rl_n rfl rfl rfl rfl (n_call0 rfl (am3 rfl rfl rfl) enter_88 ((pok_chips_each h (no_lt _) (hS.rdr 0 rfl) (hS.rdr 1 rfl) (fun w' hk => ⟨89, #[], rfl, enter_89, fun x x2 R hF => cast_calls (by simp) (pok_chips_Add_1 hF (no_lt _))⟩)).mono ?_)); rintro _ w2 ⟨r, r2, Ar, lr, cr, rfl, hC, h⟩; replace hS := hS.call1 (hC.widen (flatS (flat_own (fI .i64) _ _ _ _ _) flat0) hS.blt) 2 0 rfl; clear hC; refine ⟨_, rfl, ?_⟩; refine ⟨Stb.none _, ?_⟩; refine rl_q rfl rfl rfl (v_extract (v := (.slice Ar lr cr)) rfl rfl) ?_; refine rl_q rfl rfl rfl (v_extract (v := (.int .i64 r2)) rfl rfl) ?_; refine rl_q rfl rfl rfl (v_assign (v := (.slice Ar lr cr)) rfl) ?_; refine rl_q rfl rfl rfl (v_assign (v := (.int .i64 r2)) rfl) ?_; refine rl_end ?_
  exact wt_ret2 rfl rfl rfl ⟨_, _, _, _, _, rfl, (hS.sel [2] (by decide)), h⟩

/-- sandpile/sandpilelaw36.awake: what it computes. -/
def pf_l36_awake (R : Bool → Prop) : Prop :=
pf_effective_Winnable 3 ([(0, 1, 1), (0, 2, 1), (1, 2, 1)]) ([2, -1, 0]) (fun (r : Bool) (r2 : List Int) (r3 : List Int) (r4 : Int) =>
pf_effective_Winnable 3 ([(0, 1, 1), (0, 2, 1), (1, 2, 1)]) ([1, -1, 0]) (fun (r5 : Bool) (r6 : List Int) (r7 : List Int) (r8 : Int) =>
pf_effective_Needy 3 ([(0, 1, 1), (0, 2, 1), (1, 2, 1)]) ([1, -1, 0]) (fun (r9 : List Int) (r10 : Int) =>
pf_effective_Winnable 3 ([(0, 1, 1), (1, 2, 1)]) ([3, -4, 1]) (fun (r11 : Bool) (r12 : List Int) (r13 : List Int) (r14 : Int) =>
pf_effective_Price 3 ([(0, 1, 1), (1, 2, 1)]) ([2, -4, 1]) 2 (fun (r15 : Int) (r16 : Int) =>
(∃ J2 : Prop, (J2 → pf_effective_VerifyWin 3 ([(0, 1, 1), (0, 2, 1), (1, 2, 1)]) ([2, -1, 0]) r3 (fun (r17 : Int) =>
((r17 = 0 →
pf_effective_VerifyLoss 3 ([(0, 1, 1), (0, 2, 1), (1, 2, 1)]) 0 ([1, -1, 0]) r7 (fun (r18 : Int) =>
R (decide (r18 = 0)))) ∧
(¬ (r17 = 0) →
R false)))) ∧
(In64 (r4 + r8) ∧
(In64 ((r4 + r8) + r10) ∧
(In64 (((r4 + r8) + r10) + r14) ∧
(In64 ((((r4 + r8) + r10) + r14) + r16) ∧
((((((r4 + r8) + r10) + r14) + r16) = 0 →
((r = true →
((r5 = true →
R false) ∧
(¬ (r5 = true) →
((r11 = true →
pf_slices_Equal_Divisor r2 ([0, 0, 1]) (fun (r19 : Bool) =>
((r19 = true →
pf_slices_Equal_Divisor r6 ([-1, 0, 1]) (fun (r20 : Bool) =>
((r20 = true →
pf_slices_Equal_intS r9 ([0, 1, 2]) (fun (r21 : Bool) =>
((r21 = true →
((r15 = 1 →
J2) ∧
(¬ (r15 = 1) →
R false))) ∧
(¬ (r21 = true) →
R false)))) ∧
(¬ (r20 = true) →
R false)))) ∧
(¬ (r19 = true) →
R false)))) ∧
(¬ (r11 = true) →
R false))))) ∧
(¬ (r = true) →
R false))) ∧
(¬ (((((r4 + r8) + r10) + r14) + r16) = 0) →
R false))))))))))))
theorem pok_l36_awake {O : Nat → Prop} {w : World} {R : Bool → Prop} (h : pf_l36_awake R) (hO : ∀ k, O k → k < w.heap.size) :
    Calls Try.prog 17 #[] w fun e w' => ∃ r22 : Bool, e = .returned (Value.bool (r22)) ∧ Sep w no O w' (rl []) ∧ R r22 := by
  unfold pf_l36_awake at h; have hS : Sep w no O w (rl []) := Sep.start w hO; refine calls_sh (l := []) Try.func17 rfl Try.ntmps17 (Nat.le_of_ble_eq_true rfl) ?_; refine wt_seq ?_; refine wl_region wd_wide ?_; refine rl_q rfl rfl rfl (v_assign (v := (.bool (false))) rfl) ?_; refine rl_end ?_; refine wt_seq ?_; refine wl_region wd_wide ?_; refine rl_n rfl rfl rfl rfl (n_build (l := [(0, (.int .i64 0)), (1, (.int .i64 1)), (2, (.int .i64 1))]) (cells := [(.int .i64 0), (.int .i64 1), (.int .i64 1)]) (places := [(0, 1), (1, 1), (2, 1)]) (bp3 rfl rfl rfl) Try.underlying63 info_63 (by kernel_rfl) rfl ?_); refine ⟨Stb.none _, ?_⟩; refine rl_n rfl rfl rfl rfl (n_build (l := [(0, (.int .i64 0)), (1, (.int .i64 2)), (2, (.int .i64 1))]) (cells := [(.int .i64 0), (.int .i64 2), (.int .i64 1)]) (places := [(0, 1), (1, 1), (2, 1)]) (bp3 rfl rfl rfl) Try.underlying63 info_63 (by kernel_rfl) rfl ?_); refine ⟨Stb.none _, ?_⟩; refine rl_n rfl rfl rfl rfl (n_build (l := [(0, (.int .i64 1)), (1, (.int .i64 2)), (2, (.int .i64 1))]) (cells := [(.int .i64 1), (.int .i64 2), (.int .i64 1)]) (places := [(0, 1), (1, 1), (2, 1)]) (bp3 rfl rfl rfl) Try.underlying63 info_63 (by kernel_rfl) rfl ?_); refine ⟨Stb.none _, ?_⟩
  refine rl_n rfl rfl rfl rfl (n_bslice (l := [(0, (.agg #[(.int .i64 0), (.int .i64 1), (.int .i64 1)])), (1, (.agg #[(.int .i64 0), (.int .i64 2), (.int .i64 1)])), (2, (.agg #[(.int .i64 1), (.int .i64 2), (.int .i64 1)]))]) (cells := [(.int .i64 0), (.int .i64 1), (.int .i64 1), (.int .i64 0), (.int .i64 2), (.int .i64 1), (.int .i64 1), (.int .i64 2), (.int .i64 1)]) (bp3 rfl rfl rfl) Try.underlying22 info_63 rfl rfl ?_); intro g w2 hN; replace hS := hS.litf (n := 3) 0 rfl (fP (fI .i64) (fP (fI .i64) (fI .i64))) hN ([(0, 1, 1), (0, 2, 1), (1, 2, 1)] : List (Int × Int × Int)) rfl (by decide) rfl; clear hN; refine ⟨Stb.none _, ?_⟩; refine rl_n rfl rfl rfl rfl (n_build (l := [(0, (.int .i64 3)), (1, (.slice (some ⟨g, 0, none⟩) 3 3))]) (cells := [(.int .i64 3), (.slice (some ⟨g, 0, none⟩) 3 3)]) (places := [(0, 1), (1, 1)]) (bp2 rfl rfl) Try.underlying24 info_24 (by kernel_rfl) rfl ?_); refine ⟨Stb.none _, ?_⟩; refine rl_n rfl rfl rfl rfl (n_alloc info_24 ?_); intro g2 w3 hN; replace hS : Sep w no O w3 (stl _ 1 (Res.box 24 g2 [(Value.int .i64 0), (Value.slice none 0 0)])) := hS.new 1 rfl hN; clear hN; refine ⟨Stb.none _, ?_⟩; refine rl_n0 rfl rfl rfl (n_storen (b := g2) (o := 0) (cells := #[(.int .i64 3), (.slice (some ⟨g, 0, none⟩) 3 3)]) rfl rfl info_24 rfl rfl (there_row (hS.bx 1 rfl) (Nat.le_of_ble_eq_true rfl)) ?_); intro w4 e1; replace hS := hS.bstn 1 rfl 0 [(Value.int .i64 3), (Value.slice (some ⟨g, 0, none⟩) 3 3)] e1; clear e1; refine ⟨Stb.none _, ?_⟩
  refine rl_end ?_; refine wt_seq ?_; refine wl_region wd_wide ?_; refine rl_n rfl rfl rfl rfl (n_build (l := [(0, (.int .i64 0)), (1, (.int .i64 1)), (2, (.int .i64 1))]) (cells := [(.int .i64 0), (.int .i64 1), (.int .i64 1)]) (places := [(0, 1), (1, 1), (2, 1)]) (bp3 rfl rfl rfl) Try.underlying63 info_63 (by kernel_rfl) rfl ?_); refine ⟨Stb.none _, ?_⟩; refine rl_n rfl rfl rfl rfl (n_build (l := [(0, (.int .i64 1)), (1, (.int .i64 2)), (2, (.int .i64 1))]) (cells := [(.int .i64 1), (.int .i64 2), (.int .i64 1)]) (places := [(0, 1), (1, 1), (2, 1)]) (bp3 rfl rfl rfl) Try.underlying63 info_63 (by kernel_rfl) rfl ?_); refine ⟨Stb.none _, ?_⟩; refine rl_n rfl rfl rfl rfl (n_bslice (l := [(0, (.agg #[(.int .i64 0), (.int .i64 1), (.int .i64 1)])), (1, (.agg #[(.int .i64 1), (.int .i64 2), (.int .i64 1)]))]) (cells := [(.int .i64 0), (.int .i64 1), (.int .i64 1), (.int .i64 1), (.int .i64 2), (.int .i64 1)]) (bp2 rfl rfl) Try.underlying22 info_63 rfl rfl ?_); intro g3 w5 hN; replace hS := hS.litf (n := 2) 2 rfl (fP (fI .i64) (fP (fI .i64) (fI .i64))) hN ([(0, 1, 1), (1, 2, 1)] : List (Int × Int × Int)) rfl (by decide) rfl; clear hN; refine ⟨Stb.none _, ?_⟩; refine rl_n rfl rfl rfl rfl (n_build (l := [(0, (.int .i64 3)), (1, (.slice (some ⟨g3, 0, none⟩) 2 2))]) (cells := [(.int .i64 3), (.slice (some ⟨g3, 0, none⟩) 2 2)]) (places := [(0, 1), (1, 1)]) (bp2 rfl rfl) Try.underlying24 info_24 (by kernel_rfl) rfl ?_); refine ⟨Stb.none _, ?_⟩
  refine rl_n rfl rfl rfl rfl (n_alloc info_24 ?_); intro g4 w6 hN; replace hS : Sep w no O w6 (stl _ 3 (Res.box 24 g4 [(Value.int .i64 0), (Value.slice none 0 0)])) := hS.new 3 rfl hN; clear hN; refine ⟨Stb.none _, ?_⟩; refine rl_n0 rfl rfl rfl (n_storen (b := g4) (o := 0) (cells := #[(.int .i64 3), (.slice (some ⟨g3, 0, none⟩) 2 2)]) rfl rfl info_24 rfl rfl (there_row (hS.bx 3 rfl) (Nat.le_of_ble_eq_true rfl)) ?_); intro w7 e1; replace hS := hS.bstn 3 rfl 0 [(Value.int .i64 3), (Value.slice (some ⟨g3, 0, none⟩) 2 2)] e1; clear e1; refine ⟨Stb.none _, ?_⟩; refine rl_end ?_; refine wt_seq ?_; refine wl_region wd_wide ?_; refine rl_q rfl rfl rfl (v_loadn (vs := [(.int .i64 3), (.slice (some ⟨g, 0, none⟩) 3 3)]) rfl Try.underlying24 rfl info_24 ⟨Row.cell (hS.bx 1 rfl) (i := 0) rfl, Row.cell (hS.bx 1 rfl) (i := 1) rfl, trivial⟩) ?_; refine rl_n rfl rfl rfl rfl (n_bslice (l := [(0, (.int .i64 2)), (1, (.int .i64 (-1))), (2, (.int .i64 0))]) (cells := [(.int .i64 2), (.int .i64 (-1)), (.int .i64 0)]) (bp3 rfl rfl rfl) Try.underlying26 info_3 rfl rfl ?_); intro g5 w8 hN; replace hS := hS.litf (n := 3) 4 rfl (fI .i64) hN ([2, -1, 0] : List Int) rfl (by decide) rfl; clear hN; refine ⟨Stb.none _, ?_⟩; refine rl_n rfl rfl rfl rfl (n_call0 rfl (am2 rfl rfl) enter_30 ((pok_effective_Winnable h (no_lt _) (hS.rdo 0 rfl) (hS.rdo 4 rfl)).mono ?_)); rintro _ w9 ⟨r, r2, r3, r4, Ar, lr, cr, Ar2, lr2, cr2, rfl, hC, h⟩
  replace hS := hS.call2 (hC.widen (flatS (flat_own (fI .i64) _ _ _ _ _) (flatS (flat_own (fI .i64) _ _ _ _ _) flat0)) hS.blt) 5 0 6 1 rfl rfl (by decide) (by decide); clear hC; refine ⟨_, rfl, ?_⟩; refine ⟨Stb.none _, ?_⟩; refine rl_q rfl rfl rfl (v_move (v := (.tuple #[(.bool (r)), (.slice Ar lr cr), (.slice Ar2 lr2 cr2), (.int .i64 r4)])) rfl) ?_; refine rl_q rfl rfl rfl (v_extract (v := (.bool (r))) rfl rfl) ?_; refine rl_q rfl rfl rfl (v_extract (v := (.slice Ar lr cr)) rfl rfl) ?_; refine rl_q rfl rfl rfl (v_extract (v := (.slice Ar2 lr2 cr2)) rfl rfl) ?_; refine rl_q rfl rfl rfl (v_extract (v := (.int .i64 r4)) rfl rfl) ?_; refine rl_q rfl rfl rfl (v_assign (v := (.bool (r))) rfl) ?_; refine rl_q rfl rfl rfl (v_assign (v := (.slice Ar lr cr)) rfl) ?_; refine rl_q rfl rfl rfl (v_assign (v := (.slice Ar2 lr2 cr2)) rfl) ?_; refine rl_q rfl rfl rfl (v_assign (v := (.int .i64 r4)) rfl) ?_; refine rl_end ?_; refine wt_seq ?_; refine wl_region wd_wide ?_; refine rl_q rfl rfl rfl (v_loadn (vs := [(.int .i64 3), (.slice (some ⟨g, 0, none⟩) 3 3)]) rfl Try.underlying24 rfl info_24 ⟨Row.cell (hS.bx 1 rfl) (i := 0) rfl, Row.cell (hS.bx 1 rfl) (i := 1) rfl, trivial⟩) ?_; refine rl_n rfl rfl rfl rfl (n_bslice (l := [(0, (.int .i64 1)), (1, (.int .i64 (-1))), (2, (.int .i64 0))]) (cells := [(.int .i64 1), (.int .i64 (-1)), (.int .i64 0)]) (bp3 rfl rfl rfl) Try.underlying26 info_3 rfl rfl ?_); intro g6 w10 hN
  replace hS := hS.litf (n := 3) 7 rfl (fI .i64) hN ([1, -1, 0] : List Int) rfl (by decide) rfl; clear hN; refine ⟨Stb.none _, ?_⟩; refine rl_n rfl rfl rfl rfl (n_call0 rfl (am2 rfl rfl) enter_30 ((pok_effective_Winnable h (no_lt _) (hS.rdo 0 rfl) (hS.rdo 7 rfl)).mono ?_)); rintro _ w11 ⟨r5, r6, r7, r8, Ar3, lr3, cr3, Ar4, lr4, cr4, rfl, hC, h⟩; replace hS := hS.call2 (hC.widen (flatS (flat_own (fI .i64) _ _ _ _ _) (flatS (flat_own (fI .i64) _ _ _ _ _) flat0)) hS.blt) 8 0 9 1 rfl rfl (by decide) (by decide); clear hC; refine ⟨_, rfl, ?_⟩; refine ⟨Stb.none _, ?_⟩; refine rl_q rfl rfl rfl (v_move (v := (.tuple #[(.bool (r5)), (.slice Ar3 lr3 cr3), (.slice Ar4 lr4 cr4), (.int .i64 r8)])) rfl) ?_; refine rl_q rfl rfl rfl (v_extract (v := (.bool (r5))) rfl rfl) ?_; refine rl_q rfl rfl rfl (v_extract (v := (.slice Ar3 lr3 cr3)) rfl rfl) ?_; refine rl_q rfl rfl rfl (v_extract (v := (.slice Ar4 lr4 cr4)) rfl rfl) ?_; refine rl_q rfl rfl rfl (v_extract (v := (.int .i64 r8)) rfl rfl) ?_; refine rl_q rfl rfl rfl (v_assign (v := (.bool (r5))) rfl) ?_; refine rl_q rfl rfl rfl (v_assign (v := (.slice Ar3 lr3 cr3)) rfl) ?_; refine rl_q rfl rfl rfl (v_assign (v := (.slice Ar4 lr4 cr4)) rfl) ?_; refine rl_q rfl rfl rfl (v_assign (v := (.int .i64 r8)) rfl) ?_; refine rl_end ?_; refine wt_seq ?_; refine wl_region wd_wide ?_
  refine rl_q rfl rfl rfl (v_loadn (vs := [(.int .i64 3), (.slice (some ⟨g, 0, none⟩) 3 3)]) rfl Try.underlying24 rfl info_24 ⟨Row.cell (hS.bx 1 rfl) (i := 0) rfl, Row.cell (hS.bx 1 rfl) (i := 1) rfl, trivial⟩) ?_; refine rl_n rfl rfl rfl rfl (n_bslice (l := [(0, (.int .i64 1)), (1, (.int .i64 (-1))), (2, (.int .i64 0))]) (cells := [(.int .i64 1), (.int .i64 (-1)), (.int .i64 0)]) (bp3 rfl rfl rfl) Try.underlying26 info_3 rfl rfl ?_); intro g7 w12 hN; replace hS := hS.litf (n := 3) 10 rfl (fI .i64) hN ([1, -1, 0] : List Int) rfl (by decide) rfl; clear hN; refine ⟨Stb.none _, ?_⟩; refine rl_n rfl rfl rfl rfl (n_call0 rfl (am2 rfl rfl) enter_26 ((pok_effective_Needy h (no_lt _) (hS.rdo 0 rfl) (hS.rdo 10 rfl)).mono ?_)); rintro _ w13 ⟨r9, r10, Ar5, lr5, cr5, rfl, hC, h⟩; replace hS := hS.call1 (hC.widen (flatS (flat_own (fI .i64) _ _ _ _ _) flat0) hS.blt) 11 0 rfl; clear hC; refine ⟨_, rfl, ?_⟩; refine ⟨Stb.none _, ?_⟩; refine rl_q rfl rfl rfl (v_move (v := (.tuple #[(.slice Ar5 lr5 cr5), (.int .i64 r10)])) rfl) ?_; refine rl_q rfl rfl rfl (v_extract (v := (.slice Ar5 lr5 cr5)) rfl rfl) ?_; refine rl_q rfl rfl rfl (v_extract (v := (.int .i64 r10)) rfl rfl) ?_; refine rl_q rfl rfl rfl (v_assign (v := (.slice Ar5 lr5 cr5)) rfl) ?_; refine rl_q rfl rfl rfl (v_assign (v := (.int .i64 r10)) rfl) ?_; refine rl_end ?_; refine wt_seq ?_; refine wl_region wd_wide ?_
  refine rl_q rfl rfl rfl (v_loadn (vs := [(.int .i64 3), (.slice (some ⟨g3, 0, none⟩) 2 2)]) rfl Try.underlying24 rfl info_24 ⟨Row.cell (hS.bx 3 rfl) (i := 0) rfl, Row.cell (hS.bx 3 rfl) (i := 1) rfl, trivial⟩) ?_; refine rl_n rfl rfl rfl rfl (n_bslice (l := [(0, (.int .i64 3)), (1, (.int .i64 (-4))), (2, (.int .i64 1))]) (cells := [(.int .i64 3), (.int .i64 (-4)), (.int .i64 1)]) (bp3 rfl rfl rfl) Try.underlying26 info_3 rfl rfl ?_); intro g8 w14 hN; replace hS := hS.litf (n := 3) 12 rfl (fI .i64) hN ([3, -4, 1] : List Int) rfl (by decide) rfl; clear hN; refine ⟨Stb.none _, ?_⟩; refine rl_n rfl rfl rfl rfl (n_call0 rfl (am2 rfl rfl) enter_30 ((pok_effective_Winnable h (no_lt _) (hS.rdo 2 rfl) (hS.rdo 12 rfl)).mono ?_)); rintro _ w15 ⟨r11, r12, r13, r14, Ar6, lr6, cr6, Ar7, lr7, cr7, rfl, hC, h⟩; replace hS := hS.call2 (hC.widen (flatS (flat_own (fI .i64) _ _ _ _ _) (flatS (flat_own (fI .i64) _ _ _ _ _) flat0)) hS.blt) 13 0 14 1 rfl rfl (by decide) (by decide); clear hC; refine ⟨_, rfl, ?_⟩; refine ⟨Stb.none _, ?_⟩; refine rl_q rfl rfl rfl (v_move (v := (.tuple #[(.bool (r11)), (.slice Ar6 lr6 cr6), (.slice Ar7 lr7 cr7), (.int .i64 r14)])) rfl) ?_; refine rl_q rfl rfl rfl (v_extract (v := (.bool (r11))) rfl rfl) ?_; refine rl_q rfl rfl rfl (v_extract (v := (.slice Ar6 lr6 cr6)) rfl rfl) ?_; refine rl_q rfl rfl rfl (v_extract (v := (.slice Ar7 lr7 cr7)) rfl rfl) ?_; refine rl_q rfl rfl rfl (v_extract (v := (.int .i64 r14)) rfl rfl) ?_
  refine rl_q rfl rfl rfl (v_assign (v := (.bool (r11))) rfl) ?_; refine rl_q rfl rfl rfl (v_assign (v := (.slice Ar6 lr6 cr6)) rfl) ?_; refine rl_q rfl rfl rfl (v_assign (v := (.slice Ar7 lr7 cr7)) rfl) ?_; refine rl_q rfl rfl rfl (v_assign (v := (.int .i64 r14)) rfl) ?_; refine rl_end ?_; refine wt_seq ?_; refine wl_region wd_wide ?_; refine rl_q rfl rfl rfl (v_loadn (vs := [(.int .i64 3), (.slice (some ⟨g3, 0, none⟩) 2 2)]) rfl Try.underlying24 rfl info_24 ⟨Row.cell (hS.bx 3 rfl) (i := 0) rfl, Row.cell (hS.bx 3 rfl) (i := 1) rfl, trivial⟩) ?_; refine rl_n rfl rfl rfl rfl (n_bslice (l := [(0, (.int .i64 2)), (1, (.int .i64 (-4))), (2, (.int .i64 1))]) (cells := [(.int .i64 2), (.int .i64 (-4)), (.int .i64 1)]) (bp3 rfl rfl rfl) Try.underlying26 info_3 rfl rfl ?_); intro g9 w16 hN; replace hS := hS.litf (n := 3) 15 rfl (fI .i64) hN ([2, -4, 1] : List Int) rfl (by decide) rfl; clear hN; refine ⟨Stb.none _, ?_⟩; refine rl_n rfl rfl rfl rfl (n_call0 rfl (am3 rfl rfl rfl) enter_24 ((pok_effective_Price h (no_lt _) (hS.rdo 2 rfl) (hS.rdo 15 rfl)).mono ?_)); rintro _ w17 ⟨r15, r16, rfl, hC, h⟩; replace hS := hS.pur hC.pure; clear hC; refine ⟨_, rfl, ?_⟩; refine ⟨Stb.none _, ?_⟩; refine rl_q rfl rfl rfl (v_move (v := (.tuple #[(.int .i64 r15), (.int .i64 r16)])) rfl) ?_; refine rl_q rfl rfl rfl (v_extract (v := (.int .i64 r15)) rfl rfl) ?_; refine rl_q rfl rfl rfl (v_extract (v := (.int .i64 r16)) rfl rfl) ?_; refine rl_q rfl rfl rfl (v_assign (v := (.int .i64 r15)) rfl) ?_
  refine rl_q rfl rfl rfl (v_assign (v := (.int .i64 r16)) rfl) ?_; refine rl_end ?_; refine wt_seq ?_; refine wt_seq ?_; obtain ⟨J2, hJ, h⟩ := h; refine wt_cutT1 (fun E ds w' => J2 ∧ ds = [] ∧ E 1 = (Value.pointer (some (⟨g2, 0, none⟩ : Addr))) ∧ E 5 = (Value.slice Ar2 lr2 cr2) ∧ E 9 = (Value.slice Ar4 lr4 cr4) ∧ Sep w no O w' (rl [Res.box 24 g2 [(Value.int .i64 3), (Value.slice (some ⟨g, 0, none⟩) 3 3)], Res.own c3 63 (some ⟨g, 0, none⟩) 3 3 ([(0, 1, 1), (0, 2, 1), (1, 2, 1)]), Res.own cI 3 Ar2 lr2 cr2 r3, Res.own cI 3 Ar4 lr4 cr4 r7])) ?_ ?_
  · clear h hS; rintro E ds w18 ⟨h, rfl, hE1, hE5, hE9, hS⟩; replace h := hJ h; refine wt_seq ?_; refine wl_region wd_wide ?_; refine rl_q rfl rfl rfl (v_loadn (vs := [(.int .i64 3), (.slice (some ⟨g, 0, none⟩) 3 3)]) hE1 Try.underlying24 rfl info_24 ⟨Row.cell (hS.bx 0 rfl) (i := 0) rfl, Row.cell (hS.bx 0 rfl) (i := 1) rfl, trivial⟩) ?_; refine rl_n rfl rfl rfl rfl (n_bslice (l := [(0, (.int .i64 2)), (1, (.int .i64 (-1))), (2, (.int .i64 0))]) (cells := [(.int .i64 2), (.int .i64 (-1)), (.int .i64 0)]) (bp3 rfl rfl rfl) Try.underlying26 info_3 rfl rfl ?_); intro g10 w19 hN; replace hS := hS.litf (n := 3) 4 rfl (fI .i64) hN ([2, -1, 0] : List Int) rfl (by decide) rfl; clear hN; refine ⟨Stb.none _, ?_⟩; refine rl_q rfl rfl rfl (v_move (v := (.slice Ar2 lr2 cr2)) hE5) ?_; refine rl_n rfl rfl rfl rfl (n_call0 rfl (am3 rfl rfl rfl) enter_18 ((pok_effective_VerifyWin h (no_lt _) (hS.rdo 1 rfl) (hS.rdo 4 rfl) (hS.rdo 2 rfl)).mono ?_)); rintro _ w20 ⟨r17, rfl, hC, h⟩; replace hS := hS.pur hC.pure; clear hC; refine ⟨_, rfl, ?_⟩; refine ⟨Stb.none _, ?_⟩; refine rl_q rfl rfl rfl (v_eql rfl rfl) ?_; refine rl_q rfl rfl rfl (v_move (v := (.bool (decide (r17 = 0)))) rfl) ?_; by_cases hp : r17 = 0
    · replace h := h.1 hp; refine rl_q (wanted_g rfl (yE_of rfl (congrArg Value.bool (decide_eq_true hp)))) rfl rfl (v_loadn (vs := [(.int .i64 3), (.slice (some ⟨g, 0, none⟩) 3 3)]) hE1 Try.underlying24 rfl info_24 ⟨Row.cell (hS.bx 0 rfl) (i := 0) rfl, Row.cell (hS.bx 0 rfl) (i := 1) rfl, trivial⟩) ?_; refine rl_n (wanted_g rfl (yE_of rfl (congrArg Value.bool (decide_eq_true hp)))) rfl rfl rfl (n_bslice (l := [(0, (.int .i64 1)), (1, (.int .i64 (-1))), (2, (.int .i64 0))]) (cells := [(.int .i64 1), (.int .i64 (-1)), (.int .i64 0)]) (bp3 rfl rfl rfl) Try.underlying26 info_3 rfl rfl ?_); intro g11 w21 hN; replace hS := hS.litf (n := 3) 5 rfl (fI .i64) hN ([1, -1, 0] : List Int) rfl (by decide) rfl; clear hN; refine ⟨Stb.none _, ?_⟩; refine rl_q (wanted_g rfl (yE_of rfl (congrArg Value.bool (decide_eq_true hp)))) rfl rfl (v_move (v := (.slice Ar4 lr4 cr4)) hE9) ?_; refine rl_n (wanted_g rfl (yE_of rfl (congrArg Value.bool (decide_eq_true hp)))) rfl rfl rfl (n_call0 rfl (am4 rfl rfl rfl rfl) enter_20 ((pok_effective_VerifyLoss h (no_lt _) (hS.rdo 1 rfl) (hS.rdo 5 rfl) (hS.rdo 3 rfl)).mono ?_)); rintro _ w22 ⟨r18, rfl, hC, h⟩; replace hS := hS.pur hC.pure; clear hC; refine ⟨_, rfl, ?_⟩; refine ⟨Stb.none _, ?_⟩; refine rl_q (wanted_g rfl (yE_of rfl (congrArg Value.bool (decide_eq_true hp)))) rfl rfl (v_eql rfl rfl) ?_; refine rl_q rfl rfl rfl (v_pick_t (v := (.bool (decide (r18 = 0)))) (congrArg Value.bool (decide_eq_true hp)) rfl) ?_
      refine rl_q rfl rfl rfl (v_assign (v := (.bool (decide (r18 = 0)))) rfl) ?_; refine rl_end ?_; exact wt_ret1 rfl rfl ⟨_, rfl, (hS.sel [] (by decide)), h⟩
    · replace h := h.2 hp; refine rl_p (wanted_n rfl (yE_of rfl (congrArg Value.bool (decide_eq_false hp))) rfl) rfl ?_; refine rl_p (wanted_n rfl (yE_of rfl (congrArg Value.bool (decide_eq_false hp))) rfl) rfl ?_; refine rl_p (wanted_n rfl (yE_of rfl (congrArg Value.bool (decide_eq_false hp))) rfl) rfl ?_; refine rl_p (wanted_n rfl (yE_of rfl (congrArg Value.bool (decide_eq_false hp))) rfl) rfl ?_; refine rl_p (wanted_n rfl (yE_of rfl (congrArg Value.bool (decide_eq_false hp))) rfl) rfl ?_; refine rl_q rfl rfl rfl (v_pick_f (v := (.bool (false))) (congrArg Value.bool (decide_eq_false hp)) rfl) ?_; refine rl_q rfl rfl rfl (v_assign (v := (.bool (false))) rfl) ?_; refine rl_end ?_; exact wt_ret1 rfl rfl ⟨_, rfl, (hS.sel [] (by decide)), h⟩
  clear hJ; intro j; refine wl_region wd_wide ?_; refine rl_q rfl rfl rfl (v_move (v := (.int .i64 r4)) rfl) ?_; refine rl_q rfl rfl rfl (v_move (v := (.int .i64 r8)) rfl) ?_; obtain ⟨hi, h⟩ := h; refine rl_q rfl rfl rfl (v_add rfl rfl hi) ?_; refine rl_q rfl rfl rfl (v_move (v := (.int .i64 r10)) rfl) ?_; obtain ⟨hi2, h⟩ := h; refine rl_q rfl rfl rfl (v_add rfl rfl hi2) ?_; refine rl_q rfl rfl rfl (v_move (v := (.int .i64 r14)) rfl) ?_; obtain ⟨hi3, h⟩ := h; refine rl_q rfl rfl rfl (v_add rfl rfl hi3) ?_; refine rl_q rfl rfl rfl (v_move (v := (.int .i64 r16)) rfl) ?_; obtain ⟨hi4, h⟩ := h; refine rl_q rfl rfl rfl (v_add rfl rfl hi4) ?_; refine rl_q rfl rfl rfl (v_neq rfl rfl) ?_; refine rl_q rfl rfl rfl (v_move (v := (.bool (!(decide (((((r4 + r8) + r10) + r14) + r16) = 0))))) rfl) ?_; by_cases hp2 : ((((r4 + r8) + r10) + r14) + r16) = 0
  · replace h := h.1 hp2; refine rl_q (wanted_g rfl (yE_of rfl (congrArg Value.bool (congrArg Bool.not (decide_eq_true hp2))))) rfl rfl (v_move (v := (.bool (r))) rfl) ?_; refine rl_q (wanted_g rfl (yE_of rfl (congrArg Value.bool (congrArg Bool.not (decide_eq_true hp2))))) rfl rfl (v_not rfl) ?_; refine rl_q rfl rfl rfl (v_pick_f (v := (.bool (!(r)))) (congrArg Value.bool (congrArg Bool.not (decide_eq_true hp2))) rfl) ?_; refine rl_q rfl rfl rfl (v_move (v := (.bool (!(r)))) rfl) ?_; by_cases hp3 : r = true
    · replace h := h.1 hp3; refine rl_q (wanted_g rfl (yE_of rfl (congrArg Value.bool (congrArg Bool.not hp3)))) rfl rfl (v_move (v := (.bool (r5))) rfl) ?_; refine rl_q rfl rfl rfl (v_pick_f (v := (.bool (r5))) (congrArg Value.bool (congrArg Bool.not hp3)) rfl) ?_; refine rl_q rfl rfl rfl (v_move (v := (.bool (r5))) rfl) ?_; by_cases hp4 : r5 = true
      · replace h := h.1 hp4; refine rl_p (wanted_n rfl (yE_of rfl (congrArg Value.bool hp4)) rfl) rfl ?_; refine rl_p (wanted_n rfl (yE_of rfl (congrArg Value.bool hp4)) rfl) rfl ?_; refine rl_q rfl rfl rfl (v_pick_t (v := (.bool (true))) (congrArg Value.bool hp4) rfl) ?_; refine rl_q rfl rfl rfl (v_move (v := (.bool (true))) rfl) ?_; refine rl_p (wanted_n rfl (yE_of rfl rfl) rfl) rfl ?_; refine rl_p (wanted_n rfl (yE_of rfl rfl) rfl) rfl ?_; refine rl_p (wanted_n rfl (yE_of rfl rfl) rfl) rfl ?_; refine rl_p (wanted_n rfl (yE_of rfl rfl) rfl) rfl ?_; refine rl_q rfl rfl rfl (v_pick_t (v := (.bool (true))) rfl rfl) ?_; refine rl_q rfl rfl rfl (v_move (v := (.bool (true))) rfl) ?_; refine rl_p (wanted_n rfl (yE_of rfl rfl) rfl) rfl ?_; refine rl_p (wanted_n rfl (yE_of rfl rfl) rfl) rfl ?_; refine rl_p (wanted_n rfl (yE_of rfl rfl) rfl) rfl ?_; refine rl_p (wanted_n rfl (yE_of rfl rfl) rfl) rfl ?_; refine rl_q rfl rfl rfl (v_pick_t (v := (.bool (true))) rfl rfl) ?_; refine rl_q rfl rfl rfl (v_move (v := (.bool (true))) rfl) ?_; refine rl_p (wanted_n rfl (yE_of rfl rfl) rfl) rfl ?_; refine rl_p (wanted_n rfl (yE_of rfl rfl) rfl) rfl ?_; refine rl_p (wanted_n rfl (yE_of rfl rfl) rfl) rfl ?_; refine rl_p (wanted_n rfl (yE_of rfl rfl) rfl) rfl ?_; refine rl_q rfl rfl rfl (v_pick_t (v := (.bool (true))) rfl rfl) ?_; refine rl_q rfl rfl rfl (v_move (v := (.bool (true))) rfl) ?_; refine rl_p (wanted_n rfl (yE_of rfl rfl) rfl) rfl ?_
        refine rl_p (wanted_n rfl (yE_of rfl rfl) rfl) rfl ?_; refine rl_q rfl rfl rfl (v_pick_t (v := (.bool (true))) rfl rfl) ?_; refine rl_end ?_; refine wt_cond_t rfl ?_; refine wt_seq ?_; refine wl_region wd_wide ?_; refine rl_q rfl rfl rfl (v_assign (v := (.bool (false))) rfl) ?_; refine rl_end ?_; exact wt_ret1 rfl rfl ⟨_, rfl, (hS.sel [] (by decide)), h⟩
      · replace h := h.2 hp4; refine rl_q (wanted_g rfl (yE_of rfl (congrArg Value.bool (Bool.eq_false_iff.2 hp4)))) rfl rfl (v_move (v := (.bool (r11))) rfl) ?_; refine rl_q (wanted_g rfl (yE_of rfl (congrArg Value.bool (Bool.eq_false_iff.2 hp4)))) rfl rfl (v_not rfl) ?_; refine rl_q rfl rfl rfl (v_pick_f (v := (.bool (!(r11)))) (congrArg Value.bool (Bool.eq_false_iff.2 hp4)) rfl) ?_; refine rl_q rfl rfl rfl (v_move (v := (.bool (!(r11)))) rfl) ?_; by_cases hp5 : r11 = true
        · replace h := h.1 hp5; refine rl_q (wanted_g rfl (yE_of rfl (congrArg Value.bool (congrArg Bool.not hp5)))) rfl rfl (v_move (v := (.slice Ar lr cr)) rfl) ?_; refine rl_n (wanted_g rfl (yE_of rfl (congrArg Value.bool (congrArg Bool.not hp5)))) rfl rfl rfl (n_bslice (l := [(0, (.int .i64 0)), (1, (.int .i64 0)), (2, (.int .i64 1))]) (cells := [(.int .i64 0), (.int .i64 0), (.int .i64 1)]) (bp3 rfl rfl rfl) Try.underlying26 info_3 rfl rfl ?_); intro g12 w23 hN; replace hS := hS.litf (n := 3) 16 rfl (fI .i64) hN ([0, 0, 1] : List Int) rfl (by decide) rfl; clear hN; refine ⟨Stb.none _, ?_⟩; refine rl_n (wanted_g rfl (yE_of rfl (congrArg Value.bool (congrArg Bool.not hp5)))) rfl rfl rfl (n_call0 rfl (am2 rfl rfl) enter_33 ((pok_slices_Equal_Divisor h (no_lt _) (hS.rdo 5 rfl) (hS.rdo 16 rfl)).mono ?_)); rintro _ w24 ⟨r19, rfl, hC, h⟩; replace hS := hS.pur hC.pure; clear hC; refine ⟨_, rfl, ?_⟩; refine ⟨Stb.none _, ?_⟩; refine rl_q (wanted_g rfl (yE_of rfl (congrArg Value.bool (congrArg Bool.not hp5)))) rfl rfl (v_not rfl) ?_; refine rl_q rfl rfl rfl (v_pick_f (v := (.bool (!(r19)))) (congrArg Value.bool (congrArg Bool.not hp5)) rfl) ?_; refine rl_q rfl rfl rfl (v_move (v := (.bool (!(r19)))) rfl) ?_; by_cases hp6 : r19 = true
          · replace h := h.1 hp6; refine rl_q (wanted_g rfl (yE_of rfl (congrArg Value.bool (congrArg Bool.not hp6)))) rfl rfl (v_move (v := (.slice Ar3 lr3 cr3)) rfl) ?_; refine rl_n (wanted_g rfl (yE_of rfl (congrArg Value.bool (congrArg Bool.not hp6)))) rfl rfl rfl (n_bslice (l := [(0, (.int .i64 (-1))), (1, (.int .i64 0)), (2, (.int .i64 1))]) (cells := [(.int .i64 (-1)), (.int .i64 0), (.int .i64 1)]) (bp3 rfl rfl rfl) Try.underlying26 info_3 rfl rfl ?_); intro g13 w25 hN; replace hS := hS.litf (n := 3) 17 rfl (fI .i64) hN ([-1, 0, 1] : List Int) rfl (by decide) rfl; clear hN; refine ⟨Stb.none _, ?_⟩; refine rl_n (wanted_g rfl (yE_of rfl (congrArg Value.bool (congrArg Bool.not hp6)))) rfl rfl rfl (n_call0 rfl (am2 rfl rfl) enter_33 ((pok_slices_Equal_Divisor h (no_lt _) (hS.rdo 8 rfl) (hS.rdo 17 rfl)).mono ?_)); rintro _ w26 ⟨r20, rfl, hC, h⟩; replace hS := hS.pur hC.pure; clear hC; refine ⟨_, rfl, ?_⟩; refine ⟨Stb.none _, ?_⟩; refine rl_q (wanted_g rfl (yE_of rfl (congrArg Value.bool (congrArg Bool.not hp6)))) rfl rfl (v_not rfl) ?_; refine rl_q rfl rfl rfl (v_pick_f (v := (.bool (!(r20)))) (congrArg Value.bool (congrArg Bool.not hp6)) rfl) ?_; refine rl_q rfl rfl rfl (v_move (v := (.bool (!(r20)))) rfl) ?_; by_cases hp7 : r20 = true
            · replace h := h.1 hp7; refine rl_q (wanted_g rfl (yE_of rfl (congrArg Value.bool (congrArg Bool.not hp7)))) rfl rfl (v_move (v := (.slice Ar5 lr5 cr5)) rfl) ?_; refine rl_n (wanted_g rfl (yE_of rfl (congrArg Value.bool (congrArg Bool.not hp7)))) rfl rfl rfl (n_bslice (l := [(0, (.int .i64 0)), (1, (.int .i64 1)), (2, (.int .i64 2))]) (cells := [(.int .i64 0), (.int .i64 1), (.int .i64 2)]) (bp3 rfl rfl rfl) Try.underlying25 info_3 rfl rfl ?_); intro g14 w27 hN; replace hS := hS.litf (n := 3) 18 rfl (fI .i64) hN ([0, 1, 2] : List Int) rfl (by decide) rfl; clear hN; refine ⟨Stb.none _, ?_⟩; refine rl_n (wanted_g rfl (yE_of rfl (congrArg Value.bool (congrArg Bool.not hp7)))) rfl rfl rfl (n_call0 rfl (am2 rfl rfl) enter_28 ((pok_slices_Equal_intS h (no_lt _) (hS.rdo 11 rfl) (hS.rdo 18 rfl)).mono ?_)); rintro _ w28 ⟨r21, rfl, hC, h⟩; replace hS := hS.pur hC.pure; clear hC; refine ⟨_, rfl, ?_⟩; refine ⟨Stb.none _, ?_⟩; refine rl_q (wanted_g rfl (yE_of rfl (congrArg Value.bool (congrArg Bool.not hp7)))) rfl rfl (v_not rfl) ?_; refine rl_q rfl rfl rfl (v_pick_f (v := (.bool (!(r21)))) (congrArg Value.bool (congrArg Bool.not hp7)) rfl) ?_; refine rl_q rfl rfl rfl (v_move (v := (.bool (!(r21)))) rfl) ?_; by_cases hp8 : r21 = true
              · replace h := h.1 hp8; refine rl_q (wanted_g rfl (yE_of rfl (congrArg Value.bool (congrArg Bool.not hp8)))) rfl rfl (v_move (v := (.int .i64 r15)) rfl) ?_; refine rl_q (wanted_g rfl (yE_of rfl (congrArg Value.bool (congrArg Bool.not hp8)))) rfl rfl (v_neq rfl rfl) ?_; refine rl_q rfl rfl rfl (v_pick_f (v := (.bool (!(decide (r15 = 1))))) (congrArg Value.bool (congrArg Bool.not hp8)) rfl) ?_; refine rl_end ?_; by_cases hp9 : r15 = 1
                · replace h := h.1 hp9; refine wt_cond_f (congrArg Value.bool (congrArg Bool.not (decide_eq_true hp9))) ?_; refine wt_skip ?_; exact j _ _ _ ⟨h, rfl, rfl, rfl, rfl, (hS.sel [1, 0, 6, 9] (by decide))⟩
                · replace h := h.2 hp9; refine wt_cond_t (congrArg Value.bool (congrArg Bool.not (decide_eq_false hp9))) ?_; refine wt_seq ?_; refine wl_region wd_wide ?_; refine rl_q rfl rfl rfl (v_assign (v := (.bool (false))) rfl) ?_; refine rl_end ?_; exact wt_ret1 rfl rfl ⟨_, rfl, (hS.sel [] (by decide)), h⟩
              · replace h := h.2 hp8; refine rl_p (wanted_n rfl (yE_of rfl (congrArg Value.bool (congrArg Bool.not (Bool.eq_false_iff.2 hp8)))) rfl) rfl ?_; refine rl_p (wanted_n rfl (yE_of rfl (congrArg Value.bool (congrArg Bool.not (Bool.eq_false_iff.2 hp8)))) rfl) rfl ?_; refine rl_q rfl rfl rfl (v_pick_t (v := (.bool (true))) (congrArg Value.bool (congrArg Bool.not (Bool.eq_false_iff.2 hp8))) rfl) ?_; refine rl_end ?_; refine wt_cond_t rfl ?_; refine wt_seq ?_; refine wl_region wd_wide ?_; refine rl_q rfl rfl rfl (v_assign (v := (.bool (false))) rfl) ?_; refine rl_end ?_; exact wt_ret1 rfl rfl ⟨_, rfl, (hS.sel [] (by decide)), h⟩
            · replace h := h.2 hp7; refine rl_p (wanted_n rfl (yE_of rfl (congrArg Value.bool (congrArg Bool.not (Bool.eq_false_iff.2 hp7)))) rfl) rfl ?_; refine rl_p (wanted_n rfl (yE_of rfl (congrArg Value.bool (congrArg Bool.not (Bool.eq_false_iff.2 hp7)))) rfl) rfl ?_; refine rl_p (wanted_n rfl (yE_of rfl (congrArg Value.bool (congrArg Bool.not (Bool.eq_false_iff.2 hp7)))) rfl) rfl ?_; refine rl_p (wanted_n rfl (yE_of rfl (congrArg Value.bool (congrArg Bool.not (Bool.eq_false_iff.2 hp7)))) rfl) rfl ?_; refine rl_q rfl rfl rfl (v_pick_t (v := (.bool (true))) (congrArg Value.bool (congrArg Bool.not (Bool.eq_false_iff.2 hp7))) rfl) ?_; refine rl_q rfl rfl rfl (v_move (v := (.bool (true))) rfl) ?_; refine rl_p (wanted_n rfl (yE_of rfl rfl) rfl) rfl ?_; refine rl_p (wanted_n rfl (yE_of rfl rfl) rfl) rfl ?_; refine rl_q rfl rfl rfl (v_pick_t (v := (.bool (true))) rfl rfl) ?_; refine rl_end ?_; refine wt_cond_t rfl ?_; refine wt_seq ?_; refine wl_region wd_wide ?_; refine rl_q rfl rfl rfl (v_assign (v := (.bool (false))) rfl) ?_; refine rl_end ?_; exact wt_ret1 rfl rfl ⟨_, rfl, (hS.sel [] (by decide)), h⟩
          · replace h := h.2 hp6; refine rl_p (wanted_n rfl (yE_of rfl (congrArg Value.bool (congrArg Bool.not (Bool.eq_false_iff.2 hp6)))) rfl) rfl ?_; refine rl_p (wanted_n rfl (yE_of rfl (congrArg Value.bool (congrArg Bool.not (Bool.eq_false_iff.2 hp6)))) rfl) rfl ?_; refine rl_p (wanted_n rfl (yE_of rfl (congrArg Value.bool (congrArg Bool.not (Bool.eq_false_iff.2 hp6)))) rfl) rfl ?_; refine rl_p (wanted_n rfl (yE_of rfl (congrArg Value.bool (congrArg Bool.not (Bool.eq_false_iff.2 hp6)))) rfl) rfl ?_; refine rl_q rfl rfl rfl (v_pick_t (v := (.bool (true))) (congrArg Value.bool (congrArg Bool.not (Bool.eq_false_iff.2 hp6))) rfl) ?_; refine rl_q rfl rfl rfl (v_move (v := (.bool (true))) rfl) ?_; refine rl_p (wanted_n rfl (yE_of rfl rfl) rfl) rfl ?_; refine rl_p (wanted_n rfl (yE_of rfl rfl) rfl) rfl ?_; refine rl_p (wanted_n rfl (yE_of rfl rfl) rfl) rfl ?_; refine rl_p (wanted_n rfl (yE_of rfl rfl) rfl) rfl ?_; refine rl_q rfl rfl rfl (v_pick_t (v := (.bool (true))) rfl rfl) ?_; refine rl_q rfl rfl rfl (v_move (v := (.bool (true))) rfl) ?_; refine rl_p (wanted_n rfl (yE_of rfl rfl) rfl) rfl ?_; refine rl_p (wanted_n rfl (yE_of rfl rfl) rfl) rfl ?_; refine rl_q rfl rfl rfl (v_pick_t (v := (.bool (true))) rfl rfl) ?_; refine rl_end ?_; refine wt_cond_t rfl ?_; refine wt_seq ?_; refine wl_region wd_wide ?_; refine rl_q rfl rfl rfl (v_assign (v := (.bool (false))) rfl) ?_; refine rl_end ?_; exact wt_ret1 rfl rfl ⟨_, rfl, (hS.sel [] (by decide)), h⟩
        · replace h := h.2 hp5; refine rl_p (wanted_n rfl (yE_of rfl (congrArg Value.bool (congrArg Bool.not (Bool.eq_false_iff.2 hp5)))) rfl) rfl ?_; refine rl_p (wanted_n rfl (yE_of rfl (congrArg Value.bool (congrArg Bool.not (Bool.eq_false_iff.2 hp5)))) rfl) rfl ?_; refine rl_p (wanted_n rfl (yE_of rfl (congrArg Value.bool (congrArg Bool.not (Bool.eq_false_iff.2 hp5)))) rfl) rfl ?_; refine rl_p (wanted_n rfl (yE_of rfl (congrArg Value.bool (congrArg Bool.not (Bool.eq_false_iff.2 hp5)))) rfl) rfl ?_; refine rl_q rfl rfl rfl (v_pick_t (v := (.bool (true))) (congrArg Value.bool (congrArg Bool.not (Bool.eq_false_iff.2 hp5))) rfl) ?_; refine rl_q rfl rfl rfl (v_move (v := (.bool (true))) rfl) ?_; refine rl_p (wanted_n rfl (yE_of rfl rfl) rfl) rfl ?_; refine rl_p (wanted_n rfl (yE_of rfl rfl) rfl) rfl ?_; refine rl_p (wanted_n rfl (yE_of rfl rfl) rfl) rfl ?_; refine rl_p (wanted_n rfl (yE_of rfl rfl) rfl) rfl ?_; refine rl_q rfl rfl rfl (v_pick_t (v := (.bool (true))) rfl rfl) ?_; refine rl_q rfl rfl rfl (v_move (v := (.bool (true))) rfl) ?_; refine rl_p (wanted_n rfl (yE_of rfl rfl) rfl) rfl ?_; refine rl_p (wanted_n rfl (yE_of rfl rfl) rfl) rfl ?_; refine rl_p (wanted_n rfl (yE_of rfl rfl) rfl) rfl ?_; refine rl_p (wanted_n rfl (yE_of rfl rfl) rfl) rfl ?_; refine rl_q rfl rfl rfl (v_pick_t (v := (.bool (true))) rfl rfl) ?_; refine rl_q rfl rfl rfl (v_move (v := (.bool (true))) rfl) ?_; refine rl_p (wanted_n rfl (yE_of rfl rfl) rfl) rfl ?_
          refine rl_p (wanted_n rfl (yE_of rfl rfl) rfl) rfl ?_; refine rl_q rfl rfl rfl (v_pick_t (v := (.bool (true))) rfl rfl) ?_; refine rl_end ?_; refine wt_cond_t rfl ?_; refine wt_seq ?_; refine wl_region wd_wide ?_; refine rl_q rfl rfl rfl (v_assign (v := (.bool (false))) rfl) ?_; refine rl_end ?_; exact wt_ret1 rfl rfl ⟨_, rfl, (hS.sel [] (by decide)), h⟩
    · replace h := h.2 hp3; refine rl_p (wanted_n rfl (yE_of rfl (congrArg Value.bool (congrArg Bool.not (Bool.eq_false_iff.2 hp3)))) rfl) rfl ?_; refine rl_q rfl rfl rfl (v_pick_t (v := (.bool (true))) (congrArg Value.bool (congrArg Bool.not (Bool.eq_false_iff.2 hp3))) rfl) ?_; refine rl_q rfl rfl rfl (v_move (v := (.bool (true))) rfl) ?_; refine rl_p (wanted_n rfl (yE_of rfl rfl) rfl) rfl ?_; refine rl_p (wanted_n rfl (yE_of rfl rfl) rfl) rfl ?_; refine rl_q rfl rfl rfl (v_pick_t (v := (.bool (true))) rfl rfl) ?_; refine rl_q rfl rfl rfl (v_move (v := (.bool (true))) rfl) ?_; refine rl_p (wanted_n rfl (yE_of rfl rfl) rfl) rfl ?_; refine rl_p (wanted_n rfl (yE_of rfl rfl) rfl) rfl ?_; refine rl_p (wanted_n rfl (yE_of rfl rfl) rfl) rfl ?_; refine rl_p (wanted_n rfl (yE_of rfl rfl) rfl) rfl ?_; refine rl_q rfl rfl rfl (v_pick_t (v := (.bool (true))) rfl rfl) ?_; refine rl_q rfl rfl rfl (v_move (v := (.bool (true))) rfl) ?_; refine rl_p (wanted_n rfl (yE_of rfl rfl) rfl) rfl ?_; refine rl_p (wanted_n rfl (yE_of rfl rfl) rfl) rfl ?_; refine rl_p (wanted_n rfl (yE_of rfl rfl) rfl) rfl ?_; refine rl_p (wanted_n rfl (yE_of rfl rfl) rfl) rfl ?_; refine rl_q rfl rfl rfl (v_pick_t (v := (.bool (true))) rfl rfl) ?_; refine rl_q rfl rfl rfl (v_move (v := (.bool (true))) rfl) ?_; refine rl_p (wanted_n rfl (yE_of rfl rfl) rfl) rfl ?_; refine rl_p (wanted_n rfl (yE_of rfl rfl) rfl) rfl ?_; refine rl_p (wanted_n rfl (yE_of rfl rfl) rfl) rfl ?_
      refine rl_p (wanted_n rfl (yE_of rfl rfl) rfl) rfl ?_; refine rl_q rfl rfl rfl (v_pick_t (v := (.bool (true))) rfl rfl) ?_; refine rl_q rfl rfl rfl (v_move (v := (.bool (true))) rfl) ?_; refine rl_p (wanted_n rfl (yE_of rfl rfl) rfl) rfl ?_; refine rl_p (wanted_n rfl (yE_of rfl rfl) rfl) rfl ?_; refine rl_q rfl rfl rfl (v_pick_t (v := (.bool (true))) rfl rfl) ?_; refine rl_end ?_; refine wt_cond_t rfl ?_; refine wt_seq ?_; refine wl_region wd_wide ?_; refine rl_q rfl rfl rfl (v_assign (v := (.bool (false))) rfl) ?_; refine rl_end ?_; exact wt_ret1 rfl rfl ⟨_, rfl, (hS.sel [] (by decide)), h⟩
  · replace h := h.2 hp2; refine rl_p (wanted_n rfl (yE_of rfl (congrArg Value.bool (congrArg Bool.not (decide_eq_false hp2)))) rfl) rfl ?_; refine rl_p (wanted_n rfl (yE_of rfl (congrArg Value.bool (congrArg Bool.not (decide_eq_false hp2)))) rfl) rfl ?_; refine rl_q rfl rfl rfl (v_pick_t (v := (.bool (true))) (congrArg Value.bool (congrArg Bool.not (decide_eq_false hp2))) rfl) ?_; refine rl_q rfl rfl rfl (v_move (v := (.bool (true))) rfl) ?_; refine rl_p (wanted_n rfl (yE_of rfl rfl) rfl) rfl ?_; refine rl_q rfl rfl rfl (v_pick_t (v := (.bool (true))) rfl rfl) ?_; refine rl_q rfl rfl rfl (v_move (v := (.bool (true))) rfl) ?_; refine rl_p (wanted_n rfl (yE_of rfl rfl) rfl) rfl ?_; refine rl_p (wanted_n rfl (yE_of rfl rfl) rfl) rfl ?_; refine rl_q rfl rfl rfl (v_pick_t (v := (.bool (true))) rfl rfl) ?_; refine rl_q rfl rfl rfl (v_move (v := (.bool (true))) rfl) ?_; refine rl_p (wanted_n rfl (yE_of rfl rfl) rfl) rfl ?_; refine rl_p (wanted_n rfl (yE_of rfl rfl) rfl) rfl ?_; refine rl_p (wanted_n rfl (yE_of rfl rfl) rfl) rfl ?_; refine rl_p (wanted_n rfl (yE_of rfl rfl) rfl) rfl ?_; refine rl_q rfl rfl rfl (v_pick_t (v := (.bool (true))) rfl rfl) ?_; refine rl_q rfl rfl rfl (v_move (v := (.bool (true))) rfl) ?_; refine rl_p (wanted_n rfl (yE_of rfl rfl) rfl) rfl ?_; refine rl_p (wanted_n rfl (yE_of rfl rfl) rfl) rfl ?_; refine rl_p (wanted_n rfl (yE_of rfl rfl) rfl) rfl ?_; refine rl_p (wanted_n rfl (yE_of rfl rfl) rfl) rfl ?_
    refine rl_q rfl rfl rfl (v_pick_t (v := (.bool (true))) rfl rfl) ?_; refine rl_q rfl rfl rfl (v_move (v := (.bool (true))) rfl) ?_; refine rl_p (wanted_n rfl (yE_of rfl rfl) rfl) rfl ?_; refine rl_p (wanted_n rfl (yE_of rfl rfl) rfl) rfl ?_; refine rl_p (wanted_n rfl (yE_of rfl rfl) rfl) rfl ?_; refine rl_p (wanted_n rfl (yE_of rfl rfl) rfl) rfl ?_; refine rl_q rfl rfl rfl (v_pick_t (v := (.bool (true))) rfl rfl) ?_; refine rl_q rfl rfl rfl (v_move (v := (.bool (true))) rfl) ?_; refine rl_p (wanted_n rfl (yE_of rfl rfl) rfl) rfl ?_; refine rl_p (wanted_n rfl (yE_of rfl rfl) rfl) rfl ?_; refine rl_q rfl rfl rfl (v_pick_t (v := (.bool (true))) rfl rfl) ?_; refine rl_end ?_; refine wt_cond_t rfl ?_; refine wt_seq ?_; refine wl_region wd_wide ?_; refine rl_q rfl rfl rfl (v_assign (v := (.bool (false))) rfl) ?_; refine rl_end ?_; exact wt_ret1 rfl rfl ⟨_, rfl, (hS.sel [] (by decide)), h⟩

/-- sandpile/sandpilelaw36.right$1: what it computes. -/
def pf_l36_right_1 (d : List Int) (cap : Int) (cap2 : List (Int × Int × Int)) (R : Bool → Prop) : Prop :=
pf_r17_Check d cap (fun (r : Int) =>
((r = 0 →
pf_r34_Low cap cap2 d (fun (r2 : Bool) =>
R (!(r2)))) ∧
(¬ (r = 0) →
R true)))
theorem pok_l36_right_1 {O : Nat → Prop} {w : World} {d : List Int} {cap : Int} {cap2 : List (Int × Int × Int)} {Ad : Option Addr} {ld : Nat} {cd : Nat} {gc : Nat} {Acap : Option Addr} {lcap : Nat} {ccap : Nat} {R : Bool → Prop} (h : pf_l36_right_1 d cap cap2 R) (hO : ∀ k, O k → k < w.heap.size) (hA0 : (FP.sl cI Ad ld cd d).P O w) (hA1 : (FP.bx 24 gc [(Value.int .i64 cap), (Value.slice Acap lcap ccap)]).P O w) (hA2 : (FP.sl c3 Acap lcap ccap cap2).P O w) :
    Calls Try.prog 81 #[(Value.slice Ad ld cd), (Value.pointer (some (⟨gc, 0, none⟩ : Addr)))] w fun e w' => ∃ r3 : Bool, e = .returned (Value.bool (r3)) ∧ Sep w no O w' (rl []) ∧ R r3 := by
  unfold pf_l36_right_1 at h; have hS : Sep w no O w (rl [Res.ro (FP.sl cI Ad ld cd d), Res.ro (FP.bx 24 gc [(Value.int .i64 cap), (Value.slice Acap lcap ccap)]), Res.ro (FP.sl c3 Acap lcap ccap cap2)]) := Sep.startl hO [(FP.sl cI Ad ld cd d), (FP.bx 24 gc [(Value.int .i64 cap), (Value.slice Acap lcap ccap)]), (FP.sl c3 Acap lcap ccap cap2)] ⟨hA0, hA1, hA2, trivial⟩; refine calls_sh (l := [(Value.slice Ad ld cd), (Value.pointer (some (⟨gc, 0, none⟩ : Addr)))]) Try.func81 rfl Try.ntmps81 (Nat.le_of_ble_eq_true rfl) ?_; refine wt_seq ?_; refine wl_region wd_wide ?_; refine rl_q rfl rfl rfl (v_assign (v := (.bool (false))) rfl) ?_; refine rl_end ?_; refine wt_seq ?_; refine wl_region wd_wide ?_; refine rl_q rfl rfl rfl (v_move (v := (.slice Ad ld cd)) rfl) ?_; refine rl_q rfl rfl rfl (v_faddr rfl Try.underlying24 rfl info_3) ?_; refine rl_q rfl rfl rfl (v_load rfl Try.underlying3 rfl (Row.cell (hS.bxr 1 rfl) (i := 0) rfl)) ?_; refine rl_n rfl rfl rfl rfl (n_call0 rfl (am2 rfl rfl) enter_57 ((pok_r17_Check h (no_lt _) (hS.rdr 0 rfl)).mono ?_)); rintro _ w2 ⟨r, rfl, hC, h⟩; replace hS := hS.pur hC.pure; clear hC; refine ⟨_, rfl, ?_⟩; refine ⟨Stb.none _, ?_⟩; refine rl_q rfl rfl rfl (v_neq rfl rfl) ?_; refine rl_q rfl rfl rfl (v_move (v := (.bool (!(decide (r = 0))))) rfl) ?_; by_cases hp : r = 0
  · replace h := h.1 hp; refine rl_q (wanted_g rfl (yE_of rfl (congrArg Value.bool (congrArg Bool.not (decide_eq_true hp))))) rfl rfl (v_loadn (vs := [(.int .i64 cap), (.slice Acap lcap ccap)]) rfl Try.underlying24 rfl info_24 ⟨Row.cell (hS.bxr 1 rfl) (i := 0) rfl, Row.cell (hS.bxr 1 rfl) (i := 1) rfl, trivial⟩) ?_; refine rl_q (wanted_g rfl (yE_of rfl (congrArg Value.bool (congrArg Bool.not (decide_eq_true hp))))) rfl rfl (v_move (v := (.slice Ad ld cd)) rfl) ?_; refine rl_n (wanted_g rfl (yE_of rfl (congrArg Value.bool (congrArg Bool.not (decide_eq_true hp))))) rfl rfl rfl (n_call0 rfl (am2 rfl rfl) enter_37 ((pok_r34_Low h (no_lt _) (hS.rdr 2 rfl) (hS.rdr 0 rfl)).mono ?_)); rintro _ w3 ⟨r2, rfl, hC, h⟩; replace hS := hS.pur hC.pure; clear hC; refine ⟨_, rfl, ?_⟩; refine ⟨Stb.none _, ?_⟩; refine rl_q (wanted_g rfl (yE_of rfl (congrArg Value.bool (congrArg Bool.not (decide_eq_true hp))))) rfl rfl (v_not rfl) ?_; refine rl_q rfl rfl rfl (v_pick_f (v := (.bool (!(r2)))) (congrArg Value.bool (congrArg Bool.not (decide_eq_true hp))) rfl) ?_; refine rl_q rfl rfl rfl (v_assign (v := (.bool (!(r2)))) rfl) ?_; refine rl_end ?_; exact wt_ret1 rfl rfl ⟨_, rfl, (hS.sel [] (by decide)), h⟩
  · replace h := h.2 hp; refine rl_p (wanted_n rfl (yE_of rfl (congrArg Value.bool (congrArg Bool.not (decide_eq_false hp)))) rfl) rfl ?_; refine rl_p (wanted_n rfl (yE_of rfl (congrArg Value.bool (congrArg Bool.not (decide_eq_false hp)))) rfl) rfl ?_; refine rl_p (wanted_n rfl (yE_of rfl (congrArg Value.bool (congrArg Bool.not (decide_eq_false hp)))) rfl) rfl ?_; refine rl_p (wanted_n rfl (yE_of rfl (congrArg Value.bool (congrArg Bool.not (decide_eq_false hp)))) rfl) rfl ?_; refine rl_q rfl rfl rfl (v_pick_t (v := (.bool (true))) (congrArg Value.bool (congrArg Bool.not (decide_eq_false hp))) rfl) ?_; refine rl_q rfl rfl rfl (v_assign (v := (.bool (true))) rfl) ?_; refine rl_end ?_; exact wt_ret1 rfl rfl ⟨_, rfl, (hS.sel [] (by decide)), h⟩

/-- sandpile/sandpilelaw36.right: what it computes. -/
def pf_l36_right (g : Int) (g2 : List (Int × Int × Int)) (l : List (List Int)) (R : Bool → Prop) : Prop :=
pf_r34_Few g g2 (fun (r : Bool) =>
((r = true →
pf_r25_Joined g g2 (fun (r2 : Int) =>
((r2 = 0 →
pf_slices_ContainsFunc_DivisorS l (fun x R => pf_l36_right_1 x g g2 R) (fun (r3 : Bool) =>
R (!(r3)))) ∧
(¬ (r2 = 0) →
R false)))) ∧
(¬ (r = true) →
R false)))
theorem pok_l36_right {O : Nat → Prop} {w : World} {g : Int} {g2 : List (Int × Int × Int)} {l : List (List Int)} {Ag : Option Addr} {lg : Nat} {cg : Nat} {Al : Option Addr} {ll : Nat} {cl : Nat} {R : Bool → Prop} (h : pf_l36_right g g2 l R) (hO : ∀ k, O k → k < w.heap.size) (hA0 : (FP.sl c3 Ag lg cg g2).P O w) (hA1 : (FP.sl (cL cI) Al ll cl l).P O w) :
    Calls Try.prog 29 #[(Value.agg #[(Value.int .i64 g), (Value.slice Ag lg cg)]), (Value.slice Al ll cl)] w fun e w' => ∃ r4 : Bool, e = .returned (Value.bool (r4)) ∧ Sep w no O w' (rl []) ∧ R r4 := by
  unfold pf_l36_right at h; have hS : Sep w no O w (rl [Res.ro (FP.sl c3 Ag lg cg g2), Res.ro (FP.sl (cL cI) Al ll cl l)]) := Sep.startl hO [(FP.sl c3 Ag lg cg g2), (FP.sl (cL cI) Al ll cl l)] ⟨hA0, hA1, trivial⟩; refine calls_sh (l := [(Value.agg #[(Value.int .i64 g), (Value.slice Ag lg cg)]), (Value.slice Al ll cl)]) Try.func29 rfl Try.ntmps29 (Nat.le_of_ble_eq_true rfl) ?_; refine wt_seq ?_; refine wl_region wd_wide ?_; refine rl_n rfl rfl rfl rfl (n_box (v := (.agg #[(.int .i64 g), (.slice Ag lg cg)])) rfl ?_); intro g3 w2 hN; replace hS : Sep w no O w2 (stl _ 2 (Res.box 24 g3 [(Value.int .i64 g), (Value.slice Ag lg cg)])) := hS.new 2 rfl hN; clear hN; refine ⟨Stb.none _, ?_⟩; refine rl_q rfl rfl rfl (v_assign (v := (.bool (false))) rfl) ?_; refine rl_end ?_; refine wt_seq ?_; refine wl_region wd_wide ?_; refine rl_q rfl rfl rfl (v_loadn (vs := [(.int .i64 g), (.slice Ag lg cg)]) rfl Try.underlying24 rfl info_24 ⟨Row.cell (hS.bx 2 rfl) (i := 0) rfl, Row.cell (hS.bx 2 rfl) (i := 1) rfl, trivial⟩) ?_; refine rl_n rfl rfl rfl rfl (n_call0 rfl (am1 rfl) enter_16 ((pok_r34_Few h (no_lt _) (hS.rdr 0 rfl)).mono ?_)); rintro _ w3 ⟨r, rfl, hC, h⟩; replace hS := hS.pur hC.pure; clear hC; refine ⟨_, rfl, ?_⟩; refine ⟨Stb.none _, ?_⟩; refine rl_q rfl rfl rfl (v_move (v := (.bool (r))) rfl) ?_; by_cases hp : r = true
  · replace h := h.1 hp; refine rl_q (wanted_g rfl (yE_of rfl (congrArg Value.bool hp))) rfl rfl (v_loadn (vs := [(.int .i64 g), (.slice Ag lg cg)]) rfl Try.underlying24 rfl info_24 ⟨Row.cell (hS.bx 2 rfl) (i := 0) rfl, Row.cell (hS.bx 2 rfl) (i := 1) rfl, trivial⟩) ?_; refine rl_n (wanted_g rfl (yE_of rfl (congrArg Value.bool hp))) rfl rfl rfl (n_call0 rfl (am1 rfl) enter_79 ((pok_r25_Joined h (no_lt _) (hS.rdr 0 rfl)).mono ?_)); rintro _ w4 ⟨r2, rfl, hC, h⟩; replace hS := hS.pur hC.pure; clear hC; refine ⟨_, rfl, ?_⟩; refine ⟨Stb.none _, ?_⟩; refine rl_q (wanted_g rfl (yE_of rfl (congrArg Value.bool hp))) rfl rfl (v_eql rfl rfl) ?_; refine rl_q rfl rfl rfl (v_pick_t (v := (.bool (decide (r2 = 0)))) (congrArg Value.bool hp) rfl) ?_; refine rl_q rfl rfl rfl (v_move (v := (.bool (decide (r2 = 0)))) rfl) ?_; by_cases hp2 : r2 = 0
    · replace h := h.1 hp2; refine rl_q (wanted_g rfl (yE_of rfl (congrArg Value.bool (decide_eq_true hp2)))) rfl rfl (v_move (v := (.slice Al ll cl)) rfl) ?_; refine rl_q (wanted_g rfl (yE_of rfl (congrArg Value.bool (decide_eq_true hp2)))) rfl rfl (v_func (am0) (am1 rfl)) ?_; replace hS := hS.frzb 2 rfl; refine rl_n (wanted_g rfl (yE_of rfl (congrArg Value.bool (decide_eq_true hp2)))) rfl rfl rfl (n_call0 rfl (am2 rfl rfl) enter_80 ((pok_slices_ContainsFunc_DivisorS h (no_lt _) (hS.rdr 1 rfl) (fun w' hk => ⟨81, #[(.pointer (some (⟨g3, 0, none⟩ : Addr)))], rfl, enter_81, fun x Ax lx cx R hF hz0 => cast_calls (by simp) (pok_l36_right_1 hF (no_lt _) hz0 (FP.sub _ (FP.keep _ (FP.sub _ (hS.ro 2 rfl) (fun _ _ h => h.elim) : FP.P _ no _) hk) fun _ _ h => h.elim) (FP.sub _ (FP.keep _ (FP.sub _ (hS.ro 0 rfl) (fun _ _ h => h.elim) : FP.P _ no _) hk) fun _ _ h => h.elim))⟩)).mono ?_)); rintro _ w5 ⟨r3, rfl, hC, h⟩; replace hS := hS.pur hC.pure; clear hC; refine ⟨_, rfl, ?_⟩; refine ⟨Stb.none _, ?_⟩; refine rl_q (wanted_g rfl (yE_of rfl (congrArg Value.bool (decide_eq_true hp2)))) rfl rfl (v_not rfl) ?_; refine rl_q rfl rfl rfl (v_pick_t (v := (.bool (!(r3)))) (congrArg Value.bool (decide_eq_true hp2)) rfl) ?_; refine rl_q rfl rfl rfl (v_assign (v := (.bool (!(r3)))) rfl) ?_; refine rl_end ?_; exact wt_ret1 rfl rfl ⟨_, rfl, (hS.sel [] (by decide)), h⟩
    · replace h := h.2 hp2; refine rl_p (wanted_n rfl (yE_of rfl (congrArg Value.bool (decide_eq_false hp2))) rfl) rfl ?_; refine rl_p (wanted_n rfl (yE_of rfl (congrArg Value.bool (decide_eq_false hp2))) rfl) rfl ?_; refine rl_p (wanted_n rfl (yE_of rfl (congrArg Value.bool (decide_eq_false hp2))) rfl) rfl ?_; refine rl_p (wanted_n rfl (yE_of rfl (congrArg Value.bool (decide_eq_false hp2))) rfl) rfl ?_; refine rl_q rfl rfl rfl (v_pick_f (v := (.bool (false))) (congrArg Value.bool (decide_eq_false hp2)) rfl) ?_; refine rl_q rfl rfl rfl (v_assign (v := (.bool (false))) rfl) ?_; refine rl_end ?_; exact wt_ret1 rfl rfl ⟨_, rfl, (hS.sel [] (by decide)), h⟩
  · replace h := h.2 hp; refine rl_p (wanted_n rfl (yE_of rfl (congrArg Value.bool (Bool.eq_false_iff.2 hp))) rfl) rfl ?_; refine rl_p (wanted_n rfl (yE_of rfl (congrArg Value.bool (Bool.eq_false_iff.2 hp))) rfl) rfl ?_; refine rl_p (wanted_n rfl (yE_of rfl (congrArg Value.bool (Bool.eq_false_iff.2 hp))) rfl) rfl ?_; refine rl_q rfl rfl rfl (v_pick_f (v := (.bool (false))) (congrArg Value.bool (Bool.eq_false_iff.2 hp)) rfl) ?_; refine rl_q rfl rfl rfl (v_move (v := (.bool (false))) rfl) ?_; refine rl_p (wanted_n rfl (yE_of rfl rfl) rfl) rfl ?_; refine rl_p (wanted_n rfl (yE_of rfl rfl) rfl) rfl ?_; refine rl_p (wanted_n rfl (yE_of rfl rfl) rfl) rfl ?_; refine rl_p (wanted_n rfl (yE_of rfl rfl) rfl) rfl ?_; refine rl_q rfl rfl rfl (v_pick_f (v := (.bool (false))) rfl rfl) ?_; refine rl_q rfl rfl rfl (v_assign (v := (.bool (false))) rfl) ?_; refine rl_end ?_; exact wt_ret1 rfl rfl ⟨_, rfl, (hS.sel [] (by decide)), h⟩

/-- sandpile/sandpilelaw36.EffectiveGrows: what it computes. -/
def pf_l36_EffectiveGrows (d : Int) (d2 : List (Int × Int × Int)) (i : List Int) (a : List Int) (R : Bool → Prop) : Prop :=
pf_l36_right d d2 ([i, a]) (fun (r : Bool) =>
((r = true →
pf_chips_Add i a (fun (r2 : List Int) (r3 : Int) =>
(∃ J2 : Prop, (J2 → pf_effective_Winnable d d2 i (fun (r4 : Bool) (r5 : List Int) (r6 : List Int) (r7 : Int) =>
pf_effective_Winnable d d2 a (fun (r8 : Bool) (r9 : List Int) (r10 : List Int) (r11 : Int) =>
pf_effective_Winnable d d2 r2 (fun (r12 : Bool) (r13 : List Int) (r14 : List Int) (r15 : Int) =>
(∃ J3 : Prop, (J3 → (In64 (1 - d) ∧
(∃ I2 : Nat → Int → Int → Prop, (∃ m0, I2 m0 (1 - d) 0) ∧ ∀ (m2 : Nat) (v : Int) (v2 : Int), I2 m2 v v2 → 
((v2 < ((d2.length : Nat) : Int) →
((0 ≤ v2 ∧ v2 < ((d2.length : Nat) : Int)) ∧
((((ge d2 v2.toNat).1) = ((ge d2 v2.toNat).2.1) →
(In64 (v2 + 1) ∧
∃ m3, m3 < m2 ∧ I2 m3 v (v2 + 1))) ∧
(¬ (((ge d2 v2.toNat).1) = ((ge d2 v2.toNat).2.1)) →
(In64 (v + ((ge d2 v2.toNat).2.2)) ∧
(In64 (v2 + 1) ∧
∃ m4, m4 < m2 ∧ I2 m4 (v + ((ge d2 v2.toNat).2.2)) (v2 + 1))))))) ∧
(¬ (v2 < ((d2.length : Nat) : Int)) →
pf_r17_Total i (fun (r16 : Int) =>
((0 ≤ r16 →
pf_r17_Total i (fun (r17 : Int) =>
((r17 < v →
pf_l36_awake (fun (r18 : Bool) =>
R r18)) ∧
(¬ (r17 < v) →
((r4 = true →
pf_l36_awake (fun (r19 : Bool) =>
R r19)) ∧
(¬ (r4 = true) →
R false)))))) ∧
(¬ (0 ≤ r16) →
((r4 = true →
R false) ∧
(¬ (r4 = true) →
pf_r17_Total i (fun (r20 : Int) =>
((r20 < v →
pf_l36_awake (fun (r21 : Bool) =>
R r21)) ∧
(¬ (r20 < v) →
R false))))))))))))) ∧
(In64 (r7 + r11) ∧
(In64 ((r7 + r11) + r15) ∧
((((r7 + r11) + r15) = 0 →
((r4 = true →
((r8 = true →
((r12 = true →
pf_r17_Paid a (fun (r22 : Bool) =>
((r22 = true →
J3) ∧
(¬ (r22 = true) →
J3)))) ∧
(¬ (r12 = true) →
R false))) ∧
(¬ (r8 = true) →
pf_r17_Paid a (fun (r23 : Bool) =>
((r23 = true →
((r12 = true →
J3) ∧
(¬ (r12 = true) →
R false))) ∧
(¬ (r23 = true) →
J3)))))) ∧
(¬ (r4 = true) →
J3))) ∧
(¬ (((r7 + r11) + r15) = 0) →
R false))))))))) ∧
∃ J4 : Prop, (J4 → ((r3 = 0 →
pf_l36_awake (fun (r24 : Bool) =>
R r24)) ∧
(¬ (r3 = 0) →
R false))) ∧
((r3 = 0 →
pf_r34_Low d d2 r2 (fun (r25 : Bool) =>
((r25 = true →
J2) ∧
(¬ (r25 = true) →
J4)))) ∧
(¬ (r3 = 0) →
J4))))) ∧
(¬ (r = true) →
pf_l36_awake (fun (r26 : Bool) =>
R r26))))
theorem pok_l36_EffectiveGrows {O : Nat → Prop} {w : World} {d : Int} {d2 : List (Int × Int × Int)} {i : List Int} {a : List Int} {Ad : Option Addr} {ld : Nat} {cd : Nat} {Ai : Option Addr} {li : Nat} {ci : Nat} {Aa : Option Addr} {la : Nat} {ca : Nat} {R : Bool → Prop} (h : pf_l36_EffectiveGrows d d2 i a R) (hO : ∀ k, O k → k < w.heap.size) (hA0 : (FP.sl c3 Ad ld cd d2).P O w) (hA1 : (FP.sl cI Ai li ci i).P O w) (hA2 : (FP.sl cI Aa la ca a).P O w) :
    Calls Try.prog 8 #[(Value.agg #[(Value.int .i64 d), (Value.slice Ad ld cd)]), (Value.slice Ai li ci), (Value.slice Aa la ca)] w fun e w' => ∃ r27 : Bool, e = .returned (Value.bool (r27)) ∧ Sep w no O w' (rl []) ∧ R r27 := by
  unfold pf_l36_EffectiveGrows at h; have hS : Sep w no O w (rl [Res.ro (FP.sl c3 Ad ld cd d2), Res.ro (FP.sl cI Ai li ci i), Res.ro (FP.sl cI Aa la ca a)]) := Sep.startl hO [(FP.sl c3 Ad ld cd d2), (FP.sl cI Ai li ci i), (FP.sl cI Aa la ca a)] ⟨hA0, hA1, hA2, trivial⟩; refine calls_sh (l := [(Value.agg #[(Value.int .i64 d), (Value.slice Ad ld cd)]), (Value.slice Ai li ci), (Value.slice Aa la ca)]) Try.func8 rfl Try.ntmps8 (Nat.le_of_ble_eq_true rfl) ?_; refine wt_seq ?_; refine wl_region wd_wide ?_; refine rl_n rfl rfl rfl rfl (n_box (v := (.agg #[(.int .i64 d), (.slice Ad ld cd)])) rfl ?_); intro g w2 hN; replace hS : Sep w no O w2 (stl _ 3 (Res.box 24 g [(Value.int .i64 d), (Value.slice Ad ld cd)])) := hS.new 3 rfl hN; clear hN; refine ⟨Stb.none _, ?_⟩; refine rl_q rfl rfl rfl (v_assign (v := (.bool (false))) rfl) ?_; refine rl_end ?_; refine wt_seq ?_; refine wt_seq ?_; refine wl_region wd_wide ?_; refine rl_q rfl rfl rfl (v_loadn (vs := [(.int .i64 d), (.slice Ad ld cd)]) rfl Try.underlying24 rfl info_24 ⟨Row.cell (hS.bx 3 rfl) (i := 0) rfl, Row.cell (hS.bx 3 rfl) (i := 1) rfl, trivial⟩) ?_; refine rl_q rfl rfl rfl (v_move (v := (.slice Ai li ci)) rfl) ?_; refine rl_q rfl rfl rfl (v_move (v := (.slice Aa la ca)) rfl) ?_; refine rl_n rfl rfl rfl rfl (n_bslice (l := [(0, (.slice Ai li ci)), (1, (.slice Aa la ca))]) (cells := [(.slice Ai li ci), (.slice Aa la ca)]) (bp2 rfl rfl) Try.underlying66 info_26 rfl rfl ?_); intro g2 w3 hN
  replace hS := hS.lit (n := 2) (c := (cL cI)) 4 rfl hN ([i, a] : List (List Int)) rfl (by decide) ⟨[(Value.slice Ai li ci)], _, rfl, (ro_R (hS.ro 1 rfl)), ⟨[(Value.slice Aa la ca)], _, rfl, (ro_R (hS.ro 2 rfl)), rfl⟩⟩; clear hN; refine ⟨Stb.none _, ?_⟩; refine rl_n rfl rfl rfl rfl (n_call0 rfl (am2 rfl rfl) enter_29 ((pok_l36_right h (no_lt _) (hS.rdr 0 rfl) (hS.rdo 4 rfl)).mono ?_)); rintro _ w4 ⟨r, rfl, hC, h⟩; replace hS := hS.pur hC.pure; clear hC; refine ⟨_, rfl, ?_⟩; refine ⟨Stb.none _, ?_⟩; refine rl_q rfl rfl rfl (v_not rfl) ?_; refine rl_end ?_; by_cases hp : r = true
  · replace h := h.1 hp; refine wt_cond_f (congrArg Value.bool (congrArg Bool.not hp)) ?_; refine wt_skip ?_; refine wt_seq ?_; refine wl_region wd_wide ?_; refine rl_q rfl rfl rfl (v_move (v := (.slice Ai li ci)) rfl) ?_; refine rl_q rfl rfl rfl (v_move (v := (.slice Aa la ca)) rfl) ?_; refine rl_n rfl rfl rfl rfl (n_call0 rfl (am2 rfl rfl) enter_36 ((pok_chips_Add h (no_lt _) (hS.rdr 1 rfl) (hS.rdr 2 rfl)).mono ?_)); rintro _ w5 ⟨r2, r3, Ar, lr, cr, rfl, hC, h⟩; replace hS := hS.call1 (hC.widen (flatS (flat_own (fI .i64) _ _ _ _ _) flat0) hS.blt) 5 0 rfl; clear hC; refine ⟨_, rfl, ?_⟩; refine ⟨Stb.none _, ?_⟩; refine rl_q rfl rfl rfl (v_move (v := (.tuple #[(.slice Ar lr cr), (.int .i64 r3)])) rfl) ?_; refine rl_q rfl rfl rfl (v_extract (v := (.slice Ar lr cr)) rfl rfl) ?_; refine rl_q rfl rfl rfl (v_extract (v := (.int .i64 r3)) rfl rfl) ?_; refine rl_q rfl rfl rfl (v_assign (v := (.slice Ar lr cr)) rfl) ?_; refine rl_q rfl rfl rfl (v_assign (v := (.int .i64 r3)) rfl) ?_; refine rl_end ?_; refine wt_seq ?_; refine wt_seq ?_; obtain ⟨J2, hJ, h⟩ := h; refine wt_cutT1 (fun E ds w' => J2 ∧ ds = [] ∧ E 1 = (Value.slice Ai li ci) ∧ E 2 = (Value.slice Aa la ca) ∧ E 3 = (Value.pointer (some (⟨g, 0, none⟩ : Addr))) ∧ E 7 = (Value.slice Ar lr cr) ∧ Sep w no O w' (rl [Res.ro (FP.sl cI Ai li ci i), Res.ro (FP.sl cI Aa la ca a), Res.box 24 g [(Value.int .i64 d), (Value.slice Ad ld cd)], Res.ro (FP.sl c3 Ad ld cd d2), Res.own cI 3 Ar lr cr r2])) ?_ ?_
    · clear h hS; rintro E ds w6 ⟨h, rfl, hE1, hE2, hE3, hE7, hS⟩; replace h := hJ h; refine wt_seq ?_; refine wl_region wd_wide ?_; refine rl_q rfl rfl rfl (v_loadn (vs := [(.int .i64 d), (.slice Ad ld cd)]) hE3 Try.underlying24 rfl info_24 ⟨Row.cell (hS.bx 2 rfl) (i := 0) rfl, Row.cell (hS.bx 2 rfl) (i := 1) rfl, trivial⟩) ?_; refine rl_q rfl rfl rfl (v_move (v := (.slice Ai li ci)) hE1) ?_; refine rl_n rfl rfl rfl rfl (n_call0 rfl (am2 rfl rfl) enter_30 ((pok_effective_Winnable h (no_lt _) (hS.rdr 3 rfl) (hS.rdr 0 rfl)).mono ?_)); rintro _ w7 ⟨r4, r5, r6, r7, Ar2, lr2, cr2, Ar3, lr3, cr3, rfl, hC, h⟩; replace hS := hS.call2 (hC.widen (flatS (flat_own (fI .i64) _ _ _ _ _) (flatS (flat_own (fI .i64) _ _ _ _ _) flat0)) hS.blt) 5 0 6 1 rfl rfl (by decide) (by decide); clear hC; refine ⟨_, rfl, ?_⟩; refine ⟨Stb.none _, ?_⟩; refine rl_q rfl rfl rfl (v_move (v := (.tuple #[(.bool (r4)), (.slice Ar2 lr2 cr2), (.slice Ar3 lr3 cr3), (.int .i64 r7)])) rfl) ?_; refine rl_q rfl rfl rfl (v_extract (v := (.bool (r4))) rfl rfl) ?_; refine rl_q rfl rfl rfl (v_extract (v := (.slice Ar2 lr2 cr2)) rfl rfl) ?_; refine rl_q rfl rfl rfl (v_extract (v := (.slice Ar3 lr3 cr3)) rfl rfl) ?_; refine rl_q rfl rfl rfl (v_extract (v := (.int .i64 r7)) rfl rfl) ?_; refine rl_q rfl rfl rfl (v_assign (v := (.bool (r4))) rfl) ?_; refine rl_q rfl rfl rfl (v_assign (v := (.slice Ar2 lr2 cr2)) rfl) ?_; refine rl_q rfl rfl rfl (v_assign (v := (.slice Ar3 lr3 cr3)) rfl) ?_
      refine rl_q rfl rfl rfl (v_assign (v := (.int .i64 r7)) rfl) ?_; refine rl_end ?_; refine wt_seq ?_; refine wl_region wd_wide ?_; refine rl_q rfl rfl rfl (v_loadn (vs := [(.int .i64 d), (.slice Ad ld cd)]) hE3 Try.underlying24 rfl info_24 ⟨Row.cell (hS.bx 2 rfl) (i := 0) rfl, Row.cell (hS.bx 2 rfl) (i := 1) rfl, trivial⟩) ?_; refine rl_q rfl rfl rfl (v_move (v := (.slice Aa la ca)) hE2) ?_; refine rl_n rfl rfl rfl rfl (n_call0 rfl (am2 rfl rfl) enter_30 ((pok_effective_Winnable h (no_lt _) (hS.rdr 3 rfl) (hS.rdr 1 rfl)).mono ?_)); rintro _ w8 ⟨r8, r9, r10, r11, Ar4, lr4, cr4, Ar5, lr5, cr5, rfl, hC, h⟩; replace hS := hS.call2 (hC.widen (flatS (flat_own (fI .i64) _ _ _ _ _) (flatS (flat_own (fI .i64) _ _ _ _ _) flat0)) hS.blt) 7 0 8 1 rfl rfl (by decide) (by decide); clear hC; refine ⟨_, rfl, ?_⟩; refine ⟨Stb.none _, ?_⟩; refine rl_q rfl rfl rfl (v_move (v := (.tuple #[(.bool (r8)), (.slice Ar4 lr4 cr4), (.slice Ar5 lr5 cr5), (.int .i64 r11)])) rfl) ?_; refine rl_q rfl rfl rfl (v_extract (v := (.bool (r8))) rfl rfl) ?_; refine rl_q rfl rfl rfl (v_extract (v := (.slice Ar4 lr4 cr4)) rfl rfl) ?_; refine rl_q rfl rfl rfl (v_extract (v := (.slice Ar5 lr5 cr5)) rfl rfl) ?_; refine rl_q rfl rfl rfl (v_extract (v := (.int .i64 r11)) rfl rfl) ?_; refine rl_q rfl rfl rfl (v_assign (v := (.bool (r8))) rfl) ?_; refine rl_q rfl rfl rfl (v_assign (v := (.slice Ar4 lr4 cr4)) rfl) ?_; refine rl_q rfl rfl rfl (v_assign (v := (.slice Ar5 lr5 cr5)) rfl) ?_
      refine rl_q rfl rfl rfl (v_assign (v := (.int .i64 r11)) rfl) ?_; refine rl_end ?_; refine wt_seq ?_; refine wl_region wd_wide ?_; refine rl_q rfl rfl rfl (v_loadn (vs := [(.int .i64 d), (.slice Ad ld cd)]) hE3 Try.underlying24 rfl info_24 ⟨Row.cell (hS.bx 2 rfl) (i := 0) rfl, Row.cell (hS.bx 2 rfl) (i := 1) rfl, trivial⟩) ?_; refine rl_q rfl rfl rfl (v_move (v := (.slice Ar lr cr)) hE7) ?_; refine rl_n rfl rfl rfl rfl (n_call0 rfl (am2 rfl rfl) enter_30 ((pok_effective_Winnable h (no_lt _) (hS.rdr 3 rfl) (hS.rdo 4 rfl)).mono ?_)); rintro _ w9 ⟨r12, r13, r14, r15, Ar6, lr6, cr6, Ar7, lr7, cr7, rfl, hC, h⟩; replace hS := hS.call2 (hC.widen (flatS (flat_own (fI .i64) _ _ _ _ _) (flatS (flat_own (fI .i64) _ _ _ _ _) flat0)) hS.blt) 9 0 10 1 rfl rfl (by decide) (by decide); clear hC; refine ⟨_, rfl, ?_⟩; refine ⟨Stb.none _, ?_⟩; refine rl_q rfl rfl rfl (v_move (v := (.tuple #[(.bool (r12)), (.slice Ar6 lr6 cr6), (.slice Ar7 lr7 cr7), (.int .i64 r15)])) rfl) ?_; refine rl_q rfl rfl rfl (v_extract (v := (.bool (r12))) rfl rfl) ?_; refine rl_q rfl rfl rfl (v_extract (v := (.slice Ar6 lr6 cr6)) rfl rfl) ?_; refine rl_q rfl rfl rfl (v_extract (v := (.slice Ar7 lr7 cr7)) rfl rfl) ?_; refine rl_q rfl rfl rfl (v_extract (v := (.int .i64 r15)) rfl rfl) ?_; refine rl_q rfl rfl rfl (v_assign (v := (.bool (r12))) rfl) ?_; refine rl_q rfl rfl rfl (v_assign (v := (.slice Ar6 lr6 cr6)) rfl) ?_; refine rl_q rfl rfl rfl (v_assign (v := (.slice Ar7 lr7 cr7)) rfl) ?_
      refine rl_q rfl rfl rfl (v_assign (v := (.int .i64 r15)) rfl) ?_; refine rl_end ?_; refine wt_seq ?_; refine wt_seq ?_; obtain ⟨J3, hJ, h⟩ := h; refine wt_cutT1 (fun E ds w' => J3 ∧ ds = [] ∧ E 1 = (Value.slice Ai li ci) ∧ E 3 = (Value.pointer (some (⟨g, 0, none⟩ : Addr))) ∧ E 9 = (Value.bool (r4)) ∧ Sep w no O w' (rl [Res.ro (FP.sl cI Ai li ci i), Res.box 24 g [(Value.int .i64 d), (Value.slice Ad ld cd)], Res.ro (FP.sl c3 Ad ld cd d2)])) ?_ ?_
      · clear h hS; rintro E ds w10 ⟨h, rfl, hE1, hE3, hE9, hS⟩; replace h := hJ h; refine wt_seq ?_; refine wl_region wd_wide ?_; refine rl_q rfl rfl rfl (v_faddr hE3 Try.underlying24 rfl info_3) ?_; refine rl_q rfl rfl rfl (v_load rfl Try.underlying3 rfl (Row.cell (hS.bx 1 rfl) (i := 0) rfl)) ?_; obtain ⟨hi, h⟩ := h; refine rl_q rfl rfl rfl (v_sub rfl rfl hi) ?_; refine rl_q rfl rfl rfl (v_assign (v := (.int .i64 (1 - d))) rfl) ?_; refine rl_end ?_; refine wt_seq ?_; refine wt_seq ?_; refine wl_region wd_wide ?_; refine rl_q rfl rfl rfl (v_faddr hE3 Try.underlying24 rfl info_22) ?_; refine rl_q rfl rfl rfl (v_load rfl Try.underlying22 rfl (Row.cell (hS.bx 1 rfl) (i := 1) rfl)) ?_; refine rl_q rfl rfl rfl (v_lenx (n := d2.length) rfl Try.underlying22 (rd_len (hS.rdr 2 rfl))) ?_; refine rl_q rfl rfl rfl (v_move (v := (.int .i64 0)) rfl) ?_; refine rl_end ?_; refine wt_block ?_; obtain ⟨I2, ⟨m0, h0⟩, hr⟩ := h; refine wt_loop (fun m E ds w' => ∃ v : Int, ∃ v2 : Int, I2 m v v2 ∧ ds = [] ∧ E 1 = (Value.slice Ai li ci) ∧ E 9 = (Value.bool (r4)) ∧ E 20 = (Value.int .i64 v) ∧ E 104 = (Value.slice Ad ld cd) ∧ E 105 = (Value.int .i64 ((d2.length : Nat) : Int)) ∧ E 106 = (Value.int .i64 v2) ∧ Sep w no O w' (rl [Res.ro (FP.sl cI Ai li ci i), Res.ro (FP.sl c3 Ad ld cd d2)])) m0 ⟨_, _, h0, rfl, hE1, hE9, rfl, rfl, rfl, rfl, (hS.sel [0, 2] (by decide))⟩ ?_; clear h0 hS; rintro m2 E ds w11 ⟨v, v2, h, rfl, hE1, hE9, hE20, hE104, hE105, hE106, hS⟩ again; replace h := hr m2 v v2 h; clear hr
        refine wt_seq ?_; refine wl_region wd_wide ?_; refine rl_q rfl rfl rfl (v_lss hE106 hE105) ?_; refine rl_end ?_; refine wt_seq ?_; by_cases hp2 : v2 < ((d2.length : Nat) : Int)
        · replace h := h.1 hp2; refine wt_cond_t (congrArg Value.bool (decide_eq_true hp2)) ?_; refine wt_skip ?_; refine wt_seq ?_; refine wt_block ?_; refine wt_seq ?_; refine wl_region wd_wide ?_; obtain ⟨hx, h⟩ := h; refine rl_q rfl rfl rfl (v_iaddr hE104 hE106 Try.underlying22 info_63 (rd_ix (hS.rdr 1 rfl) hx)) ?_; refine rl_q rfl rfl rfl (v_loadn (vs := [(.int .i64 ((ge d2 v2.toNat).1)), (.int .i64 ((ge d2 v2.toNat).2.1)), (.int .i64 ((ge d2 v2.toNat).2.2))]) rfl Try.underlying63 rfl info_63 (rd_fs (hS.rdr 1 rfl) hx (fun q => ge_some q))) ?_; refine rl_n rfl rfl rfl rfl (n_alloc info_63 ?_); intro g3 w12 hN; replace hS : Sep w no O w12 (stl _ 2 (Res.box 63 g3 [(Value.int .i64 0), (Value.int .i64 0), (Value.int .i64 0)])) := hS.new 2 rfl hN; clear hN; refine ⟨Stb.none _, ?_⟩; refine rl_n0 rfl rfl rfl (n_storen (b := g3) (o := 0) (cells := #[(.int .i64 ((ge d2 v2.toNat).1)), (.int .i64 ((ge d2 v2.toNat).2.1)), (.int .i64 ((ge d2 v2.toNat).2.2))]) rfl rfl info_63 rfl rfl (there_row (hS.bx 2 rfl) (Nat.le_of_ble_eq_true rfl)) ?_); intro w13 e1; replace hS := hS.bstn 2 rfl 0 [(Value.int .i64 ((ge d2 v2.toNat).1)), (Value.int .i64 ((ge d2 v2.toNat).2.1)), (Value.int .i64 ((ge d2 v2.toNat).2.2))] e1; clear e1; refine ⟨Stb.none _, ?_⟩; refine rl_end ?_; refine wt_seq ?_; refine wl_region wd_wide ?_; refine rl_q rfl rfl rfl (v_faddr rfl Try.underlying63 rfl info_3) ?_; refine rl_q rfl rfl rfl (v_load rfl Try.underlying3 rfl (Row.cell (hS.bx 2 rfl) (i := 0) rfl)) ?_
          refine rl_q rfl rfl rfl (v_faddr rfl Try.underlying63 rfl info_3) ?_; refine rl_q rfl rfl rfl (v_load rfl Try.underlying3 rfl (Row.cell (hS.bx 2 rfl) (i := 1) rfl)) ?_; refine rl_q rfl rfl rfl (v_neq rfl rfl) ?_; refine rl_end ?_; by_cases hp3 : ((ge d2 v2.toNat).1) = ((ge d2 v2.toNat).2.1)
          · replace h := h.1 hp3; refine wt_cond_f (congrArg Value.bool (congrArg Bool.not (decide_eq_true hp3))) ?_; refine wt_skip ?_; refine wt_inBlock ?_; refine wl_region wd_wide ?_; obtain ⟨hi2, h⟩ := h; refine rl_q rfl rfl rfl (v_add hE106 rfl hi2) ?_; refine rl_q rfl rfl rfl (v_move (v := (.int .i64 (v2 + 1))) rfl) ?_; refine rl_end ?_; obtain ⟨mq, hlt, h⟩ := h; exact again mq _ _ _ ⟨_, _, h, rfl, hE1, hE9, hE20, hE104, hE105, rfl, (hS.sel [0, 1] (by decide))⟩ hlt
          · replace h := h.2 hp3; refine wt_cond_t (congrArg Value.bool (congrArg Bool.not (decide_eq_false hp3))) ?_; refine wl_region wd_wide ?_; refine rl_q rfl rfl rfl (v_move (v := (.int .i64 v)) hE20) ?_; refine rl_q rfl rfl rfl (v_faddr rfl Try.underlying63 rfl info_3) ?_; refine rl_q rfl rfl rfl (v_load rfl Try.underlying3 rfl (Row.cell (hS.bx 2 rfl) (i := 2) rfl)) ?_; obtain ⟨hi3, h⟩ := h; refine rl_q rfl rfl rfl (v_add rfl rfl hi3) ?_; refine rl_q rfl rfl rfl (v_assign (v := (.int .i64 (v + ((ge d2 v2.toNat).2.2)))) rfl) ?_; refine rl_end ?_; refine wt_inBlock ?_; refine wl_region wd_wide ?_; obtain ⟨hi4, h⟩ := h; refine rl_q rfl rfl rfl (v_add hE106 rfl hi4) ?_; refine rl_q rfl rfl rfl (v_move (v := (.int .i64 (v2 + 1))) rfl) ?_; refine rl_end ?_; obtain ⟨mq, hlt, h⟩ := h; exact again mq _ _ _ ⟨_, _, h, rfl, hE1, hE9, rfl, hE104, hE105, rfl, (hS.sel [0, 1] (by decide))⟩ hlt
        · replace h := h.2 hp2; refine wt_cond_f (congrArg Value.bool (decide_eq_false hp2)) ?_; refine wt_exit rfl ?_; refine wt_seq ?_; refine wl_region wd_wide ?_; refine rl_q rfl rfl rfl (v_move (v := (.slice Ai li ci)) hE1) ?_; refine rl_n rfl rfl rfl rfl (n_call0 rfl (am1 rfl) enter_39 ((pok_r17_Total h (no_lt _) (hS.rdr 0 rfl)).mono ?_)); rintro _ w14 ⟨r16, rfl, hC, h⟩; replace hS := hS.pur hC.pure; clear hC; refine ⟨_, rfl, ?_⟩; refine ⟨Stb.none _, ?_⟩; refine rl_q rfl rfl rfl (v_geq rfl rfl) ?_; refine rl_q rfl rfl rfl (v_move (v := (.bool (decide (0 ≤ r16)))) rfl) ?_; by_cases hp4 : 0 ≤ r16
          · replace h := h.1 hp4; refine rl_p (wanted_n rfl (yE_of rfl (congrArg Value.bool (decide_eq_true hp4))) rfl) rfl ?_; refine rl_p (wanted_n rfl (yE_of rfl (congrArg Value.bool (decide_eq_true hp4))) rfl) rfl ?_; refine rl_q rfl rfl rfl (v_pick_t (v := (.bool (true))) (congrArg Value.bool (decide_eq_true hp4)) rfl) ?_; refine rl_q rfl rfl rfl (v_move (v := (.bool (true))) rfl) ?_; refine rl_q (wanted_g rfl (yE_of rfl rfl)) rfl rfl (v_move (v := (.slice Ai li ci)) hE1) ?_; refine rl_n (wanted_g rfl (yE_of rfl rfl)) rfl rfl rfl (n_call0 rfl (am1 rfl) enter_39 ((pok_r17_Total h (no_lt _) (hS.rdr 0 rfl)).mono ?_)); rintro _ w15 ⟨r17, rfl, hC, h⟩; replace hS := hS.pur hC.pure; clear hC; refine ⟨_, rfl, ?_⟩; refine ⟨Stb.none _, ?_⟩; refine rl_q (wanted_g rfl (yE_of rfl rfl)) rfl rfl (v_move (v := (.int .i64 v)) hE20) ?_; refine rl_q (wanted_g rfl (yE_of rfl rfl)) rfl rfl (v_lss rfl rfl) ?_; refine rl_q (wanted_g rfl (yE_of rfl rfl)) rfl rfl (v_move (v := (.bool (decide (r17 < v)))) rfl) ?_; by_cases hp5 : r17 < v
            · replace h := h.1 hp5; refine rl_p (wanted_n rfl (yE_of rfl (congrArg Value.bool (decide_eq_true hp5))) rfl) rfl ?_; refine rl_q (wanted_g rfl (yE_of rfl rfl)) rfl rfl (v_pick_t (v := (.bool (true))) (congrArg Value.bool (decide_eq_true hp5)) rfl) ?_; refine rl_q rfl rfl rfl (v_pick_t (v := (.bool (true))) rfl rfl) ?_; refine rl_q rfl rfl rfl (v_move (v := (.bool (true))) rfl) ?_; refine rl_n (wanted_g rfl (yE_of rfl rfl)) rfl rfl rfl (n_call0 rfl (am0) enter_17 ((pok_l36_awake h (no_lt _)).mono ?_)); rintro _ w16 ⟨r18, rfl, hC, h⟩; replace hS := hS.pur hC.pure; clear hC; refine ⟨_, rfl, ?_⟩; refine ⟨Stb.none _, ?_⟩; refine rl_q rfl rfl rfl (v_pick_t (v := (.bool (r18))) rfl rfl) ?_; refine rl_q rfl rfl rfl (v_assign (v := (.bool (r18))) rfl) ?_; refine rl_end ?_; exact wt_ret1 rfl rfl ⟨_, rfl, (hS.sel [] (by decide)), h⟩
            · replace h := h.2 hp5; refine rl_q (wanted_g rfl (yE_of rfl (congrArg Value.bool (decide_eq_false hp5)))) rfl rfl (v_move (v := (.bool (r4))) hE9) ?_; refine rl_q (wanted_g rfl (yE_of rfl rfl)) rfl rfl (v_pick_f (v := (.bool (r4))) (congrArg Value.bool (decide_eq_false hp5)) rfl) ?_; refine rl_q rfl rfl rfl (v_pick_t (v := (.bool (r4))) rfl rfl) ?_; refine rl_q rfl rfl rfl (v_move (v := (.bool (r4))) rfl) ?_; by_cases hp6 : r4 = true
              · replace h := h.1 hp6; refine rl_n (wanted_g rfl (yE_of rfl (congrArg Value.bool hp6))) rfl rfl rfl (n_call0 rfl (am0) enter_17 ((pok_l36_awake h (no_lt _)).mono ?_)); rintro _ w17 ⟨r19, rfl, hC, h⟩; replace hS := hS.pur hC.pure; clear hC; refine ⟨_, rfl, ?_⟩; refine ⟨Stb.none _, ?_⟩; refine rl_q rfl rfl rfl (v_pick_t (v := (.bool (r19))) (congrArg Value.bool hp6) rfl) ?_; refine rl_q rfl rfl rfl (v_assign (v := (.bool (r19))) rfl) ?_; refine rl_end ?_; exact wt_ret1 rfl rfl ⟨_, rfl, (hS.sel [] (by decide)), h⟩
              · replace h := h.2 hp6; refine rl_p (wanted_n rfl (yE_of rfl (congrArg Value.bool (Bool.eq_false_iff.2 hp6))) rfl) rfl ?_; refine rl_q rfl rfl rfl (v_pick_f (v := (.bool (false))) (congrArg Value.bool (Bool.eq_false_iff.2 hp6)) rfl) ?_; refine rl_q rfl rfl rfl (v_assign (v := (.bool (false))) rfl) ?_; refine rl_end ?_; exact wt_ret1 rfl rfl ⟨_, rfl, (hS.sel [] (by decide)), h⟩
          · replace h := h.2 hp4; refine rl_q (wanted_g rfl (yE_of rfl (congrArg Value.bool (decide_eq_false hp4)))) rfl rfl (v_move (v := (.bool (r4))) hE9) ?_; refine rl_q (wanted_g rfl (yE_of rfl (congrArg Value.bool (decide_eq_false hp4)))) rfl rfl (v_not rfl) ?_; refine rl_q rfl rfl rfl (v_pick_f (v := (.bool (!(r4)))) (congrArg Value.bool (decide_eq_false hp4)) rfl) ?_; refine rl_q rfl rfl rfl (v_move (v := (.bool (!(r4)))) rfl) ?_; by_cases hp7 : r4 = true
            · replace h := h.1 hp7; refine rl_p (wanted_n rfl (yE_of rfl (congrArg Value.bool (congrArg Bool.not hp7))) rfl) rfl ?_; refine rl_p (wanted_n rfl (yE_of rfl (congrArg Value.bool (congrArg Bool.not hp7))) rfl) rfl ?_; refine rl_p (wanted_n rfl (yE_of rfl (congrArg Value.bool (congrArg Bool.not hp7))) rfl) rfl ?_; refine rl_p (wanted_n rfl (yE_of rfl (congrArg Value.bool (congrArg Bool.not hp7))) rfl) rfl ?_; refine rl_p (wanted_n rfl (yE_of rfl (congrArg Value.bool (congrArg Bool.not hp7))) rfl) rfl ?_; refine rl_p (wanted_u rfl rfl) rfl ?_; refine rl_p (wanted_n rfl (yE_of rfl (congrArg Value.bool (congrArg Bool.not hp7))) rfl) rfl ?_; refine rl_q rfl rfl rfl (v_pick_f (v := (.bool (false))) (congrArg Value.bool (congrArg Bool.not hp7)) rfl) ?_; refine rl_q rfl rfl rfl (v_move (v := (.bool (false))) rfl) ?_; refine rl_p (wanted_n rfl (yE_of rfl rfl) rfl) rfl ?_; refine rl_q rfl rfl rfl (v_pick_f (v := (.bool (false))) rfl rfl) ?_; refine rl_q rfl rfl rfl (v_assign (v := (.bool (false))) rfl) ?_; refine rl_end ?_; exact wt_ret1 rfl rfl ⟨_, rfl, (hS.sel [] (by decide)), h⟩
            · replace h := h.2 hp7; refine rl_q (wanted_g rfl (yE_of rfl (congrArg Value.bool (congrArg Bool.not (Bool.eq_false_iff.2 hp7))))) rfl rfl (v_move (v := (.slice Ai li ci)) hE1) ?_; refine rl_n (wanted_g rfl (yE_of rfl (congrArg Value.bool (congrArg Bool.not (Bool.eq_false_iff.2 hp7))))) rfl rfl rfl (n_call0 rfl (am1 rfl) enter_39 ((pok_r17_Total h (no_lt _) (hS.rdr 0 rfl)).mono ?_)); rintro _ w18 ⟨r20, rfl, hC, h⟩; replace hS := hS.pur hC.pure; clear hC; refine ⟨_, rfl, ?_⟩; refine ⟨Stb.none _, ?_⟩; refine rl_q (wanted_g rfl (yE_of rfl (congrArg Value.bool (congrArg Bool.not (Bool.eq_false_iff.2 hp7))))) rfl rfl (v_move (v := (.int .i64 v)) hE20) ?_; refine rl_q (wanted_g rfl (yE_of rfl (congrArg Value.bool (congrArg Bool.not (Bool.eq_false_iff.2 hp7))))) rfl rfl (v_lss rfl rfl) ?_; refine rl_q (wanted_g rfl (yE_of rfl (congrArg Value.bool (congrArg Bool.not (Bool.eq_false_iff.2 hp7))))) rfl rfl (v_move (v := (.bool (decide (r20 < v)))) rfl) ?_; by_cases hp8 : r20 < v
              · replace h := h.1 hp8; refine rl_p (wanted_n rfl (yE_of rfl (congrArg Value.bool (decide_eq_true hp8))) rfl) rfl ?_; refine rl_q (wanted_g rfl (yE_of rfl (congrArg Value.bool (congrArg Bool.not (Bool.eq_false_iff.2 hp7))))) rfl rfl (v_pick_t (v := (.bool (true))) (congrArg Value.bool (decide_eq_true hp8)) rfl) ?_; refine rl_q rfl rfl rfl (v_pick_t (v := (.bool (true))) (congrArg Value.bool (congrArg Bool.not (Bool.eq_false_iff.2 hp7))) rfl) ?_; refine rl_q rfl rfl rfl (v_move (v := (.bool (true))) rfl) ?_; refine rl_n (wanted_g rfl (yE_of rfl rfl)) rfl rfl rfl (n_call0 rfl (am0) enter_17 ((pok_l36_awake h (no_lt _)).mono ?_)); rintro _ w19 ⟨r21, rfl, hC, h⟩; replace hS := hS.pur hC.pure; clear hC; refine ⟨_, rfl, ?_⟩; refine ⟨Stb.none _, ?_⟩; refine rl_q rfl rfl rfl (v_pick_t (v := (.bool (r21))) rfl rfl) ?_; refine rl_q rfl rfl rfl (v_assign (v := (.bool (r21))) rfl) ?_; refine rl_end ?_; exact wt_ret1 rfl rfl ⟨_, rfl, (hS.sel [] (by decide)), h⟩
              · replace h := h.2 hp8; refine rl_q (wanted_g rfl (yE_of rfl (congrArg Value.bool (decide_eq_false hp8)))) rfl rfl (v_move (v := (.bool (r4))) hE9) ?_; refine rl_q (wanted_g rfl (yE_of rfl (congrArg Value.bool (congrArg Bool.not (Bool.eq_false_iff.2 hp7))))) rfl rfl (v_pick_f (v := (.bool (r4))) (congrArg Value.bool (decide_eq_false hp8)) rfl) ?_; refine rl_q rfl rfl rfl (v_pick_t (v := (.bool (r4))) (congrArg Value.bool (congrArg Bool.not (Bool.eq_false_iff.2 hp7))) rfl) ?_; refine rl_q rfl rfl rfl (v_move (v := (.bool (r4))) rfl) ?_; refine rl_p (wanted_n rfl (yE_of rfl (congrArg Value.bool (Bool.eq_false_iff.2 hp7))) rfl) rfl ?_; refine rl_q rfl rfl rfl (v_pick_f (v := (.bool (false))) (congrArg Value.bool (Bool.eq_false_iff.2 hp7)) rfl) ?_; refine rl_q rfl rfl rfl (v_assign (v := (.bool (false))) rfl) ?_; refine rl_end ?_; exact wt_ret1 rfl rfl ⟨_, rfl, (hS.sel [] (by decide)), h⟩
      clear hJ; intro j2; refine wl_region wd_wide ?_; refine rl_q rfl rfl rfl (v_move (v := (.int .i64 r7)) rfl) ?_; refine rl_q rfl rfl rfl (v_move (v := (.int .i64 r11)) rfl) ?_; obtain ⟨hi5, h⟩ := h; refine rl_q rfl rfl rfl (v_add rfl rfl hi5) ?_; refine rl_q rfl rfl rfl (v_move (v := (.int .i64 r15)) rfl) ?_; obtain ⟨hi6, h⟩ := h; refine rl_q rfl rfl rfl (v_add rfl rfl hi6) ?_; refine rl_q rfl rfl rfl (v_neq rfl rfl) ?_; refine rl_q rfl rfl rfl (v_move (v := (.bool (!(decide (((r7 + r11) + r15) = 0))))) rfl) ?_; by_cases hp9 : ((r7 + r11) + r15) = 0
      · replace h := h.1 hp9; refine rl_q (wanted_g rfl (yE_of rfl (congrArg Value.bool (congrArg Bool.not (decide_eq_true hp9))))) rfl rfl (v_move (v := (.bool (r4))) rfl) ?_; refine rl_q (wanted_g rfl (yE_of rfl (congrArg Value.bool (congrArg Bool.not (decide_eq_true hp9))))) rfl rfl (v_move (v := (.bool (r4))) rfl) ?_; by_cases hp10 : r4 = true
        · replace h := h.1 hp10; refine rl_q (wanted_g rfl (yE_of rfl (congrArg Value.bool hp10))) rfl rfl (v_move (v := (.bool (r8))) rfl) ?_; refine rl_q (wanted_g rfl (yE_of rfl (congrArg Value.bool (congrArg Bool.not (decide_eq_true hp9))))) rfl rfl (v_pick_t (v := (.bool (r8))) (congrArg Value.bool hp10) rfl) ?_; refine rl_q (wanted_g rfl (yE_of rfl (congrArg Value.bool (congrArg Bool.not (decide_eq_true hp9))))) rfl rfl (v_move (v := (.bool (r8))) rfl) ?_; by_cases hp11 : r8 = true
          · replace h := h.1 hp11; refine rl_q (wanted_g rfl (yE_of rfl (congrArg Value.bool hp11))) rfl rfl (v_move (v := (.bool (r12))) rfl) ?_; refine rl_q (wanted_g rfl (yE_of rfl (congrArg Value.bool hp11))) rfl rfl (v_not rfl) ?_; refine rl_q (wanted_g rfl (yE_of rfl (congrArg Value.bool (congrArg Bool.not (decide_eq_true hp9))))) rfl rfl (v_pick_t (v := (.bool (!(r12)))) (congrArg Value.bool hp11) rfl) ?_; refine rl_q rfl rfl rfl (v_pick_f (v := (.bool (!(r12)))) (congrArg Value.bool (congrArg Bool.not (decide_eq_true hp9))) rfl) ?_; refine rl_q rfl rfl rfl (v_move (v := (.bool (!(r12)))) rfl) ?_; by_cases hp12 : r12 = true
            · replace h := h.1 hp12; refine rl_q (wanted_g rfl (yE_of rfl (congrArg Value.bool (congrArg Bool.not hp12)))) rfl rfl (v_move (v := (.bool (r4))) rfl) ?_; refine rl_q (wanted_g rfl (yE_of rfl (congrArg Value.bool (congrArg Bool.not hp12)))) rfl rfl (v_move (v := (.bool (r4))) rfl) ?_; refine rl_q (wanted_g rfl (yE_of rfl (congrArg Value.bool hp10))) rfl rfl (v_move (v := (.slice Aa la ca)) hE2) ?_; refine rl_n (wanted_g rfl (yE_of rfl (congrArg Value.bool hp10))) rfl rfl rfl (n_call0 rfl (am1 rfl) enter_38 ((pok_r17_Paid h (no_lt _) (hS.rdr 1 rfl)).mono ?_)); rintro _ w20 ⟨r22, rfl, hC, h⟩; replace hS := hS.pur hC.pure; clear hC; refine ⟨_, rfl, ?_⟩; refine ⟨Stb.none _, ?_⟩; refine rl_q (wanted_g rfl (yE_of rfl (congrArg Value.bool (congrArg Bool.not hp12)))) rfl rfl (v_pick_t (v := (.bool (r22))) (congrArg Value.bool hp10) rfl) ?_; refine rl_q (wanted_g rfl (yE_of rfl (congrArg Value.bool (congrArg Bool.not hp12)))) rfl rfl (v_move (v := (.bool (r22))) rfl) ?_; by_cases hp13 : r22 = true
              · replace h := h.1 hp13; refine rl_q (wanted_g rfl (yE_of rfl (congrArg Value.bool hp13))) rfl rfl (v_move (v := (.bool (r12))) rfl) ?_; refine rl_q (wanted_g rfl (yE_of rfl (congrArg Value.bool hp13))) rfl rfl (v_not rfl) ?_; refine rl_q (wanted_g rfl (yE_of rfl (congrArg Value.bool (congrArg Bool.not hp12)))) rfl rfl (v_pick_t (v := (.bool (!(r12)))) (congrArg Value.bool hp13) rfl) ?_; refine rl_q rfl rfl rfl (v_pick_f (v := (.bool (!(r12)))) (congrArg Value.bool (congrArg Bool.not hp12)) rfl) ?_; refine rl_end ?_; refine wt_cond_f (congrArg Value.bool (congrArg Bool.not hp12)) ?_; refine wt_skip ?_; exact j2 _ _ _ ⟨h, rfl, hE1, hE3, rfl, (hS.sel [0, 2, 3] (by decide))⟩
              · replace h := h.2 hp13; refine rl_p (wanted_n rfl (yE_of rfl (congrArg Value.bool (Bool.eq_false_iff.2 hp13))) rfl) rfl ?_; refine rl_p (wanted_n rfl (yE_of rfl (congrArg Value.bool (Bool.eq_false_iff.2 hp13))) rfl) rfl ?_; refine rl_q (wanted_g rfl (yE_of rfl (congrArg Value.bool (congrArg Bool.not hp12)))) rfl rfl (v_pick_f (v := (.bool (false))) (congrArg Value.bool (Bool.eq_false_iff.2 hp13)) rfl) ?_; refine rl_q rfl rfl rfl (v_pick_f (v := (.bool (false))) (congrArg Value.bool (congrArg Bool.not hp12)) rfl) ?_; refine rl_end ?_; refine wt_cond_f rfl ?_; refine wt_skip ?_; exact j2 _ _ _ ⟨h, rfl, hE1, hE3, rfl, (hS.sel [0, 2, 3] (by decide))⟩
            · replace h := h.2 hp12; refine rl_p (wanted_n rfl (yE_of rfl (congrArg Value.bool (congrArg Bool.not (Bool.eq_false_iff.2 hp12)))) rfl) rfl ?_; refine rl_p (wanted_n rfl (yE_of rfl (congrArg Value.bool (congrArg Bool.not (Bool.eq_false_iff.2 hp12)))) rfl) rfl ?_; refine rl_p (wanted_u rfl rfl) rfl ?_; refine rl_p (wanted_u rfl rfl) rfl ?_; refine rl_p (wanted_n rfl (yE_of rfl (congrArg Value.bool (congrArg Bool.not (Bool.eq_false_iff.2 hp12)))) rfl) rfl ?_; refine rl_p (wanted_n rfl (yE_of rfl (congrArg Value.bool (congrArg Bool.not (Bool.eq_false_iff.2 hp12)))) rfl) rfl ?_; refine rl_p (wanted_u rfl rfl) rfl ?_; refine rl_p (wanted_u rfl rfl) rfl ?_; refine rl_p (wanted_n rfl (yE_of rfl (congrArg Value.bool (congrArg Bool.not (Bool.eq_false_iff.2 hp12)))) rfl) rfl ?_; refine rl_q rfl rfl rfl (v_pick_t (v := (.bool (true))) (congrArg Value.bool (congrArg Bool.not (Bool.eq_false_iff.2 hp12))) rfl) ?_; refine rl_end ?_; refine wt_cond_t rfl ?_; refine wt_seq ?_; refine wl_region wd_wide ?_; refine rl_q rfl rfl rfl (v_assign (v := (.bool (false))) rfl) ?_; refine rl_end ?_; exact wt_ret1 rfl rfl ⟨_, rfl, (hS.sel [] (by decide)), h⟩
          · replace h := h.2 hp11; refine rl_p (wanted_n rfl (yE_of rfl (congrArg Value.bool (Bool.eq_false_iff.2 hp11))) rfl) rfl ?_; refine rl_p (wanted_n rfl (yE_of rfl (congrArg Value.bool (Bool.eq_false_iff.2 hp11))) rfl) rfl ?_; refine rl_q (wanted_g rfl (yE_of rfl (congrArg Value.bool (congrArg Bool.not (decide_eq_true hp9))))) rfl rfl (v_pick_f (v := (.bool (false))) (congrArg Value.bool (Bool.eq_false_iff.2 hp11)) rfl) ?_; refine rl_q rfl rfl rfl (v_pick_f (v := (.bool (false))) (congrArg Value.bool (congrArg Bool.not (decide_eq_true hp9))) rfl) ?_; refine rl_q rfl rfl rfl (v_move (v := (.bool (false))) rfl) ?_; refine rl_q (wanted_g rfl (yE_of rfl rfl)) rfl rfl (v_move (v := (.bool (r4))) rfl) ?_; refine rl_q (wanted_g rfl (yE_of rfl rfl)) rfl rfl (v_move (v := (.bool (r4))) rfl) ?_; refine rl_q (wanted_g rfl (yE_of rfl (congrArg Value.bool hp10))) rfl rfl (v_move (v := (.slice Aa la ca)) hE2) ?_; refine rl_n (wanted_g rfl (yE_of rfl (congrArg Value.bool hp10))) rfl rfl rfl (n_call0 rfl (am1 rfl) enter_38 ((pok_r17_Paid h (no_lt _) (hS.rdr 1 rfl)).mono ?_)); rintro _ w21 ⟨r23, rfl, hC, h⟩; replace hS := hS.pur hC.pure; clear hC; refine ⟨_, rfl, ?_⟩; refine ⟨Stb.none _, ?_⟩; refine rl_q (wanted_g rfl (yE_of rfl rfl)) rfl rfl (v_pick_t (v := (.bool (r23))) (congrArg Value.bool hp10) rfl) ?_; refine rl_q (wanted_g rfl (yE_of rfl rfl)) rfl rfl (v_move (v := (.bool (r23))) rfl) ?_; by_cases hp14 : r23 = true
            · replace h := h.1 hp14; refine rl_q (wanted_g rfl (yE_of rfl (congrArg Value.bool hp14))) rfl rfl (v_move (v := (.bool (r12))) rfl) ?_; refine rl_q (wanted_g rfl (yE_of rfl (congrArg Value.bool hp14))) rfl rfl (v_not rfl) ?_; refine rl_q (wanted_g rfl (yE_of rfl rfl)) rfl rfl (v_pick_t (v := (.bool (!(r12)))) (congrArg Value.bool hp14) rfl) ?_; refine rl_q rfl rfl rfl (v_pick_f (v := (.bool (!(r12)))) rfl rfl) ?_; refine rl_end ?_; by_cases hp15 : r12 = true
              · replace h := h.1 hp15; refine wt_cond_f (congrArg Value.bool (congrArg Bool.not hp15)) ?_; refine wt_skip ?_; exact j2 _ _ _ ⟨h, rfl, hE1, hE3, rfl, (hS.sel [0, 2, 3] (by decide))⟩
              · replace h := h.2 hp15; refine wt_cond_t (congrArg Value.bool (congrArg Bool.not (Bool.eq_false_iff.2 hp15))) ?_; refine wt_seq ?_; refine wl_region wd_wide ?_; refine rl_q rfl rfl rfl (v_assign (v := (.bool (false))) rfl) ?_; refine rl_end ?_; exact wt_ret1 rfl rfl ⟨_, rfl, (hS.sel [] (by decide)), h⟩
            · replace h := h.2 hp14; refine rl_p (wanted_n rfl (yE_of rfl (congrArg Value.bool (Bool.eq_false_iff.2 hp14))) rfl) rfl ?_; refine rl_p (wanted_n rfl (yE_of rfl (congrArg Value.bool (Bool.eq_false_iff.2 hp14))) rfl) rfl ?_; refine rl_q (wanted_g rfl (yE_of rfl rfl)) rfl rfl (v_pick_f (v := (.bool (false))) (congrArg Value.bool (Bool.eq_false_iff.2 hp14)) rfl) ?_; refine rl_q rfl rfl rfl (v_pick_f (v := (.bool (false))) rfl rfl) ?_; refine rl_end ?_; refine wt_cond_f rfl ?_; refine wt_skip ?_; exact j2 _ _ _ ⟨h, rfl, hE1, hE3, rfl, (hS.sel [0, 2, 3] (by decide))⟩
        · replace h := h.2 hp10; refine rl_p (wanted_n rfl (yE_of rfl (congrArg Value.bool (Bool.eq_false_iff.2 hp10))) rfl) rfl ?_; refine rl_q (wanted_g rfl (yE_of rfl (congrArg Value.bool (congrArg Bool.not (decide_eq_true hp9))))) rfl rfl (v_pick_f (v := (.bool (false))) (congrArg Value.bool (Bool.eq_false_iff.2 hp10)) rfl) ?_; refine rl_q (wanted_g rfl (yE_of rfl (congrArg Value.bool (congrArg Bool.not (decide_eq_true hp9))))) rfl rfl (v_move (v := (.bool (false))) rfl) ?_; refine rl_p (wanted_n rfl (yE_of rfl rfl) rfl) rfl ?_; refine rl_p (wanted_n rfl (yE_of rfl rfl) rfl) rfl ?_; refine rl_q (wanted_g rfl (yE_of rfl (congrArg Value.bool (congrArg Bool.not (decide_eq_true hp9))))) rfl rfl (v_pick_f (v := (.bool (false))) rfl rfl) ?_; refine rl_q rfl rfl rfl (v_pick_f (v := (.bool (false))) (congrArg Value.bool (congrArg Bool.not (decide_eq_true hp9))) rfl) ?_; refine rl_q rfl rfl rfl (v_move (v := (.bool (false))) rfl) ?_; refine rl_q (wanted_g rfl (yE_of rfl rfl)) rfl rfl (v_move (v := (.bool (r4))) rfl) ?_; refine rl_q (wanted_g rfl (yE_of rfl rfl)) rfl rfl (v_move (v := (.bool (r4))) rfl) ?_; refine rl_p (wanted_n rfl (yE_of rfl (congrArg Value.bool (Bool.eq_false_iff.2 hp10))) rfl) rfl ?_; refine rl_p (wanted_n rfl (yE_of rfl (congrArg Value.bool (Bool.eq_false_iff.2 hp10))) rfl) rfl ?_; refine rl_q (wanted_g rfl (yE_of rfl rfl)) rfl rfl (v_pick_f (v := (.bool (false))) (congrArg Value.bool (Bool.eq_false_iff.2 hp10)) rfl) ?_
          refine rl_q (wanted_g rfl (yE_of rfl rfl)) rfl rfl (v_move (v := (.bool (false))) rfl) ?_; refine rl_p (wanted_n rfl (yE_of rfl rfl) rfl) rfl ?_; refine rl_p (wanted_n rfl (yE_of rfl rfl) rfl) rfl ?_; refine rl_q (wanted_g rfl (yE_of rfl rfl)) rfl rfl (v_pick_f (v := (.bool (false))) rfl rfl) ?_; refine rl_q rfl rfl rfl (v_pick_f (v := (.bool (false))) rfl rfl) ?_; refine rl_end ?_; refine wt_cond_f rfl ?_; refine wt_skip ?_; exact j2 _ _ _ ⟨h, rfl, hE1, hE3, rfl, (hS.sel [0, 2, 3] (by decide))⟩
      · replace h := h.2 hp9; refine rl_p (wanted_n rfl (yE_of rfl (congrArg Value.bool (congrArg Bool.not (decide_eq_false hp9)))) rfl) rfl ?_; refine rl_p (wanted_n rfl (yE_of rfl (congrArg Value.bool (congrArg Bool.not (decide_eq_false hp9)))) rfl) rfl ?_; refine rl_p (wanted_u rfl rfl) rfl ?_; refine rl_p (wanted_n rfl (yE_of rfl (congrArg Value.bool (congrArg Bool.not (decide_eq_false hp9)))) rfl) rfl ?_; refine rl_p (wanted_n rfl (yE_of rfl (congrArg Value.bool (congrArg Bool.not (decide_eq_false hp9)))) rfl) rfl ?_; refine rl_p (wanted_u rfl rfl) rfl ?_; refine rl_p (wanted_u rfl rfl) rfl ?_; refine rl_p (wanted_n rfl (yE_of rfl (congrArg Value.bool (congrArg Bool.not (decide_eq_false hp9)))) rfl) rfl ?_; refine rl_q rfl rfl rfl (v_pick_t (v := (.bool (true))) (congrArg Value.bool (congrArg Bool.not (decide_eq_false hp9))) rfl) ?_; refine rl_q rfl rfl rfl (v_move (v := (.bool (true))) rfl) ?_; refine rl_p (wanted_n rfl (yE_of rfl rfl) rfl) rfl ?_; refine rl_p (wanted_n rfl (yE_of rfl rfl) rfl) rfl ?_; refine rl_p (wanted_u rfl rfl) rfl ?_; refine rl_p (wanted_u rfl rfl) rfl ?_; refine rl_p (wanted_n rfl (yE_of rfl rfl) rfl) rfl ?_; refine rl_p (wanted_n rfl (yE_of rfl rfl) rfl) rfl ?_; refine rl_p (wanted_u rfl rfl) rfl ?_; refine rl_p (wanted_u rfl rfl) rfl ?_; refine rl_p (wanted_n rfl (yE_of rfl rfl) rfl) rfl ?_; refine rl_q rfl rfl rfl (v_pick_t (v := (.bool (true))) rfl rfl) ?_; refine rl_end ?_; refine wt_cond_t rfl ?_; refine wt_seq ?_
        refine wl_region wd_wide ?_; refine rl_q rfl rfl rfl (v_assign (v := (.bool (false))) rfl) ?_; refine rl_end ?_; exact wt_ret1 rfl rfl ⟨_, rfl, (hS.sel [] (by decide)), h⟩
    clear hJ; intro j; obtain ⟨J4, hJ, h⟩ := h; refine wt_cutA1 (fun E ds w' => J4 ∧ ds = [] ∧ E 8 = (Value.int .i64 r3) ∧ Sep w no O w' (rl [])) ?_ ?_
    · clear h hS; rintro E ds w22 ⟨h, rfl, hE8, hS⟩; replace h := hJ h; refine wt_seq ?_; refine wl_region wd_wide ?_; refine rl_q rfl rfl rfl (v_move (v := (.int .i64 r3)) hE8) ?_; refine rl_q rfl rfl rfl (v_eql rfl rfl) ?_; refine rl_q rfl rfl rfl (v_move (v := (.bool (decide (r3 = 0)))) rfl) ?_; by_cases hp16 : r3 = 0
      · replace h := h.1 hp16; refine rl_n (wanted_g rfl (yE_of rfl (congrArg Value.bool (decide_eq_true hp16)))) rfl rfl rfl (n_call0 rfl (am0) enter_17 ((pok_l36_awake h (no_lt _)).mono ?_)); rintro _ w23 ⟨r24, rfl, hC, h⟩; replace hS := hS.pur hC.pure; clear hC; refine ⟨_, rfl, ?_⟩; refine ⟨Stb.none _, ?_⟩; refine rl_q rfl rfl rfl (v_pick_t (v := (.bool (r24))) (congrArg Value.bool (decide_eq_true hp16)) rfl) ?_; refine rl_q rfl rfl rfl (v_assign (v := (.bool (r24))) rfl) ?_; refine rl_end ?_; exact wt_ret1 rfl rfl ⟨_, rfl, (hS.sel [] (by decide)), h⟩
      · replace h := h.2 hp16; refine rl_p (wanted_n rfl (yE_of rfl (congrArg Value.bool (decide_eq_false hp16))) rfl) rfl ?_; refine rl_q rfl rfl rfl (v_pick_f (v := (.bool (false))) (congrArg Value.bool (decide_eq_false hp16)) rfl) ?_; refine rl_q rfl rfl rfl (v_assign (v := (.bool (false))) rfl) ?_; refine rl_end ?_; exact wt_ret1 rfl rfl ⟨_, rfl, (hS.sel [] (by decide)), h⟩
    clear hJ; intro j3; refine wl_region wd_wide ?_; refine rl_q rfl rfl rfl (v_move (v := (.int .i64 r3)) rfl) ?_; refine rl_q rfl rfl rfl (v_neq rfl rfl) ?_; refine rl_q rfl rfl rfl (v_move (v := (.bool (!(decide (r3 = 0))))) rfl) ?_; by_cases hp17 : r3 = 0
    · replace h := h.1 hp17; refine rl_q (wanted_g rfl (yE_of rfl (congrArg Value.bool (congrArg Bool.not (decide_eq_true hp17))))) rfl rfl (v_loadn (vs := [(.int .i64 d), (.slice Ad ld cd)]) rfl Try.underlying24 rfl info_24 ⟨Row.cell (hS.bx 3 rfl) (i := 0) rfl, Row.cell (hS.bx 3 rfl) (i := 1) rfl, trivial⟩) ?_; refine rl_q (wanted_g rfl (yE_of rfl (congrArg Value.bool (congrArg Bool.not (decide_eq_true hp17))))) rfl rfl (v_move (v := (.slice Ar lr cr)) rfl) ?_; refine rl_n (wanted_g rfl (yE_of rfl (congrArg Value.bool (congrArg Bool.not (decide_eq_true hp17))))) rfl rfl rfl (n_call0 rfl (am2 rfl rfl) enter_37 ((pok_r34_Low h (no_lt _) (hS.rdr 0 rfl) (hS.rdo 5 rfl)).mono ?_)); rintro _ w24 ⟨r25, rfl, hC, h⟩; replace hS := hS.pur hC.pure; clear hC; refine ⟨_, rfl, ?_⟩; refine ⟨Stb.none _, ?_⟩; refine rl_q (wanted_g rfl (yE_of rfl (congrArg Value.bool (congrArg Bool.not (decide_eq_true hp17))))) rfl rfl (v_not rfl) ?_; refine rl_q rfl rfl rfl (v_pick_f (v := (.bool (!(r25)))) (congrArg Value.bool (congrArg Bool.not (decide_eq_true hp17))) rfl) ?_; refine rl_end ?_; by_cases hp18 : r25 = true
      · replace h := h.1 hp18; refine wt_cond_f (congrArg Value.bool (congrArg Bool.not hp18)) ?_; refine wt_skip ?_; exact j _ _ _ ⟨h, rfl, rfl, rfl, rfl, rfl, (hS.sel [1, 2, 3, 0, 5] (by decide))⟩
      · replace h := h.2 hp18; refine wt_cond_t (congrArg Value.bool (congrArg Bool.not (Bool.eq_false_iff.2 hp18))) ?_; exact j3 _ _ _ ⟨h, rfl, rfl, (hS.sel [] (by decide))⟩
    · replace h := h.2 hp17; refine rl_p (wanted_n rfl (yE_of rfl (congrArg Value.bool (congrArg Bool.not (decide_eq_false hp17)))) rfl) rfl ?_; refine rl_p (wanted_n rfl (yE_of rfl (congrArg Value.bool (congrArg Bool.not (decide_eq_false hp17)))) rfl) rfl ?_; refine rl_p (wanted_n rfl (yE_of rfl (congrArg Value.bool (congrArg Bool.not (decide_eq_false hp17)))) rfl) rfl ?_; refine rl_p (wanted_n rfl (yE_of rfl (congrArg Value.bool (congrArg Bool.not (decide_eq_false hp17)))) rfl) rfl ?_; refine rl_q rfl rfl rfl (v_pick_t (v := (.bool (true))) (congrArg Value.bool (congrArg Bool.not (decide_eq_false hp17))) rfl) ?_; refine rl_end ?_; refine wt_cond_t rfl ?_; exact j3 _ _ _ ⟨h, rfl, rfl, (hS.sel [] (by decide))⟩
  · replace h := h.2 hp; refine wt_cond_t (congrArg Value.bool (congrArg Bool.not (Bool.eq_false_iff.2 hp))) ?_; refine wt_seq ?_; refine wl_region wd_wide ?_; refine rl_n rfl rfl rfl rfl (n_call0 rfl (am0) enter_17 ((pok_l36_awake h (no_lt _)).mono ?_)); rintro _ w25 ⟨r26, rfl, hC, h⟩; replace hS := hS.pur hC.pure; clear hC; refine ⟨_, rfl, ?_⟩; refine ⟨Stb.none _, ?_⟩; refine rl_q rfl rfl rfl (v_assign (v := (.bool (r26))) rfl) ?_; refine rl_end ?_; exact wt_ret1 rfl rfl ⟨_, rfl, (hS.sel [] (by decide)), h⟩

end Go.Proofs.Ytbehbjfcenlaeaa

/- What the references' pure forms come to: graphs and divisors. -/
namespace Go.Proofs.Ytbehbjfcenlaeaa
open Go
set_option linter.unusedVariables false
set_option linter.unusedSimpArgs false

theorem p_r17_In {k : Int} {R : Bool → Prop} (h : R (inF k)) : pf_r17_In k R := by
  unfold pf_r17_In
  refine ⟨fun h1 => ?_, fun h1 => ?_⟩
  · have e : decide (k ≤ 1048576) = inF k := by unfold inF; simp [h1]
    rw [e]; exact h
  · have e : false = inF k := by unfold inF; simp [h1]
    rw [e]; exact h
theorem p_r08_Vertex {n v : Int} {es : List E3} {R : Bool → Prop} (h : R (decide (0 ≤ v ∧ v < n))) : pf_r08_Vertex n es v R := by
  unfold pf_r08_Vertex
  refine ⟨fun h1 => ?_, fun h1 => ?_⟩
  · have e : decide (v < n) = decide (0 ≤ v ∧ v < n) := by simp [h1]
    rw [e]; exact h
  · have e : false = decide (0 ≤ v ∧ v < n) := by simp [h1]
    rw [e]; exact h
theorem p_r17_Check {d : List Int} {n : Int} {R : Int → Prop} (h : R (checkF d n)) : pf_r17_Check d n R := by
  unfold pf_r17_Check
  have hout : ¬ (1 ≤ n ∧ n ≤ 12) → R 2 := fun q => by
    have : checkF d n = 2 := by unfold checkF vertsF; rw [if_neg q, if_neg (by omega)]
    rwa [this] at h
  refine ⟨1 ≤ n ∧ n ≤ 12, fun hn => ?_, fun q => hout (by omega), fun q => ⟨fun q2 => hout (by omega), fun q2 => ⟨by omega, by omega⟩⟩⟩
  have hc : checkF d n = if (d.length : Int) = n then (if d.all inF then 0 else 2) else 8 := by unfold checkF; rw [if_pos (by unfold vertsF; rw [if_pos hn])]
  rw [hc] at h
  refine ⟨fun hln => ?_, fun hln => by rwa [if_neg hln] at h⟩
  rw [if_pos hln] at h
  refine ⟨Cnt d.length (fun k => ∀ j, j < k → inF (gi d j) = true), Cnt.start (fun j hj => absurd hj (by omega)), ?_⟩
  rintro m _ ⟨k, rfl, rfl, hk, hinv⟩
  refine ⟨fun hlt => ⟨by omega, p_r17_In ⟨fun h1 => Cnt.next (by omega) (by omega) fun j hj => ?_, fun h1 => ?_⟩⟩, fun hge => ?_⟩
  · by_cases e : j = k
    · subst e; simpa using h1
    · exact hinv j (by omega)
  · rw [if_neg (fun hall => h1 ((all_iff_gi inF d).1 hall _ (by omega)))] at h; exact h
  · rw [if_pos ((all_iff_gi inF d).2 fun j hj => hinv j (by omega))] at h; exact h
theorem p_r17_Total {d : List Int} {R : Int → Prop} (hl : d.length ≤ 1000000) (hb : ∀ i, i < d.length → -1000000000000 ≤ gi d i ∧ gi d i ≤ 1000000000000) (h : R (dg d)) : pf_r17_Total d R := by
  unfold pf_r17_Total
  refine ⟨fun m n v => Cnt d.length (fun k => n = sm k (gi d)) m v, Cnt.start rfl, ?_⟩
  rintro m n _ ⟨k, rfl, rfl, hk, rfl⟩
  refine ⟨fun hlt => ⟨by omega, ?_, Cnt.next (by omega) (by omega) rfl⟩, fun hge => ?_⟩
  · have := sm_bound (f := gi d) (B := 1000000000000) (by omega) (n := k + 1) fun i hi => hb i (by omega)
    rw [sm] at this
    exact i64 (by simp only [Int.toNat_natCast]; omega)
  · have : k = d.length := by omega
    subst this; exact h
/-- Nothing is negative. -/
def paidF (d : List Int) : Bool := (List.range d.length).all fun v => decide (0 ≤ gi d v)
theorem paidF_iff {d : List Int} : paidF d = true ↔ ∀ v, v < d.length → 0 ≤ gi d v := by simp [paidF]
theorem p_r17_Paid {d : List Int} {R : Bool → Prop} (hl : d.length ≤ 1000000000) (h : R (paidF d)) : pf_r17_Paid d R := by
  unfold pf_r17_Paid
  refine ⟨Cnt d.length (fun k => ∀ j, j < k → 0 ≤ gi d j), Cnt.start (fun j hj => absurd hj (by omega)), ?_⟩
  rintro m _ ⟨k, rfl, rfl, hk, hinv⟩
  refine ⟨fun hlt => ⟨by omega, fun h1 => ?_, fun h1 => Cnt.next (by omega) (by omega) fun j hj => ?_⟩, fun hge => ?_⟩
  · have e : false = paidF d := by
      symm; rw [Bool.eq_false_iff]; intro q
      have := paidF_iff.1 q k (by omega)
      simp only [Int.toNat_natCast] at h1; omega
    rw [e]; exact h
  · by_cases e : j = k
    · subst e; simp only [Int.toNat_natCast] at h1; omega
    · exact hinv j (by omega)
  · have e : true = paidF d := by symm; rw [paidF_iff]; intro v hv; exact hinv v (by omega)
    rw [e]; exact h

theorem p_r08_edge {n : Int} {es : List E3} {k : Nat} {R : Int → Prop} (hk : k < es.length) (hl : es.length ≤ 1000000000) (h : R (edgeF n (pre es k).1 (pre es k).2 (ge es k))) : pf_r08_edge n es (k : Int) R := by
  unfold pf_r08_edge
  simp only [Int.toNat_natCast]
  generalize hx : ge es k = x at h ⊢
  refine ⟨by omega, (0 ≤ x.1 ∧ x.1 < n) ∧ (0 ≤ x.2.1 ∧ x.2.1 < n) ∧ 1 ≤ x.2.2 ∧ x.2.2 ≤ 50, fun hJ => ?_, ?_⟩
  · have hed : ∀ a b, edgeF n a b x = if x.1 ≤ x.2.1 ∧ pcmpF a b x.1 x.2.1 < 0 then 0 else 9 := fun a b => by unfold edgeF; rw [if_pos hJ]
    rw [hed] at h
    refine ⟨fun q => by rw [if_neg (by omega)] at h; exact h, fun q => ⟨fun h0 => ?_, fun h0 => ?_⟩⟩
    · have e1 : ((k : Int) - 1).toNat = k - 1 := by omega
      rw [e1]
      have hp : pre es k = ((ge es (k - 1)).1, (ge es (k - 1)).2.1) := by unfold pre; rw [if_neg (by omega)]
      rw [hp] at h
      have hc := pcmp_lt (ge es (k - 1)).1 (ge es (k - 1)).2.1 x.1 x.2.1
      refine ⟨i64 (by omega), by omega, fun q1 => ?_, fun q1 => ⟨fun q2 => ⟨fun q3 => ?_, fun q3 => ?_⟩, fun q2 => ?_⟩⟩
      · rw [if_neg (fun h => by have := hc.1 h.2; omega)] at h; exact h
      · rw [if_neg (fun h => by have := hc.1 h.2; omega)] at h; exact h
      · rw [if_pos ⟨by omega, hc.2 (by omega)⟩] at h; exact h
      · rw [if_pos ⟨by omega, hc.2 (by omega)⟩] at h; exact h
    · have hp : pre es k = (-1, -1) := by unfold pre; rw [if_pos (by omega)]
      rw [hp, if_pos ⟨by omega, (pcmp_lt _ _ _ _).2 (.inl (by omega))⟩] at h
      exact h
  · have hed : ¬ ((0 ≤ x.1 ∧ x.1 < n) ∧ (0 ≤ x.2.1 ∧ x.2.1 < n) ∧ 1 ≤ x.2.2 ∧ x.2.2 ≤ 50) → R 2 := fun q => by unfold edgeF at h; rwa [if_neg q] at h
    refine p_r08_Vertex ⟨fun h1 => p_r08_Vertex ⟨fun h2 => ⟨fun h3 => hed (by omega), fun h3 => ⟨fun h4 => hed (by omega), fun h4 => ?_⟩⟩, fun h2 => hed (by simp at h2; omega)⟩, fun h1 => hed (by simp at h1; omega)⟩
    simp only [decide_eq_true_eq] at h1 h2
    exact ⟨h1, h2, by omega, by omega⟩
theorem p_r08_Check {n : Int} {es : List E3} {R : Int → Prop} (hl : es.length ≤ 1000000000) (h : R (gcheckF n es)) : pf_r08_Check n es R := by
  unfold pf_r08_Check
  have hout : ¬ (1 ≤ n ∧ n ≤ 12) → R 2 := fun q => by unfold gcheckF at h; rwa [if_neg q] at h
  refine ⟨1 ≤ n ∧ n ≤ 12, fun hn => ?_, fun q => hout (by omega), fun q => ⟨fun q2 => hout (by omega), fun q2 => ⟨by omega, by omega⟩⟩⟩
  have hg : gcheckF n es = gchk n (-1) (-1) es := by unfold gcheckF; rw [if_pos hn]
  rw [hg] at h
  refine ⟨Cnt es.length (fun k => gchk n (-1) (-1) es = gchk n (pre es k).1 (pre es k).2 (es.drop k)), Cnt.start rfl, ?_⟩
  rintro m _ ⟨k, rfl, rfl, hk, hinv⟩
  refine ⟨fun hlt => p_r08_edge (by omega) hl ⟨fun h0 => Cnt.next (by omega) (by omega) ?_, fun h0 => ?_⟩, fun hge => ?_⟩
  · rw [ge_drop (by omega), gchk_cons, if_pos h0] at hinv
    rw [hinv]; simp [pre]
  · rw [ge_drop (by omega), gchk_cons, if_neg h0] at hinv
    rwa [hinv] at h
  · have hk2 : k = es.length := by omega
    rw [hinv, hk2, List.drop_length] at h
    exact h
theorem p_r08_Between' {n : Int} {es : List E3} {a b : Int} {R : Int → Prop} (hl : es.length ≤ 1000000000) (h : R (((es.find? fun x => decide (x.1 = mnF a b ∧ x.2.1 = mxF a b)).map (·.2.2)).getD 0)) : pf_r08_Between n es a b R := by
  unfold pf_r08_Between
  refine ⟨Cnt es.length (fun k => es.find? (fun x => decide (x.1 = mnF a b ∧ x.2.1 = mxF a b)) = (es.drop k).find? (fun x => decide (x.1 = mnF a b ∧ x.2.1 = mxF a b))), Cnt.start rfl, ?_⟩
  rintro m _ ⟨k, rfl, rfl, hk, hinv⟩
  refine ⟨fun hlt => ?_, fun hge => ?_⟩
  · have hlt : k < es.length := by omega
    rw [ge_drop hlt, List.find?_cons] at hinv
    simp only [Int.toNat_natCast]
    refine ⟨by omega, fun h1 => ⟨fun h2 => ?_, fun h2 => Cnt.next hlt (by omega) ?_⟩, fun h1 => Cnt.next hlt (by omega) ?_⟩
    · rw [hinv] at h; simpa [h1, h2] using h
    · rw [hinv]; simp [h2]
    · rw [hinv]; simp [h1]
  · have hk2 : k = es.length := by omega
    rw [hinv, hk2, List.drop_length] at h
    exact h
/-- The edges of a right graph are few. -/
theorem W_le50 {n : Int} {es : List E3} (hg : gcheckF n es = 0) (u v : Nat) : 0 ≤ W es u v ∧ W es u v ≤ 50 := by
  by_cases e : u = v
  · subst e; rw [W_self]; omega
  · have hok := gchk_ok es _ _ (gcheck_gchk hg)
    rw [← between_W u v e es (-1) (-1) (gcheck_gchk hg)]
    cases hf : es.find? fun x => decide (x.1 = mnF (u : Int) v ∧ x.2.1 = mxF (u : Int) v) with
    | none => simp
    | some x => have := hok x (List.mem_of_find?_eq_some hf); simp; omega
theorem p_r08_Between {n : Int} {es : List E3} {u v : Nat} {R : Int → Prop} (hl : es.length ≤ 1000000000) (hg : gcheckF n es = 0) (huv : u ≠ v) (h : R (W es u v)) : pf_r08_Between n es (u : Int) (v : Int) R :=
  p_r08_Between' hl (by rw [between_W u v huv es (-1) (-1) (gcheck_gchk hg)]; exact h)
theorem deg_bound {n : Int} {es : List E3} (hg : gcheckF n es = 0) (k v : Nat) : 0 ≤ sm k (fun u => W es v u) ∧ sm k (fun u => W es v u) ≤ k * 50 :=
  ⟨sm_nonneg fun i _ => (W_le50 hg v i).1, (sm_bound (f := fun u => W es v u) (B := 50) (by omega) fun i _ => by have := W_le50 hg v i; omega).2⟩
/-- The ends of all single edges. -/
def endsF (es : List E3) : List (Int × Int) := es.flatMap fun x => List.replicate x.2.2.toNat (x.1, x.2.1)
theorem endsF_take {es : List E3} {k : Nat} (hk : k < es.length) : endsF (es.take (k + 1)) = endsF (es.take k) ++ List.replicate (ge es k).2.2.toNat ((ge es k).1, (ge es k).2.1) := by
  unfold endsF
  rw [List.take_add_one, List.getElem?_eq_getElem hk, ge_of_lt hk, List.flatMap_append]
  simp
theorem endsF_length (es : List E3) (hE : ∀ x ∈ es, 1 ≤ x.2.2 ∧ x.2.2 ≤ 50) : ((endsF es).length : Int) = (es.map (·.2.2)).sum ∧ (endsF es).length ≤ 50 * es.length := by
  induction es with
  | nil => simp [endsF]
  | cons x t ih =>
    have hx := hE x (by simp)
    have := ih fun y hy => hE y (by simp [hy])
    unfold endsF at this ⊢
    rw [List.flatMap_cons, List.length_append, List.length_replicate, List.map_cons, List.sum_cons, List.length_cons]
    omega
theorem p_r08_Ends {n : Int} {es : List E3} {R : List (Int × Int) → Prop} (hl : es.length ≤ 1000) (hE : ∀ x ∈ es, 1 ≤ x.2.2 ∧ x.2.2 ≤ 50) (h : R (endsF es)) : pf_r08_Ends n es R := by
  unfold pf_r08_Ends
  have hlen : ∀ k, (endsF (es.take k)).length ≤ 50 * k := fun k => by
    have := (endsF_length (es.take k) fun x hx => hE x (List.mem_of_mem_take hx)).2
    rw [List.length_take] at this
    omega
  refine ⟨fun m out i => Cnt es.length (fun k => out = endsF (es.take k)) m i, Cnt.start (by simp [endsF]), ?_⟩
  rintro m out _ ⟨k, rfl, rfl, hk, rfl⟩
  refine ⟨fun hlt => ?_, fun hge => ?_⟩
  · have hlt : k < es.length := by omega
    have hmk := hE _ (ge_mem hlt)
    have hl2 := hlen k
    simp only [Int.toNat_natCast]
    refine ⟨fun m2 out2 j => Cnt (ge es k).2.2.toNat (fun i => out2 = endsF (es.take k) ++ List.replicate i ((ge es k).1, (ge es k).2.1)) m2 j, Cnt.start (by simp), ?_⟩
    rintro m2 out2 _ ⟨j, rfl, rfl, hj, rfl⟩
    refine ⟨by omega, fun h1 => ⟨?_, Cnt.next (by omega) (by omega) ?_⟩, fun h1 => Cnt.next hlt (by omega) ?_⟩
    · rw [List.length_append, List.length_replicate]; omega
    · rw [List.append_assoc, List.replicate_succ']
    · have : j = (ge es k).2.2.toNat := by omega
      rw [endsF_take hlt, this]
  · have hk2 : k = es.length := by omega
    rw [hk2, List.take_length]; exact h
theorem p_r08_Size {n : Int} {es : List E3} {R : Int → Prop} (hl : es.length ≤ 1000) (hE : ∀ x ∈ es, 1 ≤ x.2.2 ∧ x.2.2 ≤ 50) (h : R ((es.map (·.2.2)).sum)) : pf_r08_Size n es R :=
  p_r08_Ends hl hE (by rw [(endsF_length es hE).1]; exact h)
theorem p_r08_small {n a b : Int} {es : List E3} {R : Bool → Prop} (h : R (smallF n es a b)) : pf_r08_small n es a b R := by
  unfold pf_r08_small
  unfold smallF at h
  refine ⟨fun h1 => ?_, fun h1 => p_r08_Check (by omega) ⟨fun h2 => ⟨fun h3 => ?_, fun h3 => ?_⟩, fun h2 => ?_⟩⟩
  · rwa [decide_eq_false (by omega)] at h
  · have hE := gchk_ok es _ _ (gcheck_gchk h2)
    refine p_r08_Size (by omega) (fun x hx => (hE x hx).2.2.2.2) ?_
    have e : decide ((es.map (·.2.2)).sum ≤ b) = decide (es.length ≤ 40 ∧ (gcheckF n es = 0 → n ≤ a ∧ (es.map (·.2.2)).sum ≤ b)) := by
      rw [decide_eq_decide]; constructor
      · intro q; exact ⟨by omega, fun _ => ⟨h3, q⟩⟩
      · intro q; exact (q.2 h2).2
    rw [e]; exact h
  · rwa [decide_eq_false (fun q => h3 (q.2 h2).1)] at h
  · rwa [decide_eq_true ⟨by omega, fun q => absurd q h2⟩] at h
theorem p_r34_Few {n : Int} {es : List E3} {R : Bool → Prop} (h : R (smallF n es 6 9)) : pf_r34_Few n es R := p_r08_small h
end Go.Proofs.Ytbehbjfcenlaeaa

/- Borrowing: a vertex in debt borrows from its neighbours, until there is no debt, or each vertex has borrowed. No program in sight. -/
namespace Go.Proofs.Ytbehbjfcenlaeaa
open Go
set_option linter.unusedVariables false
set_option linter.unusedSectionVars false
set_option linter.unusedSimpArgs false

/-- A divisor is winnable: a script leads to one without debts. -/
def Win (n : Nat) (es : List E3) (d : List Int) : Prop := ∃ s : Nat → Int, ∀ v, v < n → 0 ≤ gi d v - Lp n es s v

/-- Where borrowing stands: how often each vertex has borrowed, the chips now, who has borrowed. -/
structure Bor (n : Nat) (es : List E3) (d : List Int) (c : Nat → Int) (x : List Int) (b : List Bool) : Prop where
  xl : x.length = n
  bl : b.length = n
  val : ∀ v, v < n → gi x v = gi d v + Lp n es c v
  c0 : ∀ v, v < n → 0 ≤ c v
  bo : ∀ v, v < n → (gb b v = true ↔ 0 < c v)
  up : ∀ v, v < n → gi x v ≤ 1000
  least : ∀ t : Nat → Int, (∀ v, v < n → 0 ≤ t v) → (∀ v, v < n → 0 ≤ gi d v + Lp n es t v) → ∀ v, v < n → c v ≤ t v

section
variable {n : Nat} {es : List E3} {d : List Int}
theorem deg_le {m : Int} (hg : gcheckF m es = 0) (hn : n ≤ 12) (v : Nat) : 0 ≤ deg n es v ∧ deg n es v ≤ 600 := by
  have := deg_bound hg n v
  unfold deg
  omega

/-- A divisor is winnable exactly if its reduced form has no debt. -/
theorem win_red {q : Nat} {r : List Int} {s : Nat → Int} (hE : EOk n es) (hq : q < n) (hr : Red n es q r) (hl : ∀ v, v < n → gi r v = gi d v - Lp n es s v) : Win n es d ↔ 0 ≤ gi r q := by
  constructor
  · rintro ⟨t, ht⟩
    -- the end of t is the form behind a firing
    have h1 := red_script hE hq hr (d' := tab (fun v => gi d v - Lp n es t v) n) (fun v hv _ => by rw [gi_tab _ hv]; exact ht v hv) (f := fun i => t i + (-1) * s i) fun v hv => by
      rw [gi_tab _ hv, Lp_add t (fun i => (-1) * s i), Lp_mul, hl v hv]; omega
    have h2 : 0 ≤ Lp n es (fun i => t i + (-1) * s i) q := by
      unfold Lp
      refine sm_nonneg fun u hu => ?_
      exact Int.mul_nonneg (W_nonneg hE q u) (by have := h1 u hu; show 0 ≤ t q + -1 * s q - (t u + -1 * s u); omega)
    have h3 := ht q hq
    rw [Lp_add t (fun i => (-1) * s i), Lp_mul] at h2
    rw [hl q hq]; omega
  · intro h0
    refine ⟨s, fun v hv => ?_⟩
    rw [← hl v hv]
    by_cases e : v = q
    · rw [e]; exact h0
    · exact hr.pos v hv e
end
end Go.Proofs.Ytbehbjfcenlaeaa

/- What the references' pure forms come to: connectedness, errors, scripts. -/
namespace Go.Proofs.Ytbehbjfcenlaeaa
open Go
set_option linter.unusedVariables false
set_option linter.unusedSimpArgs false

section
variable {n : Nat} {es : List E3}
theorem p_r08_Reached {v : Nat} {R : List Bool → Prop} (hl : es.length ≤ 1000000000) (hg : gcheckF n es = 0) (hv : v < n) (h : ∀ o : List Bool, o.length = n → (∀ u, u < n → gb o u = decide (root (joinedF es) u = root (joinedF es) v)) → R o) : pf_r08_Reached (n : Int) es (v : Int) R := by
  obtain ⟨hE, hn1, hn12⟩ := gcheck_ok hg
  unfold pf_r08_Reached
  simp only [Int.toNat_natCast]
  refine ⟨by omega, by simp; omega, ?_⟩
  let Q : List Bool → Prop := fun o => o.length = n ∧ gb o v = true ∧ ∀ u, u < n → gb o u = true → root (joinedF es) u = root (joinedF es) v
  let Z : List Bool → List Bool → Prop := fun o0 o => (Cl n es o0 → o = o0) ∧ (o = o0 ∨ cf o < cf o0) ∧ ∀ a, gb o0 a = true → gb o a = true
  have hq4 : Q ((List.replicate n false).set v true) := by
    refine ⟨by simp, by rw [gb_set (by simpa using hv), if_pos rfl], fun u hu h => ?_⟩
    rw [gb_set (by simpa using hv)] at h
    split at h
    · rename_i e; rw [e]
    · rw [gb_rep] at h; cases h
  have hcf0 : cf ((List.replicate n false).set v true) + 1 = n := by
    rw [cf_set (by simpa using hv) (gb_rep n v)]
    unfold cf
    rw [List.filter_eq_self.2 (fun x hx => by rw [(List.mem_replicate.1 hx).2]; rfl)]
    simp
  have hsetQ : ∀ {o : List Bool} {b : Nat}, Q o → b < n → root (joinedF es) b = root (joinedF es) v → Q (o.set b true) := by
    rintro o b ⟨q1, q4, q5⟩ hb hr
    have hbl : b < o.length := by omega
    refine ⟨by simpa using q1, ?_, fun u hu h => ?_⟩
    · rw [gb_set hbl]; split <;> first | rfl | exact q4
    · rw [gb_set hbl] at h
      split at h
      · rename_i e; rw [e]; exact hr
      · exact q5 u hu h
  refine ⟨fun m i o => Cnt n (fun k => Q o ∧ (Cl n es o ∨ cf o + k + 1 ≤ n)) m i, Cnt.start ⟨hq4, .inr (by omega)⟩, ?_⟩
  rintro m _ o0 ⟨k, rfl, rfl, hk, hq5, hpr⟩
  refine ⟨fun hlt => ?_, fun hge => ?_⟩
  · refine ⟨fun m i o => Cnt n (fun a => Q o ∧ Z o0 o ∧ ∀ a', a' < a → gb o0 a' = true → ∀ b, b < n → 0 < W es a' b → gb o b = true) m i, Cnt.start ⟨hq5, ⟨fun _ => rfl, .inl rfl, fun _ h => h⟩, fun a' h => absurd h (by omega)⟩, ?_⟩
    rintro m _ o ⟨a, rfl, rfl, ha, hq6, hz, hdone⟩
    refine ⟨fun hlta => ?_, fun hgea => ?_⟩
    · refine ⟨fun m i o => Cnt n (fun b => Q o ∧ Z o0 o ∧ (∀ a', a' < a → gb o0 a' = true → ∀ b, b < n → 0 < W es a' b → gb o b = true) ∧ (gb o0 a = true → ∀ b', b' < b → 0 < W es a b' → gb o b' = true)) m i, Cnt.start ⟨hq6, hz, hdone, fun _ b' h => absurd h (by omega)⟩, ?_⟩
      clear hq6 hz hdone hq5
      rintro m _ o ⟨b, rfl, rfl, hb, hq7, hz, hdone, hnow⟩
      have hol := hq7.1
      refine ⟨fun hltb => ⟨by omega, fun hx => ?_, fun hx => Cnt.next (by omega) (by omega) ⟨hq7, hz, hdone, fun h => absurd (hz.2.2 a h) (by simpa using hx)⟩⟩, fun hgeb => ?_⟩
      · simp only [Int.toNat_natCast] at hx ⊢
        have hstep : (a ≠ b → 0 < W es a b) → Q (o.set b true) ∧ Z o0 (o.set b true) ∧ (∀ a', a' < a → gb o0 a' = true → ∀ b', b' < n → 0 < W es a' b' → gb (o.set b true) b' = true) ∧ (gb o0 a = true → ∀ b', b' < b + 1 → 0 < W es a b' → gb (o.set b true) b' = true) := by
          intro hW
          have hbl : b < o.length := by omega
          have hup : ∀ x, gb o x = true → gb (o.set b true) x = true := fun x h => by rw [gb_set hbl]; split <;> first | rfl | exact h
          have hrb : root (joinedF es) b = root (joinedF es) v := by
            have h1 := hq7.2.2 a (by omega) hx
            by_cases eab : a = b
            · rw [← eab]; exact h1
            · rw [← root_W hE hn1 hn12 (hW eab)]; exact h1
          refine ⟨hsetQ hq7 (by omega) hrb, ⟨fun hcl => ?_, ?_, fun x h => hup x (hz.2.2 x h)⟩, fun a' h1 h2 b' h3 h4 => hup _ (hdone a' h1 h2 b' h3 h4), fun h1 b' h2 h3 => ?_⟩
          · have e0 := hz.1 hcl
            subst e0
            refine set_same ?_
            by_cases eab : a = b
            · rw [← eab]; exact hx
            · exact hcl a b (by omega) (by omega) hx (hW eab)
          · cases hob : gb o b with
            | true => rw [set_same hob]; exact hz.2.1
            | false =>
              have := cf_set hbl hob
              rcases hz.2.1 with h | h
              · right; rw [← h]; omega
              · right; omega
          · by_cases e2 : b' = b
            · subst e2; rw [gb_set hbl, if_pos rfl]
            · exact hup _ (hnow h1 b' (by omega) h3)
        have hpass : ¬ 0 < W es a b → (gb o0 a = true → ∀ b', b' < b + 1 → 0 < W es a b' → gb o b' = true) := fun h h1 b' h2 h3 => by
          by_cases e2 : b' = b
          · subst e2; exact absurd h3 h
          · exact hnow h1 b' (by omega) h3
        by_cases eab : a = b
        · subst eab
          refine p_r08_Between' hl ⟨fun h => ⟨by omega, Cnt.next (by omega) (by omega) (hstep fun h => absurd rfl h)⟩, fun h => Cnt.next (by omega) (by omega) ⟨hq7, hz, hdone, hpass (by rw [show W es a a = 0 from W_self es a]; omega)⟩⟩
        · refine p_r08_Between hl hg eab ⟨fun h => ⟨by omega, Cnt.next (by omega) (by omega) (hstep fun _ => h)⟩, fun h => Cnt.next (by omega) (by omega) ⟨hq7, hz, hdone, hpass h⟩⟩
      · have hbn : b = n := by omega
        subst hbn
        refine Cnt.next (by omega) (by omega) ⟨hq7, hz, fun a' h1 h2 b' h3 h4 => ?_⟩
        by_cases e2 : a' = a
        · subst e2; exact hnow h2 b' h3 h4
        · exact hdone a' (by omega) h2 b' h3 h4
    · have han : a = n := by omega
      subst han
      refine Cnt.next (by omega) (by omega) ⟨hq6, ?_⟩
      by_cases hcl : Cl a es o0
      · rw [hz.1 hcl]; exact .inl hcl
      · rcases hz.2.1 with h | h
        · exfalso
          subst h
          exact hcl fun x y hx hy h1 h2 => hdone x hx h1 y hy h2
        · rcases hpr with h2 | h2
          · exact absurd h2 hcl
          · right; omega
  · have hkn : k = n := by omega
    subst hkn
    rcases hpr with q | q
    · exact h o0 hq5.1 (cl_root hE hn1 hn12 q hv hq5.2.1 hq5.2.2)
    · omega
theorem p_r08_Parts {R : Int → Prop} (hl : es.length ≤ 1000000000) (hg : gcheckF n es = 0) (h : ∀ k : Int, (k = 1 ↔ connF n es = true) → R k) : pf_r08_Parts (n : Int) es R := by
  obtain ⟨hE, hn1, hn12⟩ := gcheck_ok hg
  have hcr := conn_root hE hn1 hn12
  unfold pf_r08_Parts
  simp only [Int.toNat_natCast]
  refine ⟨by omega, ?_⟩
  refine ⟨fun m k i o => Cnt n (fun v => 0 ≤ k ∧ k ≤ v ∧ (v = 0 → k = 0) ∧ (0 < v → 1 ≤ k ∧ (k = 1 ↔ ∀ x, x < v → root (joinedF es) x = root (joinedF es) 0)) ∧ o.length = n ∧ (∀ u, u < n → (gb o u = true ↔ ∃ x, x < v ∧ root (joinedF es) u = root (joinedF es) x))) m i,
    Cnt.start ⟨by omega, by omega, fun _ => rfl, fun h => absurd h (by omega), by simp, fun u _ => by rw [gb_rep]; simp⟩, ?_⟩
  rintro m k _ o ⟨v, rfl, rfl, hv, k0, k1, k2, k3, hol, hseen⟩
  refine ⟨fun hlt => ?_, fun hge => ?_⟩
  · have hlt : v < n := by omega
    simp only [Int.toNat_natCast]
    refine ⟨by omega, fun hx => ?_, fun hx => ⟨i64 (by omega), p_r08_Reached hl hg hlt fun ro hrl hro => ?_⟩⟩
    · obtain ⟨x, hxv, hxr⟩ := (hseen v hlt).1 hx
      refine Cnt.next hlt (by omega) ⟨k0, by omega, fun h => absurd h (by omega), fun _ => ?_, hol, fun u hu => ?_⟩
      · have h3 := k3 (by omega)
        refine ⟨h3.1, ?_⟩
        rw [h3.2]
        constructor
        · intro h y hy
          by_cases e : y = v
          · subst e; rw [hxr]; exact h x hxv
          · exact h y (by omega)
        · intro h y hy; exact h y (by omega)
      · rw [hseen u hu]
        constructor
        · rintro ⟨y, hy, hyr⟩; exact ⟨y, by omega, hyr⟩
        · rintro ⟨y, hy, hyr⟩
          by_cases e : y = v
          · subst e; exact ⟨x, hxv, hyr.trans hxr⟩
          · exact ⟨y, by omega, hyr⟩
    · refine ⟨fun m i o' => Cnt n (fun u => o'.length = n ∧ (∀ x, x < n → (gb o' x = true ↔ (gb o x = true ∨ (x < u ∧ gb ro x = true))))) m i, Cnt.start ⟨hol, fun x _ => by simp⟩, ?_⟩
      rintro m _ o' ⟨u, rfl, rfl, hu, hol', hor⟩
      refine ⟨fun hltu => ?_, fun hgeu => ?_⟩
      · have hltu : u < n := by omega
        simp only [Int.toNat_natCast]
        have hou := hor u hltu
        have st : ∀ b : Bool, (b = true ↔ (gb o u = true ∨ gb ro u = true)) → (o'.set u b).length = n ∧ (∀ x, x < n → (gb (o'.set u b) x = true ↔ (gb o x = true ∨ (x < u + 1 ∧ gb ro x = true)))) := fun b hbb => by
          refine ⟨by simpa using hol', fun x hx => ?_⟩
          rw [gb_set (by omega)]
          by_cases e : x = u
          · subst e
            rw [if_pos rfl, hbb]
            constructor
            · rintro (h | h)
              · exact .inl h
              · exact .inr ⟨by omega, h⟩
            · rintro (h | h)
              · exact .inl h
              · exact .inr h.2
          · rw [if_neg e, hor x hx]
            constructor
            · rintro (h | h)
              · exact .inl h
              · exact .inr ⟨by omega, h.2⟩
            · rintro (h | h)
              · exact .inl h
              · exact .inr ⟨by omega, h.2⟩
        refine ⟨by omega, fun hx2 => Cnt.next hltu (by omega) (st true ?_), fun hx2 => ⟨by omega, Cnt.next hltu (by omega) (st _ ?_)⟩⟩
        · have := hou.1 hx2
          constructor
          · intro _; rcases this with h | h
            · exact .inl h
            · exact .inr h.2
          · intro _; rfl
        · constructor
          · intro h; exact .inr h
          · rintro (h | h)
            · exact absurd (hou.2 (.inl h)) hx2
            · exact h
      · have hun : u = n := by omega
        subst hun
        have hnew : ¬ ∃ x, x < v ∧ root (joinedF es) v = root (joinedF es) x := fun h => hx ((hseen v hlt).2 h)
        refine Cnt.next (by omega) (by omega) ⟨by omega, by omega, fun h => absurd h (by omega), fun _ => ⟨by omega, ?_⟩, hol', fun x hxn => ?_⟩
        · by_cases e0 : v = 0
          · subst e0
            have := k2 rfl
            subst this
            constructor
            · intro _ y hy; rw [show y = 0 by omega]
            · intro _; rfl
          · have h3 := k3 (by omega)
            constructor
            · intro h; omega
            · intro h; exact absurd ⟨0, by omega, h v (by omega)⟩ hnew
        · rw [hor x hxn, hseen x hxn, hro x hxn, decide_eq_true_eq]
          constructor
          · rintro (⟨y, hy, hyr⟩ | h)
            · exact ⟨y, by omega, hyr⟩
            · exact ⟨v, by omega, h.2⟩
          · rintro ⟨y, hy, hyr⟩
            by_cases e : y = v
            · subst e; exact .inr ⟨hxn, hyr⟩
            · exact .inl ⟨y, by omega, hyr⟩
  · have hvn : v = n := by omega
    subst hvn
    refine h k ?_
    rw [(k3 (by omega)).2, hcr]
theorem p_r08_Connected {R : Bool → Prop} (hl : es.length ≤ 1000000000) (hg : gcheckF n es = 0) (h : R (connF n es)) : pf_r08_Connected (n : Int) es R :=
  p_r08_Parts hl hg fun k hk => by
    have e : decide (k = 1) = connF n es := by rw [Bool.eq_iff_iff, decide_eq_true_eq]; exact hk
    rw [e]; exact h
end
section
variable {n q : Int} {es : List E3} {d s : List Int}
theorem p_r25_Joined {R : Int → Prop} (hl : es.length ≤ 1000000000) (h : R (joinedE n es)) : pf_r25_Joined n es R := by
  unfold pf_r25_Joined
  unfold joinedE at h
  refine p_r08_Check hl ⟨fun h0 => ?_, fun h0 => by rwa [if_neg h0] at h⟩
  rw [if_pos h0] at h
  have hn : 1 ≤ n ∧ n ≤ 12 := by
    unfold gcheckF at h0
    split at h0
    · assumption
    · omega
  obtain ⟨n, rfl⟩ : ∃ n' : Nat, n = (n' : Int) := ⟨n.toNat, by omega⟩
  exact p_r08_Connected hl h0 ⟨fun h1 => by rwa [if_pos h1] at h, fun h1 => by rwa [if_neg h1] at h⟩
def sinkE (n : Int) (es : List E3) (q : Int) : Int := if joinedE n es = 0 then (if 0 ≤ q ∧ q < n then 0 else 2) else joinedE n es
/-- Few chips, or an error. -/
def lowF (n : Int) (d : List Int) : Bool := decide (d.length ≤ 100 ∧ (checkF d n = 0 → ∀ j, j < d.length → -100 ≤ gi d j ∧ gi d j ≤ 100))
theorem lowF_iff : lowF n d = true ↔ d.length ≤ 100 ∧ (checkF d n = 0 → ∀ j, j < d.length → -100 ≤ gi d j ∧ gi d j ≤ 100) := by unfold lowF; exact decide_eq_true_iff
theorem p_r34_Low {R : Bool → Prop} (h : R (lowF n d)) : pf_r34_Low n es d R := by
  unfold pf_r34_Low
  have ht : (d.length ≤ 100 ∧ (checkF d n = 0 → ∀ j, j < d.length → -100 ≤ gi d j ∧ gi d j ≤ 100)) → R true := fun q => by rwa [lowF_iff.2 q] at h
  have hf : ¬ (d.length ≤ 100 ∧ (checkF d n = 0 → ∀ j, j < d.length → -100 ≤ gi d j ∧ gi d j ≤ 100)) → R false := fun q => by
    have : lowF n d = false := by rw [Bool.eq_false_iff]; exact fun q2 => q (lowF_iff.1 q2)
    rwa [this] at h
  refine ⟨fun h1 => hf (by omega), fun h1 => p_r17_Check ⟨fun h2 => ?_, fun h2 => ht ⟨by omega, fun q => absurd q h2⟩⟩⟩
  refine ⟨Cnt d.length (fun k => ∀ j, j < k → -100 ≤ gi d j ∧ gi d j ≤ 100), Cnt.start (fun j hj => absurd hj (by omega)), ?_⟩
  rintro m _ ⟨k, rfl, rfl, hk, hinv⟩
  simp only [Int.toNat_natCast]
  refine ⟨fun hlt => ⟨by omega, fun h3 => hf fun q => ?_, fun h3 => ⟨fun h4 => hf fun q => ?_, fun h4 => Cnt.next (by omega) (by omega) fun j hj => ?_⟩⟩, fun hge => ht ⟨by omega, fun _ j hj => hinv j (by omega)⟩⟩
  · have := q.2 h2 k (by omega); omega
  · have := q.2 h2 k (by omega); omega
  · by_cases e : j = k
    · subst e; omega
    · exact hinv j (by omega)
/-- The Laplacian of a script, as a list. -/
def lpL (n : Nat) (es : List E3) (s : List Int) : List Int := tab (fun v => Lp n es (gi s) v) n
/-- The sum with a multiple. -/
def plusF (a b : List Int) (k : Int) : List Int := tab (fun i => gi a i + k * gi b i) a.length
/-- A divisor behind a script. -/
def appF (n : Nat) (es : List E3) (d s : List Int) : List Int := tab (fun v => gi d v - Lp n es (gi s) v) n
theorem appF_length {n : Nat} {es : List E3} {d s : List Int} : (appF n es d s).length = n := tab_length _ _
end
end Go.Proofs.Ytbehbjfcenlaeaa

/- What the pure forms of the program's and the library's small functions come to. -/
namespace Go.Proofs.Ytbehbjfcenlaeaa
open Go
set_option linter.unusedVariables false
set_option linter.unusedSimpArgs false

theorem p_slices_Equal_Divisor {a b : List Int} {R : Bool → Prop} (hl : a.length ≤ 1000000000) (h : R (decide (a = b))) : pf_slices_Equal_Divisor a b R := by
  unfold pf_slices_Equal_Divisor
  have ht : a = b → R true := fun q => by rwa [decide_eq_true q] at h
  have hf : ¬ a = b → R false := fun q => by rwa [decide_eq_false q] at h
  refine ⟨fun hln => ?_, fun hln => hf fun q => hln (by rw [q])⟩
  refine ⟨Cnt a.length (fun k => ∀ j, j < k → gi a j = gi b j), Cnt.start (fun j hj => absurd hj (by omega)), ?_⟩
  rintro m _ ⟨k, rfl, rfl, hk, hinv⟩
  simp only [Int.toNat_natCast]
  refine ⟨fun hlt => ⟨by omega, by omega, fun h1 => Cnt.next (by omega) (by omega) fun j hj => ?_, fun h1 => hf fun q => h1 (by rw [q])⟩, fun hge => ht (gi_ext (by omega) fun j hj => hinv j (by omega))⟩
  by_cases e : j = k
  · subst e; exact h1
  · exact hinv j (by omega)

theorem p_slices_Equal_intS {a b : List Int} {R : Bool → Prop} (hl : a.length ≤ 1000000000) (h : R (decide (a = b))) : pf_slices_Equal_intS a b R := by
  unfold pf_slices_Equal_intS
  have ht : a = b → R true := fun q => by rwa [decide_eq_true q] at h
  have hf : ¬ a = b → R false := fun q => by rwa [decide_eq_false q] at h
  refine ⟨fun hln => ?_, fun hln => hf fun q => hln (by rw [q])⟩
  refine ⟨Cnt a.length (fun k => ∀ j, j < k → gi a j = gi b j), Cnt.start (fun j hj => absurd hj (by omega)), ?_⟩
  rintro m _ ⟨k, rfl, rfl, hk, hinv⟩
  simp only [Int.toNat_natCast]
  refine ⟨fun hlt => ⟨by omega, by omega, fun h1 => Cnt.next (by omega) (by omega) fun j hj => ?_, fun h1 => hf fun q => h1 (by rw [q])⟩, fun hge => ht (gi_ext (by omega) fun j hj => hinv j (by omega))⟩
  by_cases e : j = k
  · subst e; exact h1
  · exact hinv j (by omega)

theorem p_slices_Clone_Divisor {s : List Int} {R : List Int → Prop} (hl : s.length ≤ 1000000000) (h : R s) : pf_slices_Clone_Divisor s R := by
  unfold pf_slices_Clone_Divisor
  exact fun nil hn => ⟨fun q => by rw [hn q] at h; exact h, fun q => ⟨by omega, h⟩⟩
end Go.Proofs.Ytbehbjfcenlaeaa

/- What the references' pure forms on sets come to. -/
namespace Go.Proofs.Ytbehbjfcenlaeaa
open Go
set_option linter.unusedVariables false
set_option linter.unusedSimpArgs false

section
variable {n : Nat} {es : List E3} {d : List Int}
end
/-- A small connected graph with a divisor that has few chips. -/
def rightF (n : Int) (es : List E3) (d : List Int) : Prop := smallF n es 6 9 = true ∧ joinedE n es = 0 ∧ checkF d n = 0 ∧ lowF n d = true
end Go.Proofs.Ytbehbjfcenlaeaa

/- What the library's pure forms come to: search, minimum, order. -/
namespace Go.Proofs.Ytbehbjfcenlaeaa
open Go
set_option linter.unusedVariables false
set_option linter.unusedSimpArgs false

/-- The least number. -/
theorem p_slices_Min {x : List Int} {R : Int → Prop} (hl : x.length ≤ 1000000000) (h0 : 0 < x.length) (h : ∀ m, (∃ k, k < x.length ∧ gi x k = m) → (∀ k, k < x.length → m ≤ gi x k) → R m) : pf_slices_Min_Divisor x R := by
  unfold pf_slices_Min_Divisor
  refine ⟨True, fun _ => ⟨by omega, ?_⟩, fun q => by omega, fun _ => trivial⟩
  refine ⟨fun c m i => Cnt x.length (fun k => 1 ≤ k ∧ (∃ j, j < k ∧ gi x j = m) ∧ ∀ j, j < k → m ≤ gi x j) c i, ⟨x.length - 1, 1, rfl, rfl, h0, by omega, ⟨0, by omega, rfl⟩, fun j hj => by rw [show j = 0 by omega]; exact Int.le_refl _⟩, ?_⟩
  rintro c m _ ⟨k, rfl, rfl, hk, h1, ⟨j0, hj0, rfl⟩, hm⟩
  simp only [Int.toNat_natCast]
  refine ⟨fun hlt => ⟨by omega, Cnt.next (by omega) (by omega) ⟨by omega, ?_, fun j hj => ?_⟩⟩, fun hge => ?_⟩
  · by_cases q : gi x k < gi x j0
    · exact ⟨k, by omega, by unfold mnF; rw [if_pos q]⟩
    · exact ⟨j0, by omega, by unfold mnF; rw [if_neg q]⟩
  · rw [mnF_eq]
    by_cases e : j = k
    · subst e; omega
    · have := hm j (by omega); omega
  · have : k = x.length := by omega
    subst this
    exact h _ ⟨j0, hj0, rfl⟩ hm
end Go.Proofs.Ytbehbjfcenlaeaa

/- What the pure forms of chips, graph and firing come to. -/
namespace Go.Proofs.Ytbehbjfcenlaeaa
open Go
set_option linter.unusedVariables false
set_option linter.unusedSimpArgs false

theorem p_chips_within {k : Int} {R : Bool → Prop} (h : R (inF k)) : pf_chips_within k R := by
  unfold pf_chips_within
  refine ⟨fun h1 => ?_, fun h1 => ?_⟩
  · have e : decide (k ≤ 1048576) = inF k := by unfold inF; simp [h1]
    rw [e]; exact h
  · have e : false = inF k := by unfold inF; simp [h1]
    rw [e]; exact h
theorem p_chips_Check {d : List Int} {n : Int} {R : Int → Prop} (h : R (checkF d n)) : pf_chips_Check d n R := by
  unfold pf_chips_Check pf_chips_vertices
  have hout : ¬ (1 ≤ n ∧ n ≤ 12) → R 2 := fun q => by
    have : checkF d n = 2 := by unfold checkF vertsF; rw [if_neg q, if_neg (by omega)]
    rwa [this] at h
  refine ⟨fun q => ⟨fun q2 => absurd q2 (by omega), fun _ => hout (by omega)⟩, fun q => ⟨fun q2 => ⟨fun q3 => absurd q3 (by omega), fun _ => hout (by omega)⟩, fun q2 => ⟨fun _ => ?_, fun q3 => absurd rfl q3⟩⟩⟩
  have hc : checkF d n = if (d.length : Int) = n then (if d.all inF then 0 else 2) else 8 := by unfold checkF; rw [if_pos (by unfold vertsF; rw [if_pos (by omega)])]
  rw [hc] at h
  refine ⟨fun hln => ?_, fun hln => by rwa [if_neg hln] at h⟩
  rw [if_pos hln] at h
  refine ⟨Cnt d.length (fun k => ∀ j, j < k → inF (gi d j) = true), Cnt.start (fun j hj => absurd hj (by omega)), ?_⟩
  rintro m _ ⟨k, rfl, rfl, hk, hinv⟩
  refine ⟨fun hlt => ⟨by omega, p_chips_within ⟨fun h1 => Cnt.next (by omega) (by omega) fun j hj => ?_, fun h1 => ?_⟩⟩, fun hge => ?_⟩
  · by_cases e : j = k
    · subst e; simpa using h1
    · exact hinv j (by omega)
  · rw [if_neg (fun hall => h1 ((all_iff_gi inF d).1 hall _ (by omega)))] at h; exact h
  · rw [if_pos ((all_iff_gi inF d).2 fun j hj => hinv j (by omega))] at h; exact h
theorem p_graph_vertex {n v : Int} {R : Bool → Prop} (h : R (decide (0 ≤ v ∧ v < n))) : pf_graph_vertex n v R := by
  unfold pf_graph_vertex
  refine ⟨fun h1 => ?_, fun h1 => ?_⟩
  · have e : decide (v < n) = decide (0 ≤ v ∧ v < n) := by simp [h1]
    rw [e]; exact h
  · have e : false = decide (0 ≤ v ∧ v < n) := by simp [h1]
    rw [e]; exact h
theorem p_cmp_Compare {a b : Int} {R : Int → Prop} (h : R (cmpF a b)) : pf_cmp_Compare_int a b R := by
  unfold pf_cmp_Compare_int pf_cmp_isNaN_int
  unfold cmpF at h
  refine ⟨fun q => absurd q (by simp), fun _ => ⟨fun q => absurd q (by simp), fun _ => ⟨fun h1 => by rwa [if_pos h1] at h, fun h1 => ?_⟩⟩⟩
  rw [if_neg h1] at h
  refine ⟨fun h2 => by rwa [if_pos h2] at h, fun h2 => by rwa [if_neg h2] at h⟩
theorem p_cmp_Or2 {x y : Int} {R : Int → Prop} (h : R (orF x y)) : pf_cmp_Or_int [x, y] R := by
  unfold pf_cmp_Or_int
  unfold orF at h
  refine ⟨Cnt 2 (fun k => ∀ j, j < k → gi [x, y] j = 0), Cnt.start (fun j hj => absurd hj (by omega)), ?_⟩
  rintro m _ ⟨k, rfl, rfl, hk, hinv⟩
  simp only [Int.toNat_natCast, List.length_cons, List.length_nil]
  have hk3 : k = 0 ∨ k = 1 ∨ k = 2 := by omega
  have g0 : gi [x, y] 0 = x := rfl
  have g1 : gi [x, y] 1 = y := rfl
  have hnx : gi [x, y] k = 0 → ∀ j, j < k + 1 → gi [x, y] j = 0 := fun q j hj => by
    by_cases e : j = k
    · subst e; exact q
    · exact hinv j (by omega)
  refine ⟨fun hlt => ⟨by omega, fun q => Cnt.next (by omega) (by omega) (hnx q), fun q => ?_⟩, fun hge => ?_⟩
  · rcases hk3 with rfl | rfl | rfl
    · rw [g0] at q ⊢; rwa [if_pos q] at h
    · have h0 := hinv 0 (by omega)
      rw [g0] at h0
      rw [g1]; rwa [if_neg (fun q2 => q2 h0)] at h
    · exact absurd hlt (by omega)
  · have : k = 2 := by omega
    subst this
    have h0 := hinv 0 (by omega)
    have h1 := hinv 1 (by omega)
    rw [g0] at h0
    rw [g1] at h1
    rw [if_neg (fun q2 => q2 h0), h1] at h; exact h
theorem p_pair_compare {a b c d : Int} {R : Int → Prop} (h : R (pcmpF a b c d)) : pf_graph_pair_compare a b c d R :=
  p_cmp_Compare (p_cmp_Compare (p_cmp_Or2 h))
theorem p_graph_Check {n : Int} {es : List E3} {R : Int → Prop} (hl : es.length ≤ 1000000000) (h : R (gcheckF n es)) : pf_graph_Check n es R := by
  unfold pf_graph_Check
  have hout : ¬ (1 ≤ n ∧ n ≤ 12) → R 2 := fun q => by unfold gcheckF at h; rwa [if_neg q] at h
  refine ⟨1 ≤ n ∧ n ≤ 12, fun hn => ?_, fun q => hout (by omega), fun q => ⟨fun q2 => hout (by omega), fun q2 => ⟨by omega, by omega⟩⟩⟩
  have hg : gcheckF n es = gchk n (-1) (-1) es := by unfold gcheckF; rw [if_pos hn]
  rw [hg] at h
  refine ⟨fun m i a b => Cnt es.length (fun k => a = (pre es k).1 ∧ b = (pre es k).2 ∧ gchk n (-1) (-1) es = gchk n (pre es k).1 (pre es k).2 (es.drop k)) m i, Cnt.start ⟨rfl, rfl, rfl⟩, ?_⟩
  rintro m _ _ _ ⟨k, rfl, rfl, hk, rfl, rfl, hinv⟩
  simp only [Int.toNat_natCast]
  refine ⟨fun hlt => ⟨by omega, ?_⟩, fun hge => ?_⟩
  · have hlt : k < es.length := by omega
    rw [ge_drop hlt, gchk_cons] at hinv
    generalize hx : ge es k = x at hinv ⊢
    have hed : R (if edgeF n (pre es k).1 (pre es k).2 x = 0 then gchk n x.1 x.2.1 (es.drop (k + 1)) else edgeF n (pre es k).1 (pre es k).2 x) := by rw [← hinv]; exact h
    have h2 : ¬ ((0 ≤ x.1 ∧ x.1 < n) ∧ (0 ≤ x.2.1 ∧ x.2.1 < n) ∧ 1 ≤ x.2.2 ∧ x.2.2 ≤ 50) → R 2 := fun q => by
      unfold edgeF at hed; rw [if_neg q, if_neg (by omega)] at hed; exact hed
    refine ⟨(0 ≤ x.1 ∧ x.1 < n) ∧ (0 ≤ x.2.1 ∧ x.2.1 < n) ∧ 1 ≤ x.2.2 ∧ x.2.2 ≤ 50, fun hJ => ?_, p_graph_vertex ⟨fun q1 => p_graph_vertex ⟨fun q2 => ⟨fun q3 => h2 (by omega), fun q3 => ⟨fun q4 => h2 (by omega), fun q4 => ?_⟩⟩, fun q2 => h2 (by simp at q2; omega)⟩, fun q1 => h2 (by simp at q1; omega)⟩⟩
    · have he : edgeF n (pre es k).1 (pre es k).2 x = if x.1 ≤ x.2.1 ∧ pcmpF (pre es k).1 (pre es k).2 x.1 x.2.1 < 0 then 0 else 9 := by unfold edgeF; rw [if_pos hJ]
      rw [he] at hed hinv
      refine ⟨fun q => ?_, fun q => p_pair_compare ⟨fun q2 => ?_, fun q2 => Cnt.next hlt (by omega) ⟨?_, ?_, ?_⟩⟩⟩
      · rw [if_neg (show ¬ (x.1 ≤ x.2.1 ∧ _) by omega), if_neg (by omega)] at hed; exact hed
      · rw [if_neg (show ¬ (x.1 ≤ x.2.1 ∧ _) by omega), if_neg (by omega)] at hed; exact hed
      · simp [pre, hx]
      · simp [pre, hx]
      · have hc : x.1 ≤ x.2.1 ∧ pcmpF (pre es k).1 (pre es k).2 x.1 x.2.1 < 0 := ⟨by omega, by omega⟩
        rw [if_pos hc, if_pos rfl] at hinv
        rw [hinv]
        simp [pre, hx]
    · simp only [decide_eq_true_eq] at q1 q2
      exact ⟨q1, q2, by omega, by omega⟩
  · have hk2 : k = es.length := by omega
    rw [hinv, hk2, List.drop_length] at h
    exact h
/-- The error of a graph with a divisor. -/
def fgivenF (n : Int) (es : List E3) (d : List Int) : Int := if gcheckF n es = 0 then checkF d n else gcheckF n es
theorem p_firing_given {n : Int} {es : List E3} {d : List Int} {R : Int → Prop} (hl : es.length ≤ 1000000000) (h : R (fgivenF n es d)) : pf_firing_given n es d R := by
  unfold pf_firing_given
  unfold fgivenF at h
  exact p_graph_Check hl ⟨fun q => p_chips_Check (by rwa [if_pos q] at h), fun q => by rwa [if_neg q] at h⟩
theorem p_firing_Check {n : Int} {es : List E3} {d : List Int} {R : Int → Prop} (hl : es.length ≤ 1000000000) (h : R (fgivenF n es d)) : pf_firing_Check n es d R := p_firing_given hl h

/-! ### What edges move -/
theorem W_snoc (x : E3) (v u : Nat) : ∀ l : List E3, W (l ++ [x]) v u = W l v u + w1 x v u
  | [] => by rw [List.nil_append, W_cons, W_nil]; omega
  | y :: t => by rw [List.cons_append, W_cons, W_cons, W_snoc x v u t]; omega
/-- What an edge takes from a vertex by a script. -/
def e1 (x : E3) (s : Nat → Int) (v : Nat) : Int := (if (v : Int) = x.1 then x.2.2 * (s x.1.toNat - s x.2.1.toNat) else 0) - (if (v : Int) = x.2.1 then x.2.2 * (s x.1.toNat - s x.2.1.toNat) else 0)
theorem Lp_snoc {n : Nat} {l : List E3} {x : E3} {s : Nat → Int} {v : Nat} (hx : 0 ≤ x.1 ∧ x.1 < n ∧ 0 ≤ x.2.1 ∧ x.2.1 < n) (hv : v < n) : Lp n (l ++ [x]) s v = Lp n l s v + e1 x s v := by
  have h1 : Lp n (l ++ [x]) s v = Lp n l s v + sm n (fun u => w1 x v u * (s v - s u)) := by
    unfold Lp
    rw [← sm_add]
    refine sm_congr fun u _ => ?_
    rw [W_snoc, Int.add_mul]
  rw [h1]
  congr 1
  obtain ⟨a, ha⟩ : ∃ a : Nat, x.1 = a := ⟨x.1.toNat, by omega⟩
  obtain ⟨b, hb⟩ : ∃ b : Nat, x.2.1 = b := ⟨x.2.1.toNat, by omega⟩
  unfold e1
  rw [ha, hb, Int.toNat_natCast, Int.toNat_natCast]
  have ean : a < n := by omega
  have ebn : b < n := by omega
  by_cases hab : a = b
  · subst hab
    rw [show (fun u => w1 x v u * (s v - s u)) = fun _ => 0 from ?_, sm_zero]
    · omega
    · funext u
      unfold w1
      rw [if_neg (by omega)]; omega
  · by_cases e1 : v = a
    · subst e1
      rw [if_pos rfl, if_neg (by omega), show (fun u => w1 x v u * (s v - s u)) = fun u => if u = b then x.2.2 * (s v - s b) else 0 from ?_, sm_one _ ebn]
      · omega
      · funext u
        unfold w1
        by_cases e2 : u = b
        · subst e2; rw [if_pos ⟨by omega, .inl ⟨ha, hb⟩⟩, if_pos rfl]
        · rw [if_neg (by omega), if_neg e2]; omega
    · by_cases e3 : v = b
      · subst e3
        rw [if_neg (by omega), if_pos rfl, show (fun u => w1 x v u * (s v - s u)) = fun u => if u = a then x.2.2 * (s v - s a) else 0 from ?_, sm_one _ ean]
        · rw [show s a - s v = -(s v - s a) by omega, Int.mul_neg]; omega
        · funext u
          unfold w1
          by_cases e2 : u = a
          · subst e2; rw [if_pos ⟨by omega, .inr ⟨ha, hb⟩⟩, if_pos rfl]
          · rw [if_neg (by omega), if_neg e2]; omega
      · rw [if_neg (by omega), if_neg (by omega), show (fun u => w1 x v u * (s v - s u)) = fun _ => 0 from ?_, sm_zero]
        · omega
        · funext u
          unfold w1
          rw [if_neg (by omega)]; omega
theorem flow_bound {x : E3} {s : Nat → Int} (hm : 1 ≤ x.2.2 ∧ x.2.2 ≤ 50) (ha : -2000000000 ≤ s x.1.toNat ∧ s x.1.toNat ≤ 2000000000) (hb : -2000000000 ≤ s x.2.1.toNat ∧ s x.2.1.toNat ≤ 2000000000) : -200000000000 ≤ x.2.2 * (s x.1.toNat - s x.2.1.toNat) ∧ x.2.2 * (s x.1.toNat - s x.2.1.toNat) ≤ 200000000000 := by
  generalize x.2.2 = m at hm ⊢
  have h : -4000000000 ≤ s x.1.toNat - s x.2.1.toNat ∧ s x.1.toNat - s x.2.1.toNat ≤ 4000000000 := by omega
  generalize s x.1.toNat - s x.2.1.toNat = y at h ⊢
  have := Int.natAbs_mul m y
  have h4 : m.natAbs ≤ 50 := by omega
  have h5 : y.natAbs ≤ 4000000000 := by omega
  have := Nat.mul_le_mul h4 h5
  omega
theorem Lp_take_bound {n : Nat} {es : List E3} (hE : EOk n es) {s : Nat → Int} (hs : ∀ j, j < n → -2000000000 ≤ s j ∧ s j ≤ 2000000000) {v : Nat} (hv : v < n) : ∀ k, k ≤ es.length → -(400000000000 * (k : Int)) ≤ Lp n (es.take k) s v ∧ Lp n (es.take k) s v ≤ 400000000000 * k
  | 0, _ => by
    have : Lp n [] s v = 0 := by
      unfold Lp
      rw [show (fun u => W [] v u * (s v - s u)) = fun _ => 0 from ?_, sm_zero]
      funext u; rw [W_nil]; omega
    rw [List.take_zero, this]; omega
  | k + 1, hk => by
    have ih := Lp_take_bound hE hs hv k (by omega)
    have hx := hE _ (ge_mem (show k < es.length by omega))
    have hf := flow_bound (x := ge es k) (s := s) (by omega) (hs _ (by omega)) (hs _ (by omega))
    have e : es.take (k + 1) = es.take k ++ [ge es k] := by rw [List.take_add_one, List.getElem?_eq_getElem (by omega), ge_of_lt (by omega)]; rfl
    rw [e, Lp_snoc (by omega) hv]
    unfold e1
    split <;> split <;> omega
theorem Lp_nil {n : Nat} {s : Nat → Int} {v : Nat} : Lp n [] s v = 0 := by
  unfold Lp
  rw [show (fun u => W [] v u * (s v - s u)) = fun _ => 0 from ?_, sm_zero]
  funext u; rw [W_nil]; omega
/-- An edge's step. -/
theorem edge_step {n : Nat} {es : List E3} (hE : EOk n es) {d s : List Int} {k : Nat} (hk : k < es.length) :
    ((appF n (es.take k) d s).set (ge es k).1.toNat (gi (appF n (es.take k) d s) (ge es k).1.toNat - (ge es k).2.2 * (gi s (ge es k).1.toNat - gi s (ge es k).2.1.toNat))).set (ge es k).2.1.toNat
      (gi ((appF n (es.take k) d s).set (ge es k).1.toNat (gi (appF n (es.take k) d s) (ge es k).1.toNat - (ge es k).2.2 * (gi s (ge es k).1.toNat - gi s (ge es k).2.1.toNat))) (ge es k).2.1.toNat + (ge es k).2.2 * (gi s (ge es k).1.toNat - gi s (ge es k).2.1.toNat)) = appF n (es.take (k + 1)) d s := by
  have hx := hE _ (ge_mem hk)
  have e : es.take (k + 1) = es.take k ++ [ge es k] := by rw [List.take_add_one, List.getElem?_eq_getElem hk, ge_of_lt hk]; rfl
  have hal : (appF n (es.take k) d s).length = n := appF_length
  refine gi_ext (by rw [List.length_set, List.length_set, appF_length, appF_length]) fun i hi => ?_
  rw [List.length_set, List.length_set, hal] at hi
  have h1 : ∀ j, j < n → gi (appF n (es.take k) d s) j = gi d j - Lp n (es.take k) (gi s) j := fun j hj => gi_tab _ hj
  have h2 : gi (appF n (es.take (k + 1)) d s) i = gi d i - (Lp n (es.take k) (gi s) i + e1 (ge es k) (gi s) i) := by
    rw [← Lp_snoc (by omega) hi, ← e]; exact gi_tab _ hi
  rw [h2, gi_set (by rw [List.length_set, hal]; omega), gi_set (by rw [hal]; omega), gi_set (by rw [hal]; omega)]
  unfold e1
  by_cases q1 : i = (ge es k).2.1.toNat
  · rw [if_pos q1, if_pos (show (i : Int) = (ge es k).2.1 by omega)]
    by_cases q2 : (ge es k).2.1.toNat = (ge es k).1.toNat
    · rw [if_pos q2, if_pos (show (i : Int) = (ge es k).1 by omega), ← q2, ← q1, h1 i hi]; omega
    · rw [if_neg q2, if_neg (show ¬ (i : Int) = (ge es k).1 by omega), ← q1, h1 i hi]; omega
  · rw [if_neg q1, if_neg (show ¬ (i : Int) = (ge es k).2.1 by omega)]
    by_cases q2 : i = (ge es k).1.toNat
    · rw [if_pos q2, if_pos (show (i : Int) = (ge es k).1 by omega), ← q2, h1 i hi]; omega
    · rw [if_neg q2, if_neg (show ¬ (i : Int) = (ge es k).1 by omega), h1 i hi]; omega
section
variable {n : Nat} {es : List E3} {d s : List Int}
theorem app_start (hdl : d.length = n) : d = appF n (es.take 0) d s := by
  refine eq_tab hdl _ fun i _ => ?_
  rw [List.take_zero, Lp_nil]; omega
end
end Go.Proofs.Ytbehbjfcenlaeaa

/- Words for the laws of layer 34. -/
namespace Go.Proofs.Ytbehbjfcenlaeaa
open Go
set_option linter.unusedVariables false
set_option linter.unusedSimpArgs false

theorem small_of {n : Int} {es : List E3} {d : List Int} (h1 : smallF n es 6 9 = true) (h2 : lowF n d = true) : Small n es d := by
  unfold smallF at h1
  rw [decide_eq_true_eq] at h1
  rw [lowF_iff] at h2
  refine ⟨h1.1, h1.2, fun hc v hv => ?_⟩
  obtain ⟨n, rfl⟩ : ∃ n' : Nat, n = (n' : Int) := ⟨n.toNat, by omega⟩
  have := (checkF_ok hc).1
  have := h2.2 hc v (by omega)
  omega
theorem small_len {n : Int} {es : List E3} (h1 : smallF n es 6 9 = true) : es.length ≤ 40 := by
  unfold smallF at h1
  rw [decide_eq_true_eq] at h1
  exact h1.1
/-- A small connected graph with a divisor that has few chips. -/
structure Right (n : Int) (es : List E3) (d : List Int) : Prop where
  few : smallF n es 6 9 = true
  joined : joinedE n es = 0
  chips : checkF d n = 0
  low : lowF n d = true
theorem Right.given {n : Int} {es : List E3} {d : List Int} (h : Right n es d) {q : Int} (hq : 0 ≤ q ∧ q < n) : givenF n es q d = 0 := by
  have hj := h.joined
  unfold joinedE at hj
  unfold givenF
  by_cases h1 : gcheckF n es = 0
  · rw [if_pos h1] at hj ⊢
    by_cases h2 : connF n es = true
    · rw [if_pos h2, if_pos hq, h.chips]
    · rw [if_neg h2] at hj; omega
  · rw [if_neg h1] at hj; exact absurd hj h1
theorem Right.graph {n : Int} {es : List E3} {d : List Int} (h : Right n es d) : gcheckF n es = 0 ∧ connF n es = true ∧ es.length ≤ 40 ∧ 1 ≤ n ∧ n ≤ 6 := by
  have hj := h.joined
  have hs := h.few
  unfold joinedE at hj
  unfold smallF at hs
  rw [decide_eq_true_eq] at hs
  by_cases h1 : gcheckF n es = 0
  · rw [if_pos h1] at hj
    have hn := (hs.2 h1).1
    have h0 : 1 ≤ n := by
      unfold gcheckF at h1
      split at h1
      · omega
      · omega
    by_cases h2 : connF n es = true
    · exact ⟨h1, h2, hs.1, h0, hn⟩
    · rw [if_neg h2] at hj; omega
  · rw [if_neg h1] at hj; exact absurd hj h1
/-- The divisor of a right pair: as long as there are vertices, with few chips. -/
theorem Right.nat {n : Nat} {es : List E3} {d : List Int} (h : Right (n : Int) es d) : d.length = n ∧ ∀ j, j < n → -100 ≤ gi d j ∧ gi d j ≤ 100 := by
  have hl := (checkF_ok h.chips).1
  refine ⟨hl, fun j hj => (lowF_iff.1 h.low).2 h.chips j (by omega)⟩
end Go.Proofs.Ytbehbjfcenlaeaa
