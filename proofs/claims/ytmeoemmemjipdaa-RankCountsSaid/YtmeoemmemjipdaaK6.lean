/- Texts laid together: PRa, PRb, SpA, Bor, Gen. -/
import Derived.Test.YtmeoemmemjipdaaK5
/- Pure forms of functions, made by program (pf.py), each with the proof that the code does so. -/
namespace Go.Proofs.Ytmeoemmemjipdaa
open Go Go.RowKit Go.Shelf
set_option linter.unusedVariables false
set_option maxRecDepth 100000
set_option maxHeartbeats 1000000
/-- sandpile/graph.limited: what it computes. -/
def pf_graph_limited (g : Int) (g2 : List E3) (most : Int) (R : Int → (List E3) → Int → Prop) : Prop :=
pf_graph_Check g g2 (fun r =>
((r = 0 →
(∃ I2 : Nat → Int → (List E3) → Prop, (∃ m0, I2 m0 0 ([])) ∧ ∀ m2 v out, I2 m2 v out → 
((v < ((g2.length : Nat) : Int) →
((0 ≤ v ∧ v < ((g2.length : Nat) : Int)) ∧
((((ge g2 v.toNat).1) = ((ge g2 v.toNat).2.1) →
(In64 (v + 1) ∧
∃ m3, m3 < m2 ∧ I2 m3 (v + 1) out)) ∧
(¬ (((ge g2 v.toNat).1) = ((ge g2 v.toNat).2.1)) →
(out.length + 1 ≤ 1000000000 ∧
(In64 (v + 1) ∧
∃ m4, m4 < m2 ∧ I2 m4 (v + 1) (out ++ [((ge g2 v.toNat).1, (ge g2 v.toNat).2.1, mnF ((ge g2 v.toNat).2.2) most)]))))))) ∧
(¬ (v < ((g2.length : Nat) : Int)) →
R g out 0)))) ∧
(¬ (r = 0) →
R 0 ([]) r)))
theorem pok_graph_limited {O : Nat → Prop} {w : World} {g g2 most Ag lg cg} {R : Int → (List E3) → Int → Prop} (h : pf_graph_limited g g2 most R) (hO : ∀ k, O k → k < w.heap.size) (hA0 : (FP.sl c3 Ag lg cg g2).P O w) :
    Calls Try.prog 123 #[(.agg #[(.int .i64 g), (.slice Ag lg cg)]), (.int .i64 most)] w fun e w' => ∃ r2 r3 r4 Ar lr cr, e = .returned (.tuple #[(.agg #[(.int .i64 r2), (.slice Ar lr cr)]), (.int .i64 r4)]) ∧ Sep w no O w' (rl [Res.own c3 83 Ar lr cr r3]) ∧ R r2 r3 r4 := by
  unfold pf_graph_limited at h; have hS : Sep w no O w (rl [Res.ro (FP.sl c3 Ag lg cg g2)]) := Sep.startl hO [(FP.sl c3 Ag lg cg g2)] ⟨hA0, trivial⟩; refine calls_sh (l := [(.agg #[(.int .i64 g), (.slice Ag lg cg)]), (.int .i64 most)]) Try.func123 rfl Try.ntmps123 (Nat.le_of_ble_eq_true rfl) (wt_seq (wl_region wd_wide (zn (n_box (v := (.agg #[(.int .i64 g), (.slice Ag lg cg)])) rfl ?_)))); intro g3 w2 hN; replace hS : Sep w no O w2 (stl _ 1 (Res.box 24 g3 [(.int .i64 g), (.slice Ag lg cg)])) := hS.new 1 rfl hN; clear hN; refine ⟨Stb.none _, zn (n_alloc info_24 ?_)⟩; intro g4 w3 hN; replace hS : Sep w no O w3 (stl _ 2 (Res.box 24 g4 [(.int .i64 0), (.slice none 0 0)])) := hS.new 2 rfl hN; clear hN; refine ⟨Stb.none _, zq (za (.int .i64 0)) (rl_end (wt_seq (wt_seq (wl_region wd_wide (zq (v_loadn (vs := [(.int .i64 g), (.slice Ag lg cg)]) rfl Try.underlying24 rfl info_24 ⟨Row.cell (hS.bx 1 rfl) (i := 0) rfl, Row.cell (hS.bx 1 rfl) (i := 1) rfl, trivial⟩) (zn (n_call0 rfl (am1 rfl) enter_100 ((pok_graph_Check h (no_lt _) (hS.rdr 0 rfl)).mono ?_))))))))⟩; rintro _ w4 ⟨r, rfl, hC, h⟩; replace hS := hS.pur hC.pure; clear hC; refine ⟨_, rfl, ?_⟩; refine ⟨Stb.none _, zq (za (.int .i64 r)) ?_⟩
  refine rl_end (wt_seq (wl_region wd_wide (zq (zm (.int .i64 r)) (zq (v_neq rfl rfl) (rl_end ?_))))); by_cases hp : r = 0
  · replace h := h.1 hp; refine ze hp (wt_skip (wt_seq (wl_region wd_wide (zq (v_faddr rfl Try.underlying24 rfl info_3) (zq (v_load rfl Try.underlying3 rfl (Row.cell (hS.bx 1 rfl) (i := 0) rfl)) (zn (n_build (l := [(0, (.int .i64 g))]) (cells := [(.int .i64 g), (.slice none 0 0)]) (places := [(0, 1), (1, 1)]) (bp1 rfl) Try.underlying24 info_24 (by kernel_rfl) rfl ?_))))))); refine ⟨Stb.none _, zn (n_alloc info_24 ?_)⟩; intro g5 w5 hN; replace hS : Sep w no O w5 (stl _ 3 (Res.box 24 g5 [(.int .i64 0), (.slice none 0 0)])) := hS.new 3 rfl hN; clear hN; refine ⟨Stb.none _, zo (n_storen (b := g5) (o := 0) (cells := #[(.int .i64 g), (.slice none 0 0)]) rfl rfl info_24 rfl rfl (there_row (hS.bx 3 rfl) (Nat.le_of_ble_eq_true rfl)) ?_)⟩; intro w6 e1; replace hS := hS.bstn 3 rfl 0 [(.int .i64 g), (.slice none 0 0)] e1; clear e1; refine ⟨Stb.none _, rl_end (wt_seq (wt_seq (wl_region wd_wide (zq (v_faddr rfl Try.underlying24 rfl info_22) (zq (v_load rfl Try.underlying22 rfl (Row.cell (hS.bx 1 rfl) (i := 1) rfl)) (zq (v_lenx (n := g2.length) rfl Try.underlying22 (rd_len (hS.rdr 0 rfl))) ?_))))))⟩
    refine zq (zm (.int .i64 0)) (rl_end (wt_block ?_)); replace hS := hS.nil 4 rfl c3 83; obtain ⟨I2, ⟨m0, h0⟩, hr⟩ := h; refine wt_loop (fun m E ds w' => ∃ v out Aout lout cout, I2 m v out ∧ ds = [] ∧ E 1 = (Value.int .i64 most) ∧ E 4 = (Value.pointer (some (⟨g4, 0, none⟩ : Addr))) ∧ E 7 = (Value.pointer (some (⟨g5, 0, none⟩ : Addr))) ∧ E 20 = (Value.slice Ag lg cg) ∧ E 21 = (Value.int .i64 ((g2.length : Nat) : Int)) ∧ E 22 = (Value.int .i64 v) ∧ Sep w no O w' (rl [Res.box 24 g4 [(.int .i64 0), (.slice none 0 0)], Res.box 24 g5 [(.int .i64 g), (.slice Aout lout cout)], Res.own c3 83 Aout lout cout out, Res.ro (FP.sl c3 Ag lg cg g2)])) m0 ⟨_, _, _, _, _, h0, rfl, rfl, rfl, rfl, rfl, rfl, rfl, (hS.sel [2, 3, 4, 0] (by decide))⟩ ?_; clear h0 hS; rintro m2 E ds w7 ⟨v, out, Aout, lout, cout, h, rfl, hE1, hE4, hE7, hE20, hE21, hE22, hS⟩ again; replace h := hr m2 v out h; clear hr; refine wt_seq (wl_region wd_wide (zq (v_lss hE22 hE21) (rl_end (wt_seq ?_)))); by_cases hp2 : v < ((g2.length : Nat) : Int)
    · replace h := h.1 hp2; refine zc hp2 (wt_skip (wt_seq (wt_block (wt_seq (wl_region wd_wide ?_))))); obtain ⟨hx, h⟩ := h; refine zq (v_iaddr hE20 hE22 Try.underlying22 info_83 (rd_ix (hS.rdr 3 rfl) hx)) (zq (v_loadn (vs := [(.int .i64 ((ge g2 v.toNat).1)), (.int .i64 ((ge g2 v.toNat).2.1)), (.int .i64 ((ge g2 v.toNat).2.2))]) rfl Try.underlying83 rfl info_83 (rd_fs (hS.rdr 3 rfl) hx (fun q => ge_some q))) ?_); refine zn (n_alloc info_83 ?_); intro g6 w8 hN; replace hS : Sep w no O w8 (stl _ 4 (Res.box 83 g6 [(.int .i64 0), (.int .i64 0), (.int .i64 0)])) := hS.new 4 rfl hN; clear hN; refine ⟨Stb.none _, zo (n_storen (b := g6) (o := 0) (cells := #[(.int .i64 ((ge g2 v.toNat).1)), (.int .i64 ((ge g2 v.toNat).2.1)), (.int .i64 ((ge g2 v.toNat).2.2))]) rfl rfl info_83 rfl rfl (there_row (hS.bx 4 rfl) (Nat.le_of_ble_eq_true rfl)) ?_)⟩; intro w9 e1; replace hS := hS.bstn 4 rfl 0 [(.int .i64 ((ge g2 v.toNat).1)), (.int .i64 ((ge g2 v.toNat).2.1)), (.int .i64 ((ge g2 v.toNat).2.2))] e1; clear e1; refine ⟨Stb.none _, rl_end (wt_seq (wl_region wd_wide (zq (v_faddr rfl Try.underlying83 rfl info_3) (zq (v_load rfl Try.underlying3 rfl (Row.cell (hS.bx 4 rfl) (i := 0) rfl)) ?_))))⟩
      refine zq (v_faddr rfl Try.underlying83 rfl info_3) (zq (v_load rfl Try.underlying3 rfl (Row.cell (hS.bx 4 rfl) (i := 1) rfl)) (zq (v_neq rfl rfl) (rl_end ?_))); by_cases hp3 : ((ge g2 v.toNat).1) = ((ge g2 v.toNat).2.1)
      · replace h := h.1 hp3; refine ze hp3 (wt_skip (wt_inBlock (wl_region wd_wide ?_))); obtain ⟨hi, h⟩ := h; refine zq (v_add hE22 rfl hi) (zq (zm (.int .i64 (v + 1))) (rl_end ?_)); obtain ⟨mq, hlt, h⟩ := h; exact again mq _ _ _ ⟨_, _, _, _, _, h, rfl, hE1, hE4, hE7, hE20, hE21, rfl, (hS.sel [0, 1, 2, 3] (by decide))⟩ hlt
      · replace h := h.2 hp3; refine zf hp3 (wt_seq (wl_region wd_wide (zq (v_faddr rfl Try.underlying83 rfl info_3) (zq (v_load rfl Try.underlying3 rfl (Row.cell (hS.bx 4 rfl) (i := 2) rfl)) (zq (v_move hE1) (zq (v_min2 rfl rfl) (zq (v_faddr rfl Try.underlying83 rfl info_3) (zo (zt (.int .i64 (mnF ((ge g2 v.toNat).2.2) most)) info_3 (hS.bwr 4 rfl (j := 2) rfl) ?_))))))))); intro w10 e1; replace hS := hS.bst 4 rfl 2 (.int .i64 (mnF ((ge g2 v.toNat).2.2) most)) e1; clear e1; refine ⟨Stb.none _, rl_end (wl_region wd_wide (zq (v_faddr hE7 Try.underlying24 rfl info_22) (zq (v_load rfl Try.underlying22 rfl (Row.cell (hS.bx 1 rfl) (i := 1) rfl)) (zq (v_loadn (vs := [(.int .i64 ((ge g2 v.toNat).1)), (.int .i64 ((ge g2 v.toNat).2.1)), (.int .i64 (mnF ((ge g2 v.toNat).2.2) most))]) rfl Try.underlying83 rfl info_83 ⟨Row.cell (hS.bx 4 rfl) (i := 0) rfl, Row.cell (hS.bx 4 rfl) (i := 1) rfl, Row.cell (hS.bx 4 rfl) (i := 2) rfl, trivial⟩) ?_))))⟩
        refine zn (n_bslice (l := [(0, (.agg #[(.int .i64 ((ge g2 v.toNat).1)), (.int .i64 ((ge g2 v.toNat).2.1)), (.int .i64 (mnF ((ge g2 v.toNat).2.2) most))]))]) (cells := [(.int .i64 ((ge g2 v.toNat).1)), (.int .i64 ((ge g2 v.toNat).2.1)), (.int .i64 (mnF ((ge g2 v.toNat).2.2) most))]) (bp1 rfl) Try.underlying22 info_83 rfl rfl ?_); intro g7 w11 hN; replace hS := hS.litf (n := 1) 5 rfl (fP (fI .i64) (fP (fI .i64) (fI .i64))) hN ([((ge g2 v.toNat).1, (ge g2 v.toNat).2.1, mnF ((ge g2 v.toNat).2.2) most)] : List E3) rfl (by decide) rfl; clear hN; refine ⟨Stb.none _, ?_⟩; obtain ⟨hx2, h⟩ := h; refine zn (n_app (c := c3) rfl rfl Try.underlying22 Try.underlying22 info_83 rfl rfl (by decide) hS 2 rfl (hS.yo 5 rfl) hx2 ?_); clear hS; intro A c w12 hS; refine ⟨Stb.none _, zq (v_faddr hE7 Try.underlying24 rfl info_22) (zo (zt (.slice A (lout + 1) c) info_22 (hS.bwr 1 rfl (j := 1) rfl) ?_))⟩; intro w13 e1; replace hS := hS.bst 1 rfl 1 (.slice A (lout + 1) c) e1; clear e1; refine ⟨Stb.none _, rl_end (wt_inBlock (wl_region wd_wide ?_))⟩; obtain ⟨hi2, h⟩ := h; refine zq (v_add hE22 rfl hi2) (zq (zm (.int .i64 (v + 1))) (rl_end ?_)); obtain ⟨mq, hlt, h⟩ := h; exact again mq _ _ _ ⟨_, _, _, _, _, h, rfl, hE1, hE4, hE7, hE20, hE21, rfl, (hS.sel [0, 1, 2, 3] (by decide))⟩ hlt
    · replace h := h.2 hp2; refine zd hp2 (wt_exit rfl (wt_seq (wl_region wd_wide (zq (v_loadn (vs := [(.int .i64 g), (.slice Aout lout cout)]) hE7 Try.underlying24 rfl info_24 ⟨Row.cell (hS.bx 1 rfl) (i := 0) rfl, Row.cell (hS.bx 1 rfl) (i := 1) rfl, trivial⟩) (zo (n_storen (b := g4) (o := 0) (cells := #[(.int .i64 g), (.slice Aout lout cout)]) hE4 rfl info_24 rfl rfl (there_row (hS.bx 0 rfl) (Nat.le_of_ble_eq_true rfl)) ?_)))))); intro w14 e1; replace hS := hS.bstn 0 rfl 0 [(.int .i64 g), (.slice Aout lout cout)] e1; clear e1; exact ⟨Stb.none _, zq (za (.int .i64 0)) (rl_end (wt_retx2 rfl (rv_n (vs := [(.int .i64 g), (.slice Aout lout cout)]) hE4 Try.underlying24 rfl info_24 ⟨Row.cell (hS.bx 0 rfl) (i := 0) rfl, Row.cell (hS.bx 0 rfl) (i := 1) rfl, trivial⟩) (rv_t rfl) ⟨_, _, _, _, _, _, rfl, (hS.sel [2] (by decide)), h⟩))⟩
  · replace h := h.2 hp; refine zf hp (wt_seq (wl_region wd_wide (zn (n_build (l := []) (cells := [(.int .i64 0), (.slice none 0 0)]) (places := [(0, 1), (1, 1)]) (bp0) Try.underlying24 info_24 (by kernel_rfl) rfl ?_)))); refine ⟨Stb.none _, zq (zm (.int .i64 r)) (zo (n_storen (b := g4) (o := 0) (cells := #[(.int .i64 0), (.slice none 0 0)]) rfl rfl info_24 rfl rfl (there_row (hS.bx 2 rfl) (Nat.le_of_ble_eq_true rfl)) ?_))⟩; intro w15 e1; replace hS := hS.bstn 2 rfl 0 [(.int .i64 0), (.slice none 0 0)] e1; clear e1; refine ⟨Stb.none _, zq (za (.int .i64 r)) (rl_end ?_)⟩; replace hS := hS.nil 3 rfl c3 83; exact wt_retx2 rfl (rv_n (vs := [(.int .i64 0), (.slice none 0 0)]) rfl Try.underlying24 rfl info_24 ⟨Row.cell (hS.bx 2 rfl) (i := 0) rfl, Row.cell (hS.bx 2 rfl) (i := 1) rfl, trivial⟩) (rv_t rfl) ⟨_, _, _, _, _, _, rfl, (hS.sel [3] (by decide)), h⟩

/-- sandpile/graph.Loopless: what it computes. -/
def pf_graph_Loopless (g : Int) (g2 : List E3) (R : Int → (List E3) → Int → Prop) : Prop :=
pf_graph_limited g g2 50 (fun r r2 r3 =>
R r r2 r3)
theorem pok_graph_Loopless {O : Nat → Prop} {w : World} {g g2 Ag lg cg} {R : Int → (List E3) → Int → Prop} (h : pf_graph_Loopless g g2 R) (hO : ∀ k, O k → k < w.heap.size) (hA0 : (FP.sl c3 Ag lg cg g2).P O w) :
    Calls Try.prog 85 #[(.agg #[(.int .i64 g), (.slice Ag lg cg)])] w fun e w' => ∃ r4 r5 r6 Ar2 lr2 cr2, e = .returned (.tuple #[(.agg #[(.int .i64 r4), (.slice Ar2 lr2 cr2)]), (.int .i64 r6)]) ∧ Sep w no O w' (rl [Res.own c3 83 Ar2 lr2 cr2 r5]) ∧ R r4 r5 r6 := by
  unfold pf_graph_Loopless at h; have hS : Sep w no O w (rl [Res.ro (FP.sl c3 Ag lg cg g2)]) := Sep.startl hO [(FP.sl c3 Ag lg cg g2)] ⟨hA0, trivial⟩; refine calls_sh (l := [(.agg #[(.int .i64 g), (.slice Ag lg cg)])]) Try.func85 rfl Try.ntmps85 (Nat.le_of_ble_eq_true rfl) (wt_seq (wl_region wd_wide (zn (n_box (v := (.agg #[(.int .i64 g), (.slice Ag lg cg)])) rfl ?_)))); intro g3 w2 hN; replace hS : Sep w no O w2 (stl _ 1 (Res.box 24 g3 [(.int .i64 g), (.slice Ag lg cg)])) := hS.new 1 rfl hN; clear hN; refine ⟨Stb.none _, zn (n_alloc info_24 ?_)⟩; intro g4 w3 hN; replace hS : Sep w no O w3 (stl _ 2 (Res.box 24 g4 [(.int .i64 0), (.slice none 0 0)])) := hS.new 2 rfl hN; clear hN; refine ⟨Stb.none _, zq (za (.int .i64 0)) (rl_end (wt_seq (wl_region wd_wide (zq (v_loadn (vs := [(.int .i64 g), (.slice Ag lg cg)]) rfl Try.underlying24 rfl info_24 ⟨Row.cell (hS.bx 1 rfl) (i := 0) rfl, Row.cell (hS.bx 1 rfl) (i := 1) rfl, trivial⟩) (zn (n_call0 rfl (am2 rfl rfl) enter_123 ((pok_graph_limited h (no_lt _) (hS.rdr 0 rfl)).mono ?_)))))))⟩; rintro _ w4 ⟨r, r2, r3, Ar, lr, cr, rfl, hC, h⟩; replace hS := hS.call1 (hC.widen (flatS (flat_own (fP (fI .i64) (fP (fI .i64) (fI .i64))) _ _ _ _ _) flat0) hS.blt) 3 0 rfl; clear hC; refine ⟨_, rfl, ?_⟩; refine ⟨Stb.none _, ?_⟩
  refine zq (zx (.agg #[(.int .i64 r), (.slice Ar lr cr)])) (zq (zx (.int .i64 r3)) (zo (n_storen (b := g4) (o := 0) (cells := #[(.int .i64 r), (.slice Ar lr cr)]) rfl rfl info_24 rfl rfl (there_row (hS.bx 2 rfl) (Nat.le_of_ble_eq_true rfl)) ?_))); intro w5 e1; replace hS := hS.bstn 2 rfl 0 [(.int .i64 r), (.slice Ar lr cr)] e1; clear e1; exact ⟨Stb.none _, zq (za (.int .i64 r3)) (rl_end (wt_retx2 rfl (rv_n (vs := [(.int .i64 r), (.slice Ar lr cr)]) rfl Try.underlying24 rfl info_24 ⟨Row.cell (hS.bx 2 rfl) (i := 0) rfl, Row.cell (hS.bx 2 rfl) (i := 1) rfl, trivial⟩) (rv_t rfl) ⟨_, _, _, _, _, _, rfl, (hS.sel [3] (by decide)), h⟩))⟩

/-- sandpile/graph.singles: what it computes. -/
def pf_graph_singles (g : Int) (g2 : List E3) (R : Prop) : Prop :=
R
theorem pok_graph_singles {O : Nat → Prop} {w : World} {g g2 Ag lg cg} {R : Prop} (h : pf_graph_singles g g2 R) (hO : ∀ k, O k → k < w.heap.size) (hA0 : (FP.sl c3 Ag lg cg g2).P O w) :
    Calls Try.prog 124 #[(.agg #[(.int .i64 g), (.slice Ag lg cg)])] w fun e w' => ∃ gr, e = .returned (.func (Fn.func 157) #[] #[(.pointer (some (⟨gr, 0, none⟩ : Addr)))]) ∧ Sep w no O w' (rl [Res.box 24 gr [(.int .i64 g), (.slice Ag lg cg)]]) ∧ R := by
  unfold pf_graph_singles at h; have hS : Sep w no O w (rl [Res.ro (FP.sl c3 Ag lg cg g2)]) := Sep.startl hO [(FP.sl c3 Ag lg cg g2)] ⟨hA0, trivial⟩; refine calls_sh (l := [(.agg #[(.int .i64 g), (.slice Ag lg cg)])]) Try.func124 rfl Try.ntmps124 (Nat.le_of_ble_eq_true rfl) (wt_seq (wl_region wd_wide (zn (n_box (v := (.agg #[(.int .i64 g), (.slice Ag lg cg)])) rfl ?_)))); intro g3 w2 hN; replace hS : Sep w no O w2 (stl _ 1 (Res.box 24 g3 [(.int .i64 g), (.slice Ag lg cg)])) := hS.new 1 rfl hN; clear hN; exact ⟨Stb.none _, zq (za Value.nilFunc) (rl_end (wt_seq (wl_region wd_wide (zq (v_func (am0) (am1 rfl)) (zq (za (.func (Fn.func 157) #[] #[(.pointer (some (⟨g3, 0, none⟩ : Addr)))])) (rl_end (wt_ret1 rfl rfl ⟨_, rfl, (hS.sel [1] (by decide)), h⟩)))))))⟩

/-- sandpile/graph.singles$1: what it yields. -/
def pf_graph_singles_1 (cap : Int) (cap2 : List E3) (Pr R : List E3 → Prop) : Prop :=
(∃ I2 : Nat → (List E3) → Int → Int → Prop, (∃ m0, I2 m0 ([]) 0 0) ∧ ∀ m2 pre2 e2 v, I2 m2 pre2 e2 v → 
((v < ((cap2.length : Nat) : Int) →
((0 ≤ v ∧ v < ((cap2.length : Nat) : Int)) ∧
(∃ I3 : Nat → (List E3) → Int → Int → Prop, (∃ m0, I3 m0 pre2 e2 0) ∧ ∀ m3 pre3 e3 v2, I3 m3 pre3 e3 v2 → 
((v2 < ((ge cap2 v.toNat).2.2) →
(Pr (pre3 ++ [(e3, (ge cap2 v.toNat).1, (ge cap2 v.toNat).2.1)]) ∧
((In64 (e3 + 1) ∧
(In64 (v2 + 1) ∧
∃ m4, m4 < m3 ∧ I3 m4 (pre3 ++ [(e3, (ge cap2 v.toNat).1, (ge cap2 v.toNat).2.1)]) (e3 + 1) (v2 + 1))) ∧
True))) ∧
(¬ (v2 < ((ge cap2 v.toNat).2.2)) →
(In64 (v + 1) ∧
∃ m5, m5 < m2 ∧ I2 m5 pre3 e3 (v + 1))))))) ∧
(¬ (v < ((cap2.length : Nat) : Int)) →
R pre2)))
theorem pok_graph_singles_1 {w : World} {T0 G0 : BS} {cap cap2 gc Acap lcap ccap} {Pr R : List E3 → Prop} (h : pf_graph_singles_1 cap cap2 Pr R) (hS0 : Sep w G0 T0 w (rl [Res.box 24 gc [(Value.int .i64 cap), (Value.slice Acap lcap ccap)], Res.ro (FP.sl c3 Acap lcap ccap cap2)])) :
    GenSays Try.prog 157 #[(.pointer (some (⟨gc, 0, none⟩ : Addr)))] (fun (x : E3) => #[(.int .i64 x.1), (.agg #[(.int .i64 x.2.1), (.int .i64 x.2.2)])]) (fun _ => FP.tt) Pr R T0 G0 w := by
  unfold pf_graph_singles_1 at h; intro l J Jx T1 w1 hs hJ hp hT; obtain ⟨G, hJ, hS⟩ := gen_start hS0 hs hJ hp hT; clear hS0 hp hT; refine callsIn_gen (l := [(.func (.yield l) #[] #[]), (.pointer (some (⟨gc, 0, none⟩ : Addr)))]) Try.func157 rfl Try.ntmps157 (Nat.le_of_ble_eq_true rfl) rfl (wt_seq (wl_region wd_wide (zq (za (.int .i64 0)) (rl_end (wt_seq (wl_region wd_wide (zq (v_faddr rfl Try.underlying24 rfl info_22) (zq (v_load rfl Try.underlying22 rfl (Row.cell (hS.bx 0 rfl) (i := 1) rfl)) (zq (v_lenx (n := cap2.length) rfl Try.underlying22 (rd_len (hS.rdr 1 rfl))) (zq (zm (.int .i64 0)) (rl_end (wt_block ?_)))))))))))); obtain ⟨I2, ⟨m0, h0⟩, hr⟩ := h; refine wt_loop (fun m E ds w' => ∃ pre2 e2 v, ∃ T2 : BS, ∃ G2 : BS, ∃ wb2 : World, I2 m pre2 e2 v ∧ ds = [] ∧ E 0 = (Value.func (.yield l) #[] #[]) ∧ E 3 = (Value.int .i64 e2) ∧ E 7 = (Value.slice Acap lcap ccap) ∧ E 8 = (Value.int .i64 ((cap2.length : Nat) : Int)) ∧ E 9 = (Value.int .i64 v) ∧ J T2 G2 pre2 wb2 ∧ Sep wb2 G2 T2 w' (rl [Res.ro (FP.sl c3 Acap lcap ccap cap2)])) m0 ⟨_, _, _, _, _, _, h0, rfl, rfl, rfl, rfl, rfl, rfl, hJ, (hS.sel [1] (by decide))⟩ ?_; clear h0 hS hJ; rintro m2 E ds w2 ⟨pre2, e2, v, T2, G2, wb2, h, rfl, hE0, hE3, hE7, hE8, hE9, hJ, hS⟩ again
  replace h := hr m2 pre2 e2 v h; clear hr; refine wt_seq (wl_region wd_wide (zq (v_lss hE9 hE8) (rl_end (wt_seq ?_)))); by_cases hp : v < ((cap2.length : Nat) : Int)
  · replace h := h.1 hp; refine zc hp (wt_skip (wt_seq (wt_block (wt_seq (wl_region wd_wide ?_))))); obtain ⟨hx, h⟩ := h; refine zq (v_iaddr hE7 hE9 Try.underlying22 info_83 (rd_ix (hS.rdr 0 rfl) hx)) (zq (v_loadn (vs := [(.int .i64 ((ge cap2 v.toNat).1)), (.int .i64 ((ge cap2 v.toNat).2.1)), (.int .i64 ((ge cap2 v.toNat).2.2))]) rfl Try.underlying83 rfl info_83 (rd_fs (hS.rdr 0 rfl) hx (fun q => ge_some q))) ?_); refine zn (n_alloc info_83 ?_); intro g w3 hN; replace hS : Sep wb2 G2 T2 w3 (stl _ 1 (Res.box 83 g [(.int .i64 0), (.int .i64 0), (.int .i64 0)])) := hS.new 1 rfl hN; clear hN; refine ⟨Stb.none _, zo (n_storen (b := g) (o := 0) (cells := #[(.int .i64 ((ge cap2 v.toNat).1)), (.int .i64 ((ge cap2 v.toNat).2.1)), (.int .i64 ((ge cap2 v.toNat).2.2))]) rfl rfl info_83 rfl rfl (there_row (hS.bx 1 rfl) (Nat.le_of_ble_eq_true rfl)) ?_)⟩; intro w4 e1; replace hS := hS.bstn 1 rfl 0 [(.int .i64 ((ge cap2 v.toNat).1)), (.int .i64 ((ge cap2 v.toNat).2.1)), (.int .i64 ((ge cap2 v.toNat).2.2))] e1; clear e1; refine ⟨Stb.none _, rl_end (wt_seq (wl_region wd_wide (zq (v_faddr rfl Try.underlying83 rfl info_3) (zq (v_load rfl Try.underlying3 rfl (Row.cell (hS.bx 1 rfl) (i := 2) rfl)) ?_))))⟩
    refine zq (zm (.int .i64 0)) (rl_end (wt_block ?_)); obtain ⟨I3, ⟨m0, h0⟩, hr⟩ := h; refine wt_loop (fun m E ds w' => ∃ pre3 e3 v2, ∃ T3 : BS, ∃ G3 : BS, ∃ wb3 : World, I3 m pre3 e3 v2 ∧ ds = [] ∧ E 0 = (Value.func (.yield l) #[] #[]) ∧ E 3 = (Value.int .i64 e3) ∧ E 5 = (Value.pointer (some (⟨g, 0, none⟩ : Addr))) ∧ E 7 = (Value.slice Acap lcap ccap) ∧ E 8 = (Value.int .i64 ((cap2.length : Nat) : Int)) ∧ E 9 = (Value.int .i64 v) ∧ E 14 = (Value.int .i64 ((ge cap2 v.toNat).2.2)) ∧ E 15 = (Value.int .i64 v2) ∧ J T3 G3 pre3 wb3 ∧ Sep wb3 G3 T3 w' (rl [Res.box 83 g [(.int .i64 ((ge cap2 v.toNat).1)), (.int .i64 ((ge cap2 v.toNat).2.1)), (.int .i64 ((ge cap2 v.toNat).2.2))], Res.ro (FP.sl c3 Acap lcap ccap cap2)])) m0 ⟨_, _, _, _, _, _, h0, rfl, hE0, hE3, rfl, hE7, hE8, hE9, rfl, rfl, hJ, (hS.sel [1, 0] (by decide))⟩ ?_; clear h0 hS hJ; rintro m3 E ds w5 ⟨pre3, e3, v2, T3, G3, wb3, h, rfl, hE0, hE3, hE5, hE7, hE8, hE9, hE14, hE15, hJ, hS⟩ again2; replace h := hr m3 pre3 e3 v2 h; clear hr; refine wt_seq (wl_region wd_wide (zq (v_lss hE15 hE14) (rl_end (wt_seq ?_)))); by_cases hp2 : v2 < ((ge cap2 v.toNat).2.2)
    · replace h := h.1 hp2; refine zc hp2 (wt_skip (wt_seq (wt_block (wt_seq (wt_seq (wl_region wd_wide (zq (v_move hE0) (zq (v_move hE3) (zq (v_faddr hE5 Try.underlying83 rfl info_3) (zq (v_load rfl Try.underlying3 rfl (Row.cell (hS.bx 0 rfl) (i := 0) rfl)) (zq (v_faddr hE5 Try.underlying83 rfl info_3) (zq (v_load rfl Try.underlying3 rfl (Row.cell (hS.bx 0 rfl) (i := 1) rfl)) (zn (n_build (l := [(0, (.int .i64 ((ge cap2 v.toNat).1))), (1, (.int .i64 ((ge cap2 v.toNat).2.1)))]) (cells := [(.int .i64 ((ge cap2 v.toNat).1)), (.int .i64 ((ge cap2 v.toNat).2.1))]) (places := [(0, 1), (1, 1)]) (bp2 rfl rfl) Try.underlying167 info_167 (by kernel_rfl) rfl ?_)))))))))))))); refine ⟨Stb.none _, ?_⟩; obtain ⟨hPr, hyes, hno⟩ := h; refine zn (n_yield (m := 1) rfl (am2 rfl rfl) (gen_yield (x := (e3, (ge cap2 v.toNat).1, (ge cap2 v.toNat).2.1)) hs hJ hS hPr trivial ?_ ?_))
      · clear hno hJ hS; have h := hyes; clear hyes; intro T4 w6 hJ hS; generalize OwnB _ = G4 at hJ hS; refine ⟨_, rfl, ?_⟩; refine ⟨Stb.none _, zq (v_not rfl) (rl_end (wt_cond_f (congrArg Value.bool (congrArg Bool.not rfl)) (wt_skip (wl_region wd_wide (zq (v_move hE3) ?_)))))⟩; obtain ⟨hi, h⟩ := h; refine zq (v_add rfl rfl hi) (zq (za (.int .i64 (e3 + 1))) (rl_end (wt_inBlock (wl_region wd_wide ?_)))); obtain ⟨hi2, h⟩ := h; refine zq (v_add hE15 rfl hi2) (zq (zm (.int .i64 (v2 + 1))) (rl_end ?_)); obtain ⟨mq, hlt, h⟩ := h; exact again2 mq _ _ _ ⟨_, _, _, _, _, _, h, rfl, hE0, rfl, hE5, hE7, hE8, hE9, hE14, rfl, hJ, (hS.sel [0, 1] (by decide))⟩ hlt
      · clear hyes hJ hS; have h := hno; clear hno; intro T5 w7 hJ hS; generalize OwnB _ = G5 at hJ hS; refine ⟨_, rfl, ?_⟩; exact ⟨Stb.none _, zq (v_not rfl) (rl_end (wt_cond_t (congrArg Value.bool (congrArg Bool.not rfl)) (wt_ret0 rfl ⟨⟨_, rfl⟩, gen_endx hs hJ hS⟩)))⟩
    · replace h := h.2 hp2; refine zd hp2 (wt_exit rfl (wt_inBlock (wl_region wd_wide ?_))); obtain ⟨hi3, h⟩ := h; refine zq (v_add hE9 rfl hi3) (zq (zm (.int .i64 (v + 1))) (rl_end ?_)); obtain ⟨mq, hlt, h⟩ := h; exact again mq _ _ _ ⟨_, _, _, _, _, _, h, rfl, hE0, hE3, hE7, hE8, rfl, hJ, (hS.sel [1] (by decide))⟩ hlt
  · replace h := h.2 hp; exact zd hp (wt_exit rfl (wt_end0 rfl ⟨⟨_, rfl⟩, gen_end hs hJ hS h⟩))

/-- (*sandpile/graph.forest).root: what it computes. -/
def pf_graph_forest_root (f : List Int) (v : Int) (R : Int → Prop) : Prop :=
(∃ I2 : Nat → Int → Prop, (∃ m0, I2 m0 v) ∧ ∀ m2 v2, I2 m2 v2 → 
((0 ≤ v2 ∧ v2 < 12) ∧
(((gi f v2.toNat) = v2 →
R v2) ∧
(¬ ((gi f v2.toNat) = v2) →
∃ m3, m3 < m2 ∧ I2 m3 (gi f v2.toNat)))))
theorem pok_graph_forest_root {S O : Nat → Prop} {w : World} {f v gc} {R : Int → Prop} (h : pf_graph_forest_root f v R) (hS : Sep w S O w (rl [Res.own cI 162 (some ⟨gc, 0, none⟩) 12 12 f])) :
    Calls Try.prog 125 #[(.pointer (some (⟨gc, 0, none⟩ : Addr))), (.int .i64 v)] w fun e w' => ∃ r, e = .returned (.int .i64 r) ∧ Sep w S O w' (rl [Res.own cI 162 (some ⟨gc, 0, none⟩) 12 12 f]) ∧ R r := by
  unfold pf_graph_forest_root at h; refine calls_sh (l := [(.pointer (some (⟨gc, 0, none⟩ : Addr))), (.int .i64 v)]) Try.func125 rfl Try.ntmps125 (Nat.le_of_ble_eq_true rfl) (wt_seq (wl_region wd_wide (zq (za (.int .i64 0)) (rl_end (wt_seq (wt_block ?_)))))); obtain ⟨I2, ⟨m0, h0⟩, hr⟩ := h; refine wt_loop (fun m E ds w' => ∃ v2, I2 m v2 ∧ ds = [] ∧ E 0 = (Value.pointer (some (⟨gc, 0, none⟩ : Addr))) ∧ E 1 = (Value.int .i64 v2) ∧ Sep w S O w' (rl [Res.own cI 162 (some ⟨gc, 0, none⟩) 12 12 f])) m0 ⟨_, h0, rfl, rfl, rfl, (hS.sel [0] (by decide))⟩ ?_; clear h0 hS; rintro m2 E ds w2 ⟨v2, h, rfl, hE0, hE1, hS⟩ again; replace h := hr m2 v2 h; clear hr; refine wt_seq (wt_seq (wl_region wd_wide (zq (v_move (v := (.pointer (some (⟨gc, 0, none⟩ : Addr)))) hE0) (zq (v_move hE1) (zq (v_nil rfl) ?_))))); obtain ⟨hx, h⟩ := h; have hy := arr_ix (hS.rdo 0 rfl) hx; refine zq (v_iaddrA rfl rfl Try.underlying162 info_3 hx) (zq (v_load (v := (.int .i64 (gi f v2.toNat))) rfl Try.underlying3 rfl (rd_1 (hS.rdo 0 rfl) hy (fun q => gi_some q) rfl)) ?_); refine zq (v_move hE1) (zq (v_neq rfl rfl) (rl_end ?_)); by_cases hp : (gi f v2.toNat) = v2
  · replace h := h.1 hp; exact ze hp (wt_exit rfl (wt_seq (wl_region wd_wide (zq (v_move hE1) (zq (za (.int .i64 v2)) (rl_end (wt_ret1 rfl rfl ⟨_, rfl, (hS.sel [0] (by decide)), h⟩)))))))
  · replace h := h.2 hp; refine zf hp (wt_skip (wt_block (wl_region wd_wide (zq (v_move (v := (.pointer (some (⟨gc, 0, none⟩ : Addr)))) hE0) (zq (v_move hE1) (zq (v_nil rfl) ?_)))))); have hy2 := arr_ix (hS.rdo 0 rfl) hx; refine zq (v_iaddrA rfl rfl Try.underlying162 info_3 hx) (zq (v_load (v := (.int .i64 (gi f v2.toNat))) rfl Try.underlying3 rfl (rd_1 (hS.rdo 0 rfl) hy2 (fun q => gi_some q) rfl)) ?_); refine zq (za (.int .i64 (gi f v2.toNat))) (rl_end (wt_inBlock ?_)); obtain ⟨mq, hlt, h⟩ := h; exact again mq _ _ _ ⟨_, h, rfl, hE0, rfl, (hS.sel [0] (by decide))⟩ hlt

/-- sandpile/graph.Genus: what it computes. -/
def pf_graph_Genus (g : Int) (g2 : List E3) (R : Int → Int → Prop) : Prop :=
pf_graph_Check g g2 (fun r =>
((r = 0 →
(∃ I2 : Nat → Int → (List Int) → Prop, (∃ m0, I2 m0 0 (List.replicate 12 (0 : Int))) ∧ ∀ m2 v f, I2 m2 v f → 
((v < 12 →
((0 ≤ v ∧ v < 12) ∧
(In64 (v + 1) ∧
∃ m3, m3 < m2 ∧ I2 m3 (v + 1) (f.set v.toNat v)))) ∧
(¬ (v < 12) →
pf_graph_singles g g2 ((∃ Pr Rr : List E3 → Prop, pf_graph_singles_1 g g2 Pr Rr ∧
(∃ I3 : List E3 → (List Int) → Int → Prop, I3 [] f 0 ∧
(∀ pre y y2 y3 f2 genus, I3 pre f2 genus → Pr (pre ++ [(y, y2, y3)]) →
pf_graph_forest_root f2 y2 (fun r2 =>
pf_graph_forest_root f2 y3 (fun r3 =>
(∃ J2 : Int → Prop, (∀ (genus2 : Int), J2 genus2 → ((0 ≤ (mxF r2 r3) ∧ (mxF r2 r3) < 12) ∧
I3 (pre ++ [(y, y2, y3)]) (f2.set (mxF r2 r3).toNat (mnF r2 r3)) genus2)) ∧
((r2 = r3 →
(In64 (genus + 1) ∧
J2 (genus + 1))) ∧
(¬ (r2 = r3) →
J2 genus)))))) ∧
(∀ ys f2 genus, I3 ys f2 genus → Rr ys →
R genus 0)))))))) ∧
(¬ (r = 0) →
R 0 r)))
theorem pok_graph_Genus {O : Nat → Prop} {w : World} {g g2 Ag lg cg} {R : Int → Int → Prop} (h : pf_graph_Genus g g2 R) (hO : ∀ k, O k → k < w.heap.size) (hA0 : (FP.sl c3 Ag lg cg g2).P O w) :
    Calls Try.prog 86 #[(.agg #[(.int .i64 g), (.slice Ag lg cg)])] w fun e w' => ∃ r4 r5, e = .returned (.tuple #[(.int .i64 r4), (.int .i64 r5)]) ∧ Sep w no O w' (rl []) ∧ R r4 r5 := by
  unfold pf_graph_Genus at h; have hS : Sep w no O w (rl [Res.ro (FP.sl c3 Ag lg cg g2)]) := Sep.startl hO [(FP.sl c3 Ag lg cg g2)] ⟨hA0, trivial⟩; refine calls_shm (l := [(.agg #[(.int .i64 g), (.slice Ag lg cg)])]) Try.func86 rfl Try.ntmps86 (Nat.le_of_ble_eq_true rfl) (wt_seq (wl_region wd_wide (zn (n_box (v := (.agg #[(.int .i64 g), (.slice Ag lg cg)])) rfl ?_)))); intro g3 w2 hN; replace hS : Sep w no O w2 (stl _ 1 (Res.box 24 g3 [(.int .i64 g), (.slice Ag lg cg)])) := hS.new 1 rfl hN; clear hN; refine ⟨Stb.none _, zq (za (.int .i64 0)) (zq (za (.int .i64 0)) (rl_end (wt_seq (wt_seq (wl_region wd_wide (zq (v_loadn (vs := [(.int .i64 g), (.slice Ag lg cg)]) rfl Try.underlying24 rfl info_24 ⟨Row.cell (hS.bx 1 rfl) (i := 0) rfl, Row.cell (hS.bx 1 rfl) (i := 1) rfl, trivial⟩) (zn (n_call0 rfl (am1 rfl) enter_100 ((pok_graph_Check h (no_lt _) (hS.rdr 0 rfl)).mono ?_)))))))))⟩; rintro _ w3 ⟨r, rfl, hC, h⟩; replace hS := hS.pur hC.pure; clear hC; refine ⟨_, rfl, ?_⟩; refine ⟨Stb.none _, zq (za (.int .i64 r)) (rl_end (wt_seq (wl_region wd_wide (zq (zm (.int .i64 r)) (zq (v_neq rfl rfl) (rl_end ?_))))))⟩
  by_cases hp : r = 0
  · replace h := h.1 hp; refine ze hp (wt_skip (wt_seq (wl_region wd_wide (zn (n_alloc info_162 ?_))))); intro g4 w4 hN; replace hS := hS.made (n := 12) 2 rfl cI (.int .i64 0) (0 : Int) (fun _ _ => rfl) (hN : New _ _ _ (Array.replicate 12 (.int .i64 0)) 162) (by decide); clear hN; refine ⟨Stb.none _, rl_end (wt_seq (wt_seq (wl_region wd_wide (zq (zm (.int .i64 0)) (rl_end (wt_block ?_))))))⟩; obtain ⟨I2, ⟨m0, h0⟩, hr⟩ := h; refine wt_loop (fun m E ds w' => ∃ v f, I2 m v f ∧ ds = [] ∧ E 1 = (Value.pointer (some (⟨g3, 0, none⟩ : Addr))) ∧ E 5 = (Value.pointer (some (⟨g4, 0, none⟩ : Addr))) ∧ E 17 = (Value.int .i64 v) ∧ Sep w no O w' (rl [Res.box 24 g3 [(.int .i64 g), (.slice Ag lg cg)], Res.ro (FP.sl c3 Ag lg cg g2), Res.own cI 162 (some ⟨g4, 0, none⟩) 12 12 f])) m0 ⟨_, _, h0, rfl, rfl, rfl, rfl, (hS.sel [1, 0, 2] (by decide))⟩ ?_; clear h0 hS; rintro m2 E ds w5 ⟨v, f, h, rfl, hE1, hE5, hE17, hS⟩ again; replace h := hr m2 v f h; clear hr; refine wt_seq (wl_region wd_wide (zq (v_lss hE17 rfl) (rl_end (wt_seq ?_)))); by_cases hp2 : v < 12
    · replace h := h.1 hp2; refine zc hp2 (wt_skip (wt_seq (wt_block (wt_seq (wl_region wd_wide (zq (v_move hE17) (zq (za (.int .i64 v)) (rl_end (wl_region wd_wide (zq (zm (.int .i64 v)) (zq (zm (.int .i64 v)) ?_))))))))))); obtain ⟨hx, h⟩ := h; have hy := arr_ix (hS.rdo 2 rfl) hx; refine zq (v_iaddrA hE5 rfl Try.underlying162 info_3 hx) (zo (zt (.int .i64 v) info_3 (hS.wr 2 rfl rfl hy) ?_)); intro w6 e1; replace hS := hS.st 2 rfl rfl hy (x := v) rfl e1; clear e1; refine ⟨Stb.none _, rl_end (wt_inBlock (wl_region wd_wide ?_))⟩; obtain ⟨hi, h⟩ := h; refine zq (v_add hE17 rfl hi) (zq (zm (.int .i64 (v + 1))) (rl_end ?_)); obtain ⟨mq, hlt, h⟩ := h; exact again mq _ _ _ ⟨_, _, h, rfl, hE1, hE5, rfl, (hS.sel [0, 1, 2] (by decide))⟩ hlt
    · replace h := h.2 hp2; refine zd hp2 (wt_exit rfl (wt_seq (wl_region wd_wide (zn (n_alloc info_3 ?_))))); intro g5 w7 hN; replace hS : Sep w no O w7 (stl _ 3 (Res.box 3 g5 [(.int .i64 0)])) := hS.new 3 rfl hN; clear hN; refine ⟨Stb.none _, zo (zt (.int .i64 0) info_3 (hS.bwr 3 rfl (j := 0) rfl) ?_)⟩; intro w8 e1; replace hS := hS.bst 3 rfl 0 (.int .i64 0) e1; clear e1; refine ⟨Stb.none _, rl_end (wt_seq (wt_seq (wl_region wd_wide (zq (v_loadn (vs := [(.int .i64 g), (.slice Ag lg cg)]) hE1 Try.underlying24 rfl info_24 ⟨Row.cell (hS.bx 0 rfl) (i := 0) rfl, Row.cell (hS.bx 0 rfl) (i := 1) rfl, trivial⟩) (zn (n_call0 rfl (am1 rfl) enter_124 ((pok_graph_singles h hS.blt (hS.ro 1 rfl)).mono ?_)))))))⟩; rintro _ w9 ⟨gc, rfl, hC, h⟩; replace hS := hS.call1 hC 4 0 rfl; clear hC; refine ⟨_, rfl, ?_⟩; refine ⟨Stb.none _, rl_end (wt_block ?_)⟩; obtain ⟨Pr, Rr, hgp, I3, h0, hb, h⟩ := h
      refine wt_iterS hS [2, 3] [4, 1] (by decide) (by decide) ⟨.inl (by decide), .inr rfl, trivial⟩ rfl enter_157 (val := (fun (x : E3) => #[(.int .i64 x.1), (.agg #[(.int .i64 x.2.1), (.int .i64 x.2.2)])])) (pass := (fun _ => FP.tt)) (Pr := Pr) (R := Rr) (fun _ => rfl) rfl (fun pr LL => ∃ f2 genus, I3 pr f2 genus ∧ LL = [Res.own cI 162 (some ⟨g4, 0, none⟩) 12 12 f2, Res.box 3 g5 [(.int .i64 genus)]]) (fun _ _ _ => False) ⟨_, _, h0, rfl⟩ (fun T G hG => pok_graph_singles_1 hgp hG) ?_ ?_ (fun _ _ _ _ _ hx => hx.elim)
      · clear h h0 hS hgp; rintro ll rdy busy S O2 pre ⟨y, y2, y3⟩ w10 _ ⟨f2, genus, hI, rfl⟩ hPr hpass hS; have h := hb pre y y2 y3 f2 genus hI hPr; clear hb hI hPr; clear hpass; refine wl_region (wd_round ll) (zn (n_alloc info_167 ?_)); intro g6 w12 hN; replace hS : Sep w10 S O2 w12 (stl _ 3 (Res.box 167 g6 [(.int .i64 0), (.int .i64 0)])) := hS.new 3 rfl hN; clear hN; refine ⟨Stb.none _, zo (n_storen (b := g6) (o := 0) (cells := #[(.int .i64 y2), (.int .i64 y3)]) rfl rfl info_167 rfl rfl (there_row (hS.bx 3 rfl) (Nat.le_of_ble_eq_true rfl)) ?_)⟩; intro w13 e1; replace hS := hS.bstn 3 rfl 0 [(.int .i64 y2), (.int .i64 y3)] e1; clear e1; refine ⟨Stb.none _, rl_end (wt_nil fun a ra => ⟨rfl, _, _, ra, hS, ⟨2, rfl⟩, ?_⟩)⟩; intro w14 hw; replace hS := hS.flip 2 rfl busy hw; clear hw ra a; refine wt_block (wt_seq (wp_draw [0, 1, 3, 4, 2, 5, 6, 7] (fun i => match i with | 2 => [3, 4] | _ => []) (wd_round ll) (by kernel_rfl) (by kernel_rfl) ?_)); replace hS := hS.drew; refine rp_q rfl rfl rfl (v_faddr rfl Try.underlying167 rfl info_3) (rp_q rfl rfl rfl (v_load rfl Try.underlying3 rfl (Row.cell (hS.bx 3 rfl) (i := 0) rfl)) (rp_q rfl rfl rfl (v_faddr rfl Try.underlying167 rfl info_3) (rp_q rfl rfl rfl (v_load rfl Try.underlying3 rfl (Row.cell (hS.bx 3 rfl) (i := 1) rfl)) ?_)))
        have hB := hS.lend (asc [(0, 0)]) [0] (by decide) ⟨.inl (ne_none rfl), trivial⟩; refine rp_n rfl rfl rfl rfl (n_call (vs := #[(.pointer (some (⟨g4, 0, none⟩ : Addr))), (.int .i64 y2)]) (us := #[]) rfl (am2 hE5 rfl) enter_125 ((cast_calls (by simp) (pok_graph_forest_root h hB)).mono ?_)); rintro _ w15 ⟨r2, rfl, hC, h⟩; replace hS := hS.back (asc [(0, 0)]) (asc_inj (by decide)) hC; clear hC hB; refine ⟨_, rfl, ?_⟩; refine ⟨⟨fun _ => (v_load rfl Try.underlying3 rfl (Row.cell (hS.bx 3 rfl) (i := 1) rfl)), ⟨fun _ => (v_faddr rfl Try.underlying167 rfl info_3), ⟨fun hh => Bool.noConfusion (show false = true from hh), ⟨fun hh => Bool.noConfusion (show false = true from hh), trivial⟩⟩⟩⟩, ?_⟩; have hB := hS.lend (asc [(0, 0)]) [0] (by decide) ⟨.inl (ne_none rfl), trivial⟩; refine rp_n rfl rfl rfl rfl (n_call (vs := #[(.pointer (some (⟨g4, 0, none⟩ : Addr))), (.int .i64 y3)]) (us := #[]) rfl (am2 hE5 rfl) enter_125 ((cast_calls (by simp) (pok_graph_forest_root h hB)).mono ?_)); rintro _ w16 ⟨r3, rfl, hC, h⟩; replace hS := hS.back (asc [(0, 0)]) (asc_inj (by decide)) hC; clear hC hB; refine ⟨_, rfl, ?_⟩; refine ⟨Stb.none _, rp_q rfl rfl rfl (za (.int .i64 r2)) (rp_q rfl rfl rfl (za (.int .i64 r3)) (rp_end (wt_seq (wt_seq (wl_region (wd_round ll) (zq (zm (.int .i64 r2)) (zq (zm (.int .i64 r3)) ?_)))))))⟩
        refine zq (v_eql rfl rfl) (rl_end ?_); obtain ⟨J2, hJ, h⟩ := h; refine wt_cutT0 (fun E ds w' => ∃ genus2, J2 genus2 ∧ ds = [] ∧ E 5 = (Value.pointer (some (⟨g4, 0, none⟩ : Addr))) ∧ E 7 = (Value.pointer (some (⟨g5, 0, none⟩ : Addr))) ∧ E 10 = (Value.int .i64 r2) ∧ E 11 = (Value.int .i64 r3) ∧ Sep w10 S O2 w' (rl [Res.obj ll busy, Res.own cI 162 (some ⟨g4, 0, none⟩) 12 12 f2, Res.box 3 g5 [(.int .i64 genus2)]])) ?_ ?_
        · clear h hS; rintro E ds w17 ⟨genus2, h, rfl, hE5, hE7, hE10, hE11, hS⟩; replace h := hJ genus2 h; refine wl_region (wd_round ll) (zq (v_move hE10) (zq (v_move hE11) (zq (v_max2 rfl rfl) (zq (v_move hE10) (zq (v_move hE11) (zq (v_min2 rfl rfl) ?_)))))); obtain ⟨hx2, h⟩ := h; have hy2 := arr_ix (hS.rdo 1 rfl) hx2; refine zq (v_iaddrA hE5 rfl Try.underlying162 info_3 hx2) (zo (zt (.int .i64 (mnF r2 r3)) info_3 (hS.wr 1 rfl rfl hy2) ?_)); intro w18 e1; replace hS := hS.st 1 rfl rfl hy2 (x := mnF r2 r3) rfl e1; clear e1; exact ⟨Stb.none _, rl_end (wt_inBlock (wt_nil fun a r => ⟨_, ⟨_, _, h, rfl⟩, (hS.sel [1, 2, 0] (by decide))⟩))⟩
        clear hJ; intro j; by_cases hp3 : r2 = r3
        · replace h := h.1 hp3; refine zc hp3 (wl_region (wd_round ll) (zq (v_load rfl Try.underlying3 rfl (Row.cell (hS.bx 1 rfl) (i := 0) rfl)) ?_)); obtain ⟨hi2, h⟩ := h; refine zq (v_add rfl rfl hi2) (zo (zt (.int .i64 (genus + 1)) info_3 (hS.bwr 1 rfl (j := 0) rfl) ?_)); intro w19 e1; replace hS := hS.bst 1 rfl 0 (.int .i64 (genus + 1)) e1; clear e1; exact ⟨Stb.none _, rl_end (j _ _ _ ⟨_, h, rfl, hE5, rfl, rfl, rfl, (hS.sel [2, 0, 1] (by decide))⟩)⟩
        · replace h := h.2 hp3; exact zd hp3 (wt_skip (j _ _ _ ⟨_, h, rfl, hE5, rfl, rfl, rfl, (hS.sel [2, 0, 1] (by decide))⟩))
      · clear hb h0 hS hgp; rintro D ys w11 _ hRr ⟨f2, genus, hI, rfl⟩ hS; replace h := h ys f2 genus hI hRr; clear hI hRr; exact wt_inBlock (wt_seq (wl_region wd_wide (zq (v_load rfl Try.underlying3 rfl (Row.cell (hS.bx 1 rfl) (i := 0) rfl)) (zq (za (.int .i64 genus)) (zq (za (.int .i64 0)) (rl_end (wt_retk2 (rs := [D]) (by simp) (hS.marked 2 rfl) rfl rfl rfl (fun w9 hk => ⟨_, _, rfl, (hS.unmark [2] [] (by decide) (by decide) (unmark1 2 rfl) hk), h⟩))))))))
  · replace h := h.2 hp; exact zf hp (wt_seq (wl_region wd_wide (zq (zm (.int .i64 r)) (zq (za (.int .i64 0)) (zq (za (.int .i64 r)) (rl_end (wt_retk2 (rs := []) (by simp) (by simp) rfl rfl rfl (fun w9 hk => ⟨_, _, rfl, (hS.unmark [] [] (by decide) (by decide) (by simp) hk), h⟩))))))))

/-- sandpile/chips.step: what it computes. -/
def pf_chips_step (d : List Int) (R : Bool → (List Int) → Prop) : Prop :=
(In64 (((d.length : Nat) : Int) - 1) ∧
(∃ I2 : Nat → Int → Prop, (∃ m0, I2 m0 (((d.length : Nat) : Int) - 1)) ∧ ∀ m2 j, I2 m2 j → 
((0 < j →
((0 ≤ j ∧ j < ((d.length : Nat) : Int)) ∧
(((gi d j.toNat) = 0 →
(In64 (j - 1) ∧
∃ m3, m3 < m2 ∧ I2 m3 (j - 1))) ∧
(¬ ((gi d j.toNat) = 0) →
((j = 0 →
R false d) ∧
(¬ (j = 0) →
(In64 ((gi d j.toNat) - 1) ∧
(In64 (j - 1) ∧
((0 ≤ (j - 1) ∧ (j - 1) < (((d.set j.toNat 0).length : Nat) : Int)) ∧
(In64 ((gi (d.set j.toNat 0) (j - 1).toNat) + 1) ∧
((0 ≤ (((d.length : Nat) : Int) - 1) ∧ (((d.length : Nat) : Int) - 1) < ((((d.set j.toNat 0).set (j - 1).toNat ((gi (d.set j.toNat 0) (j - 1).toNat) + 1)).length : Nat) : Int)) ∧
R true (((d.set j.toNat 0).set (j - 1).toNat ((gi (d.set j.toNat 0) (j - 1).toNat) + 1)).set (((d.length : Nat) : Int) - 1).toNat ((gi d j.toNat) - 1))))))))))))) ∧
(¬ (0 < j) →
((j = 0 →
R false d) ∧
(¬ (j = 0) →
((0 ≤ j ∧ j < ((d.length : Nat) : Int)) ∧
(In64 ((gi d j.toNat) - 1) ∧
(In64 (j - 1) ∧
((0 ≤ (j - 1) ∧ (j - 1) < (((d.set j.toNat 0).length : Nat) : Int)) ∧
(In64 ((gi (d.set j.toNat 0) (j - 1).toNat) + 1) ∧
((0 ≤ (((d.length : Nat) : Int) - 1) ∧ (((d.length : Nat) : Int) - 1) < ((((d.set j.toNat 0).set (j - 1).toNat ((gi (d.set j.toNat 0) (j - 1).toNat) + 1)).length : Nat) : Int)) ∧
R true (((d.set j.toNat 0).set (j - 1).toNat ((gi (d.set j.toNat 0) (j - 1).toNat) + 1)).set (((d.length : Nat) : Int) - 1).toNat ((gi d j.toNat) - 1))))))))))))))
theorem pok_chips_step {S O : Nat → Prop} {w : World} {d Ad ld cd} {R : Bool → (List Int) → Prop} (h : pf_chips_step d R) (hS : Sep w S O w (rl [Res.own cI 3 Ad ld cd d])) :
    Calls Try.prog 126 #[(.slice Ad ld cd)] w fun e w' => ∃ r z, e = .returned (.bool (r)) ∧ Sep w S O w' (rl [Res.own cI 3 Ad ld cd z]) ∧ R r z := by
  unfold pf_chips_step at h; refine calls_sh (l := [(.slice Ad ld cd)]) Try.func126 rfl Try.ntmps126 (Nat.le_of_ble_eq_true rfl) (wt_seq (wl_region wd_wide (zq (za (.bool (false))) (rl_end (wt_seq (wl_region wd_wide (zq (zm (.slice Ad ld cd)) (zq (v_lenx (n := d.length) rfl Try.underlying26 (rd_len (hS.rdo 0 rfl))) ?_)))))))); obtain ⟨hi, h⟩ := h; refine zq (v_sub rfl rfl hi) (zq (za (.int .i64 (((d.length : Nat) : Int) - 1))) (rl_end (wt_seq (wl_region wd_wide (zq (zm (.int .i64 (((d.length : Nat) : Int) - 1))) (zq (za (.int .i64 (((d.length : Nat) : Int) - 1))) (rl_end (wt_seq (wt_block ?_))))))))); obtain ⟨I2, ⟨m0, h0⟩, hr⟩ := h; refine wt_loop (fun m E ds w' => ∃ j, I2 m j ∧ ds = [] ∧ E 0 = (Value.slice Ad ld cd) ∧ E 3 = (Value.int .i64 (((d.length : Nat) : Int) - 1)) ∧ E 4 = (Value.int .i64 j) ∧ Sep w S O w' (rl [Res.own cI 3 Ad ld cd d])) m0 ⟨_, h0, rfl, rfl, rfl, rfl, (hS.sel [0] (by decide))⟩ ?_; clear h0 hS; rintro m2 E ds w2 ⟨j, h, rfl, hE0, hE3, hE4, hS⟩ again; replace h := hr m2 j h; clear hr; refine wt_seq (wt_seq (wl_region wd_wide (zq (v_move hE4) ?_)))
  refine zq (v_gtr rfl rfl) (zq (zm (.bool (decide (0 < j)))) ?_); by_cases hp : 0 < j
  · replace h := h.1 hp; refine rl_q (wanted_g rfl (yE_of rfl (congrArg Value.bool (decide_eq_true hp)))) rfl rfl (v_move hE0) (rl_q (wanted_g rfl (yE_of rfl (congrArg Value.bool (decide_eq_true hp)))) rfl rfl (v_move hE4) ?_); obtain ⟨hx, h⟩ := h; refine rl_q (wanted_g rfl (yE_of rfl (congrArg Value.bool (decide_eq_true hp)))) rfl rfl (v_iaddr rfl rfl Try.underlying26 info_3 (rd_ix (hS.rdo 0 rfl) hx)) (rl_q (wanted_g rfl (yE_of rfl (congrArg Value.bool (decide_eq_true hp)))) rfl rfl (v_load (v := (.int .i64 (gi d j.toNat))) rfl Try.underlying3 rfl (rd_1 (hS.rdo 0 rfl) hx (fun q => gi_some q) rfl)) ?_); refine rl_q (wanted_g rfl (yE_of rfl (congrArg Value.bool (decide_eq_true hp)))) rfl rfl (v_eql rfl rfl) (zq (v_pick_t (v := (.bool (decide ((gi d j.toNat) = 0)))) (congrArg Value.bool (decide_eq_true hp)) rfl) (rl_end ?_)); by_cases hp2 : (gi d j.toNat) = 0
    · replace h := h.1 hp2; refine zc hp2 (wt_skip (wt_block (wl_region wd_wide (zq (v_move hE4) ?_)))); obtain ⟨hi2, h⟩ := h; refine zq (v_sub rfl rfl hi2) (zq (za (.int .i64 (j - 1))) (rl_end (wt_inBlock ?_))); obtain ⟨mq, hlt, h⟩ := h; exact again mq _ _ _ ⟨_, h, rfl, hE0, hE3, rfl, (hS.sel [0] (by decide))⟩ hlt
    · replace h := h.2 hp2; refine zd hp2 (wt_exit rfl (wt_seq (wt_seq (wl_region wd_wide (zq (v_move hE4) (zq (v_eql rfl rfl) (rl_end ?_))))))); by_cases hp3 : j = 0
      · replace h := h.1 hp3; exact zc hp3 (wt_seq (wl_region wd_wide (zq (za (.bool (false))) (rl_end (wt_ret1 rfl rfl ⟨_, _, rfl, (hS.sel [0] (by decide)), h⟩)))))
      · replace h := h.2 hp3; refine zd hp3 (wt_skip (wt_seq (wl_region wd_wide (zq (v_move hE0) (zq (v_move hE4) (zq (v_iaddr rfl rfl Try.underlying26 info_3 (rd_ix (hS.rdo 0 rfl) hx)) (zq (v_load (v := (.int .i64 (gi d j.toNat))) rfl Try.underlying3 rfl (rd_1 (hS.rdo 0 rfl) hx (fun q => gi_some q) rfl)) ?_))))))); obtain ⟨hi3, h⟩ := h; refine zq (v_sub rfl rfl hi3) (zq (za (.int .i64 ((gi d j.toNat) - 1))) (rl_end (wt_seq (wl_region wd_wide (zq (v_move hE0) (zq (v_move hE4) (zq (v_iaddr rfl rfl Try.underlying26 info_3 (rd_ix (hS.rdo 0 rfl) hx)) (zo (zt (.int .i64 0) info_3 (hS.wr 0 rfl rfl hx) ?_))))))))); intro w3 e1; replace hS := hS.st 0 rfl rfl hx (x := 0) rfl e1; clear e1; refine ⟨Stb.none _, rl_end (wt_seq (wl_region wd_wide (zq (v_move hE0) (zq (v_move hE4) ?_))))⟩; obtain ⟨hi4, h⟩ := h; refine zq (v_sub rfl rfl hi4) ?_; obtain ⟨hx2, h⟩ := h
        refine zq (v_iaddr rfl rfl Try.underlying26 info_3 (rd_ix (hS.rdo 0 rfl) hx2)) (zq (v_load (v := (.int .i64 (gi (d.set j.toNat 0) (j - 1).toNat))) rfl Try.underlying3 rfl (rd_1 (hS.rdo 0 rfl) hx2 (fun q => gi_some q) rfl)) ?_); obtain ⟨hi5, h⟩ := h; refine zq (v_add rfl rfl hi5) (zq (v_iaddr rfl rfl Try.underlying26 info_3 (rd_ix (hS.rdo 0 rfl) hx2)) (zo (zt (.int .i64 ((gi (d.set j.toNat 0) (j - 1).toNat) + 1)) info_3 (hS.wr 0 rfl rfl hx2) ?_))); intro w4 e1; replace hS := hS.st 0 rfl rfl hx2 (x := (gi (d.set j.toNat 0) (j - 1).toNat) + 1) rfl e1; clear e1; refine ⟨Stb.none _, rl_end (wt_seq (wl_region wd_wide (zq (v_move hE0) (zq (v_move (v := (.int .i64 (((d.length : Nat) : Int) - 1))) hE3) (zq (zm (.int .i64 ((gi d j.toNat) - 1))) ?_)))))⟩; obtain ⟨hx3, h⟩ := h; refine zq (v_iaddr rfl rfl Try.underlying26 info_3 (rd_ix (hS.rdo 0 rfl) hx3)) (zo (zt (.int .i64 ((gi d j.toNat) - 1)) info_3 (hS.wr 0 rfl rfl hx3) ?_)); intro w5 e1; replace hS := hS.st 0 rfl rfl hx3 (x := (gi d j.toNat) - 1) rfl e1; clear e1; refine ⟨Stb.none _, rl_end (wt_seq (wl_region wd_wide ?_))⟩
        exact zq (za (.bool (true))) (rl_end (wt_ret1 rfl rfl ⟨_, _, rfl, (hS.sel [0] (by decide)), h⟩))
  · replace h := h.2 hp; refine rl_p (wanted_n rfl (yE_of rfl (congrArg Value.bool (decide_eq_false hp))) rfl) rfl (rl_p (wanted_n rfl (yE_of rfl (congrArg Value.bool (decide_eq_false hp))) rfl) rfl (rl_p (wanted_n rfl (yE_of rfl (congrArg Value.bool (decide_eq_false hp))) rfl) rfl (rl_p (wanted_n rfl (yE_of rfl (congrArg Value.bool (decide_eq_false hp))) rfl) rfl (rl_p (wanted_n rfl (yE_of rfl (congrArg Value.bool (decide_eq_false hp))) rfl) rfl (zq (v_pick_f (v := (.bool (false))) (congrArg Value.bool (decide_eq_false hp)) rfl) (rl_end (wt_cond_f rfl (wt_exit rfl (wt_seq (wt_seq (wl_region wd_wide (zq (v_move hE4) (zq (v_eql rfl rfl) (rl_end ?_)))))))))))))); by_cases hp4 : j = 0
    · replace h := h.1 hp4; exact zc hp4 (wt_seq (wl_region wd_wide (zq (za (.bool (false))) (rl_end (wt_ret1 rfl rfl ⟨_, _, rfl, (hS.sel [0] (by decide)), h⟩)))))
    · replace h := h.2 hp4; refine zd hp4 (wt_skip (wt_seq (wl_region wd_wide (zq (v_move hE0) (zq (v_move hE4) ?_))))); obtain ⟨hx4, h⟩ := h; refine zq (v_iaddr rfl rfl Try.underlying26 info_3 (rd_ix (hS.rdo 0 rfl) hx4)) (zq (v_load (v := (.int .i64 (gi d j.toNat))) rfl Try.underlying3 rfl (rd_1 (hS.rdo 0 rfl) hx4 (fun q => gi_some q) rfl)) ?_); obtain ⟨hi6, h⟩ := h; refine zq (v_sub rfl rfl hi6) (zq (za (.int .i64 ((gi d j.toNat) - 1))) (rl_end (wt_seq (wl_region wd_wide (zq (v_move hE0) (zq (v_move hE4) (zq (v_iaddr rfl rfl Try.underlying26 info_3 (rd_ix (hS.rdo 0 rfl) hx4)) (zo (zt (.int .i64 0) info_3 (hS.wr 0 rfl rfl hx4) ?_))))))))); intro w6 e1; replace hS := hS.st 0 rfl rfl hx4 (x := 0) rfl e1; clear e1; refine ⟨Stb.none _, rl_end (wt_seq (wl_region wd_wide (zq (v_move hE0) (zq (v_move hE4) ?_))))⟩; obtain ⟨hi7, h⟩ := h; refine zq (v_sub rfl rfl hi7) ?_; obtain ⟨hx5, h⟩ := h
      refine zq (v_iaddr rfl rfl Try.underlying26 info_3 (rd_ix (hS.rdo 0 rfl) hx5)) (zq (v_load (v := (.int .i64 (gi (d.set j.toNat 0) (j - 1).toNat))) rfl Try.underlying3 rfl (rd_1 (hS.rdo 0 rfl) hx5 (fun q => gi_some q) rfl)) ?_); obtain ⟨hi8, h⟩ := h; refine zq (v_add rfl rfl hi8) (zq (v_iaddr rfl rfl Try.underlying26 info_3 (rd_ix (hS.rdo 0 rfl) hx5)) (zo (zt (.int .i64 ((gi (d.set j.toNat 0) (j - 1).toNat) + 1)) info_3 (hS.wr 0 rfl rfl hx5) ?_))); intro w7 e1; replace hS := hS.st 0 rfl rfl hx5 (x := (gi (d.set j.toNat 0) (j - 1).toNat) + 1) rfl e1; clear e1; refine ⟨Stb.none _, rl_end (wt_seq (wl_region wd_wide (zq (v_move hE0) (zq (v_move (v := (.int .i64 (((d.length : Nat) : Int) - 1))) hE3) (zq (zm (.int .i64 ((gi d j.toNat) - 1))) ?_)))))⟩; obtain ⟨hx6, h⟩ := h; refine zq (v_iaddr rfl rfl Try.underlying26 info_3 (rd_ix (hS.rdo 0 rfl) hx6)) (zo (zt (.int .i64 ((gi d j.toNat) - 1)) info_3 (hS.wr 0 rfl rfl hx6) ?_)); intro w8 e1; replace hS := hS.st 0 rfl rfl hx6 (x := (gi d j.toNat) - 1) rfl e1; clear e1; refine ⟨Stb.none _, rl_end (wt_seq (wl_region wd_wide ?_))⟩
      exact zq (za (.bool (true))) (rl_end (wt_ret1 rfl rfl ⟨_, _, rfl, (hS.sel [0] (by decide)), h⟩))

/-- sandpile/chips.Next: what it computes. -/
def pf_chips_Next (d : List Int) (R : (List Int) → Bool → Int → Prop) : Prop :=
pf_chips_Degree d (fun r r2 =>
((r2 = 0 →
pf_slices_Min_Divisor d (fun r3 =>
((r3 < 0 →
R ([]) false 15) ∧
(¬ (r3 < 0) →
((1048576 < r →
R ([]) false 11) ∧
(¬ (1048576 < r) →
pf_slices_Clone_Divisor d (fun r4 =>
pf_chips_step r4 (fun r5 y =>
((r5 = true →
R y true 0) ∧
(¬ (r5 = true) →
R ([]) false 0)))))))))) ∧
(¬ (r2 = 0) →
R ([]) false r2)))
theorem pok_chips_Next {O : Nat → Prop} {w : World} {d Ad ld cd} {R : (List Int) → Bool → Int → Prop} (h : pf_chips_Next d R) (hO : ∀ k, O k → k < w.heap.size) (hA0 : (FP.sl cI Ad ld cd d).P O w) :
    Calls Try.prog 89 #[(.slice Ad ld cd)] w fun e w' => ∃ r6 r7 r8 Ar2 lr2 cr2, e = .returned (.tuple #[(.slice Ar2 lr2 cr2), (.bool (r7)), (.int .i64 r8)]) ∧ Sep w no O w' (rl [Res.own cI 3 Ar2 lr2 cr2 r6]) ∧ R r6 r7 r8 := by
  unfold pf_chips_Next at h; have hS : Sep w no O w (rl [Res.ro (FP.sl cI Ad ld cd d)]) := Sep.startl hO [(FP.sl cI Ad ld cd d)] ⟨hA0, trivial⟩; refine calls_sh (l := [(.slice Ad ld cd)]) Try.func89 rfl Try.ntmps89 (Nat.le_of_ble_eq_true rfl) (wt_seq (wl_region wd_wide (zq (za (.slice none 0 0)) (zq (za (.bool (false))) (zq (za (.int .i64 0)) (rl_end (wt_seq (wl_region wd_wide (zq (zm (.slice Ad ld cd)) (zn (n_call0 rfl (am1 rfl) enter_87 ((pok_chips_Degree h (no_lt _) (hS.rdr 0 rfl)).mono ?_)))))))))))); rintro _ w2 ⟨r, r2, rfl, hC, h⟩; replace hS := hS.pur hC.pure; clear hC; refine ⟨_, rfl, ?_⟩; refine ⟨Stb.none _, zq (zm (.tuple #[(.int .i64 r), (.int .i64 r2)])) (zq (zx (.int .i64 r)) (zq (zx (.int .i64 r2)) (zq (za (.int .i64 r)) (zq (za (.int .i64 r2)) (rl_end (wt_seq (wt_block (wt_seq (wl_region wd_wide (zq (zm (.int .i64 r2)) (zq (v_neq rfl rfl) ?_)))))))))))⟩
  refine zq (za (.bool (!(decide (r2 = 0))))) (rl_end ?_); by_cases hp : r2 = 0
  · replace h := h.1 hp; refine ze hp (wt_seq (wl_region wd_wide (zq (zm (.slice Ad ld cd)) (zn (n_call0 rfl (am1 rfl) enter_58 ((pok_slices_Min_Divisor h (no_lt _) (hS.rdr 0 rfl)).mono ?_)))))); rintro _ w3 ⟨r3, rfl, hC, h⟩; replace hS := hS.pur hC.pure; clear hC; refine ⟨_, rfl, ?_⟩; refine ⟨Stb.none _, zq (v_lss rfl rfl) (zq (za (.bool (decide (r3 < 0)))) (rl_end ?_))⟩; by_cases hp2 : r3 < 0
    · replace h := h.1 hp2; refine zc hp2 (wt_seq (wl_region wd_wide (zq (za (.slice none 0 0)) (zq (za (.bool (false))) (zq (za (.int .i64 15)) (rl_end ?_)))))); replace hS := hS.nil 1 rfl cI 3; exact wt_ret3 rfl rfl rfl rfl ⟨_, _, _, _, _, _, rfl, (hS.sel [1] (by decide)), h⟩
    · replace h := h.2 hp2; refine zd hp2 (wt_seq (wl_region wd_wide (zq (zm (.int .i64 r)) (zq (v_gtr rfl rfl) (zq (za (.bool (decide (1048576 < r)))) (rl_end ?_)))))); by_cases hp3 : 1048576 < r
      · replace h := h.1 hp3; refine zc hp3 (wt_seq (wl_region wd_wide (zq (za (.slice none 0 0)) (zq (za (.bool (false))) (zq (za (.int .i64 11)) (rl_end ?_)))))); replace hS := hS.nil 1 rfl cI 3; exact wt_ret3 rfl rfl rfl rfl ⟨_, _, _, _, _, _, rfl, (hS.sel [1] (by decide)), h⟩
      · replace h := h.2 hp3; refine zd hp3 (wt_skip (wt_inBlock (wt_seq (wl_region wd_wide (zq (zm (.slice Ad ld cd)) (zn (n_call0 rfl (am1 rfl) enter_22 ((pok_slices_Clone_Divisor h (no_lt _) (hS.rdr 0 rfl)).mono ?_)))))))); rintro _ w4 ⟨r4, Ar, lr, cr, rfl, hC, h⟩; replace hS := hS.call1 (hC.widen (flatS (flat_own (fI .i64) _ _ _ _ _) flat0) hS.blt) 1 0 rfl; clear hC; refine ⟨_, rfl, ?_⟩; refine ⟨Stb.none _, zq (za (.slice Ar lr cr)) (rl_end (wt_seq (wt_seq (wl_region wd_wide (zq (zm (.slice Ar lr cr)) ?_)))))⟩; have hB := hS.lend (asc [(1, 0)]) [1] (by decide) ⟨.inl (ne_none rfl), trivial⟩; refine zn (n_call (vs := #[(.slice Ar lr cr)]) (us := #[]) rfl (am1 rfl) enter_126 ((cast_calls (by simp) (pok_chips_step h hB)).mono ?_)); rintro _ w5 ⟨r5, y, rfl, hC, h⟩; replace hS := hS.back (asc [(1, 0)]) (asc_inj (by decide)) hC; clear hC hB; refine ⟨_, rfl, ?_⟩; refine ⟨Stb.none _, zq (v_not rfl) (rl_end ?_)⟩; by_cases hp4 : r5 = true
        · replace h := h.1 hp4; exact wt_cond_f (congrArg Value.bool (congrArg Bool.not hp4)) (wt_skip (wt_seq (wl_region wd_wide (zq (zm (.slice Ar lr cr)) (zq (za (.slice Ar lr cr)) (zq (za (.bool (true))) (zq (za (.int .i64 0)) (rl_end (wt_ret3 rfl rfl rfl rfl ⟨_, _, _, _, _, _, rfl, (hS.sel [1] (by decide)), h⟩)))))))))
        · replace h := h.2 hp4; refine wt_cond_t (congrArg Value.bool (congrArg Bool.not (Bool.eq_false_iff.2 hp4))) (wt_seq (wl_region wd_wide (zq (za (.slice none 0 0)) (zq (za (.bool (false))) (zq (za (.int .i64 0)) (rl_end ?_)))))); replace hS := hS.nil 2 rfl cI 3; exact wt_ret3 rfl rfl rfl rfl ⟨_, _, _, _, _, _, rfl, (hS.sel [2] (by decide)), h⟩
  · replace h := h.2 hp; refine zf hp (wt_seq (wl_region wd_wide (zq (zm (.int .i64 r2)) (zq (za (.slice none 0 0)) (zq (za (.bool (false))) (zq (za (.int .i64 r2)) (rl_end ?_))))))); replace hS := hS.nil 1 rfl cI 3; exact wt_ret3 rfl rfl rfl rfl ⟨_, _, _, _, _, _, rfl, (hS.sel [1] (by decide)), h⟩

/-- sandpile/rank.given: what it computes. -/
def pf_rank_given (g : Int) (g2 : List E3) (l : List (List Int)) (R : Int → Prop) : Prop :=
pf_connect_Connected g g2 (fun r r2 =>
((r2 = 0 →
((r = true →
(∃ I2 : Nat → Int → Prop, (∃ m0, I2 m0 0) ∧ ∀ m2 v, I2 m2 v → 
((v < ((l.length : Nat) : Int) →
((0 ≤ v ∧ v < ((l.length : Nat) : Int)) ∧
pf_chips_Check (gx l v.toNat) g (fun r3 =>
((r3 = 0 →
(In64 (v + 1) ∧
∃ m3, m3 < m2 ∧ I2 m3 (v + 1))) ∧
(¬ (r3 = 0) →
R r3))))) ∧
(¬ (v < ((l.length : Nat) : Int)) →
R 0)))) ∧
(¬ (r = true) →
R 13))) ∧
(¬ (r2 = 0) →
R r2)))
theorem pok_rank_given {O : Nat → Prop} {w : World} {g g2 l Ag lg cg Al ll cl} {R : Int → Prop} (h : pf_rank_given g g2 l R) (hO : ∀ k, O k → k < w.heap.size) (hA0 : (FP.sl c3 Ag lg cg g2).P O w) (hA1 : (FP.sl (cL cI) Al ll cl l).P O w) :
    Calls Try.prog 44 #[(.agg #[(.int .i64 g), (.slice Ag lg cg)]), (.slice Al ll cl)] w fun e w' => ∃ r4, e = .returned (.int .i64 r4) ∧ Sep w no O w' (rl []) ∧ R r4 := by
  unfold pf_rank_given at h; have hS : Sep w no O w (rl [Res.ro (FP.sl c3 Ag lg cg g2), Res.ro (FP.sl (cL cI) Al ll cl l)]) := Sep.startl hO [(FP.sl c3 Ag lg cg g2), (FP.sl (cL cI) Al ll cl l)] ⟨hA0, hA1, trivial⟩; refine calls_sh (l := [(.agg #[(.int .i64 g), (.slice Ag lg cg)]), (.slice Al ll cl)]) Try.func44 rfl Try.ntmps44 (Nat.le_of_ble_eq_true rfl) (wt_seq (wl_region wd_wide (zn (n_box (v := (.agg #[(.int .i64 g), (.slice Ag lg cg)])) rfl ?_)))); intro g3 w2 hN; replace hS : Sep w no O w2 (stl _ 2 (Res.box 24 g3 [(.int .i64 g), (.slice Ag lg cg)])) := hS.new 2 rfl hN; clear hN; refine ⟨Stb.none _, zq (za (.int .i64 0)) (rl_end (wt_seq (wl_region wd_wide (zq (v_loadn (vs := [(.int .i64 g), (.slice Ag lg cg)]) rfl Try.underlying24 rfl info_24 ⟨Row.cell (hS.bx 2 rfl) (i := 0) rfl, Row.cell (hS.bx 2 rfl) (i := 1) rfl, trivial⟩) (zn (n_call0 rfl (am1 rfl) enter_84 ((pok_connect_Connected h (no_lt _) (hS.rdr 0 rfl)).mono ?_)))))))⟩; rintro _ w3 ⟨r, r2, rfl, hC, h⟩; replace hS := hS.pur hC.pure; clear hC; refine ⟨_, rfl, ?_⟩; refine ⟨Stb.none _, zq (zm (.tuple #[(.bool (r)), (.int .i64 r2)])) (zq (zx (.bool (r))) (zq (zx (.int .i64 r2)) ?_))⟩
  refine zq (za (.bool (r))) (zq (za (.int .i64 r2)) (rl_end (wt_seq (wt_seq (wl_region wd_wide (zq (zm (.int .i64 r2)) (zq (v_neq rfl rfl) (rl_end ?_)))))))); by_cases hp : r2 = 0
  · replace h := h.1 hp; refine ze hp (wt_skip (wt_seq (wt_seq (wl_region wd_wide (zq (zm (.bool (r))) (zq (v_not rfl) (rl_end ?_))))))); by_cases hp2 : r = true
    · replace h := h.1 hp2; refine wt_cond_f (congrArg Value.bool (congrArg Bool.not hp2)) (wt_skip (wt_seq (wt_seq (wl_region wd_wide (zq (zm (.slice Al ll cl)) (zq (v_lenx (n := l.length) rfl Try.underlying97 (rd_len (hS.rdr 1 rfl))) (zq (zm (.int .i64 0)) (rl_end (wt_block ?_))))))))); obtain ⟨I2, ⟨m0, h0⟩, hr⟩ := h; refine wt_loop (fun m E ds w' => ∃ v, I2 m v ∧ ds = [] ∧ E 2 = (Value.pointer (some (⟨g3, 0, none⟩ : Addr))) ∧ E 20 = (Value.slice Al ll cl) ∧ E 21 = (Value.int .i64 ((l.length : Nat) : Int)) ∧ E 22 = (Value.int .i64 v) ∧ Sep w no O w' (rl [Res.box 24 g3 [(.int .i64 g), (.slice Ag lg cg)], Res.ro (FP.sl c3 Ag lg cg g2), Res.ro (FP.sl (cL cI) Al ll cl l)])) m0 ⟨_, h0, rfl, rfl, rfl, rfl, rfl, (hS.sel [2, 0, 1] (by decide))⟩ ?_; clear h0 hS; rintro m2 E ds w4 ⟨v, h, rfl, hE2, hE20, hE21, hE22, hS⟩ again; replace h := hr m2 v h; clear hr; refine wt_seq (wl_region wd_wide (zq (v_lss hE22 hE21) (rl_end (wt_seq ?_)))); by_cases hp3 : v < ((l.length : Nat) : Int)
      · replace h := h.1 hp3; refine zc hp3 (wt_skip (wt_seq (wt_block (wt_seq (wl_region wd_wide ?_))))); obtain ⟨hx, h⟩ := h; refine zq (v_iaddr hE20 hE22 Try.underlying97 info_26 (rd_ix (hS.rdr 2 rfl) hx)) ?_; obtain ⟨A, l2, c, hc, hq⟩ := hS.el 2 rfl hx 3 4 rfl rfl (by decide); replace hS := hq; clear hq; refine zq (v_load (v := (.slice A l2 c)) rfl Try.underlying26 rfl (hS.clr 4 rfl)) (zq (za (.slice A l2 c)) (rl_end (wt_seq (wl_region wd_wide (zq (zm (.slice A l2 c)) (zq (v_faddr hE2 Try.underlying24 rfl info_3) (zq (v_load rfl Try.underlying3 rfl (Row.cell (hS.bx 0 rfl) (i := 0) rfl)) (zn (n_call0 rfl (am2 rfl rfl) enter_57 ((pok_chips_Check h (no_lt _) (hS.rdr 3 rfl)).mono ?_)))))))))); rintro _ w5 ⟨r3, rfl, hC, h⟩; replace hS := hS.pur hC.pure; clear hC; refine ⟨_, rfl, ?_⟩; refine ⟨Stb.none _, zq (za (.int .i64 r3)) (rl_end (wt_seq (wl_region wd_wide (zq (zm (.int .i64 r3)) (zq (v_neq rfl rfl) (rl_end ?_))))))⟩; by_cases hp4 : r3 = 0
        · replace h := h.1 hp4; refine ze hp4 (wt_skip (wt_inBlock (wl_region wd_wide ?_))); obtain ⟨hi, h⟩ := h; refine zq (v_add hE22 rfl hi) (zq (zm (.int .i64 (v + 1))) (rl_end ?_)); obtain ⟨mq, hlt, h⟩ := h; exact again mq _ _ _ ⟨_, h, rfl, hE2, hE20, hE21, rfl, (hS.sel [0, 1, 2] (by decide))⟩ hlt
        · replace h := h.2 hp4; exact zf hp4 (wt_seq (wl_region wd_wide (zq (zm (.int .i64 r3)) (zq (za (.int .i64 r3)) (rl_end (wt_ret1 rfl rfl ⟨_, rfl, (hS.sel [] (by decide)), h⟩))))))
      · replace h := h.2 hp3; exact zd hp3 (wt_exit rfl (wt_seq (wl_region wd_wide (zq (za (.int .i64 0)) (rl_end (wt_ret1 rfl rfl ⟨_, rfl, (hS.sel [] (by decide)), h⟩))))))
    · replace h := h.2 hp2; exact wt_cond_t (congrArg Value.bool (congrArg Bool.not (Bool.eq_false_iff.2 hp2))) (wt_seq (wl_region wd_wide (zq (za (.int .i64 13)) (rl_end (wt_ret1 rfl rfl ⟨_, rfl, (hS.sel [] (by decide)), h⟩)))))
  · replace h := h.2 hp; exact zf hp (wt_seq (wl_region wd_wide (zq (zm (.int .i64 r2)) (zq (za (.int .i64 r2)) (rl_end (wt_ret1 rfl rfl ⟨_, rfl, (hS.sel [] (by decide)), h⟩))))))

/-- sandpile/rank.large: what it computes. -/
def pf_rank_large (e2 : Int) (R : Int → Prop) : Prop :=
((e2 = 2 →
R 11) ∧
(¬ (e2 = 2) →
R e2))
theorem pok_rank_large {O : Nat → Prop} {w : World} {e2} {R : Int → Prop} (h : pf_rank_large e2 R) (hO : ∀ k, O k → k < w.heap.size) :
    Calls Try.prog 49 #[(.int .i64 e2)] w fun e w' => ∃ r, e = .returned (.int .i64 r) ∧ Sep w no O w' (rl []) ∧ R r := by
  unfold pf_rank_large at h; have hS : Sep w no O w (rl []) := Sep.start w hO; refine calls_sh (l := [(.int .i64 e2)]) Try.func49 rfl Try.ntmps49 (Nat.le_of_ble_eq_true rfl) (wt_seq (wl_region wd_wide (zq (za (.int .i64 0)) (rl_end (wt_seq (wt_seq (wl_region wd_wide (zq (zm (.int .i64 e2)) (zq (v_eql rfl rfl) (rl_end ?_)))))))))); by_cases hp : e2 = 2
  · replace h := h.1 hp; exact zc hp (wt_seq (wl_region wd_wide (zq (za (.int .i64 11)) (rl_end (wt_ret1 rfl rfl ⟨_, rfl, (hS.sel [] (by decide)), h⟩)))))
  · replace h := h.2 hp; exact zd hp (wt_skip (wt_seq (wl_region wd_wide (zq (zm (.int .i64 e2)) (zq (za (.int .i64 e2)) (rl_end (wt_ret1 rfl rfl ⟨_, rfl, (hS.sel [] (by decide)), h⟩)))))))

/-- sandpile/rank.of: what it computes. -/
def pf_rank_of (g : Int) (g2 : List E3) (R0 : Int → Prop) (R1 : Int → (List E3) → Int → (List (List Int × Int)) → Int → Prop) : Prop :=
pf_graph_Loopless g g2 (fun r r2 r3 =>
((r3 = 0 →
pf_graph_Genus r r2 (fun r4 r5 =>
R1 g g2 r4 ([]) r5)) ∧
(¬ (r3 = 0) →
R0 r3)))
theorem pok_rank_of {O : Nat → Prop} {w : World} {g g2 Ag lg cg} {R0 : Int → Prop} {R1 : Int → (List E3) → Int → (List (List Int × Int)) → Int → Prop} (h : pf_rank_of g g2 R0 R1) (hO : ∀ k, O k → k < w.heap.size) (hA0 : (FP.sl c3 Ag lg cg g2).P O w) :
    Calls Try.prog 45 #[(.agg #[(.int .i64 g), (.slice Ag lg cg)])] w fun e w' => (∃ r6, e = .returned (.tuple #[(.pointer none), (.int .i64 r6)]) ∧ Sep w no O w' (rl []) ∧ R0 r6) ∨ (∃ f f2 f3 m2 r7 gr Af lf cf gm, e = .returned (.tuple #[(.pointer (some (⟨gr, 0, none⟩ : Addr))), (.int .i64 r7)]) ∧ Sep w no O w' (rl [Res.box 129 gr [(.int .i64 f), (.slice Af lf cf), (.int .i64 f3), (Value.map (some gm))], Res.ro (FP.sl c3 Af lf cf f2), Res.obj gm (mapO (.int .i64) m2)]) ∧ R1 f f2 f3 m2 r7) := by
  unfold pf_rank_of at h; have hS : Sep w no O w (rl [Res.ro (FP.sl c3 Ag lg cg g2)]) := Sep.startl hO [(FP.sl c3 Ag lg cg g2)] ⟨hA0, trivial⟩; refine calls_sh (l := [(.agg #[(.int .i64 g), (.slice Ag lg cg)])]) Try.func45 rfl Try.ntmps45 (Nat.le_of_ble_eq_true rfl) (wt_seq (wl_region wd_wide (zn (n_box (v := (.agg #[(.int .i64 g), (.slice Ag lg cg)])) rfl ?_)))); intro g3 w2 hN; replace hS : Sep w no O w2 (stl _ 1 (Res.box 24 g3 [(.int .i64 g), (.slice Ag lg cg)])) := hS.new 1 rfl hN; clear hN; refine ⟨Stb.none _, zq (za (.pointer none)) (zq (za (.int .i64 0)) (rl_end (wt_seq (wl_region wd_wide (zq (v_loadn (vs := [(.int .i64 g), (.slice Ag lg cg)]) rfl Try.underlying24 rfl info_24 ⟨Row.cell (hS.bx 1 rfl) (i := 0) rfl, Row.cell (hS.bx 1 rfl) (i := 1) rfl, trivial⟩) (zn (n_call0 rfl (am1 rfl) enter_85 ((pok_graph_Loopless h (no_lt _) (hS.rdr 0 rfl)).mono ?_))))))))⟩; rintro _ w3 ⟨r, r2, r3, Ar, lr, cr, rfl, hC, h⟩; replace hS := hS.call1 (hC.widen (flatS (flat_own (fP (fI .i64) (fP (fI .i64) (fI .i64))) _ _ _ _ _) flat0) hS.blt) 2 0 rfl; clear hC; refine ⟨_, rfl, ?_⟩; refine ⟨Stb.none _, zq (zm (.tuple #[(.agg #[(.int .i64 r), (.slice Ar lr cr)]), (.int .i64 r3)])) ?_⟩
  refine zq (zx (.agg #[(.int .i64 r), (.slice Ar lr cr)])) (zq (zx (.int .i64 r3)) (zn (n_alloc info_24 ?_))); intro g4 w4 hN; replace hS : Sep w no O w4 (stl _ 3 (Res.box 24 g4 [(.int .i64 0), (.slice none 0 0)])) := hS.new 3 rfl hN; clear hN; refine ⟨Stb.none _, zo (n_storen (b := g4) (o := 0) (cells := #[(.int .i64 r), (.slice Ar lr cr)]) rfl rfl info_24 rfl rfl (there_row (hS.bx 3 rfl) (Nat.le_of_ble_eq_true rfl)) ?_)⟩; intro w5 e1; replace hS := hS.bstn 3 rfl 0 [(.int .i64 r), (.slice Ar lr cr)] e1; clear e1; refine ⟨Stb.none _, zq (za (.int .i64 r3)) (rl_end (wt_seq (wt_seq (wl_region wd_wide (zq (zm (.int .i64 r3)) (zq (v_neq rfl rfl) (rl_end ?_)))))))⟩; by_cases hp : r3 = 0
  · replace h := h.1 hp; refine ze hp (wt_skip (wt_seq (wl_region wd_wide (zq (v_loadn (vs := [(.int .i64 r), (.slice Ar lr cr)]) rfl Try.underlying24 rfl info_24 ⟨Row.cell (hS.bx 3 rfl) (i := 0) rfl, Row.cell (hS.bx 3 rfl) (i := 1) rfl, trivial⟩) (zn (n_call0 rfl (am1 rfl) enter_86 ((pok_graph_Genus h (no_lt _) (hS.rdo 2 rfl)).mono ?_))))))); rintro _ w6 ⟨r4, r5, rfl, hC, h⟩; replace hS := hS.pur hC.pure; clear hC; refine ⟨_, rfl, ?_⟩; refine ⟨Stb.none _, zq (zm (.tuple #[(.int .i64 r4), (.int .i64 r5)])) (zq (zx (.int .i64 r4)) (zq (zx (.int .i64 r5)) (zq (za (.int .i64 r4)) (zq (za (.int .i64 r5)) (rl_end (wt_seq (wl_region wd_wide (zq (v_loadn (vs := [(.int .i64 g), (.slice Ag lg cg)]) rfl Try.underlying24 rfl info_24 ⟨Row.cell (hS.bx 1 rfl) (i := 0) rfl, Row.cell (hS.bx 1 rfl) (i := 1) rfl, trivial⟩) (zq (zm (.int .i64 r4)) (zn (n_mkmap (vE := (.int .i64)) rfl ?_)))))))))))⟩; intro g5 w7 e1 e2; replace hS : Sep w no O w7 (stl _ 4 (Res.obj g5 (mapO (.int .i64) ([])))) := hS.newm 4 rfl e1 e2; clear e1 e2
    refine ⟨Stb.none _, zn (n_build (l := [(0, (.agg #[(.int .i64 g), (.slice Ag lg cg)])), (1, (.int .i64 r4)), (2, (Value.map (some g5)))]) (cells := [(.int .i64 g), (.slice Ag lg cg), (.int .i64 r4), (Value.map (some g5))]) (places := [(0, 2), (2, 1), (3, 1)]) (bp3 rfl rfl rfl) Try.underlying129 info_129 (by kernel_rfl) rfl ?_)⟩; refine ⟨Stb.none _, zn (n_box (v := (.agg #[(.int .i64 g), (.slice Ag lg cg), (.int .i64 r4), (Value.map (some g5))])) rfl ?_)⟩; intro g6 w8 hN; replace hS : Sep w no O w8 (stl _ 5 (Res.box 129 g6 [(.int .i64 g), (.slice Ag lg cg), (.int .i64 r4), (Value.map (some g5))])) := hS.new 5 rfl hN; clear hN; exact ⟨Stb.none _, zq (zm (.int .i64 r5)) (zq (za (.pointer (some (⟨g6, 0, none⟩ : Addr)))) (zq (za (.int .i64 r5)) (rl_end (wt_ret2 rfl rfl rfl (.inr ⟨_, _, _, _, _, _, _, _, _, _, rfl, (hS.sel [5, 0, 4] (by decide)), h⟩)))))⟩
  · replace h := h.2 hp; exact zf hp (wt_seq (wl_region wd_wide (zq (zm (.int .i64 r3)) (zq (za (.pointer none)) (zq (za (.int .i64 r3)) (rl_end (wt_ret2 rfl rfl rfl (.inl ⟨_, rfl, (hS.sel [] (by decide)), h⟩))))))))

/-- (*sandpile/rank.finder).rank: what it computes. -/
def pfr_rank_finder_rank_v2 (Rec : Int → (List E3) → Int → (List (List Int × Int)) → (List Int) → (Int → Int → (List (List Int × Int)) → Prop) → Prop) (d : Int) (d2 : List E3) (d3 : Int) (d4 : List (List Int × Int)) (i : List Int) (R : Int → Int → (List (List Int × Int)) → Prop) : Prop :=
pf_chips_Degree i (fun r r2 =>
((r2 = 0 →
((r < 0 →
R (-1) 0 d4) ∧
(¬ (r < 0) →
(In64 (2 * d3) ∧
(In64 ((2 * d3) - 2) ∧
((((2 * d3) - 2) < r →
(In64 (r - d3) ∧
R (r - d3) 0 d4)) ∧
(¬ (((2 * d3) - 2) < r) →
pf_effective_Winnable d d2 i (fun r3 r4 r5 r6 =>
((r6 = 0 →
((r3 = true →
(0 < r4.length ∧
(KOk 12 d4 ∧
KeyOk 12 (cpy (List.replicate 12 (0 : Int)) r4) ∧
(((mget d4 (cpy (List.replicate 12 (0 : Int)) r4)).isSome = true →
R ((mget d4 (cpy (List.replicate 12 (0 : Int)) r4)).getD (0 : Int)) 0 d4) ∧
(¬ ((mget d4 (cpy (List.replicate 12 (0 : Int)) r4)).isSome = true) →
((((d4.length : Nat) : Int) = 16384 →
R 0 12 d4) ∧
(¬ (((d4.length : Nat) : Int) = 16384) →
(∃ I2 : Nat → Int → Int → (List (List Int × Int)) → (List Int) → Prop, (∃ m0, I2 m0 r 0 d4 r4) ∧ ∀ m2 v v2 d5 v3, I2 m2 v v2 d5 v3 → 
((v2 < ((r4.length : Nat) : Int) →
((0 ≤ v2 ∧ v2 < ((v3.length : Nat) : Int)) ∧
(In64 ((gi v3 v2.toNat) - 1) ∧
Rec d d2 d3 d5 (v3.set v2.toNat ((gi v3 v2.toNat) - 1)) (fun r7 r8 y =>
((0 ≤ v2 ∧ v2 < (((v3.set v2.toNat ((gi v3 v2.toNat) - 1)).length : Nat) : Int)) ∧
(In64 ((gi (v3.set v2.toNat ((gi v3 v2.toNat) - 1)) v2.toNat) + 1) ∧
((r8 = 0 →
(In64 (r7 + 1) ∧
(In64 (v2 + 1) ∧
∃ m3, m3 < m2 ∧ I2 m3 (mnF v (r7 + 1)) (v2 + 1) y ((v3.set v2.toNat ((gi v3 v2.toNat) - 1)).set v2.toNat ((gi (v3.set v2.toNat ((gi v3 v2.toNat) - 1)) v2.toNat) + 1))))) ∧
(¬ (r8 = 0) →
R 0 r8 y)))))))) ∧
(¬ (v2 < ((r4.length : Nat) : Int)) →
(KOk 12 d5 ∧
R v 0 (mput d5 (cpy (List.replicate 12 (0 : Int)) r4) v)))))))))))) ∧
(¬ (r3 = true) →
R (-1) 0 d4))) ∧
(¬ (r6 = 0) →
R 0 r6 d4)))))))))) ∧
(¬ (r2 = 0) →
R 0 r2 d4)))
def pf_rank_finder_rank_v2 : Nat → Int → (List E3) → Int → (List (List Int × Int)) → (List Int) → (Int → Int → (List (List Int × Int)) → Prop) → Prop
  | 0 => fun _ _ _ _ _ _ => False
  | nf + 1 => fun d d2 d3 d4 i R => pfr_rank_finder_rank_v2 (pf_rank_finder_rank_v2 nf) d d2 d3 d4 i R
theorem pokr_rank_finder_rank_v2 {Rec : Int → (List E3) → Int → (List (List Int × Int)) → (List Int) → (Int → Int → (List (List Int × Int)) → Prop) → Prop} (hrec : ∀ {S O : Nat → Prop} {w : World} {d d2 d3 d4 i gc Ad ld cd gm Ai li ci} {R : Int → Int → (List (List Int × Int)) → Prop} (h : Rec d d2 d3 d4 i R) (hS : Sep w S O w (rl [Res.box 129 gc [(Value.int .i64 d), (Value.slice Ad ld cd), (Value.int .i64 d3), (Value.map (some gm))], Res.ro (FP.sl c3 Ad ld cd d2), Res.obj gm (mapO (Value.int .i64) d4), Res.own cI 3 Ai li ci i])), Calls Try.prog 46 #[(Value.pointer (some (⟨gc, 0, none⟩ : Addr))), (Value.slice Ai li ci)] w fun e w' => ∃ r9 r10 z, e = .returned (Value.tuple #[(Value.int .i64 r9), (Value.int .i64 r10)]) ∧ Sep w S O w' (rl [Res.box 129 gc [(Value.int .i64 d), (Value.slice Ad ld cd), (Value.int .i64 d3), (Value.map (some gm))], Res.obj gm (mapO (Value.int .i64) z), Res.own cI 3 Ai li ci i]) ∧ R r9 r10 z) {S O : Nat → Prop} {w : World} {d d2 d3 d4 i gc Ad ld cd gm Ai li ci} {R : Int → Int → (List (List Int × Int)) → Prop} (h : pfr_rank_finder_rank_v2 Rec d d2 d3 d4 i R) (hS : Sep w S O w (rl [Res.box 129 gc [(Value.int .i64 d), (Value.slice Ad ld cd), (Value.int .i64 d3), (Value.map (some gm))], Res.ro (FP.sl c3 Ad ld cd d2), Res.obj gm (mapO (Value.int .i64) d4), Res.own cI 3 Ai li ci i])) :
    Calls Try.prog 46 #[(.pointer (some (⟨gc, 0, none⟩ : Addr))), (.slice Ai li ci)] w fun e w' => ∃ r9 r10 z, e = .returned (.tuple #[(.int .i64 r9), (.int .i64 r10)]) ∧ Sep w S O w' (rl [Res.box 129 gc [(.int .i64 d), (.slice Ad ld cd), (.int .i64 d3), (Value.map (some gm))], Res.obj gm (mapO (.int .i64) z), Res.own cI 3 Ai li ci i]) ∧ R r9 r10 z := by
  unfold pfr_rank_finder_rank_v2 at h; refine calls_sh (l := [(.pointer (some (⟨gc, 0, none⟩ : Addr))), (.slice Ai li ci)]) Try.func46 rfl Try.ntmps46 (Nat.le_of_ble_eq_true rfl) (wt_seq (wl_region wd_wide (zq (za (.int .i64 0)) (zq (za (.int .i64 0)) (rl_end (wt_seq (wl_region wd_wide (zq (zm (.slice Ai li ci)) (zn (n_call0 rfl (am1 rfl) enter_87 ((pok_chips_Degree h (no_lt _) (hS.rdo 3 rfl)).mono ?_))))))))))); rintro _ w2 ⟨r, r2, rfl, hC, h⟩; replace hS := hS.pur hC.pure; clear hC; refine ⟨_, rfl, ?_⟩; refine ⟨Stb.none _, zq (zm (.tuple #[(.int .i64 r), (.int .i64 r2)])) (zq (zx (.int .i64 r)) (zq (zx (.int .i64 r2)) (zq (za (.int .i64 r)) (zq (za (.int .i64 r2)) (rl_end (wt_seq (wt_seq (wl_region wd_wide (zq (zm (.int .i64 r2)) (zq (v_neq rfl rfl) (rl_end ?_)))))))))))⟩; by_cases hp : r2 = 0
  · replace h := h.1 hp; refine ze hp (wt_skip (wt_seq (wt_seq (wl_region wd_wide (zq (zm (.int .i64 r)) (zq (v_lss rfl rfl) (rl_end ?_))))))); by_cases hp2 : r < 0
    · replace h := h.1 hp2; exact zc hp2 (wt_seq (wl_region wd_wide (zq (za (.int .i64 (-1))) (zq (za (.int .i64 0)) (rl_end (wt_ret2 rfl rfl rfl ⟨_, _, _, rfl, (hS.sel [0, 2, 3] (by decide)), h⟩))))))
    · replace h := h.2 hp2; refine zd hp2 (wt_skip (wt_seq (wt_seq (wl_region wd_wide (zq (zm (.int .i64 r)) (zq (zm (.pointer (some (⟨gc, 0, none⟩ : Addr)))) (zq (v_nil rfl) (zq (v_faddr rfl Try.underlying129 rfl info_3) (zq (v_load rfl Try.underlying3 rfl (Row.cell (hS.bx 0 rfl) (i := 2) rfl)) ?_))))))))); obtain ⟨hi, h⟩ := h; refine zq (v_mul rfl rfl hi) ?_; obtain ⟨hi2, h⟩ := h; refine zq (v_sub rfl rfl hi2) (zq (v_gtr rfl rfl) (rl_end ?_)); by_cases hp3 : ((2 * d3) - 2) < r
      · replace h := h.1 hp3; refine zc hp3 (wt_seq (wl_region wd_wide (zq (zm (.int .i64 r)) (zq (zm (.pointer (some (⟨gc, 0, none⟩ : Addr)))) (zq (v_nil rfl) (zq (v_faddr rfl Try.underlying129 rfl info_3) (zq (v_load rfl Try.underlying3 rfl (Row.cell (hS.bx 0 rfl) (i := 2) rfl)) ?_))))))); obtain ⟨hi3, h⟩ := h; exact zq (v_sub rfl rfl hi3) (zq (za (.int .i64 (r - d3))) (zq (za (.int .i64 0)) (rl_end (wt_ret2 rfl rfl rfl ⟨_, _, _, rfl, (hS.sel [0, 2, 3] (by decide)), h⟩))))
      · replace h := h.2 hp3; refine zd hp3 (wt_skip (wt_seq (wl_region wd_wide (zq (zm (.pointer (some (⟨gc, 0, none⟩ : Addr)))) (zq (v_nil rfl) (zq (v_faddr rfl Try.underlying129 rfl info_24) (zq (v_loadn (vs := [(.int .i64 d), (.slice Ad ld cd)]) rfl Try.underlying24 rfl info_24 ⟨Row.cell (hS.bx 0 rfl) (i := 0) rfl, Row.cell (hS.bx 0 rfl) (i := 1) rfl, trivial⟩) (zq (zm (.slice Ai li ci)) (zn (n_call0 rfl (am2 rfl rfl) enter_34 ((pok_effective_Winnable h (no_lt _) (hS.rdr 1 rfl) (hS.rdo 3 rfl)).mono ?_))))))))))); rintro _ w3 ⟨r3, r4, r5, r6, Ar, lr, cr, Ar2, lr2, cr2, rfl, hC, h⟩; replace hS := hS.call2 (hC.widen (flatS (flat_own (fI .i64) _ _ _ _ _) (flatS (flat_own (fI .i64) _ _ _ _ _) flat0)) hS.blt) 4 0 5 1 rfl rfl (by decide) (by decide); clear hC; refine ⟨_, rfl, ?_⟩; refine ⟨Stb.none _, zq (zm (.tuple #[(.bool (r3)), (.slice Ar lr cr), (.slice Ar2 lr2 cr2), (.int .i64 r6)])) (zq (zx (.bool (r3))) (zq (zx (.slice Ar lr cr)) (zq (zx (.slice Ar2 lr2 cr2)) (zq (zx (.int .i64 r6)) ?_))))⟩
        refine zq (za (.bool (r3))) (zq (za (.slice Ar lr cr)) (zq (za (.slice Ar2 lr2 cr2)) (zq (za (.int .i64 r6)) (rl_end (wt_seq (wt_seq (wl_region wd_wide (zq (zm (.int .i64 r6)) (zq (v_neq rfl rfl) (rl_end ?_)))))))))); by_cases hp4 : r6 = 0
        · replace h := h.1 hp4; refine ze hp4 (wt_skip (wt_seq (wt_seq (wl_region wd_wide (zq (zm (.bool (r3))) (zq (v_not rfl) (rl_end ?_))))))); by_cases hp5 : r3 = true
          · replace h := h.1 hp5; refine wt_cond_f (congrArg Value.bool (congrArg Bool.not hp5)) (wt_skip (wt_seq (wl_region wd_wide (zn (n_alloc info_131 ?_))))); intro g w4 hN; replace hS := hS.made (n := 12) 6 rfl cI (.int .i64 0) (0 : Int) (fun _ _ => rfl) (hN : New _ _ _ (Array.replicate 12 (.int .i64 0)) 131) (by decide); clear hN; refine ⟨Stb.none _, rl_end (wt_seq (wl_region wd_wide (zq (v_slice_a rfl Try.underlying131 info_3) (zq (zm (.slice Ar lr cr)) ?_))))⟩; obtain ⟨hx, h⟩ := h; refine zn (n_cpy rfl rfl Try.underlying25 info_3 hS 6 rfl (hS.rdo 4 rfl) hx ?_); clear hS; intro w5 hS; refine ⟨Stb.none _, rl_end (wt_seq (wt_seq (wp_draw [0, 1, 2, 3, 4, 5, 6, 7, 8, 9, 10] st0 wd_wide (by kernel_rfl) (by kernel_rfl) ?_)))⟩; replace hS := hS.drew; refine rp_q rfl rfl rfl (zm (.pointer (some (⟨gc, 0, none⟩ : Addr)))) (rp_q rfl rfl rfl (v_nil rfl) (rp_q rfl rfl rfl (v_faddr rfl Try.underlying129 rfl info_127) (rp_q rfl rfl rfl (v_load rfl Try.underlying127 rfl (Row.cell (hS.bx 0 rfl) (i := 3) rfl)) (rp_q rfl rfl rfl (v_loadn (vs := (cpy (List.replicate 12 (0 : Int)) r4).map (.int .i64)) rfl Try.underlying131 rfl (arr_info info_131 (hS.rdo 6 rfl)) (arr_cells (hS.rdo 6 rfl))) ?_)))); obtain ⟨hx2, h⟩ := h
            obtain ⟨hx3, h⟩ := h; refine rp_n rfl rfl rfl rfl (n_val (v_mget (vE := (.int .i64)) (x0 := (0 : Int)) (keyt_131) hx2 hx3 rfl rfl Try.underlying127 info_3 (hS.mp 2 rfl)) ?_); refine ⟨Stb.none _, rp_q rfl rfl rfl (zm (.tuple #[(.int .i64 ((mget d4 (cpy (List.replicate 12 (0 : Int)) r4)).getD (0 : Int))), (.bool ((mget d4 (cpy (List.replicate 12 (0 : Int)) r4)).isSome))])) (rp_q rfl rfl rfl (zx (.int .i64 ((mget d4 (cpy (List.replicate 12 (0 : Int)) r4)).getD (0 : Int)))) (rp_q rfl rfl rfl (zx (.bool ((mget d4 (cpy (List.replicate 12 (0 : Int)) r4)).isSome))) (rp_q rfl rfl rfl (za (.int .i64 ((mget d4 (cpy (List.replicate 12 (0 : Int)) r4)).getD (0 : Int)))) (rp_q rfl rfl rfl (za (.bool ((mget d4 (cpy (List.replicate 12 (0 : Int)) r4)).isSome))) (rp_end (wt_seq (wl_region wd_wide (zq (zm (.bool ((mget d4 (cpy (List.replicate 12 (0 : Int)) r4)).isSome))) (rl_end ?_)))))))))⟩; by_cases hp6 : (mget d4 (cpy (List.replicate 12 (0 : Int)) r4)).isSome = true
            · replace h := h.1 hp6; exact wt_cond_t (congrArg Value.bool hp6) (wt_seq (wl_region wd_wide (zq (zm (.int .i64 ((mget d4 (cpy (List.replicate 12 (0 : Int)) r4)).getD (0 : Int)))) (zq (za (.int .i64 ((mget d4 (cpy (List.replicate 12 (0 : Int)) r4)).getD (0 : Int)))) (zq (za (.int .i64 0)) (rl_end (wt_ret2 rfl rfl rfl ⟨_, _, _, rfl, (hS.sel [0, 2, 3] (by decide)), h⟩)))))))
            · replace h := h.2 hp6; refine wt_cond_f (congrArg Value.bool (Bool.eq_false_iff.2 hp6)) (wt_skip (wt_seq (wt_seq (wl_region wd_wide (zq (zm (.pointer (some (⟨gc, 0, none⟩ : Addr)))) (zq (v_nil rfl) (zq (v_faddr rfl Try.underlying129 rfl info_127) (zq (v_load rfl Try.underlying127 rfl (Row.cell (hS.bx 0 rfl) (i := 3) rfl)) (zq (v_mlen rfl Try.underlying127 (hS.mp 2 rfl)) (zq (v_eql rfl rfl) (rl_end ?_))))))))))); by_cases hp7 : ((d4.length : Nat) : Int) = 16384
              · replace h := h.1 hp7; exact zc hp7 (wt_seq (wl_region wd_wide (zq (za (.int .i64 0)) (zq (za (.int .i64 12)) (rl_end (wt_ret2 rfl rfl rfl ⟨_, _, _, rfl, (hS.sel [0, 2, 3] (by decide)), h⟩))))))
              · replace h := h.2 hp7; refine zd hp7 (wt_skip (wt_seq (wl_region wd_wide (zq (zm (.int .i64 r)) (zq (za (.int .i64 r)) (rl_end (wt_seq (wt_seq (wl_region wd_wide (zq (zm (.slice Ar lr cr)) (zq (v_lenx (n := r4.length) rfl Try.underlying26 (rd_len (hS.rdo 4 rfl))) (zq (zm (.int .i64 0)) (rl_end (wt_block ?_)))))))))))))); obtain ⟨I2, ⟨m0, h0⟩, hr⟩ := h
                refine wt_loop (fun m E ds w' => ∃ v v2 d5 v3 Av lv cv, I2 m v v2 d5 v3 ∧ ds = [] ∧ E 0 = (Value.pointer (some (⟨gc, 0, none⟩ : Addr))) ∧ E 1 = (Value.slice Ai li ci) ∧ E 9 = (Value.slice Av lv cv) ∧ E 11 = (Value.pointer (some (⟨g, 0, none⟩ : Addr))) ∧ E 14 = (Value.int .i64 v) ∧ E 80 = (Value.int .i64 ((r4.length : Nat) : Int)) ∧ E 81 = (Value.int .i64 v2) ∧ Sep w S O w' (rl [Res.box 129 gc [(.int .i64 d), (.slice Ad ld cd), (.int .i64 d3), (Value.map (some gm))], Res.ro (FP.sl c3 Ad ld cd d2), Res.obj gm (mapO (.int .i64) d5), Res.own cI 3 Ai li ci i, Res.own cI 3 Av lv cv v3, Res.own cI 131 (some ⟨g, 0, none⟩) 12 12 (cpy (List.replicate 12 (0 : Int)) r4)])) m0 ⟨_, _, _, _, _, _, _, h0, rfl, rfl, rfl, rfl, rfl, rfl, rfl, rfl, (hS.sel [0, 1, 2, 3, 4, 6] (by decide))⟩ ?_; clear h0 hS; rintro m2 E ds w6 ⟨v, v2, d5, v3, Av, lv, cv, h, rfl, hE0, hE1, hE9, hE11, hE14, hE80, hE81, hS⟩ again; replace h := hr m2 v v2 d5 v3 h; clear hr; refine wt_seq (wl_region wd_wide (zq (v_lss hE81 hE80) (rl_end (wt_seq ?_)))); by_cases hp8 : v2 < ((r4.length : Nat) : Int)
                · replace h := h.1 hp8; refine zc hp8 (wt_skip (wt_seq (wt_block (wt_seq (wl_region wd_wide (zq (v_move hE81) (zq (za (.int .i64 v2)) (rl_end (wt_seq (wl_region wd_wide (zq (v_move hE9) (zq (zm (.int .i64 v2)) ?_)))))))))))); obtain ⟨hx4, h⟩ := h; refine zq (v_iaddr rfl rfl Try.underlying26 info_3 (rd_ix (hS.rdo 4 rfl) hx4)) (zq (v_load (v := (.int .i64 (gi v3 v2.toNat))) rfl Try.underlying3 rfl (rd_1 (hS.rdo 4 rfl) hx4 (fun q => gi_some q) rfl)) ?_); obtain ⟨hi4, h⟩ := h; refine zq (v_sub rfl rfl hi4) (zq (v_iaddr rfl rfl Try.underlying26 info_3 (rd_ix (hS.rdo 4 rfl) hx4)) (zo (zt (.int .i64 ((gi v3 v2.toNat) - 1)) info_3 (hS.wr 4 rfl rfl hx4) ?_))); intro w7 e1; replace hS := hS.st 4 rfl rfl hx4 (x := (gi v3 v2.toNat) - 1) rfl e1; clear e1; refine ⟨Stb.none _, rl_end (wt_seq (wl_region wd_wide (zq (v_move (v := (.pointer (some (⟨gc, 0, none⟩ : Addr)))) hE0) (zq (v_move hE9) ?_))))⟩
                  have hB := hS.lend (asc [(0, 0), (2, 1), (4, 2)]) [0, 1, 2, 4] (by decide) ⟨.inl (ne_none rfl), .inr rfl, .inl (ne_none rfl), .inl (ne_none rfl), trivial⟩; refine zn (n_call (vs := #[(.pointer (some (⟨gc, 0, none⟩ : Addr))), (.slice Av lv cv)]) (us := #[]) rfl (am2 rfl rfl) enter_46 ((cast_calls (by simp) (hrec h hB)).mono ?_)); rintro _ w8 ⟨r7, r8, y, rfl, hC, h⟩; replace hS := hS.back (asc [(0, 0), (2, 1), (4, 2)]) (asc_inj (by decide)) hC; clear hC hB; refine ⟨_, rfl, ?_⟩; refine ⟨Stb.none _, zq (zm (.tuple #[(.int .i64 r7), (.int .i64 r8)])) (zq (zx (.int .i64 r7)) (zq (zx (.int .i64 r8)) (zq (za (.int .i64 r7)) (zq (za (.int .i64 r8)) (rl_end (wt_seq (wl_region wd_wide (zq (v_move hE9) (zq (zm (.int .i64 v2)) ?_)))))))))⟩; obtain ⟨hx5, h⟩ := h; refine zq (v_iaddr rfl rfl Try.underlying26 info_3 (rd_ix (hS.rdo 4 rfl) hx5)) (zq (v_load (v := (.int .i64 (gi (v3.set v2.toNat ((gi v3 v2.toNat) - 1)) v2.toNat))) rfl Try.underlying3 rfl (rd_1 (hS.rdo 4 rfl) hx5 (fun q => gi_some q) rfl)) ?_); obtain ⟨hi5, h⟩ := h; refine zq (v_add rfl rfl hi5) ?_
                  refine zq (v_iaddr rfl rfl Try.underlying26 info_3 (rd_ix (hS.rdo 4 rfl) hx5)) (zo (zt (.int .i64 ((gi (v3.set v2.toNat ((gi v3 v2.toNat) - 1)) v2.toNat) + 1)) info_3 (hS.wr 4 rfl rfl hx5) ?_)); intro w9 e1; replace hS := hS.st 4 rfl rfl hx5 (x := (gi (v3.set v2.toNat ((gi v3 v2.toNat) - 1)) v2.toNat) + 1) rfl e1; clear e1; refine ⟨Stb.none _, rl_end (wt_seq (wt_seq (wl_region wd_wide (zq (zm (.int .i64 r8)) (zq (v_neq rfl rfl) (rl_end ?_))))))⟩; by_cases hp9 : r8 = 0
                  · replace h := h.1 hp9; refine ze hp9 (wt_skip (wl_region wd_wide (zq (v_move hE14) (zq (zm (.int .i64 r7)) ?_)))); obtain ⟨hi6, h⟩ := h; refine zq (v_add rfl rfl hi6) (zq (v_min2 rfl rfl) (zq (za (.int .i64 (mnF v (r7 + 1)))) (rl_end (wt_inBlock (wl_region wd_wide ?_))))); obtain ⟨hi7, h⟩ := h; refine zq (v_add hE81 rfl hi7) (zq (zm (.int .i64 (v2 + 1))) (rl_end ?_)); obtain ⟨mq, hlt, h⟩ := h; exact again mq _ _ _ ⟨_, _, _, _, _, _, _, h, rfl, hE0, hE1, hE9, hE11, rfl, hE80, rfl, (hS.sel [0, 1, 2, 3, 4, 5] (by decide))⟩ hlt
                  · replace h := h.2 hp9; exact zf hp9 (wt_seq (wl_region wd_wide (zq (zm (.int .i64 r8)) (zq (za (.int .i64 0)) (zq (za (.int .i64 r8)) (rl_end (wt_ret2 rfl rfl rfl ⟨_, _, _, rfl, (hS.sel [0, 2, 3] (by decide)), h⟩)))))))
                · replace h := h.2 hp8; refine zd hp8 (wt_exit rfl (wt_seq (wp_draw [0, 1, 2, 3, 4, 5, 6] st0 wd_wide (by kernel_rfl) (by kernel_rfl) ?_))); replace hS := hS.drew; refine rp_q rfl rfl rfl (v_move (v := (.pointer (some (⟨gc, 0, none⟩ : Addr)))) hE0) (rp_q rfl rfl rfl (v_nil rfl) (rp_q rfl rfl rfl (v_faddr rfl Try.underlying129 rfl info_127) (rp_q rfl rfl rfl (v_load rfl Try.underlying127 rfl (Row.cell (hS.bx 0 rfl) (i := 3) rfl)) (rp_q rfl rfl rfl (v_loadn (vs := (cpy (List.replicate 12 (0 : Int)) r4).map (.int .i64)) hE11 Try.underlying131 rfl (arr_info info_131 (hS.rdo 5 rfl)) (arr_cells (hS.rdo 5 rfl))) (rp_q rfl rfl rfl (v_move hE14) ?_))))); obtain ⟨hx6, h⟩ := h; refine rp_n0 rfl rfl rfl (n_mput (vE := (.int .i64)) (keyt_131) hx6 hx3 (v := v) rfl rfl rfl Try.underlying127 (hS.mp 2 rfl) ?_); intro w10 e1 e2; replace hS := hS.mst 2 rfl e1 e2; clear e1 e2; exact ⟨Stb.none _, rp_end (wt_seq (wl_region wd_wide (zq (v_move hE14) (zq (za (.int .i64 v)) (zq (za (.int .i64 0)) (rl_end (wt_ret2 rfl rfl rfl ⟨_, _, _, rfl, (hS.sel [0, 2, 3] (by decide)), h⟩)))))))⟩
          · replace h := h.2 hp5; exact wt_cond_t (congrArg Value.bool (congrArg Bool.not (Bool.eq_false_iff.2 hp5))) (wt_seq (wl_region wd_wide (zq (za (.int .i64 (-1))) (zq (za (.int .i64 0)) (rl_end (wt_ret2 rfl rfl rfl ⟨_, _, _, rfl, (hS.sel [0, 2, 3] (by decide)), h⟩))))))
        · replace h := h.2 hp4; exact zf hp4 (wt_seq (wl_region wd_wide (zq (zm (.int .i64 r6)) (zq (za (.int .i64 0)) (zq (za (.int .i64 r6)) (rl_end (wt_ret2 rfl rfl rfl ⟨_, _, _, rfl, (hS.sel [0, 2, 3] (by decide)), h⟩)))))))
  · replace h := h.2 hp; exact zf hp (wt_seq (wl_region wd_wide (zq (zm (.int .i64 r2)) (zq (za (.int .i64 0)) (zq (za (.int .i64 r2)) (rl_end (wt_ret2 rfl rfl rfl ⟨_, _, _, rfl, (hS.sel [0, 2, 3] (by decide)), h⟩)))))))
theorem pok_rank_finder_rank_v2 {nf} : ∀ {S O : Nat → Prop} {w : World} {d d2 d3 d4 i gc Ad ld cd gm Ai li ci} {R : Int → Int → (List (List Int × Int)) → Prop} (h : pf_rank_finder_rank_v2 nf d d2 d3 d4 i R) (hS : Sep w S O w (rl [Res.box 129 gc [(Value.int .i64 d), (Value.slice Ad ld cd), (Value.int .i64 d3), (Value.map (some gm))], Res.ro (FP.sl c3 Ad ld cd d2), Res.obj gm (mapO (Value.int .i64) d4), Res.own cI 3 Ai li ci i])), Calls Try.prog 46 #[(Value.pointer (some (⟨gc, 0, none⟩ : Addr))), (Value.slice Ai li ci)] w fun e w' => ∃ r9 r10 z, e = .returned (Value.tuple #[(Value.int .i64 r9), (Value.int .i64 r10)]) ∧ Sep w S O w' (rl [Res.box 129 gc [(Value.int .i64 d), (Value.slice Ad ld cd), (Value.int .i64 d3), (Value.map (some gm))], Res.obj gm (mapO (Value.int .i64) z), Res.own cI 3 Ai li ci i]) ∧ R r9 r10 z := by
  induction nf with
  | zero => intros; rename_i h _; exact h.elim
  | succ nf ih => intro S O w d d2 d3 d4 i gc Ad ld cd gm Ai li ci R h hS; exact pokr_rank_finder_rank_v2 ih h hS

/-- (*sandpile/rank.finder).rank: what it computes. -/
def pfr_rank_finder_rank (Rec : Int → (List E3) → Int → (List (List Int × Int)) → (List Int) → (Int → Int → (List (List Int × Int)) → Prop) → Prop) (d : Int) (d2 : List E3) (d3 : Int) (d4 : List (List Int × Int)) (i : List Int) (R : Int → Int → (List (List Int × Int)) → Prop) : Prop :=
pf_chips_Degree i (fun r r2 =>
((r2 = 0 →
((r < 0 →
R (-1) 0 d4) ∧
(¬ (r < 0) →
(In64 (2 * d3) ∧
(In64 ((2 * d3) - 2) ∧
((((2 * d3) - 2) < r →
(In64 (r - d3) ∧
R (r - d3) 0 d4)) ∧
(¬ (((2 * d3) - 2) < r) →
pf_effective_Winnable d d2 i (fun r3 r4 r5 r6 =>
((r6 = 0 →
((r3 = true →
(0 < r4.length ∧
(KOk 12 d4 ∧
KeyOk 12 (cpy (List.replicate 12 (0 : Int)) r4) ∧
(((mget d4 (cpy (List.replicate 12 (0 : Int)) r4)).isSome = true →
R ((mget d4 (cpy (List.replicate 12 (0 : Int)) r4)).getD (0 : Int)) 0 d4) ∧
(¬ ((mget d4 (cpy (List.replicate 12 (0 : Int)) r4)).isSome = true) →
((((d4.length : Nat) : Int) = 16384 →
R 0 12 d4) ∧
(¬ (((d4.length : Nat) : Int) = 16384) →
(∃ I2 : Nat → Int → Int → (List (List Int × Int)) → (List Int) → Prop, (∃ m0, I2 m0 r 0 d4 r4) ∧ ∀ m2 v v2 d5 v3, I2 m2 v v2 d5 v3 → 
((v2 < ((r4.length : Nat) : Int) →
((0 ≤ v2 ∧ v2 < ((v3.length : Nat) : Int)) ∧
(In64 ((gi v3 v2.toNat) - 1) ∧
(∃ fu, pf_rank_finder_rank_v2 fu d d2 d3 d5 (v3.set v2.toNat ((gi v3 v2.toNat) - 1)) (fun r7 r8 y =>
((0 ≤ v2 ∧ v2 < (((v3.set v2.toNat ((gi v3 v2.toNat) - 1)).length : Nat) : Int)) ∧
(In64 ((gi (v3.set v2.toNat ((gi v3 v2.toNat) - 1)) v2.toNat) + 1) ∧
((r8 = 0 →
(In64 (r7 + 1) ∧
(In64 (v2 + 1) ∧
∃ m3, m3 < m2 ∧ I2 m3 (mnF v (r7 + 1)) (v2 + 1) y ((v3.set v2.toNat ((gi v3 v2.toNat) - 1)).set v2.toNat ((gi (v3.set v2.toNat ((gi v3 v2.toNat) - 1)) v2.toNat) + 1))))) ∧
(¬ (r8 = 0) →
R 0 r8 y))))))))) ∧
(¬ (v2 < ((r4.length : Nat) : Int)) →
(KOk 12 d5 ∧
R v 0 (mput d5 (cpy (List.replicate 12 (0 : Int)) r4) v)))))))))))) ∧
(¬ (r3 = true) →
R (-1) 0 d4))) ∧
(¬ (r6 = 0) →
R 0 r6 d4)))))))))) ∧
(¬ (r2 = 0) →
R 0 r2 d4)))
def pf_rank_finder_rank : Nat → Int → (List E3) → Int → (List (List Int × Int)) → (List Int) → (Int → Int → (List (List Int × Int)) → Prop) → Prop
  | 0 => fun _ _ _ _ _ _ => False
  | nf + 1 => fun d d2 d3 d4 i R => pfr_rank_finder_rank (pf_rank_finder_rank nf) d d2 d3 d4 i R
theorem pokr_rank_finder_rank {Rec : Int → (List E3) → Int → (List (List Int × Int)) → (List Int) → (Int → Int → (List (List Int × Int)) → Prop) → Prop} (hrec : ∀ {S O : Nat → Prop} {w : World} {d d2 d3 d4 i gc Ad ld cd gm Ai li ci} {R : Int → Int → (List (List Int × Int)) → Prop} (h : Rec d d2 d3 d4 i R) (hS : Sep w S O w (rl [Res.box 129 gc [(Value.int .i64 d), (Value.slice Ad ld cd), (Value.int .i64 d3), (Value.map (some gm))], Res.ro (FP.sl c3 Ad ld cd d2), Res.obj gm (mapO (Value.int .i64) d4), Res.ro (FP.sl cI Ai li ci i)])), Calls Try.prog 46 #[(Value.pointer (some (⟨gc, 0, none⟩ : Addr))), (Value.slice Ai li ci)] w fun e w' => ∃ r9 r10 z, e = .returned (Value.tuple #[(Value.int .i64 r9), (Value.int .i64 r10)]) ∧ Sep w S O w' (rl [Res.box 129 gc [(Value.int .i64 d), (Value.slice Ad ld cd), (Value.int .i64 d3), (Value.map (some gm))], Res.obj gm (mapO (Value.int .i64) z)]) ∧ R r9 r10 z) {S O : Nat → Prop} {w : World} {d d2 d3 d4 i gc Ad ld cd gm Ai li ci} {R : Int → Int → (List (List Int × Int)) → Prop} (h : pfr_rank_finder_rank Rec d d2 d3 d4 i R) (hS : Sep w S O w (rl [Res.box 129 gc [(Value.int .i64 d), (Value.slice Ad ld cd), (Value.int .i64 d3), (Value.map (some gm))], Res.ro (FP.sl c3 Ad ld cd d2), Res.obj gm (mapO (Value.int .i64) d4), Res.ro (FP.sl cI Ai li ci i)])) :
    Calls Try.prog 46 #[(.pointer (some (⟨gc, 0, none⟩ : Addr))), (.slice Ai li ci)] w fun e w' => ∃ r9 r10 z, e = .returned (.tuple #[(.int .i64 r9), (.int .i64 r10)]) ∧ Sep w S O w' (rl [Res.box 129 gc [(.int .i64 d), (.slice Ad ld cd), (.int .i64 d3), (Value.map (some gm))], Res.obj gm (mapO (.int .i64) z)]) ∧ R r9 r10 z := by
  unfold pfr_rank_finder_rank at h; refine calls_sh (l := [(.pointer (some (⟨gc, 0, none⟩ : Addr))), (.slice Ai li ci)]) Try.func46 rfl Try.ntmps46 (Nat.le_of_ble_eq_true rfl) (wt_seq (wl_region wd_wide (zq (za (.int .i64 0)) (zq (za (.int .i64 0)) (rl_end (wt_seq (wl_region wd_wide (zq (zm (.slice Ai li ci)) (zn (n_call0 rfl (am1 rfl) enter_87 ((pok_chips_Degree h (no_lt _) (hS.rdr 3 rfl)).mono ?_))))))))))); rintro _ w2 ⟨r, r2, rfl, hC, h⟩; replace hS := hS.pur hC.pure; clear hC; refine ⟨_, rfl, ?_⟩; refine ⟨Stb.none _, zq (zm (.tuple #[(.int .i64 r), (.int .i64 r2)])) (zq (zx (.int .i64 r)) (zq (zx (.int .i64 r2)) (zq (za (.int .i64 r)) (zq (za (.int .i64 r2)) (rl_end (wt_seq (wt_seq (wl_region wd_wide (zq (zm (.int .i64 r2)) (zq (v_neq rfl rfl) (rl_end ?_)))))))))))⟩; by_cases hp : r2 = 0
  · replace h := h.1 hp; refine ze hp (wt_skip (wt_seq (wt_seq (wl_region wd_wide (zq (zm (.int .i64 r)) (zq (v_lss rfl rfl) (rl_end ?_))))))); by_cases hp2 : r < 0
    · replace h := h.1 hp2; exact zc hp2 (wt_seq (wl_region wd_wide (zq (za (.int .i64 (-1))) (zq (za (.int .i64 0)) (rl_end (wt_ret2 rfl rfl rfl ⟨_, _, _, rfl, (hS.sel [0, 2] (by decide)), h⟩))))))
    · replace h := h.2 hp2; refine zd hp2 (wt_skip (wt_seq (wt_seq (wl_region wd_wide (zq (zm (.int .i64 r)) (zq (zm (.pointer (some (⟨gc, 0, none⟩ : Addr)))) (zq (v_nil rfl) (zq (v_faddr rfl Try.underlying129 rfl info_3) (zq (v_load rfl Try.underlying3 rfl (Row.cell (hS.bx 0 rfl) (i := 2) rfl)) ?_))))))))); obtain ⟨hi, h⟩ := h; refine zq (v_mul rfl rfl hi) ?_; obtain ⟨hi2, h⟩ := h; refine zq (v_sub rfl rfl hi2) (zq (v_gtr rfl rfl) (rl_end ?_)); by_cases hp3 : ((2 * d3) - 2) < r
      · replace h := h.1 hp3; refine zc hp3 (wt_seq (wl_region wd_wide (zq (zm (.int .i64 r)) (zq (zm (.pointer (some (⟨gc, 0, none⟩ : Addr)))) (zq (v_nil rfl) (zq (v_faddr rfl Try.underlying129 rfl info_3) (zq (v_load rfl Try.underlying3 rfl (Row.cell (hS.bx 0 rfl) (i := 2) rfl)) ?_))))))); obtain ⟨hi3, h⟩ := h; exact zq (v_sub rfl rfl hi3) (zq (za (.int .i64 (r - d3))) (zq (za (.int .i64 0)) (rl_end (wt_ret2 rfl rfl rfl ⟨_, _, _, rfl, (hS.sel [0, 2] (by decide)), h⟩))))
      · replace h := h.2 hp3; refine zd hp3 (wt_skip (wt_seq (wl_region wd_wide (zq (zm (.pointer (some (⟨gc, 0, none⟩ : Addr)))) (zq (v_nil rfl) (zq (v_faddr rfl Try.underlying129 rfl info_24) (zq (v_loadn (vs := [(.int .i64 d), (.slice Ad ld cd)]) rfl Try.underlying24 rfl info_24 ⟨Row.cell (hS.bx 0 rfl) (i := 0) rfl, Row.cell (hS.bx 0 rfl) (i := 1) rfl, trivial⟩) (zq (zm (.slice Ai li ci)) (zn (n_call0 rfl (am2 rfl rfl) enter_34 ((pok_effective_Winnable h (no_lt _) (hS.rdr 1 rfl) (hS.rdr 3 rfl)).mono ?_))))))))))); rintro _ w3 ⟨r3, r4, r5, r6, Ar, lr, cr, Ar2, lr2, cr2, rfl, hC, h⟩; replace hS := hS.call2 (hC.widen (flatS (flat_own (fI .i64) _ _ _ _ _) (flatS (flat_own (fI .i64) _ _ _ _ _) flat0)) hS.blt) 4 0 5 1 rfl rfl (by decide) (by decide); clear hC; refine ⟨_, rfl, ?_⟩; refine ⟨Stb.none _, zq (zm (.tuple #[(.bool (r3)), (.slice Ar lr cr), (.slice Ar2 lr2 cr2), (.int .i64 r6)])) (zq (zx (.bool (r3))) (zq (zx (.slice Ar lr cr)) (zq (zx (.slice Ar2 lr2 cr2)) (zq (zx (.int .i64 r6)) ?_))))⟩
        refine zq (za (.bool (r3))) (zq (za (.slice Ar lr cr)) (zq (za (.slice Ar2 lr2 cr2)) (zq (za (.int .i64 r6)) (rl_end (wt_seq (wt_seq (wl_region wd_wide (zq (zm (.int .i64 r6)) (zq (v_neq rfl rfl) (rl_end ?_)))))))))); by_cases hp4 : r6 = 0
        · replace h := h.1 hp4; refine ze hp4 (wt_skip (wt_seq (wt_seq (wl_region wd_wide (zq (zm (.bool (r3))) (zq (v_not rfl) (rl_end ?_))))))); by_cases hp5 : r3 = true
          · replace h := h.1 hp5; refine wt_cond_f (congrArg Value.bool (congrArg Bool.not hp5)) (wt_skip (wt_seq (wl_region wd_wide (zn (n_alloc info_131 ?_))))); intro g w4 hN; replace hS := hS.made (n := 12) 6 rfl cI (.int .i64 0) (0 : Int) (fun _ _ => rfl) (hN : New _ _ _ (Array.replicate 12 (.int .i64 0)) 131) (by decide); clear hN; refine ⟨Stb.none _, rl_end (wt_seq (wl_region wd_wide (zq (v_slice_a rfl Try.underlying131 info_3) (zq (zm (.slice Ar lr cr)) ?_))))⟩; obtain ⟨hx, h⟩ := h; refine zn (n_cpy rfl rfl Try.underlying25 info_3 hS 6 rfl (hS.rdo 4 rfl) hx ?_); clear hS; intro w5 hS; refine ⟨Stb.none _, rl_end (wt_seq (wt_seq (wp_draw [0, 1, 2, 3, 4, 5, 6, 7, 8, 9, 10] st0 wd_wide (by kernel_rfl) (by kernel_rfl) ?_)))⟩; replace hS := hS.drew; refine rp_q rfl rfl rfl (zm (.pointer (some (⟨gc, 0, none⟩ : Addr)))) (rp_q rfl rfl rfl (v_nil rfl) (rp_q rfl rfl rfl (v_faddr rfl Try.underlying129 rfl info_127) (rp_q rfl rfl rfl (v_load rfl Try.underlying127 rfl (Row.cell (hS.bx 0 rfl) (i := 3) rfl)) (rp_q rfl rfl rfl (v_loadn (vs := (cpy (List.replicate 12 (0 : Int)) r4).map (.int .i64)) rfl Try.underlying131 rfl (arr_info info_131 (hS.rdo 6 rfl)) (arr_cells (hS.rdo 6 rfl))) ?_)))); obtain ⟨hx2, h⟩ := h
            obtain ⟨hx3, h⟩ := h; refine rp_n rfl rfl rfl rfl (n_val (v_mget (vE := (.int .i64)) (x0 := (0 : Int)) (keyt_131) hx2 hx3 rfl rfl Try.underlying127 info_3 (hS.mp 2 rfl)) ?_); refine ⟨Stb.none _, rp_q rfl rfl rfl (zm (.tuple #[(.int .i64 ((mget d4 (cpy (List.replicate 12 (0 : Int)) r4)).getD (0 : Int))), (.bool ((mget d4 (cpy (List.replicate 12 (0 : Int)) r4)).isSome))])) (rp_q rfl rfl rfl (zx (.int .i64 ((mget d4 (cpy (List.replicate 12 (0 : Int)) r4)).getD (0 : Int)))) (rp_q rfl rfl rfl (zx (.bool ((mget d4 (cpy (List.replicate 12 (0 : Int)) r4)).isSome))) (rp_q rfl rfl rfl (za (.int .i64 ((mget d4 (cpy (List.replicate 12 (0 : Int)) r4)).getD (0 : Int)))) (rp_q rfl rfl rfl (za (.bool ((mget d4 (cpy (List.replicate 12 (0 : Int)) r4)).isSome))) (rp_end (wt_seq (wl_region wd_wide (zq (zm (.bool ((mget d4 (cpy (List.replicate 12 (0 : Int)) r4)).isSome))) (rl_end ?_)))))))))⟩; by_cases hp6 : (mget d4 (cpy (List.replicate 12 (0 : Int)) r4)).isSome = true
            · replace h := h.1 hp6; exact wt_cond_t (congrArg Value.bool hp6) (wt_seq (wl_region wd_wide (zq (zm (.int .i64 ((mget d4 (cpy (List.replicate 12 (0 : Int)) r4)).getD (0 : Int)))) (zq (za (.int .i64 ((mget d4 (cpy (List.replicate 12 (0 : Int)) r4)).getD (0 : Int)))) (zq (za (.int .i64 0)) (rl_end (wt_ret2 rfl rfl rfl ⟨_, _, _, rfl, (hS.sel [0, 2] (by decide)), h⟩)))))))
            · replace h := h.2 hp6; refine wt_cond_f (congrArg Value.bool (Bool.eq_false_iff.2 hp6)) (wt_skip (wt_seq (wt_seq (wl_region wd_wide (zq (zm (.pointer (some (⟨gc, 0, none⟩ : Addr)))) (zq (v_nil rfl) (zq (v_faddr rfl Try.underlying129 rfl info_127) (zq (v_load rfl Try.underlying127 rfl (Row.cell (hS.bx 0 rfl) (i := 3) rfl)) (zq (v_mlen rfl Try.underlying127 (hS.mp 2 rfl)) (zq (v_eql rfl rfl) (rl_end ?_))))))))))); by_cases hp7 : ((d4.length : Nat) : Int) = 16384
              · replace h := h.1 hp7; exact zc hp7 (wt_seq (wl_region wd_wide (zq (za (.int .i64 0)) (zq (za (.int .i64 12)) (rl_end (wt_ret2 rfl rfl rfl ⟨_, _, _, rfl, (hS.sel [0, 2] (by decide)), h⟩))))))
              · replace h := h.2 hp7; refine zd hp7 (wt_skip (wt_seq (wl_region wd_wide (zq (zm (.int .i64 r)) (zq (za (.int .i64 r)) (rl_end (wt_seq (wt_seq (wl_region wd_wide (zq (zm (.slice Ar lr cr)) (zq (v_lenx (n := r4.length) rfl Try.underlying26 (rd_len (hS.rdo 4 rfl))) (zq (zm (.int .i64 0)) (rl_end (wt_block ?_)))))))))))))); obtain ⟨I2, ⟨m0, h0⟩, hr⟩ := h
                refine wt_loop (fun m E ds w' => ∃ v v2 d5 v3 Av lv cv, I2 m v v2 d5 v3 ∧ ds = [] ∧ E 0 = (Value.pointer (some (⟨gc, 0, none⟩ : Addr))) ∧ E 9 = (Value.slice Av lv cv) ∧ E 11 = (Value.pointer (some (⟨g, 0, none⟩ : Addr))) ∧ E 14 = (Value.int .i64 v) ∧ E 80 = (Value.int .i64 ((r4.length : Nat) : Int)) ∧ E 81 = (Value.int .i64 v2) ∧ Sep w S O w' (rl [Res.box 129 gc [(.int .i64 d), (.slice Ad ld cd), (.int .i64 d3), (Value.map (some gm))], Res.ro (FP.sl c3 Ad ld cd d2), Res.obj gm (mapO (.int .i64) d5), Res.own cI 3 Av lv cv v3, Res.own cI 131 (some ⟨g, 0, none⟩) 12 12 (cpy (List.replicate 12 (0 : Int)) r4)])) m0 ⟨_, _, _, _, _, _, _, h0, rfl, rfl, rfl, rfl, rfl, rfl, rfl, (hS.sel [0, 1, 2, 4, 6] (by decide))⟩ ?_; clear h0 hS; rintro m2 E ds w6 ⟨v, v2, d5, v3, Av, lv, cv, h, rfl, hE0, hE9, hE11, hE14, hE80, hE81, hS⟩ again; replace h := hr m2 v v2 d5 v3 h; clear hr; refine wt_seq (wl_region wd_wide (zq (v_lss hE81 hE80) (rl_end (wt_seq ?_)))); by_cases hp8 : v2 < ((r4.length : Nat) : Int)
                · replace h := h.1 hp8; refine zc hp8 (wt_skip (wt_seq (wt_block (wt_seq (wl_region wd_wide (zq (v_move hE81) (zq (za (.int .i64 v2)) (rl_end (wt_seq (wl_region wd_wide (zq (v_move hE9) (zq (zm (.int .i64 v2)) ?_)))))))))))); obtain ⟨hx4, h⟩ := h; refine zq (v_iaddr rfl rfl Try.underlying26 info_3 (rd_ix (hS.rdo 3 rfl) hx4)) (zq (v_load (v := (.int .i64 (gi v3 v2.toNat))) rfl Try.underlying3 rfl (rd_1 (hS.rdo 3 rfl) hx4 (fun q => gi_some q) rfl)) ?_); obtain ⟨hi4, h⟩ := h; refine zq (v_sub rfl rfl hi4) (zq (v_iaddr rfl rfl Try.underlying26 info_3 (rd_ix (hS.rdo 3 rfl) hx4)) (zo (zt (.int .i64 ((gi v3 v2.toNat) - 1)) info_3 (hS.wr 3 rfl rfl hx4) ?_))); intro w7 e1; replace hS := hS.st 3 rfl rfl hx4 (x := (gi v3 v2.toNat) - 1) rfl e1; clear e1; refine ⟨Stb.none _, rl_end (wt_seq (wl_region wd_wide (zq (v_move (v := (.pointer (some (⟨gc, 0, none⟩ : Addr)))) hE0) (zq (v_move hE9) ?_))))⟩; obtain ⟨fu, h⟩ := h
                  have hB := hS.lend (asc [(0, 0), (2, 1), (3, 2)]) [0, 1, 2, 3] (by decide) ⟨.inl (ne_none rfl), .inr rfl, .inl (ne_none rfl), .inl (ne_none rfl), trivial⟩; refine zn (n_call (vs := #[(.pointer (some (⟨gc, 0, none⟩ : Addr))), (.slice Av lv cv)]) (us := #[]) rfl (am2 rfl rfl) enter_46 ((cast_calls (by simp) (pok_rank_finder_rank_v2 h hB)).mono ?_)); rintro _ w8 ⟨r7, r8, y, rfl, hC, h⟩; replace hS := hS.back (asc [(0, 0), (2, 1), (3, 2)]) (asc_inj (by decide)) hC; clear hC hB; refine ⟨_, rfl, ?_⟩; refine ⟨Stb.none _, zq (zm (.tuple #[(.int .i64 r7), (.int .i64 r8)])) (zq (zx (.int .i64 r7)) (zq (zx (.int .i64 r8)) (zq (za (.int .i64 r7)) (zq (za (.int .i64 r8)) (rl_end (wt_seq (wl_region wd_wide (zq (v_move hE9) (zq (zm (.int .i64 v2)) ?_)))))))))⟩; obtain ⟨hx5, h⟩ := h; refine zq (v_iaddr rfl rfl Try.underlying26 info_3 (rd_ix (hS.rdo 3 rfl) hx5)) (zq (v_load (v := (.int .i64 (gi (v3.set v2.toNat ((gi v3 v2.toNat) - 1)) v2.toNat))) rfl Try.underlying3 rfl (rd_1 (hS.rdo 3 rfl) hx5 (fun q => gi_some q) rfl)) ?_); obtain ⟨hi5, h⟩ := h; refine zq (v_add rfl rfl hi5) ?_
                  refine zq (v_iaddr rfl rfl Try.underlying26 info_3 (rd_ix (hS.rdo 3 rfl) hx5)) (zo (zt (.int .i64 ((gi (v3.set v2.toNat ((gi v3 v2.toNat) - 1)) v2.toNat) + 1)) info_3 (hS.wr 3 rfl rfl hx5) ?_)); intro w9 e1; replace hS := hS.st 3 rfl rfl hx5 (x := (gi (v3.set v2.toNat ((gi v3 v2.toNat) - 1)) v2.toNat) + 1) rfl e1; clear e1; refine ⟨Stb.none _, rl_end (wt_seq (wt_seq (wl_region wd_wide (zq (zm (.int .i64 r8)) (zq (v_neq rfl rfl) (rl_end ?_))))))⟩; by_cases hp9 : r8 = 0
                  · replace h := h.1 hp9; refine ze hp9 (wt_skip (wl_region wd_wide (zq (v_move hE14) (zq (zm (.int .i64 r7)) ?_)))); obtain ⟨hi6, h⟩ := h; refine zq (v_add rfl rfl hi6) (zq (v_min2 rfl rfl) (zq (za (.int .i64 (mnF v (r7 + 1)))) (rl_end (wt_inBlock (wl_region wd_wide ?_))))); obtain ⟨hi7, h⟩ := h; refine zq (v_add hE81 rfl hi7) (zq (zm (.int .i64 (v2 + 1))) (rl_end ?_)); obtain ⟨mq, hlt, h⟩ := h; exact again mq _ _ _ ⟨_, _, _, _, _, _, _, h, rfl, hE0, hE9, hE11, rfl, hE80, rfl, (hS.sel [0, 1, 2, 3, 4] (by decide))⟩ hlt
                  · replace h := h.2 hp9; exact zf hp9 (wt_seq (wl_region wd_wide (zq (zm (.int .i64 r8)) (zq (za (.int .i64 0)) (zq (za (.int .i64 r8)) (rl_end (wt_ret2 rfl rfl rfl ⟨_, _, _, rfl, (hS.sel [0, 2] (by decide)), h⟩)))))))
                · replace h := h.2 hp8; refine zd hp8 (wt_exit rfl (wt_seq (wp_draw [0, 1, 2, 3, 4, 5, 6] st0 wd_wide (by kernel_rfl) (by kernel_rfl) ?_))); replace hS := hS.drew; refine rp_q rfl rfl rfl (v_move (v := (.pointer (some (⟨gc, 0, none⟩ : Addr)))) hE0) (rp_q rfl rfl rfl (v_nil rfl) (rp_q rfl rfl rfl (v_faddr rfl Try.underlying129 rfl info_127) (rp_q rfl rfl rfl (v_load rfl Try.underlying127 rfl (Row.cell (hS.bx 0 rfl) (i := 3) rfl)) (rp_q rfl rfl rfl (v_loadn (vs := (cpy (List.replicate 12 (0 : Int)) r4).map (.int .i64)) hE11 Try.underlying131 rfl (arr_info info_131 (hS.rdo 4 rfl)) (arr_cells (hS.rdo 4 rfl))) (rp_q rfl rfl rfl (v_move hE14) ?_))))); obtain ⟨hx6, h⟩ := h; refine rp_n0 rfl rfl rfl (n_mput (vE := (.int .i64)) (keyt_131) hx6 hx3 (v := v) rfl rfl rfl Try.underlying127 (hS.mp 2 rfl) ?_); intro w10 e1 e2; replace hS := hS.mst 2 rfl e1 e2; clear e1 e2; exact ⟨Stb.none _, rp_end (wt_seq (wl_region wd_wide (zq (v_move hE14) (zq (za (.int .i64 v)) (zq (za (.int .i64 0)) (rl_end (wt_ret2 rfl rfl rfl ⟨_, _, _, rfl, (hS.sel [0, 2] (by decide)), h⟩)))))))⟩
          · replace h := h.2 hp5; exact wt_cond_t (congrArg Value.bool (congrArg Bool.not (Bool.eq_false_iff.2 hp5))) (wt_seq (wl_region wd_wide (zq (za (.int .i64 (-1))) (zq (za (.int .i64 0)) (rl_end (wt_ret2 rfl rfl rfl ⟨_, _, _, rfl, (hS.sel [0, 2] (by decide)), h⟩))))))
        · replace h := h.2 hp4; exact zf hp4 (wt_seq (wl_region wd_wide (zq (zm (.int .i64 r6)) (zq (za (.int .i64 0)) (zq (za (.int .i64 r6)) (rl_end (wt_ret2 rfl rfl rfl ⟨_, _, _, rfl, (hS.sel [0, 2] (by decide)), h⟩)))))))
  · replace h := h.2 hp; exact zf hp (wt_seq (wl_region wd_wide (zq (zm (.int .i64 r2)) (zq (za (.int .i64 0)) (zq (za (.int .i64 r2)) (rl_end (wt_ret2 rfl rfl rfl ⟨_, _, _, rfl, (hS.sel [0, 2] (by decide)), h⟩)))))))
theorem pok_rank_finder_rank {nf} : ∀ {S O : Nat → Prop} {w : World} {d d2 d3 d4 i gc Ad ld cd gm Ai li ci} {R : Int → Int → (List (List Int × Int)) → Prop} (h : pf_rank_finder_rank nf d d2 d3 d4 i R) (hS : Sep w S O w (rl [Res.box 129 gc [(Value.int .i64 d), (Value.slice Ad ld cd), (Value.int .i64 d3), (Value.map (some gm))], Res.ro (FP.sl c3 Ad ld cd d2), Res.obj gm (mapO (Value.int .i64) d4), Res.ro (FP.sl cI Ai li ci i)])), Calls Try.prog 46 #[(Value.pointer (some (⟨gc, 0, none⟩ : Addr))), (Value.slice Ai li ci)] w fun e w' => ∃ r9 r10 z, e = .returned (Value.tuple #[(Value.int .i64 r9), (Value.int .i64 r10)]) ∧ Sep w S O w' (rl [Res.box 129 gc [(Value.int .i64 d), (Value.slice Ad ld cd), (Value.int .i64 d3), (Value.map (some gm))], Res.obj gm (mapO (Value.int .i64) z)]) ∧ R r9 r10 z := by
  induction nf with
  | zero => intros; rename_i h _; exact h.elim
  | succ nf ih => intro S O w d d2 d3 d4 i gc Ad ld cd gm Ai li ci R h hS; exact pokr_rank_finder_rank ih h hS

/-- sandpile/rank.Rank: what it computes. -/
def pf_rank_Rank (g : Int) (g2 : List E3) (d : List Int) (R : Int → Int → Prop) : Prop :=
pf_rank_given g g2 ([d]) (fun r =>
((r = 0 →
pf_rank_of g g2 (fun r2 =>
((r2 = 0 →
False) ∧
(¬ (r2 = 0) →
R 0 r2)))
(fun f f2 f3 m2 r3 =>
((r3 = 0 →
(∃ fu, pf_rank_finder_rank fu f f2 f3 m2 d (fun r4 r5 y =>
R r4 r5))) ∧
(¬ (r3 = 0) →
R 0 r3)))) ∧
(¬ (r = 0) →
R 0 r)))
theorem pok_rank_Rank {O : Nat → Prop} {w : World} {g g2 d Ag lg cg Ad ld cd} {R : Int → Int → Prop} (h : pf_rank_Rank g g2 d R) (hO : ∀ k, O k → k < w.heap.size) (hA0 : (FP.sl c3 Ag lg cg g2).P O w) (hA1 : (FP.sl cI Ad ld cd d).P O w) :
    Calls Try.prog 12 #[(.agg #[(.int .i64 g), (.slice Ag lg cg)]), (.slice Ad ld cd)] w fun e w' => ∃ r6 r7, e = .returned (.tuple #[(.int .i64 r6), (.int .i64 r7)]) ∧ Sep w no O w' (rl []) ∧ R r6 r7 := by
  unfold pf_rank_Rank at h; have hS : Sep w no O w (rl [Res.ro (FP.sl c3 Ag lg cg g2), Res.ro (FP.sl cI Ad ld cd d)]) := Sep.startl hO [(FP.sl c3 Ag lg cg g2), (FP.sl cI Ad ld cd d)] ⟨hA0, hA1, trivial⟩; refine calls_sh (l := [(.agg #[(.int .i64 g), (.slice Ag lg cg)]), (.slice Ad ld cd)]) Try.func12 rfl Try.ntmps12 (Nat.le_of_ble_eq_true rfl) (wt_seq (wl_region wd_wide (zn (n_box (v := (.agg #[(.int .i64 g), (.slice Ag lg cg)])) rfl ?_)))); intro g3 w2 hN; replace hS : Sep w no O w2 (stl _ 2 (Res.box 24 g3 [(.int .i64 g), (.slice Ag lg cg)])) := hS.new 2 rfl hN; clear hN; refine ⟨Stb.none _, zq (za (.int .i64 0)) (zq (za (.int .i64 0)) (rl_end (wt_seq (wt_seq (wl_region wd_wide (zq (v_loadn (vs := [(.int .i64 g), (.slice Ag lg cg)]) rfl Try.underlying24 rfl info_24 ⟨Row.cell (hS.bx 2 rfl) (i := 0) rfl, Row.cell (hS.bx 2 rfl) (i := 1) rfl, trivial⟩) (zq (zm (.slice Ad ld cd)) (zn (n_bslice (l := [(0, (.slice Ad ld cd))]) (cells := [(.slice Ad ld cd)]) (bp1 rfl) Try.underlying97 info_26 rfl rfl ?_)))))))))⟩; intro g4 w3 hN; replace hS := hS.lit (n := 1) (c := (cL cI)) 3 rfl hN ([d] : List (List Int)) rfl (by decide) ⟨[(.slice Ad ld cd)], _, rfl, (ro_R (hS.ro 1 rfl)), rfl⟩; clear hN
  refine ⟨Stb.none _, zn (n_call0 rfl (am2 rfl rfl) enter_44 ((pok_rank_given h (no_lt _) (hS.rdr 0 rfl) (hS.rdo 3 rfl)).mono ?_))⟩; rintro _ w4 ⟨r, rfl, hC, h⟩; replace hS := hS.pur hC.pure; clear hC; refine ⟨_, rfl, ?_⟩; refine ⟨Stb.none _, zq (za (.int .i64 r)) (rl_end (wt_seq (wl_region wd_wide (zq (zm (.int .i64 r)) (zq (v_neq rfl rfl) (rl_end ?_))))))⟩; by_cases hp : r = 0
  · replace h := h.1 hp; refine ze hp (wt_skip (wt_seq (wl_region wd_wide (zq (v_loadn (vs := [(.int .i64 g), (.slice Ag lg cg)]) rfl Try.underlying24 rfl info_24 ⟨Row.cell (hS.bx 2 rfl) (i := 0) rfl, Row.cell (hS.bx 2 rfl) (i := 1) rfl, trivial⟩) (zn (n_call0 rfl (am1 rfl) enter_45 ((pok_rank_of h hS.blt (hS.ro 0 rfl)).mono ?_))))))); rintro _ w5 (⟨r2, rfl, hC, h⟩ | ⟨f, f2, f3, m2, r3, gr, Af, lf, cf, gm, rfl, hC, h⟩)
    · replace hS := hS.pur hC.pure; clear hC; refine ⟨_, rfl, ?_⟩; refine ⟨Stb.none _, zq (zm (.tuple #[(.pointer none), (.int .i64 r2)])) (zq (zx (.pointer none)) (zq (zx (.int .i64 r2)) (zq (za (.pointer none)) (zq (za (.int .i64 r2)) (rl_end (wt_seq (wt_seq (wl_region wd_wide (zq (zm (.int .i64 r2)) (zq (v_neq rfl rfl) (rl_end ?_)))))))))))⟩; by_cases hp2 : r2 = 0
      · replace h := h.1 hp2; exact ze hp2 (wt_skip (wt_seq (wl_region wd_wide (zq (zm (.pointer none)) (zq (zm (.slice Ad ld cd)) h.elim)))))
      · replace h := h.2 hp2; exact zf hp2 (wt_seq (wl_region wd_wide (zq (zm (.int .i64 r2)) (zq (za (.int .i64 0)) (zq (za (.int .i64 r2)) (rl_end (wt_ret2 rfl rfl rfl ⟨_, _, rfl, (hS.sel [] (by decide)), h⟩)))))))
    · replace hS := hS.call3 hC 4 5 6 rfl rfl rfl (by decide) (by decide) (by decide); clear hC; refine ⟨_, rfl, ?_⟩; refine ⟨Stb.none _, zq (zm (.tuple #[(.pointer (some (⟨gr, 0, none⟩ : Addr))), (.int .i64 r3)])) (zq (zx (.pointer (some (⟨gr, 0, none⟩ : Addr)))) (zq (zx (.int .i64 r3)) (zq (za (.pointer (some (⟨gr, 0, none⟩ : Addr)))) (zq (za (.int .i64 r3)) (rl_end (wt_seq (wt_seq (wl_region wd_wide (zq (zm (.int .i64 r3)) (zq (v_neq rfl rfl) (rl_end ?_)))))))))))⟩; by_cases hp3 : r3 = 0
      · replace h := h.1 hp3; refine ze hp3 (wt_skip (wt_seq (wl_region wd_wide (zq (zm (.pointer (some (⟨gr, 0, none⟩ : Addr)))) (zq (zm (.slice Ad ld cd)) ?_))))); obtain ⟨fu, h⟩ := h; have hB := hS.lend (asc [(4, 0), (6, 1)]) [4, 5, 6, 1] (by decide) ⟨.inl (ne_none rfl), .inr rfl, .inl (ne_none rfl), .inr rfl, trivial⟩; refine zn (n_call (vs := #[(.pointer (some (⟨gr, 0, none⟩ : Addr))), (.slice Ad ld cd)]) (us := #[]) rfl (am2 rfl rfl) enter_46 ((cast_calls (by simp) (pok_rank_finder_rank h hB)).mono ?_)); rintro _ w6 ⟨r4, r5, y, rfl, hC, h⟩; replace hS := hS.back (asc [(4, 0), (6, 1)]) (asc_inj (by decide)) hC; clear hC hB; refine ⟨_, rfl, ?_⟩; exact ⟨Stb.none _, zq (zx (.int .i64 r4)) (zq (zx (.int .i64 r5)) (zq (za (.int .i64 r4)) (zq (za (.int .i64 r5)) (rl_end (wt_ret2 rfl rfl rfl ⟨_, _, rfl, (hS.sel [] (by decide)), h⟩)))))⟩
      · replace h := h.2 hp3; exact zf hp3 (wt_seq (wl_region wd_wide (zq (zm (.int .i64 r3)) (zq (za (.int .i64 0)) (zq (za (.int .i64 r3)) (rl_end (wt_ret2 rfl rfl rfl ⟨_, _, rfl, (hS.sel [] (by decide)), h⟩)))))))
  · replace h := h.2 hp; exact zf hp (wt_seq (wl_region wd_wide (zq (zm (.int .i64 r)) (zq (za (.int .i64 0)) (zq (za (.int .i64 r)) (rl_end (wt_ret2 rfl rfl rfl ⟨_, _, rfl, (hS.sel [] (by decide)), h⟩)))))))

/-- sandpile/rank.AtLeast: what it computes. -/
def pf_rank_AtLeast (g : Int) (g2 : List E3) (d : List Int) (r : Int) (R : Bool → Int → Prop) : Prop :=
pf_rank_given g g2 ([d]) (fun r2 =>
(∃ J2 : Prop, (J2 → pf_rank_Rank g g2 d (fun r3 r4 =>
((r4 = 0 →
R (decide (r ≤ r3)) r4) ∧
(¬ (r4 = 0) →
R false r4)))) ∧
((r2 = 0 →
((r < 0 →
R (decide (r2 = 0)) r2) ∧
(¬ (r < 0) →
J2))) ∧
(¬ (r2 = 0) →
R (decide (r2 = 0)) r2))))
theorem pok_rank_AtLeast {O : Nat → Prop} {w : World} {g g2 d r Ag lg cg Ad ld cd} {R : Bool → Int → Prop} (h : pf_rank_AtLeast g g2 d r R) (hO : ∀ k, O k → k < w.heap.size) (hA0 : (FP.sl c3 Ag lg cg g2).P O w) (hA1 : (FP.sl cI Ad ld cd d).P O w) :
    Calls Try.prog 16 #[(.agg #[(.int .i64 g), (.slice Ag lg cg)]), (.slice Ad ld cd), (.int .i64 r)] w fun e w' => ∃ r5 r6, e = .returned (.tuple #[(.bool (r5)), (.int .i64 r6)]) ∧ Sep w no O w' (rl []) ∧ R r5 r6 := by
  unfold pf_rank_AtLeast at h; have hS : Sep w no O w (rl [Res.ro (FP.sl c3 Ag lg cg g2), Res.ro (FP.sl cI Ad ld cd d)]) := Sep.startl hO [(FP.sl c3 Ag lg cg g2), (FP.sl cI Ad ld cd d)] ⟨hA0, hA1, trivial⟩; refine calls_sh (l := [(.agg #[(.int .i64 g), (.slice Ag lg cg)]), (.slice Ad ld cd), (.int .i64 r)]) Try.func16 rfl Try.ntmps16 (Nat.le_of_ble_eq_true rfl) (wt_seq (wl_region wd_wide (zn (n_box (v := (.agg #[(.int .i64 g), (.slice Ag lg cg)])) rfl ?_)))); intro g3 w2 hN; replace hS : Sep w no O w2 (stl _ 2 (Res.box 24 g3 [(.int .i64 g), (.slice Ag lg cg)])) := hS.new 2 rfl hN; clear hN; refine ⟨Stb.none _, zq (za (.bool (false))) (zq (za (.int .i64 0)) (rl_end (wt_seq (wt_seq (wl_region wd_wide (zq (v_loadn (vs := [(.int .i64 g), (.slice Ag lg cg)]) rfl Try.underlying24 rfl info_24 ⟨Row.cell (hS.bx 2 rfl) (i := 0) rfl, Row.cell (hS.bx 2 rfl) (i := 1) rfl, trivial⟩) (zq (zm (.slice Ad ld cd)) (zn (n_bslice (l := [(0, (.slice Ad ld cd))]) (cells := [(.slice Ad ld cd)]) (bp1 rfl) Try.underlying97 info_26 rfl rfl ?_)))))))))⟩; intro g4 w3 hN; replace hS := hS.lit (n := 1) (c := (cL cI)) 3 rfl hN ([d] : List (List Int)) rfl (by decide) ⟨[(.slice Ad ld cd)], _, rfl, (ro_R (hS.ro 1 rfl)), rfl⟩
  clear hN; refine ⟨Stb.none _, zn (n_call0 rfl (am2 rfl rfl) enter_44 ((pok_rank_given h (no_lt _) (hS.rdr 0 rfl) (hS.rdo 3 rfl)).mono ?_))⟩; rintro _ w4 ⟨r2, rfl, hC, h⟩; replace hS := hS.pur hC.pure; clear hC; refine ⟨_, rfl, ?_⟩; refine ⟨Stb.none _, zq (za (.int .i64 r2)) (rl_end (wt_seq ?_))⟩; obtain ⟨J2, hJ, h⟩ := h; refine wt_cutT1 (fun E ds w' => J2 ∧ ds = [] ∧ E 1 = (Value.slice Ad ld cd) ∧ E 2 = (Value.int .i64 r) ∧ E 3 = (Value.pointer (some (⟨g3, 0, none⟩ : Addr))) ∧ Sep w no O w' (rl [Res.ro (FP.sl cI Ad ld cd d), Res.box 24 g3 [(.int .i64 g), (.slice Ag lg cg)], Res.ro (FP.sl c3 Ag lg cg g2)])) ?_ ?_
  · clear h hS; rintro E ds w5 ⟨h, rfl, hE1, hE2, hE3, hS⟩; replace h := hJ h; refine wt_seq (wl_region wd_wide (zq (v_loadn (vs := [(.int .i64 g), (.slice Ag lg cg)]) hE3 Try.underlying24 rfl info_24 ⟨Row.cell (hS.bx 1 rfl) (i := 0) rfl, Row.cell (hS.bx 1 rfl) (i := 1) rfl, trivial⟩) (zq (v_move hE1) (zn (n_call0 rfl (am2 rfl rfl) enter_12 ((pok_rank_Rank h (no_lt _) (hS.rdr 2 rfl) (hS.rdr 0 rfl)).mono ?_)))))); rintro _ w6 ⟨r3, r4, rfl, hC, h⟩; replace hS := hS.pur hC.pure; clear hC; refine ⟨_, rfl, ?_⟩; refine ⟨Stb.none _, zq (zm (.tuple #[(.int .i64 r3), (.int .i64 r4)])) (zq (zx (.int .i64 r3)) (zq (zx (.int .i64 r4)) (zq (za (.int .i64 r3)) (zq (za (.int .i64 r4)) (rl_end (wt_seq (wl_region wd_wide (zq (zm (.int .i64 r4)) (zq (v_eql rfl rfl) (zq (zm (.bool (decide (r4 = 0)))) ?_))))))))))⟩; by_cases hp : r4 = 0
    · replace h := h.1 hp; exact rl_q (wanted_g rfl (yE_of rfl (congrArg Value.bool (decide_eq_true hp)))) rfl rfl (zm (.int .i64 r3)) (rl_q (wanted_g rfl (yE_of rfl (congrArg Value.bool (decide_eq_true hp)))) rfl rfl (v_move hE2) (rl_q (wanted_g rfl (yE_of rfl (congrArg Value.bool (decide_eq_true hp)))) rfl rfl (v_geq rfl rfl) (zq (v_pick_t (v := (.bool (decide (r ≤ r3)))) (congrArg Value.bool (decide_eq_true hp)) rfl) (zq (zm (.int .i64 r4)) (zq (za (.bool (decide (r ≤ r3)))) (zq (za (.int .i64 r4)) (rl_end (wt_ret2 rfl rfl rfl ⟨_, _, rfl, (hS.sel [] (by decide)), h⟩))))))))
    · replace h := h.2 hp; exact rl_p (wanted_n rfl (yE_of rfl (congrArg Value.bool (decide_eq_false hp))) rfl) rfl (rl_p (wanted_n rfl (yE_of rfl (congrArg Value.bool (decide_eq_false hp))) rfl) rfl (rl_p (wanted_n rfl (yE_of rfl (congrArg Value.bool (decide_eq_false hp))) rfl) rfl (zq (v_pick_f (v := (.bool (false))) (congrArg Value.bool (decide_eq_false hp)) rfl) (zq (zm (.int .i64 r4)) (zq (za (.bool (false))) (zq (za (.int .i64 r4)) (rl_end (wt_ret2 rfl rfl rfl ⟨_, _, rfl, (hS.sel [] (by decide)), h⟩))))))))
  clear hJ; intro j; refine wl_region wd_wide (zq (zm (.int .i64 r2)) (zq (v_neq rfl rfl) (zq (zm (.bool (!(decide (r2 = 0))))) ?_))); by_cases hp2 : r2 = 0
  · replace h := h.1 hp2; refine rl_q (wanted_g rfl (yE_of rfl (congrArg Value.bool (congrArg Bool.not (decide_eq_true hp2))))) rfl rfl (zm (.int .i64 r)) (rl_q (wanted_g rfl (yE_of rfl (congrArg Value.bool (congrArg Bool.not (decide_eq_true hp2))))) rfl rfl (v_lss rfl rfl) (zq (v_pick_f (v := (.bool (decide (r < 0)))) (congrArg Value.bool (congrArg Bool.not (decide_eq_true hp2))) rfl) (rl_end ?_))); by_cases hp3 : r < 0
    · replace h := h.1 hp3; exact zc hp3 (wt_seq (wl_region wd_wide (zq (zm (.int .i64 r2)) (zq (v_eql rfl rfl) (zq (zm (.int .i64 r2)) (zq (za (.bool (decide (r2 = 0)))) (zq (za (.int .i64 r2)) (rl_end (wt_ret2 rfl rfl rfl ⟨_, _, rfl, (hS.sel [] (by decide)), h⟩)))))))))
    · replace h := h.2 hp3; exact zd hp3 (wt_skip (j _ _ _ ⟨h, rfl, rfl, rfl, rfl, (hS.sel [1, 2, 0] (by decide))⟩))
  · replace h := h.2 hp2; exact rl_p (wanted_n rfl (yE_of rfl (congrArg Value.bool (congrArg Bool.not (decide_eq_false hp2)))) rfl) rfl (rl_p (wanted_n rfl (yE_of rfl (congrArg Value.bool (congrArg Bool.not (decide_eq_false hp2)))) rfl) rfl (zq (v_pick_t (v := (.bool (true))) (congrArg Value.bool (congrArg Bool.not (decide_eq_false hp2))) rfl) (rl_end (wt_cond_t rfl (wt_seq (wl_region wd_wide (zq (zm (.int .i64 r2)) (zq (v_eql rfl rfl) (zq (zm (.int .i64 r2)) (zq (za (.bool (decide (r2 = 0)))) (zq (za (.int .i64 r2)) (rl_end (wt_ret2 rfl rfl rfl ⟨_, _, rfl, (hS.sel [] (by decide)), h⟩)))))))))))))

/-- sandpile/rank.taken: what it computes. -/
def pf_rank_taken (d : List Int) (degree : Int) (R : Prop) : Prop :=
R
theorem pok_rank_taken {O : Nat → Prop} {w : World} {d degree Ad ld cd} {R : Prop} (h : pf_rank_taken d degree R) (hO : ∀ k, O k → k < w.heap.size) (hA0 : (FP.sl cI Ad ld cd d).P O w) :
    Calls Try.prog 48 #[(.slice Ad ld cd), (.int .i64 degree)] w fun e w' => ∃ gr gr2, e = .returned (.func (Fn.func 88) #[] #[(.pointer (some (⟨gr, 0, none⟩ : Addr))), (.pointer (some (⟨gr2, 0, none⟩ : Addr)))]) ∧ Sep w no O w' (rl [Res.box 26 gr [(.slice Ad ld cd)], Res.box 3 gr2 [(.int .i64 degree)]]) ∧ R := by
  unfold pf_rank_taken at h; have hS : Sep w no O w (rl [Res.ro (FP.sl cI Ad ld cd d)]) := Sep.startl hO [(FP.sl cI Ad ld cd d)] ⟨hA0, trivial⟩; refine calls_sh (l := [(.slice Ad ld cd), (.int .i64 degree)]) Try.func48 rfl Try.ntmps48 (Nat.le_of_ble_eq_true rfl) (wt_seq (wl_region wd_wide (zn (n_box (v := (.slice Ad ld cd)) rfl ?_)))); intro g w2 hN; replace hS : Sep w no O w2 (stl _ 1 (Res.box 26 g [(.slice Ad ld cd)])) := hS.new 1 rfl hN; clear hN; refine ⟨Stb.none _, zn (n_box (v := (.int .i64 degree)) rfl ?_)⟩; intro g2 w3 hN; replace hS : Sep w no O w3 (stl _ 2 (Res.box 3 g2 [(.int .i64 degree)])) := hS.new 2 rfl hN; clear hN; exact ⟨Stb.none _, zq (za Value.nilFunc) (rl_end (wt_seq (wl_region wd_wide (zq (v_func (am0) (am2 rfl rfl)) (zq (za (.func (Fn.func 88) #[] #[(.pointer (some (⟨g, 0, none⟩ : Addr))), (.pointer (some (⟨g2, 0, none⟩ : Addr)))])) (rl_end (wt_ret1 rfl rfl ⟨_, _, rfl, (hS.sel [1, 2] (by decide)), h⟩)))))))⟩

/-- sandpile/rank.taken$1: what it yields. -/
def pf_rank_taken_1 (cap : List Int) (cap2 : Int) (Pr R : List (List Int × List Int) → Prop) : Prop :=
((0 ≤ ((cap.length : Nat) : Int) ∧ ((cap.length : Nat) : Int) ≤ 1000000) ∧
(In64 (((cap.length : Nat) : Int) - 1) ∧
((0 ≤ (((cap.length : Nat) : Int) - 1) ∧ (((cap.length : Nat) : Int) - 1) < (((List.replicate ((cap.length : Nat) : Int).toNat (0 : Int)).length : Nat) : Int)) ∧
(∃ I2 : Nat → (List (List Int × List Int)) → (List Int) → Bool → Prop, (∃ m0, I2 m0 ([]) ((List.replicate ((cap.length : Nat) : Int).toNat (0 : Int)).set (((cap.length : Nat) : Int) - 1).toNat cap2) true) ∧ ∀ m2 pre2 e2 more, I2 m2 pre2 e2 more → 
((more = true →
(∃ I3 : Nat → (List (List Int × List Int)) → Int → (List Int) → Prop, (∃ m0, I3 m0 pre2 0 (List.replicate ((cap.length : Nat) : Int).toNat (0 : Int))) ∧ ∀ m3 pre3 v left, I3 m3 pre3 v left → 
((v < (((List.replicate ((cap.length : Nat) : Int).toNat (0 : Int)).length : Nat) : Int) →
((0 ≤ v ∧ v < ((cap.length : Nat) : Int)) ∧
((0 ≤ v ∧ v < ((e2.length : Nat) : Int)) ∧
(In64 ((gi cap v.toNat) - (gi e2 v.toNat)) ∧
((0 ≤ v ∧ v < ((left.length : Nat) : Int)) ∧
(In64 (v + 1) ∧
∃ m4, m4 < m3 ∧ I3 m4 pre3 (v + 1) (left.set v.toNat ((gi cap v.toNat) - (gi e2 v.toNat))))))))) ∧
(¬ (v < (((List.replicate ((cap.length : Nat) : Int).toNat (0 : Int)).length : Nat) : Int)) →
(Pr (pre3 ++ [(e2, left)]) ∧
(pf_chips_Next e2 (fun r r2 r3 =>
∃ m5, m5 < m2 ∧ I2 m5 (pre3 ++ [(e2, left)]) r r2) ∧
True)))))) ∧
(¬ (more = true) →
R pre2))))))
theorem pok_rank_taken_1 {w : World} {T0 G0 : BS} {cap cap2 gc Acap lcap ccap gc2} {Pr R : List (List Int × List Int) → Prop} (h : pf_rank_taken_1 cap cap2 Pr R) (hS0 : Sep w G0 T0 w (rl [Res.box 26 gc [(Value.slice Acap lcap ccap)], Res.ro (FP.sl cI Acap lcap ccap cap), Res.box 3 gc2 [(Value.int .i64 cap2)]])) :
    GenSaysP Try.prog 88 #[(.pointer (some (⟨gc, 0, none⟩ : Addr))), (.pointer (some (⟨gc2, 0, none⟩ : Addr)))] (fun (x : List Int × List Int) (b : (Option Addr × Nat × Nat) × (Option Addr × Nat × Nat)) => #[(.slice b.1.1 b.1.2.1 b.1.2.2), (.slice b.2.1 b.2.2.1 b.2.2.2)]) (fun (x : List Int × List Int) (b : (Option Addr × Nat × Nat) × (Option Addr × Nat × Nat)) => (FP.and (FP.sl cI b.1.1 b.1.2.1 b.1.2.2 x.1) (FP.sl cI b.2.1 b.2.2.1 b.2.2.2 x.2))) Pr R T0 G0 w := by
  unfold pf_rank_taken_1 at h; intro l J Jx T1 w1 hs hJ hp hT; obtain ⟨G, hJ, hS⟩ := gen_startP hS0 hs hJ hp hT; clear hS0 hp hT; refine callsIn_gen (l := [(.func (.yield l) #[] #[]), (.pointer (some (⟨gc, 0, none⟩ : Addr))), (.pointer (some (⟨gc2, 0, none⟩ : Addr)))]) Try.func88 rfl Try.ntmps88 (Nat.le_of_ble_eq_true rfl) rfl (wt_seq (wl_region wd_wide (zq (v_load rfl Try.underlying26 rfl (Row.cell (hS.bx 0 rfl) (i := 0) rfl)) (zq (v_lenx (n := cap.length) rfl Try.underlying26 (rd_len (hS.rdr 1 rfl))) ?_)))); obtain ⟨hx, h⟩ := h; refine zn (n_make rfl rfl Try.underlying26 info_3 (by decide) rfl hx ?_); intro g w2 hN; replace hS := hS.made 3 rfl cI (.int .i64 0) (0 : Int) (fun _ _ => rfl) hN (by omega); clear hN; refine ⟨Stb.none _, zq (za (.slice (some ⟨g, 0, none⟩) (((cap.length : Nat) : Int).toNat) (((cap.length : Nat) : Int).toNat))) (rl_end (wt_seq (wl_region wd_wide (zq (zm (.slice (some ⟨g, 0, none⟩) (((cap.length : Nat) : Int).toNat) (((cap.length : Nat) : Int).toNat))) (zq (v_load rfl Try.underlying26 rfl (Row.cell (hS.bx 0 rfl) (i := 0) rfl)) (zq (v_lenx (n := cap.length) rfl Try.underlying26 (rd_len (hS.rdr 1 rfl))) ?_))))))⟩; obtain ⟨hi, h⟩ := h; refine zq (v_sub rfl rfl hi) ?_
  refine zq (v_load rfl Try.underlying3 rfl (Row.cell (hS.bx 2 rfl) (i := 0) rfl)) ?_; obtain ⟨hx2, h⟩ := h; refine zq (v_iaddr rfl rfl Try.underlying26 info_3 (rd_ix (hS.rdo 3 rfl) hx2)) (zo (zt (.int .i64 cap2) info_3 (hS.wr 3 rfl rfl hx2) ?_)); intro w3 e1; replace hS := hS.st 3 rfl rfl hx2 (x := cap2) rfl e1; clear e1; refine ⟨Stb.none _, rl_end (wt_seq (wl_region wd_wide (zq (za (.bool (true))) (rl_end (wt_block ?_)))))⟩; obtain ⟨I2, ⟨m0, h0⟩, hr⟩ := h; refine wt_loop (fun m E ds w' => ∃ pre2 e2 more, ∃ T2 : BS, ∃ G2 : BS, ∃ wb2 : World, ∃ Ae le ce, I2 m pre2 e2 more ∧ ds = [] ∧ E 0 = (Value.func (.yield l) #[] #[]) ∧ E 1 = (Value.pointer (some (⟨gc, 0, none⟩ : Addr))) ∧ E 4 = (Value.slice Ae le ce) ∧ E 5 = (Value.bool (more)) ∧ J T2 G2 pre2 wb2 ∧ Sep wb2 G2 T2 w' (rl [Res.own cI 3 Ae le ce e2, Res.box 26 gc [(.slice Acap lcap ccap)], Res.ro (FP.sl cI Acap lcap ccap cap)])) m0 ⟨_, _, _, _, _, _, _, _, _, h0, rfl, rfl, rfl, rfl, rfl, hJ, (hS.sel [3, 0, 1] (by decide))⟩ ?_; clear h0 hS hJ; rintro m2 E ds w4 ⟨pre2, e2, more, T2, G2, wb2, Ae, le, ce, h, rfl, hE0, hE1, hE4, hE5, hJ, hS⟩ again; replace h := hr m2 pre2 e2 more h; clear hr; refine wt_seq (wt_seq (wl_region wd_wide ?_))
  refine zq (v_move hE5) (rl_end ?_); by_cases hp : more = true
  · replace h := h.1 hp; refine wt_cond_t (congrArg Value.bool hp) (wt_skip (wt_block (wt_seq (wl_region wd_wide (zq (v_load hE1 Try.underlying26 rfl (Row.cell (hS.bx 1 rfl) (i := 0) rfl)) (zq (v_lenx (n := cap.length) rfl Try.underlying26 (rd_len (hS.rdr 2 rfl))) (zn (n_make rfl rfl Try.underlying26 info_3 (by decide) rfl hx ?_)))))))); intro g2 w5 hN; replace hS := hS.made 3 rfl cI (.int .i64 0) (0 : Int) (fun _ _ => rfl) hN (by omega); clear hN; refine ⟨Stb.none _, zq (za (.slice (some ⟨g2, 0, none⟩) (((cap.length : Nat) : Int).toNat) (((cap.length : Nat) : Int).toNat))) (rl_end (wt_seq (wt_seq (wl_region wd_wide (zq (zm (.slice (some ⟨g2, 0, none⟩) (((cap.length : Nat) : Int).toNat) (((cap.length : Nat) : Int).toNat))) (zq (v_lenx (n := (List.replicate ((cap.length : Nat) : Int).toNat (0 : Int)).length) rfl Try.underlying26 (rd_len (hS.rdo 3 rfl))) (zq (zm (.int .i64 0)) (rl_end (wt_block ?_)))))))))⟩; obtain ⟨I3, ⟨m0, h0⟩, hr⟩ := h
    refine wt_loop (fun m E ds w' => ∃ pre3 v left, ∃ T3 : BS, ∃ G3 : BS, ∃ wb3 : World, ∃ Aleft lleft cleft, I3 m pre3 v left ∧ ds = [] ∧ E 0 = (Value.func (.yield l) #[] #[]) ∧ E 1 = (Value.pointer (some (⟨gc, 0, none⟩ : Addr))) ∧ E 4 = (Value.slice Ae le ce) ∧ E 6 = (Value.slice Aleft lleft cleft) ∧ E 22 = (Value.int .i64 (((List.replicate ((cap.length : Nat) : Int).toNat (0 : Int)).length : Nat) : Int)) ∧ E 23 = (Value.int .i64 v) ∧ J T3 G3 pre3 wb3 ∧ Sep wb3 G3 T3 w' (rl [Res.box 26 gc [(.slice Acap lcap ccap)], Res.ro (FP.sl cI Acap lcap ccap cap), Res.own cI 3 Ae le ce e2, Res.own cI 3 Aleft lleft cleft left])) m0 ⟨_, _, _, _, _, _, _, _, _, h0, rfl, hE0, hE1, hE4, rfl, rfl, rfl, hJ, (hS.sel [1, 2, 0, 3] (by decide))⟩ ?_; clear h0 hS hJ; rintro m3 E ds w6 ⟨pre3, v, left, T3, G3, wb3, Aleft, lleft, cleft, h, rfl, hE0, hE1, hE4, hE6, hE22, hE23, hJ, hS⟩ again2; replace h := hr m3 pre3 v left h; clear hr; refine wt_seq (wl_region wd_wide (zq (v_lss hE23 hE22) (rl_end (wt_seq ?_)))); by_cases hp2 : v < (((List.replicate ((cap.length : Nat) : Int).toNat (0 : Int)).length : Nat) : Int)
    · replace h := h.1 hp2; refine zc hp2 (wt_skip (wt_seq (wt_block (wt_seq (wl_region wd_wide (zq (v_move hE23) (zq (za (.int .i64 v)) (rl_end (wp_draw [0, 1, 2, 3, 4, 5, 6, 7, 8, 9, 10, 11, 12] st0 wd_wide (by kernel_rfl) (by kernel_rfl) ?_))))))))); replace hS := hS.drew; refine rp_q rfl rfl rfl (v_move hE6) (rp_q rfl rfl rfl (zm (.int .i64 v)) (rp_q rfl rfl rfl (v_load hE1 Try.underlying26 rfl (Row.cell (hS.bx 0 rfl) (i := 0) rfl)) (rp_q rfl rfl rfl (zm (.int .i64 v)) ?_))); obtain ⟨hx3, h⟩ := h; refine rp_q rfl rfl rfl (v_iaddr rfl rfl Try.underlying26 info_3 (rd_ix (hS.rdr 1 rfl) hx3)) (rp_q rfl rfl rfl (v_load (v := (.int .i64 (gi cap v.toNat))) rfl Try.underlying3 rfl (rd_1 (hS.rdr 1 rfl) hx3 (fun q => gi_some q) rfl)) ?_); refine rp_q rfl rfl rfl (v_move hE4) (rp_q rfl rfl rfl (zm (.int .i64 v)) ?_); obtain ⟨hx4, h⟩ := h; refine rp_q rfl rfl rfl (v_iaddr rfl rfl Try.underlying26 info_3 (rd_ix (hS.rdo 2 rfl) hx4)) (rp_q rfl rfl rfl (v_load (v := (.int .i64 (gi e2 v.toNat))) rfl Try.underlying3 rfl (rd_1 (hS.rdo 2 rfl) hx4 (fun q => gi_some q) rfl)) ?_); obtain ⟨hi2, h⟩ := h; refine rp_q rfl rfl rfl (v_sub rfl rfl hi2) ?_
      obtain ⟨hx5, h⟩ := h; refine rp_q rfl rfl rfl (v_iaddr rfl rfl Try.underlying26 info_3 (rd_ix (hS.rdo 3 rfl) hx5)) (rp_n0 rfl rfl rfl (zt (.int .i64 ((gi cap v.toNat) - (gi e2 v.toNat))) info_3 (hS.wr 3 rfl rfl hx5) ?_)); intro w7 e1; replace hS := hS.st 3 rfl rfl hx5 (x := (gi cap v.toNat) - (gi e2 v.toNat)) rfl e1; clear e1; refine ⟨Stb.none _, rp_end (wt_inBlock (wl_region wd_wide ?_))⟩; obtain ⟨hi3, h⟩ := h; refine zq (v_add hE23 rfl hi3) (zq (zm (.int .i64 (v + 1))) (rl_end ?_)); obtain ⟨mq, hlt, h⟩ := h; exact again2 mq _ _ _ ⟨_, _, _, _, _, _, _, _, _, h, rfl, hE0, hE1, hE4, hE6, hE22, rfl, hJ, (hS.sel [0, 1, 2, 3] (by decide))⟩ hlt
    · replace h := h.2 hp2; refine zd hp2 (wt_exit rfl (wt_seq (wt_seq (wl_region wd_wide (zq (v_move hE0) (zq (v_move hE4) (zq (v_move hE6) ?_))))))); replace hS := hS.frz 2 rfl; replace hS := hS.frz 3 rfl; obtain ⟨hPr, hyes, hno⟩ := h; refine zn (n_yield (m := 1) rfl (am2 rfl rfl) (gen_yieldP (x := (e2, left)) (b := ((Ae, le, ce), (Aleft, lleft, cleft))) hs hJ hS hPr ⟨(hS.ro 2 rfl), (hS.ro 3 rfl)⟩ ?_ ?_))
      · clear hno hJ hS; have h := hyes; clear hyes; intro T4 w8 hJ hS; generalize OwnB _ = G4 at hJ hS; refine ⟨_, rfl, ?_⟩; refine ⟨Stb.none _, zq (v_not rfl) (rl_end (wt_cond_f (congrArg Value.bool (congrArg Bool.not rfl)) (wt_skip (wl_region wd_wide (zq (v_move hE4) (zn (n_call0 rfl (am1 rfl) enter_89 ((pok_chips_Next h (no_lt _) (hS.rdr 2 rfl)).mono ?_))))))))⟩; rintro _ w9 ⟨r, r2, r3, Ar, lr, cr, rfl, hC, h⟩; replace hS := hS.call1 (hC.widen (flatS (flat_own (fI .i64) _ _ _ _ _) flat0) hS.blt) 4 0 rfl; clear hC; refine ⟨_, rfl, ?_⟩; refine ⟨Stb.none _, zq (zm (.tuple #[(.slice Ar lr cr), (.bool (r2)), (.int .i64 r3)])) (zq (zx (.slice Ar lr cr)) (zq (zx (.bool (r2))) (zq (zx (.int .i64 r3)) (zq (za (.slice Ar lr cr)) (zq (za (.bool (r2))) (rl_end (wt_inBlock ?_)))))))⟩; obtain ⟨mq, hlt, h⟩ := h; exact again mq _ _ _ ⟨_, _, _, _, _, _, _, _, _, h, rfl, hE0, hE1, rfl, rfl, hJ, (hS.sel [4, 0, 1] (by decide))⟩ hlt
      · clear hyes hJ hS; have h := hno; clear hno; intro T5 w10 hJ hS; generalize OwnB _ = G5 at hJ hS; refine ⟨_, rfl, ?_⟩; exact ⟨Stb.none _, zq (v_not rfl) (rl_end (wt_cond_t (congrArg Value.bool (congrArg Bool.not rfl)) (wt_ret0 rfl ⟨⟨_, rfl⟩, gen_endxP hs hJ hS⟩)))⟩
  · replace h := h.2 hp; exact wt_cond_f (congrArg Value.bool (Bool.eq_false_iff.2 hp)) (wt_exit rfl (wt_end0 rfl ⟨⟨_, rfl⟩, gen_endP hs hJ hS h⟩))

/-- sandpile/rank.Witness: what it computes. -/
def pf_rank_Witness (g : Int) (g2 : List E3) (d : List Int) (R : (List Int) → Int → Prop) : Prop :=
pf_rank_Rank g g2 d (fun r r2 =>
((r2 = 0 →
(In64 (r + 1) ∧
pf_rank_taken d (r + 1) ((∃ Pr Rr : List (List Int × List Int) → Prop, pf_rank_taken_1 d (r + 1) Pr Rr ∧
(∃ I2 : List (List Int × List Int) → Int → Prop, I2 [] 0 ∧
(∀ pre y y2 n, I2 pre n → Pr (pre ++ [(y, y2)]) →
(In64 (n + 1) ∧
((16384 < (n + 1) →
R ([]) 12) ∧
(¬ (16384 < (n + 1)) →
pf_effective_Winnable g g2 y2 (fun r5 r6 r7 r8 =>
((r8 = 0 →
((r5 = true →
I2 (pre ++ [(y, y2)]) (n + 1)) ∧
(¬ (r5 = true) →
R y 0))) ∧
(¬ (r8 = 0) →
pf_rank_large r8 (fun r11 =>
R ([]) r11)))))))) ∧
(∀ ys n, I2 ys n → Rr ys →
R ([]) 12)))))) ∧
(¬ (r2 = 0) →
R ([]) r2)))
theorem pok_rank_Witness {O : Nat → Prop} {w : World} {g g2 d Ag lg cg Ad ld cd} {R : (List Int) → Int → Prop} (h : pf_rank_Witness g g2 d R) (hO : ∀ k, O k → k < w.heap.size) (hA0 : (FP.sl c3 Ag lg cg g2).P O w) (hA1 : (FP.sl cI Ad ld cd d).P O w) :
    Calls Try.prog 14 #[(.agg #[(.int .i64 g), (.slice Ag lg cg)]), (.slice Ad ld cd)] w fun e w' => ∃ r16 r17 Ar7 lr7 cr7, e = .returned (.tuple #[(.slice Ar7 lr7 cr7), (.int .i64 r17)]) ∧ Sep w no O w' (rl [Res.ro (FP.sl cI Ar7 lr7 cr7 r16)]) ∧ R r16 r17 := by
  unfold pf_rank_Witness at h; have hS : Sep w no O w (rl [Res.ro (FP.sl c3 Ag lg cg g2), Res.ro (FP.sl cI Ad ld cd d)]) := Sep.startl hO [(FP.sl c3 Ag lg cg g2), (FP.sl cI Ad ld cd d)] ⟨hA0, hA1, trivial⟩; refine calls_shm (l := [(.agg #[(.int .i64 g), (.slice Ag lg cg)]), (.slice Ad ld cd)]) Try.func14 rfl Try.ntmps14 (Nat.le_of_ble_eq_true rfl) (wt_seq (wl_region wd_wide (zn (n_box (v := (.agg #[(.int .i64 g), (.slice Ag lg cg)])) rfl ?_)))); intro g3 w2 hN; replace hS : Sep w no O w2 (stl _ 2 (Res.box 24 g3 [(.int .i64 g), (.slice Ag lg cg)])) := hS.new 2 rfl hN; clear hN; refine ⟨Stb.none _, zn (n_alloc info_26 ?_)⟩; intro g4 w3 hN; replace hS : Sep w no O w3 (stl _ 3 (Res.box 26 g4 [(.slice none 0 0)])) := hS.new 3 rfl hN; clear hN; refine ⟨Stb.none _, zn (n_alloc info_29 ?_)⟩; intro g5 w4 hN; replace hS : Sep w no O w4 (stl _ 4 (Res.box 29 g5 [(.int .i64 0)])) := hS.new 4 rfl hN; clear hN; refine ⟨Stb.none _, rl_end (wt_seq (wl_region wd_wide (zq (v_loadn (vs := [(.int .i64 g), (.slice Ag lg cg)]) rfl Try.underlying24 rfl info_24 ⟨Row.cell (hS.bx 2 rfl) (i := 0) rfl, Row.cell (hS.bx 2 rfl) (i := 1) rfl, trivial⟩) (zq (zm (.slice Ad ld cd)) ?_))))⟩
  refine zn (n_call0 rfl (am2 rfl rfl) enter_12 ((pok_rank_Rank h (no_lt _) (hS.rdr 0 rfl) (hS.rdr 1 rfl)).mono ?_)); rintro _ w5 ⟨r, r2, rfl, hC, h⟩; replace hS := hS.pur hC.pure; clear hC; refine ⟨_, rfl, ?_⟩; refine ⟨Stb.none _, zq (zm (.tuple #[(.int .i64 r), (.int .i64 r2)])) (zq (zx (.int .i64 r)) (zq (zx (.int .i64 r2)) (zq (za (.int .i64 r)) (zq (za (.int .i64 r2)) (rl_end (wt_seq (wt_seq (wl_region wd_wide (zq (zm (.int .i64 r2)) (zq (v_neq rfl rfl) (rl_end ?_)))))))))))⟩; by_cases hp : r2 = 0
  · replace h := h.1 hp; refine ze hp (wt_skip (wt_seq (wl_region wd_wide (zn (n_alloc info_3 ?_))))); intro g6 w6 hN; replace hS : Sep w no O w6 (stl _ 5 (Res.box 3 g6 [(.int .i64 0)])) := hS.new 5 rfl hN; clear hN; refine ⟨Stb.none _, zo (zt (.int .i64 0) info_3 (hS.bwr 5 rfl (j := 0) rfl) ?_)⟩; intro w7 e1; replace hS := hS.bst 5 rfl 0 (.int .i64 0) e1; clear e1; refine ⟨Stb.none _, rl_end (wt_seq (wt_seq (wl_region wd_wide (zq (zm (.slice Ad ld cd)) (zq (zm (.int .i64 r)) ?_)))))⟩; obtain ⟨hi, h⟩ := h; refine zq (v_add rfl rfl hi) (zn (n_call0 rfl (am2 rfl rfl) enter_48 ((pok_rank_taken h hS.blt (hS.ro 1 rfl)).mono ?_))); rintro _ w8 ⟨gc, gc2, rfl, hC, h⟩; replace hS := hS.call2 hC 6 0 7 1 rfl rfl (by decide) (by decide); clear hC; refine ⟨_, rfl, ?_⟩; refine ⟨Stb.none _, rl_end (wt_block ?_)⟩; obtain ⟨Pr, Rr, hgp, I2, h0, hb, h⟩ := h
    refine wt_iterSP hS [2, 0, 3, 4, 5] [6, 1, 7] (by decide) (by decide) ⟨.inl (by decide), .inr rfl, .inl (by decide), trivial⟩ rfl enter_88 (val := (fun (x : List Int × List Int) (b : (Option Addr × Nat × Nat) × (Option Addr × Nat × Nat)) => #[(.slice b.1.1 b.1.2.1 b.1.2.2), (.slice b.2.1 b.2.2.1 b.2.2.2)])) (pass := (fun (x : List Int × List Int) (b : (Option Addr × Nat × Nat) × (Option Addr × Nat × Nat)) => (FP.and (FP.sl cI b.1.1 b.1.2.1 b.1.2.2 x.1) (FP.sl cI b.2.1 b.2.2.1 b.2.2.2 x.2)))) (Pr := Pr) (R := Rr) (fun _ _ => rfl) rfl (fun pr LL => ∃ n, I2 pr n ∧ LL = [Res.box 24 g3 [(.int .i64 g), (.slice Ag lg cg)], Res.ro (FP.sl c3 Ag lg cg g2), Res.box 26 g4 [(.slice none 0 0)], Res.box 29 g5 [(.int .i64 0)], Res.box 3 g6 [(.int .i64 n)]]) (fun c ys LL => c = none ∧ ∃ r14 r15 Ar6 lr6 cr6, LL = [Res.box 26 g4 [(.slice Ar6 lr6 cr6)], Res.box 29 g5 [(.int .i64 r15)], Res.ro (FP.sl cI Ar6 lr6 cr6 r14)] ∧ R r14 r15) ⟨_, h0, rfl⟩ (fun T G hG => pok_rank_taken_1 hgp hG) ?_ ?_ ?_
    · clear h h0 hS hgp; rintro ll rdy busy S O2 pre ⟨y, y2⟩ ⟨⟨A, l, c⟩, ⟨A2, l2, c2⟩⟩ w9 _ ⟨n, hI, rfl⟩ hPr hpass hS; have h := hb pre y y2 n hI hPr; clear hb hI hPr; replace hS := hS.addro2 6 7 rfl rfl (by decide) _ _ hpass; clear hpass; refine wt_seq (wl_region (wd_round ll) (zq (za (.slice A l c)) (rl_end (wl_region (wd_round ll) (zq (za (.slice A2 l2 c2)) (rl_end (wt_nil fun a ra => ⟨rfl, _, _, ra, hS, ⟨5, rfl⟩, ?_⟩))))))); intro w11 hw; replace hS := hS.flip 5 rfl busy hw; clear hw ra a; refine wt_block (wt_seq (wt_seq (wl_region (wd_round ll) (zq (v_load rfl Try.underlying3 rfl (Row.cell (hS.bx 4 rfl) (i := 0) rfl)) ?_)))); obtain ⟨hi2, h⟩ := h; refine zq (v_add rfl rfl hi2) (zo (zt (.int .i64 (n + 1)) info_3 (hS.bwr 4 rfl (j := 0) rfl) ?_)); intro w12 e1; replace hS := hS.bst 4 rfl 0 (.int .i64 (n + 1)) e1; clear e1; refine ⟨Stb.none _, rl_end (wt_seq (wl_region (wd_round ll) (zq (v_load rfl Try.underlying3 rfl (Row.cell (hS.bx 4 rfl) (i := 0) rfl)) (zq (v_gtr rfl rfl) (rl_end ?_)))))⟩; by_cases hp2 : 16384 < (n + 1)
      · replace h := h.1 hp2; refine zc hp2 (wt_seq (wl_region (wd_round ll) (zo (zt (.slice none 0 0) info_26 (hS.bwr 2 rfl (j := 0) rfl) ?_)))); intro w13 e1; replace hS := hS.bst 2 rfl 0 (.slice none 0 0) e1; clear e1; refine ⟨Stb.none _, zo (zt (.int .i64 12) info_29 (hS.bwr 3 rfl (j := 0) rfl) ?_)⟩; intro w14 e1; replace hS := hS.bst 3 rfl 0 (.int .i64 12) e1; clear e1; refine ⟨Stb.none _, rl_end ?_⟩; replace hS := hS.addro 8 rfl _ (nil_sl cI _ _); exact wt_ret fun a r => ⟨_, ⟨rfl, ([]), 12, none, 0, 0, rfl, h⟩, (hS.sel [2, 3, 8, 5] (by decide))⟩
      · replace h := h.2 hp2; refine zd hp2 (wt_skip (wt_seq (wl_region (wd_round ll) (zq (v_loadn (vs := [(.int .i64 g), (.slice Ag lg cg)]) rfl Try.underlying24 rfl info_24 ⟨Row.cell (hS.bx 0 rfl) (i := 0) rfl, Row.cell (hS.bx 0 rfl) (i := 1) rfl, trivial⟩) (zq (zm (.slice A2 l2 c2)) (zn (n_call0 rfl (am2 rfl rfl) enter_34 ((pok_effective_Winnable h (no_lt _) (hS.rdr 1 rfl) (hS.rdr 7 rfl)).mono ?_)))))))); rintro _ w15 ⟨r5, r6, r7, r8, Ar2, lr2, cr2, Ar3, lr3, cr3, rfl, hC, h⟩; replace hS := hS.call2 (hC.widen (flatS (flat_own (fI .i64) _ _ _ _ _) (flatS (flat_own (fI .i64) _ _ _ _ _) flat0)) hS.blt) 8 0 9 1 rfl rfl (by decide) (by decide); clear hC; refine ⟨_, rfl, ?_⟩; refine ⟨Stb.none _, zq (zm (.tuple #[(.bool (r5)), (.slice Ar2 lr2 cr2), (.slice Ar3 lr3 cr3), (.int .i64 r8)])) (zq (zx (.bool (r5))) (zq (zx (.slice Ar2 lr2 cr2)) (zq (zx (.slice Ar3 lr3 cr3)) (zq (zx (.int .i64 r8)) (zq (za (.bool (r5))) (zq (za (.slice Ar2 lr2 cr2)) (zq (za (.slice Ar3 lr3 cr3)) ?_)))))))⟩
        refine zq (za (.int .i64 r8)) (rl_end (wt_seq (wt_seq (wl_region (wd_round ll) (zq (zm (.int .i64 r8)) (zq (v_neq rfl rfl) (rl_end ?_))))))); by_cases hp3 : r8 = 0
        · replace h := h.1 hp3; refine ze hp3 (wt_skip (wt_seq (wl_region (wd_round ll) (zq (zm (.bool (r5))) (zq (v_not rfl) (rl_end ?_)))))); by_cases hp4 : r5 = true
          · replace h := h.1 hp4; exact wt_cond_f (congrArg Value.bool (congrArg Bool.not hp4)) (wt_skip (wt_inBlock (wt_nil fun a r => ⟨_, ⟨_, h, rfl⟩, (hS.sel [0, 1, 2, 3, 4, 5] (by decide))⟩)))
          · replace h := h.2 hp4; refine wt_cond_t (congrArg Value.bool (congrArg Bool.not (Bool.eq_false_iff.2 hp4))) (wt_seq (wl_region (wd_round ll) (zq (zm (.slice A l c)) (zo (zt (.slice A l c) info_26 (hS.bwr 2 rfl (j := 0) rfl) ?_))))); intro w16 e1; replace hS := hS.bst 2 rfl 0 (.slice A l c) e1; clear e1; refine ⟨Stb.none _, zo (zt (.int .i64 0) info_29 (hS.bwr 3 rfl (j := 0) rfl) ?_)⟩; intro w17 e1; replace hS := hS.bst 3 rfl 0 (.int .i64 0) e1; clear e1; exact ⟨Stb.none _, rl_end (wt_ret fun a r => ⟨_, ⟨rfl, y, 0, A, l, c, rfl, h⟩, (hS.sel [2, 3, 6, 5] (by decide))⟩)⟩
        · replace h := h.2 hp3; refine zf hp3 (wt_seq (wl_region (wd_round ll) (zq (zm (.int .i64 r8)) (zn (n_call0 rfl (am1 rfl) enter_49 ((pok_rank_large h (no_lt _)).mono ?_)))))); rintro _ w18 ⟨r11, rfl, hC, h⟩; replace hS := hS.pur hC.pure; clear hC; refine ⟨_, rfl, ?_⟩; refine ⟨Stb.none _, zo (zt (.slice none 0 0) info_26 (hS.bwr 2 rfl (j := 0) rfl) ?_)⟩; intro w19 e1; replace hS := hS.bst 2 rfl 0 (.slice none 0 0) e1; clear e1; refine ⟨Stb.none _, zo (zt (.int .i64 r11) info_29 (hS.bwr 3 rfl (j := 0) rfl) ?_)⟩; intro w20 e1; replace hS := hS.bst 3 rfl 0 (.int .i64 r11) e1; clear e1; refine ⟨Stb.none _, rl_end ?_⟩; replace hS := hS.addro 10 rfl _ (nil_sl cI _ _); exact wt_ret fun a r => ⟨_, ⟨rfl, ([]), r11, none, 0, 0, rfl, h⟩, (hS.sel [2, 3, 10, 5] (by decide))⟩
    · clear hb h0 hS hgp; rintro D ys w10 _ hRr ⟨n, hI, rfl⟩ hS; replace h := h ys n hI hRr; clear hI hRr; refine wt_inBlock (wt_seq (wl_region wd_wide (zo (zt (.slice none 0 0) info_26 (hS.bwr 2 rfl (j := 0) rfl) ?_)))); intro w21 e1; replace hS := hS.bst 2 rfl 0 (.slice none 0 0) e1; clear e1; refine ⟨Stb.none _, zo (zt (.int .i64 12) info_29 (hS.bwr 3 rfl (j := 0) rfl) ?_)⟩; intro w22 e1; replace hS := hS.bst 3 rfl 0 (.int .i64 12) e1; clear e1; refine ⟨Stb.none _, rl_end ?_⟩; replace hS := hS.addro 6 rfl _ (nil_sl cI _ _); exact wt_ret (q_retc2 (rs := [D]) hS 2 3 rfl rfl [5] (unmark1 5 rfl) (by decide) (by decide) (by simp) (hS.marked 5 rfl) rfl rfl rfl Try.underlying26 rfl Try.underlying29 rfl (fun w9 hk => ⟨_, _, _, _, _, rfl, (hS.unmark [5] [6] (by decide) (by decide) (unmark1 5 rfl) hk), h⟩))
    · clear h hb h0 hS hgp; rintro D2 c ys W9 _ ⟨rfl, r14, r15, Ar6, lr6, cr6, rfl, h⟩ hS; exact q_retc2 (rs := [D2]) hS 0 1 rfl rfl [3] (unmark1 3 rfl) (by decide) (by decide) (by simp) (hS.marked 3 rfl) rfl rfl rfl Try.underlying26 rfl Try.underlying29 rfl (fun w9 hk => ⟨_, _, _, _, _, rfl, (hS.unmark [3] [2] (by decide) (by decide) (unmark1 3 rfl) hk), h⟩)
  · replace h := h.2 hp; refine zf hp (wt_seq (wl_region wd_wide (zq (zm (.int .i64 r2)) (zo (zt (.slice none 0 0) info_26 (hS.bwr 3 rfl (j := 0) rfl) ?_))))); intro w23 e1; replace hS := hS.bst 3 rfl 0 (.slice none 0 0) e1; clear e1; refine ⟨Stb.none _, zo (zt (.int .i64 r2) info_29 (hS.bwr 4 rfl (j := 0) rfl) ?_)⟩; intro w24 e1; replace hS := hS.bst 4 rfl 0 (.int .i64 r2) e1; clear e1; refine ⟨Stb.none _, rl_end ?_⟩; replace hS := hS.addro 5 rfl _ (nil_sl cI _ _); exact wt_ret (q_retc2 (rs := []) hS 3 4 rfl rfl [] (by simp) (by decide) (by decide) (by simp) (by simp) rfl rfl rfl Try.underlying26 rfl Try.underlying29 rfl (fun w9 hk => ⟨_, _, _, _, _, rfl, (hS.unmark [] [5] (by decide) (by decide) (by simp) hk), h⟩))

/-- sandpile/sandpileref37.Listed: what it computes. -/
def pfr_r37_Listed (Rec : Int → Int → ((List (List Int)) → Prop) → Prop) (n : Int) (degree : Int) (R : (List (List Int)) → Prop) : Prop :=
((degree < 0 →
R ([])) ∧
(¬ (degree < 0) →
((n = 1 →
R ([[degree]])) ∧
(¬ (n = 1) →
(∃ I2 : Nat → (List (List Int)) → Int → Prop, (∃ m0, I2 m0 ([]) 0) ∧ ∀ m2 out k, I2 m2 out k → 
((k ≤ degree →
(In64 (n - 1) ∧
(In64 (degree - k) ∧
Rec (n - 1) (degree - k) (fun r =>
(∃ I3 : Nat → (List (List Int)) → Int → Prop, (∃ m0, I3 m0 out 0) ∧ ∀ m3 out2 i, I3 m3 out2 i → 
((i < ((r.length : Nat) : Int) →
((0 ≤ i ∧ i < ((r.length : Nat) : Int)) ∧
(([k]).length + (gx r i.toNat).length ≤ 1000000000 ∧
(out2.length + 1 ≤ 1000000000 ∧
(In64 (i + 1) ∧
∃ m4, m4 < m3 ∧ I3 m4 (out2 ++ [([k] ++ (gx r i.toNat))]) (i + 1)))))) ∧
(¬ (i < ((r.length : Nat) : Int)) →
(In64 (k + 1) ∧
∃ m5, m5 < m2 ∧ I2 m5 out2 (k + 1))))))))) ∧
(¬ (k ≤ degree) →
R out)))))))
def pf_r37_Listed : Nat → Int → Int → ((List (List Int)) → Prop) → Prop
  | 0 => fun _ _ _ => False
  | nf + 1 => fun n degree R => pfr_r37_Listed (pf_r37_Listed nf) n degree R
theorem pokr_r37_Listed {Rec : Int → Int → ((List (List Int)) → Prop) → Prop} (hrec : ∀ {O : Nat → Prop} {w : World} {n degree} {R : (List (List Int)) → Prop} (h : Rec n degree R) (hO : ∀ k, O k → k < w.heap.size), Calls Try.prog 61 #[(Value.int .i64 n), (Value.int .i64 degree)] w fun e w' => ∃ r2 Ar2 lr2 cr2, e = .returned (Value.slice Ar2 lr2 cr2) ∧ Sep w no O w' (rl [Res.own (cL cI) 25 Ar2 lr2 cr2 r2]) ∧ R r2) {O : Nat → Prop} {w : World} {n degree} {R : (List (List Int)) → Prop} (h : pfr_r37_Listed Rec n degree R) (hO : ∀ k, O k → k < w.heap.size) :
    Calls Try.prog 61 #[(.int .i64 n), (.int .i64 degree)] w fun e w' => ∃ r2 Ar2 lr2 cr2, e = .returned (.slice Ar2 lr2 cr2) ∧ Sep w no O w' (rl [Res.own (cL cI) 25 Ar2 lr2 cr2 r2]) ∧ R r2 := by
  unfold pfr_r37_Listed at h; have hS : Sep w no O w (rl []) := Sep.start w hO; refine calls_sh (l := [(.int .i64 n), (.int .i64 degree)]) Try.func61 rfl Try.ntmps61 (Nat.le_of_ble_eq_true rfl) (wt_seq (wl_region wd_wide (zq (za (.slice none 0 0)) (rl_end (wt_seq (wt_seq (wl_region wd_wide (zq (zm (.int .i64 degree)) (zq (v_lss rfl rfl) (rl_end ?_)))))))))); by_cases hp : degree < 0
  · replace h := h.1 hp; refine zc hp (wt_seq (wl_region wd_wide (zq (za (.slice none 0 0)) (rl_end ?_)))); replace hS := hS.nil 0 rfl (cL cI) 25; exact wt_ret1 rfl rfl ⟨_, _, _, _, rfl, (hS.sel [0] (by decide)), h⟩
  · replace h := h.2 hp; refine zd hp (wt_skip (wt_seq (wt_seq (wl_region wd_wide (zq (zm (.int .i64 n)) (zq (v_eql rfl rfl) (rl_end ?_))))))); by_cases hp2 : n = 1
    · replace h := h.1 hp2; refine zc hp2 (wt_seq (wl_region wd_wide (zq (zm (.int .i64 degree)) (zn (n_bslice (l := [(0, (.int .i64 degree))]) (cells := [(.int .i64 degree)]) (bp1 rfl) Try.underlying25 info_3 rfl rfl ?_))))); intro g w2 hN; replace hS := hS.litf (n := 1) 0 rfl (fI .i64) hN ([degree] : List Int) rfl (by decide) rfl; clear hN; refine ⟨Stb.none _, ?_⟩; replace hS := hS.frz 0 rfl; refine zn (n_bslice (l := [(0, (.slice (some ⟨g, 0, none⟩) 1 1))]) (cells := [(.slice (some ⟨g, 0, none⟩) 1 1)]) (bp1 rfl) Try.underlying54 info_25 rfl rfl ?_); intro g2 w3 hN; replace hS := hS.lit (n := 1) (c := (cL cI)) 1 rfl hN ([[degree]] : List (List Int)) rfl (by decide) ⟨[(.slice (some ⟨g, 0, none⟩) 1 1)], _, rfl, (ro_R (hS.ro 0 rfl)), rfl⟩; clear hN; exact ⟨Stb.none _, zq (za (.slice (some ⟨g2, 0, none⟩) 1 1)) (rl_end (wt_ret1 rfl rfl ⟨_, _, _, _, rfl, (hS.sel [1] (by decide)), h⟩))⟩
    · replace h := h.2 hp2; refine zd hp2 (wt_skip (wt_seq (wl_region wd_wide (zq (za (.slice none 0 0)) (rl_end (wt_seq (wt_seq (wl_region wd_wide (zq (za (.int .i64 0)) (rl_end (wt_block ?_))))))))))); replace hS := hS.nil 0 rfl (cL cI) 25; obtain ⟨I2, ⟨m0, h0⟩, hr⟩ := h; refine wt_loop (fun m E ds w' => ∃ out k Aout lout cout, I2 m out k ∧ ds = [] ∧ E 0 = (Value.int .i64 n) ∧ E 1 = (Value.int .i64 degree) ∧ E 5 = (Value.slice Aout lout cout) ∧ E 6 = (Value.int .i64 k) ∧ Sep w no O w' (rl [Res.own (cL cI) 25 Aout lout cout out])) m0 ⟨_, _, _, _, _, h0, rfl, rfl, rfl, rfl, rfl, (hS.sel [0] (by decide))⟩ ?_; clear h0 hS; rintro m2 E ds w4 ⟨out, k, Aout, lout, cout, h, rfl, hE0, hE1, hE5, hE6, hS⟩ again; replace h := hr m2 out k h; clear hr; refine wt_seq (wt_seq (wl_region wd_wide (zq (v_move hE6) (zq (v_move hE1) (zq (v_leq rfl rfl) (rl_end ?_)))))); by_cases hp3 : k ≤ degree
      · replace h := h.1 hp3; refine zc hp3 (wt_skip (wt_seq (wt_block (wt_seq (wl_region wd_wide (zq (v_move hE0) ?_)))))); obtain ⟨hi, h⟩ := h; refine zq (v_sub rfl rfl hi) (zq (v_move hE1) (zq (v_move hE6) ?_)); obtain ⟨hi2, h⟩ := h; refine zq (v_sub rfl rfl hi2) (zn (n_call0 rfl (am2 rfl rfl) enter_61 ((hrec h hS.blt).mono ?_))); rintro _ w5 ⟨r, Ar, lr, cr, rfl, hC, h⟩; replace hS := hS.call1 hC 1 0 rfl; clear hC; refine ⟨_, rfl, ?_⟩; refine ⟨Stb.none _, zq (za (.slice Ar lr cr)) (rl_end (wt_seq (wl_region wd_wide (zq (za (.int .i64 0)) (rl_end (wt_block ?_))))))⟩; obtain ⟨I3, ⟨m0, h0⟩, hr⟩ := h
        refine wt_loop (fun m E ds w' => ∃ out2 i Aout2 lout2 cout2, I3 m out2 i ∧ ds = [] ∧ E 0 = (Value.int .i64 n) ∧ E 1 = (Value.int .i64 degree) ∧ E 5 = (Value.slice Aout2 lout2 cout2) ∧ E 6 = (Value.int .i64 k) ∧ E 7 = (Value.slice Ar lr cr) ∧ E 8 = (Value.int .i64 i) ∧ Sep w no O w' (rl [Res.own (cL cI) 25 Aout2 lout2 cout2 out2, Res.own (cL cI) 25 Ar lr cr r])) m0 ⟨_, _, _, _, _, h0, rfl, hE0, hE1, hE5, hE6, rfl, rfl, (hS.sel [0, 1] (by decide))⟩ ?_; clear h0 hS; rintro m3 E ds w6 ⟨out2, i, Aout2, lout2, cout2, h, rfl, hE0, hE1, hE5, hE6, hE7, hE8, hS⟩ again2; replace h := hr m3 out2 i h; clear hr; refine wt_seq (wt_seq (wl_region wd_wide (zq (v_move hE8) (zq (v_move hE7) (zq (v_lenx (n := r.length) rfl Try.underlying54 (rd_len (hS.rdo 1 rfl))) (zq (v_lss rfl rfl) (rl_end ?_))))))); by_cases hp4 : i < ((r.length : Nat) : Int)
        · replace h := h.1 hp4; refine zc hp4 (wt_skip (wt_seq (wt_block (wl_region wd_wide (zq (v_move hE5) (zq (v_move hE6) (zn (n_bslice (l := [(0, (.int .i64 k))]) (cells := [(.int .i64 k)]) (bp1 rfl) Try.underlying25 info_3 rfl rfl ?_)))))))); intro g3 w7 hN; replace hS := hS.litf (n := 1) 2 rfl (fI .i64) hN ([k] : List Int) rfl (by decide) rfl; clear hN; refine ⟨Stb.none _, zq (v_move hE7) (zq (v_move hE8) ?_)⟩; obtain ⟨hx, h⟩ := h; refine zq (v_iaddr rfl rfl Try.underlying54 info_25 (rd_ix (hS.rdo 1 rfl) hx)) ?_; obtain ⟨A, l, c, hc, hq⟩ := hS.elo 1 rfl hx 3 rfl; replace hS := hq; clear hq; refine zq (v_load (v := (.slice A l c)) rfl Try.underlying25 rfl hc) ?_; obtain ⟨hx2, h⟩ := h; refine zn (n_app (c := cI) rfl rfl Try.underlying25 Try.underlying25 info_3 rfl rfl (by decide) hS 2 rfl (hS.yr 3 rfl) hx2 ?_); clear hS; intro A2 c2 w8 hS; refine ⟨Stb.none _, ?_⟩; replace hS := hS.frz 2 rfl; refine zn (n_bslice (l := [(0, (.slice A2 (1 + l) c2))]) (cells := [(.slice A2 (1 + l) c2)]) (bp1 rfl) Try.underlying54 info_25 rfl rfl ?_); intro g4 w9 hN
          replace hS := hS.lit (n := 1) (c := (cL cI)) 4 rfl hN ([([k] ++ (gx r i.toNat))] : List (List Int)) rfl (by decide) ⟨[(.slice A2 (1 + l) c2)], _, rfl, (ro_R (hS.ro 2 rfl)), rfl⟩; clear hN; refine ⟨Stb.none _, ?_⟩; obtain ⟨hx3, h⟩ := h; refine zn (n_app (c := (cL cI)) rfl rfl Try.underlying54 Try.underlying54 info_25 rfl rfl (by decide) hS 0 rfl (hS.yo 4 rfl) hx3 ?_); clear hS; intro A3 c3 w10 hS; refine ⟨Stb.none _, zq (za (.slice A3 (lout2 + 1) c3)) (rl_end (wt_inBlock (wl_region wd_wide (zq (v_move hE8) ?_))))⟩; obtain ⟨hi3, h⟩ := h; refine zq (v_add rfl rfl hi3) (zq (za (.int .i64 (i + 1))) (rl_end ?_)); obtain ⟨mq, hlt, h⟩ := h; exact again2 mq _ _ _ ⟨_, _, _, _, _, h, rfl, hE0, hE1, rfl, hE6, hE7, rfl, (hS.sel [0, 1] (by decide))⟩ hlt
        · replace h := h.2 hp4; refine zd hp4 (wt_exit rfl (wt_inBlock (wl_region wd_wide (zq (v_move hE6) ?_)))); obtain ⟨hi4, h⟩ := h; refine zq (v_add rfl rfl hi4) (zq (za (.int .i64 (k + 1))) (rl_end ?_)); obtain ⟨mq, hlt, h⟩ := h; exact again mq _ _ _ ⟨_, _, _, _, _, h, rfl, hE0, hE1, hE5, rfl, (hS.sel [0] (by decide))⟩ hlt
      · replace h := h.2 hp3; exact zd hp3 (wt_exit rfl (wt_seq (wl_region wd_wide (zq (v_move hE5) (zq (za (.slice Aout lout cout)) (rl_end (wt_ret1 rfl rfl ⟨_, _, _, _, rfl, (hS.sel [0] (by decide)), h⟩)))))))
theorem pok_r37_Listed {nf} : ∀ {O : Nat → Prop} {w : World} {n degree} {R : (List (List Int)) → Prop} (h : pf_r37_Listed nf n degree R) (hO : ∀ k, O k → k < w.heap.size), Calls Try.prog 61 #[(Value.int .i64 n), (Value.int .i64 degree)] w fun e w' => ∃ r2 Ar2 lr2 cr2, e = .returned (Value.slice Ar2 lr2 cr2) ∧ Sep w no O w' (rl [Res.own (cL cI) 25 Ar2 lr2 cr2 r2]) ∧ R r2 := by
  induction nf with
  | zero => intros; rename_i h _; first | exact h.elim | (rename_i h _ _; exact h.elim) | contradiction
  | succ nf ih => intro O w n degree R h hO; exact pokr_r37_Listed ih h hO

/-- sandpile/sandpileref38.Fails: what it computes. -/
def pf_r38_Fails (g : Int) (g2 : List E3) (d : List Int) (degree : Int) (R : (List Int) → Bool → Prop) : Prop :=
(∃ fu, pf_r37_Listed fu g degree (fun r =>
(∃ I2 : Nat → Int → Prop, (∃ m0, I2 m0 0) ∧ ∀ m2 i, I2 m2 i → 
((i < ((r.length : Nat) : Int) →
((0 ≤ i ∧ i < ((r.length : Nat) : Int)) ∧
pf_r25_Plus d (gx r i.toNat) (-1) (fun r2 =>
pf_r36_Wins g g2 r2 (fun r3 =>
((r3 = true →
(In64 (i + 1) ∧
∃ m3, m3 < m2 ∧ I2 m3 (i + 1))) ∧
(¬ (r3 = true) →
R (gx r i.toNat) true)))))) ∧
(¬ (i < ((r.length : Nat) : Int)) →
R ([]) false)))))
theorem pok_r38_Fails {O : Nat → Prop} {w : World} {g g2 d degree Ag lg cg Ad ld cd} {R : (List Int) → Bool → Prop} (h : pf_r38_Fails g g2 d degree R) (hO : ∀ k, O k → k < w.heap.size) (hA0 : (FP.sl c3 Ag lg cg g2).P O w) (hA1 : (FP.sl cI Ad ld cd d).P O w) :
    Calls Try.prog 50 #[(.agg #[(.int .i64 g), (.slice Ag lg cg)]), (.slice Ad ld cd), (.int .i64 degree)] w fun e w' => ∃ r4 r5 Ar3 lr3 cr3, e = .returned (.tuple #[(.slice Ar3 lr3 cr3), (.bool (r5))]) ∧ Sep w no O w' (rl [Res.ro (FP.sl cI Ar3 lr3 cr3 r4)]) ∧ R r4 r5 := by
  unfold pf_r38_Fails at h; have hS : Sep w no O w (rl [Res.ro (FP.sl c3 Ag lg cg g2), Res.ro (FP.sl cI Ad ld cd d)]) := Sep.startl hO [(FP.sl c3 Ag lg cg g2), (FP.sl cI Ad ld cd d)] ⟨hA0, hA1, trivial⟩; refine calls_sh (l := [(.agg #[(.int .i64 g), (.slice Ag lg cg)]), (.slice Ad ld cd), (.int .i64 degree)]) Try.func50 rfl Try.ntmps50 (Nat.le_of_ble_eq_true rfl) (wt_seq (wl_region wd_wide (zn (n_box (v := (.agg #[(.int .i64 g), (.slice Ag lg cg)])) rfl ?_)))); intro g3 w2 hN; replace hS : Sep w no O w2 (stl _ 2 (Res.box 24 g3 [(.int .i64 g), (.slice Ag lg cg)])) := hS.new 2 rfl hN; clear hN; refine ⟨Stb.none _, zq (za (.slice none 0 0)) (zq (za (.bool (false))) (rl_end (wt_seq (wl_region wd_wide (zq (v_faddr rfl Try.underlying24 rfl info_3) (zq (v_load rfl Try.underlying3 rfl (Row.cell (hS.bx 2 rfl) (i := 0) rfl)) (zq (zm (.int .i64 degree)) ?_)))))))⟩; obtain ⟨fu, h⟩ := h; refine zn (n_call0 rfl (am2 rfl rfl) enter_61 ((pok_r37_Listed h hS.blt).mono ?_)); rintro _ w3 ⟨r, Ar, lr, cr, rfl, hC, h⟩; replace hS := hS.call1 hC 3 0 rfl; clear hC; refine ⟨_, rfl, ?_⟩; refine ⟨Stb.none _, zq (za (.slice Ar lr cr)) (rl_end (wt_seq ?_))⟩
  refine wt_seq (wl_region wd_wide (zq (za (.int .i64 0)) (rl_end (wt_block ?_)))); obtain ⟨I2, ⟨m0, h0⟩, hr⟩ := h; refine wt_loop (fun m E ds w' => ∃ i, I2 m i ∧ ds = [] ∧ E 1 = (Value.slice Ad ld cd) ∧ E 3 = (Value.pointer (some (⟨g3, 0, none⟩ : Addr))) ∧ E 8 = (Value.slice Ar lr cr) ∧ E 9 = (Value.int .i64 i) ∧ Sep w no O w' (rl [Res.ro (FP.sl cI Ad ld cd d), Res.box 24 g3 [(.int .i64 g), (.slice Ag lg cg)], Res.ro (FP.sl c3 Ag lg cg g2), Res.own (cL cI) 25 Ar lr cr r])) m0 ⟨_, h0, rfl, rfl, rfl, rfl, rfl, (hS.sel [1, 2, 0, 3] (by decide))⟩ ?_; clear h0 hS; rintro m2 E ds w4 ⟨i, h, rfl, hE1, hE3, hE8, hE9, hS⟩ again; replace h := hr m2 i h; clear hr; refine wt_seq (wt_seq (wl_region wd_wide (zq (v_move hE9) (zq (v_move hE8) (zq (v_lenx (n := r.length) rfl Try.underlying54 (rd_len (hS.rdo 3 rfl))) (zq (v_lss rfl rfl) (rl_end ?_))))))); by_cases hp : i < ((r.length : Nat) : Int)
  · replace h := h.1 hp; refine zc hp (wt_skip (wt_seq (wt_block (wt_seq (wp_draw [0, 1, 2, 3, 4, 5, 6, 7, 8] (fun i => match i with | 6 => [0] | _ => []) wd_wide (by kernel_rfl) (by kernel_rfl) ?_))))); replace hS := hS.drew; refine rp_q rfl rfl rfl (v_loadn (vs := [(.int .i64 g), (.slice Ag lg cg)]) hE3 Try.underlying24 rfl info_24 ⟨Row.cell (hS.bx 1 rfl) (i := 0) rfl, Row.cell (hS.bx 1 rfl) (i := 1) rfl, trivial⟩) (rp_q rfl rfl rfl (v_move hE1) (rp_q rfl rfl rfl (v_move hE8) (rp_q rfl rfl rfl (v_move hE9) ?_))); obtain ⟨hx, h⟩ := h; refine rp_q rfl rfl rfl (v_iaddr rfl rfl Try.underlying54 info_25 (rd_ix (hS.rdo 3 rfl) hx)) ?_; obtain ⟨A, l, c, hc, hq⟩ := hS.elo 3 rfl hx 4 rfl; replace hS := hq; clear hq; refine rp_q rfl rfl rfl (v_load (v := (.slice A l c)) rfl Try.underlying25 rfl hc) (rp_n rfl rfl rfl rfl (n_call0 rfl (am3 rfl rfl rfl) enter_64 ((pok_r25_Plus h (no_lt _) (hS.rdr 0 rfl) (hS.rdr 4 rfl)).mono ?_))); rintro _ w5 ⟨r2, Ar2, lr2, cr2, rfl, hC, h⟩; replace hS := hS.call1 (hC.widen (flatS (flat_own (fI .i64) _ _ _ _ _) flat0) hS.blt) 5 0 rfl; clear hC; refine ⟨_, rfl, ?_⟩
    refine ⟨⟨fun hh => Bool.noConfusion (show false = true from hh), ⟨fun hh => Bool.noConfusion (show false = true from hh), ⟨fun hh => Bool.noConfusion (show false = true from hh), ⟨fun hh => Bool.noConfusion (show false = true from hh), ⟨fun hh => Bool.noConfusion (show false = true from hh), ⟨fun _ => (v_loadn (vs := [(.int .i64 g), (.slice Ag lg cg)]) hE3 Try.underlying24 rfl info_24 ⟨Row.cell (hS.bx 1 rfl) (i := 0) rfl, Row.cell (hS.bx 1 rfl) (i := 1) rfl, trivial⟩), trivial⟩⟩⟩⟩⟩⟩, ?_⟩; refine rp_n rfl rfl rfl rfl (n_call0 rfl (am2 rfl rfl) enter_90 ((pok_r36_Wins h (no_lt _) (hS.rdr 2 rfl) (hS.rdo 5 rfl)).mono ?_)); rintro _ w6 ⟨r3, rfl, hC, h⟩; replace hS := hS.pur hC.pure; clear hC; refine ⟨_, rfl, ?_⟩; refine ⟨Stb.none _, rp_q rfl rfl rfl (v_not rfl) (rp_end ?_)⟩; by_cases hp2 : r3 = true
    · replace h := h.1 hp2; refine wt_cond_f (congrArg Value.bool (congrArg Bool.not hp2)) (wt_skip (wt_inBlock (wl_region wd_wide (zq (v_move hE9) ?_)))); obtain ⟨hi, h⟩ := h; refine zq (v_add rfl rfl hi) (zq (za (.int .i64 (i + 1))) (rl_end ?_)); obtain ⟨mq, hlt, h⟩ := h; exact again mq _ _ _ ⟨_, h, rfl, hE1, hE3, hE8, rfl, (hS.sel [0, 1, 2, 3] (by decide))⟩ hlt
    · replace h := h.2 hp2; refine wt_cond_t (congrArg Value.bool (congrArg Bool.not (Bool.eq_false_iff.2 hp2))) (wt_seq (wl_region wd_wide (zq (v_move hE8) (zq (v_move hE9) (zq (v_iaddr rfl rfl Try.underlying54 info_25 (rd_ix (hS.rdo 3 rfl) hx)) ?_))))); obtain ⟨A2, l2, c2, hc2, hq⟩ := hS.elo 3 rfl hx 6 rfl; replace hS := hq; clear hq; exact zq (v_load (v := (.slice A2 l2 c2)) rfl Try.underlying25 rfl hc2) (zq (za (.slice A2 l2 c2)) (zq (za (.bool (true))) (rl_end (wt_ret2 rfl rfl rfl ⟨_, _, _, _, _, rfl, (hS.sel [6] (by decide)), h⟩))))
  · replace h := h.2 hp; refine zd hp (wt_exit rfl (wt_seq (wl_region wd_wide (zq (za (.slice none 0 0)) (zq (za (.bool (false))) (rl_end ?_)))))); replace hS := hS.addro 4 rfl _ (nil_sl cI _ _); exact wt_ret2 rfl rfl rfl ⟨_, _, _, _, _, rfl, (hS.sel [4] (by decide)), h⟩

/-- sandpile/sandpileref38.Of: what it computes. -/
def pf_r38_Of (g : Int) (g2 : List E3) (d : List Int) (R : Int → Prop) : Prop :=
(∃ I2 : Nat → Int → Prop, (∃ m0, I2 m0 (-1)) ∧ ∀ m2 r, I2 m2 r → 
pf_r17_Total d (fun r2 =>
((r < r2 →
(In64 (r + 1) ∧
pf_r38_Fails g g2 d (r + 1) (fun r3 r4 =>
((r4 = true →
R r) ∧
(¬ (r4 = true) →
∃ m3, m3 < m2 ∧ I2 m3 (r + 1)))))) ∧
(¬ (r < r2) →
R r))))
theorem pok_r38_Of {O : Nat → Prop} {w : World} {g g2 d Ag lg cg Ad ld cd} {R : Int → Prop} (h : pf_r38_Of g g2 d R) (hO : ∀ k, O k → k < w.heap.size) (hA0 : (FP.sl c3 Ag lg cg g2).P O w) (hA1 : (FP.sl cI Ad ld cd d).P O w) :
    Calls Try.prog 47 #[(.agg #[(.int .i64 g), (.slice Ag lg cg)]), (.slice Ad ld cd)] w fun e w' => ∃ r5, e = .returned (.int .i64 r5) ∧ Sep w no O w' (rl []) ∧ R r5 := by
  unfold pf_r38_Of at h; have hS : Sep w no O w (rl [Res.ro (FP.sl c3 Ag lg cg g2), Res.ro (FP.sl cI Ad ld cd d)]) := Sep.startl hO [(FP.sl c3 Ag lg cg g2), (FP.sl cI Ad ld cd d)] ⟨hA0, hA1, trivial⟩; refine calls_sh (l := [(.agg #[(.int .i64 g), (.slice Ag lg cg)]), (.slice Ad ld cd)]) Try.func47 rfl Try.ntmps47 (Nat.le_of_ble_eq_true rfl) (wt_seq (wl_region wd_wide (zn (n_box (v := (.agg #[(.int .i64 g), (.slice Ag lg cg)])) rfl ?_)))); intro g3 w2 hN; replace hS : Sep w no O w2 (stl _ 2 (Res.box 24 g3 [(.int .i64 g), (.slice Ag lg cg)])) := hS.new 2 rfl hN; clear hN; refine ⟨Stb.none _, zq (za (.int .i64 0)) (rl_end (wt_seq (wl_region wd_wide (zq (za (.int .i64 (-1))) (rl_end (wt_seq (wt_block ?_)))))))⟩; obtain ⟨I2, ⟨m0, h0⟩, hr⟩ := h; refine wt_loop (fun m E ds w' => ∃ r, I2 m r ∧ ds = [] ∧ E 1 = (Value.slice Ad ld cd) ∧ E 2 = (Value.pointer (some (⟨g3, 0, none⟩ : Addr))) ∧ E 5 = (Value.int .i64 r) ∧ Sep w no O w' (rl [Res.ro (FP.sl cI Ad ld cd d), Res.box 24 g3 [(.int .i64 g), (.slice Ag lg cg)], Res.ro (FP.sl c3 Ag lg cg g2)])) m0 ⟨_, h0, rfl, rfl, rfl, rfl, (hS.sel [1, 2, 0] (by decide))⟩ ?_; clear h0 hS; rintro m2 E ds w3 ⟨r, h, rfl, hE1, hE2, hE5, hS⟩ again; replace h := hr m2 r h; clear hr; refine wt_seq (wt_seq ?_)
  refine wl_region wd_wide (zq (v_move hE5) (zq (v_move hE1) (zn (n_call0 rfl (am1 rfl) enter_20 ((pok_r17_Total h (no_lt _) (hS.rdr 0 rfl)).mono ?_))))); rintro _ w4 ⟨r2, rfl, hC, h⟩; replace hS := hS.pur hC.pure; clear hC; refine ⟨_, rfl, ?_⟩; refine ⟨Stb.none _, zq (v_lss rfl rfl) (rl_end ?_)⟩; by_cases hp : r < r2
  · replace h := h.1 hp; refine zc hp (wt_skip (wt_block (wt_seq (wt_seq (wl_region wd_wide (zq (v_loadn (vs := [(.int .i64 g), (.slice Ag lg cg)]) hE2 Try.underlying24 rfl info_24 ⟨Row.cell (hS.bx 1 rfl) (i := 0) rfl, Row.cell (hS.bx 1 rfl) (i := 1) rfl, trivial⟩) (zq (v_move hE1) (zq (v_move hE5) ?_)))))))); obtain ⟨hi, h⟩ := h; refine zq (v_add rfl rfl hi) (zn (n_call0 rfl (am3 rfl rfl rfl) enter_50 ((pok_r38_Fails h hS.blt (hS.ro 2 rfl) (hS.ro 0 rfl)).mono ?_))); rintro _ w5 ⟨r3, r4, Ar, lr, cr, rfl, hC, h⟩; replace hS := hS.call1 hC 3 0 rfl; clear hC; refine ⟨_, rfl, ?_⟩; refine ⟨Stb.none _, zq (zm (.tuple #[(.slice Ar lr cr), (.bool (r4))])) (zq (zx (.slice Ar lr cr)) (zq (zx (.bool (r4))) (zq (za (.slice Ar lr cr)) (zq (za (.bool (r4))) (rl_end (wt_seq (wl_region wd_wide (zq (zm (.bool (r4))) (rl_end ?_)))))))))⟩; by_cases hp2 : r4 = true
    · replace h := h.1 hp2; exact wt_cond_t (congrArg Value.bool hp2) (wt_seq (wl_region wd_wide (zq (v_move hE5) (zq (za (.int .i64 r)) (rl_end (wt_ret1 rfl rfl ⟨_, rfl, (hS.sel [] (by decide)), h⟩))))))
    · replace h := h.2 hp2; refine wt_cond_f (congrArg Value.bool (Bool.eq_false_iff.2 hp2)) (wt_skip (wl_region wd_wide (zq (v_move hE5) (zq (v_add rfl rfl hi) (zq (za (.int .i64 (r + 1))) (rl_end (wt_inBlock ?_))))))); obtain ⟨mq, hlt, h⟩ := h; exact again mq _ _ _ ⟨_, h, rfl, hE1, hE2, rfl, (hS.sel [0, 1, 2] (by decide))⟩ hlt
  · replace h := h.2 hp; exact zd hp (wt_exit rfl (wt_seq (wl_region wd_wide (zq (v_move hE5) (zq (za (.int .i64 r)) (rl_end (wt_ret1 rfl rfl ⟨_, rfl, (hS.sel [] (by decide)), h⟩)))))))

/-- sandpile/sandpileref38.Rank: what it computes. -/
def pf_r38_Rank (g : Int) (g2 : List E3) (d : List Int) (R : Int → Int → Prop) : Prop :=
pf_r35_Given g g2 d (fun r =>
((r = 0 →
pf_r38_Of g g2 d (fun r2 =>
R r2 0)) ∧
(¬ (r = 0) →
R 0 r)))
theorem pok_r38_Rank {O : Nat → Prop} {w : World} {g g2 d Ag lg cg Ad ld cd} {R : Int → Int → Prop} (h : pf_r38_Rank g g2 d R) (hO : ∀ k, O k → k < w.heap.size) (hA0 : (FP.sl c3 Ag lg cg g2).P O w) (hA1 : (FP.sl cI Ad ld cd d).P O w) :
    Calls Try.prog 13 #[(.agg #[(.int .i64 g), (.slice Ag lg cg)]), (.slice Ad ld cd)] w fun e w' => ∃ r3 r4, e = .returned (.tuple #[(.int .i64 r3), (.int .i64 r4)]) ∧ Sep w no O w' (rl []) ∧ R r3 r4 := by
  unfold pf_r38_Rank at h; have hS : Sep w no O w (rl [Res.ro (FP.sl c3 Ag lg cg g2), Res.ro (FP.sl cI Ad ld cd d)]) := Sep.startl hO [(FP.sl c3 Ag lg cg g2), (FP.sl cI Ad ld cd d)] ⟨hA0, hA1, trivial⟩; refine calls_sh (l := [(.agg #[(.int .i64 g), (.slice Ag lg cg)]), (.slice Ad ld cd)]) Try.func13 rfl Try.ntmps13 (Nat.le_of_ble_eq_true rfl) (wt_seq (wl_region wd_wide (zn (n_box (v := (.agg #[(.int .i64 g), (.slice Ag lg cg)])) rfl ?_)))); intro g3 w2 hN; replace hS : Sep w no O w2 (stl _ 2 (Res.box 24 g3 [(.int .i64 g), (.slice Ag lg cg)])) := hS.new 2 rfl hN; clear hN; refine ⟨Stb.none _, zq (za (.int .i64 0)) (zq (za (.int .i64 0)) (rl_end (wt_seq (wt_seq (wl_region wd_wide (zq (v_loadn (vs := [(.int .i64 g), (.slice Ag lg cg)]) rfl Try.underlying24 rfl info_24 ⟨Row.cell (hS.bx 2 rfl) (i := 0) rfl, Row.cell (hS.bx 2 rfl) (i := 1) rfl, trivial⟩) (zq (zm (.slice Ad ld cd)) (zn (n_call0 rfl (am2 rfl rfl) enter_42 ((pok_r35_Given h (no_lt _) (hS.rdr 0 rfl) (hS.rdr 1 rfl)).mono ?_))))))))))⟩; rintro _ w3 ⟨r, rfl, hC, h⟩; replace hS := hS.pur hC.pure; clear hC; refine ⟨_, rfl, ?_⟩; refine ⟨Stb.none _, zq (za (.int .i64 r)) (rl_end (wt_seq ?_))⟩
  refine wl_region wd_wide (zq (zm (.int .i64 r)) (zq (v_neq rfl rfl) (rl_end ?_))); by_cases hp : r = 0
  · replace h := h.1 hp; refine ze hp (wt_skip (wt_seq (wl_region wd_wide (zq (v_loadn (vs := [(.int .i64 g), (.slice Ag lg cg)]) rfl Try.underlying24 rfl info_24 ⟨Row.cell (hS.bx 2 rfl) (i := 0) rfl, Row.cell (hS.bx 2 rfl) (i := 1) rfl, trivial⟩) (zq (zm (.slice Ad ld cd)) (zn (n_call0 rfl (am2 rfl rfl) enter_47 ((pok_r38_Of h (no_lt _) (hS.rdr 0 rfl) (hS.rdr 1 rfl)).mono ?_)))))))); rintro _ w4 ⟨r2, rfl, hC, h⟩; replace hS := hS.pur hC.pure; clear hC; refine ⟨_, rfl, ?_⟩; exact ⟨Stb.none _, zq (za (.int .i64 r2)) (zq (za (.int .i64 0)) (rl_end (wt_ret2 rfl rfl rfl ⟨_, _, rfl, (hS.sel [] (by decide)), h⟩)))⟩
  · replace h := h.2 hp; exact zf hp (wt_seq (wl_region wd_wide (zq (zm (.int .i64 r)) (zq (za (.int .i64 0)) (zq (za (.int .i64 r)) (rl_end (wt_ret2 rfl rfl rfl ⟨_, _, rfl, (hS.sel [] (by decide)), h⟩)))))))

/-- sandpile/sandpileref38.Witness: what it computes. -/
def pf_r38_Witness (g : Int) (g2 : List E3) (d : List Int) (R : (List Int) → Int → Prop) : Prop :=
pf_r35_Given g g2 d (fun r =>
((r = 0 →
pf_r38_Of g g2 d (fun r2 =>
(In64 (r2 + 1) ∧
pf_r38_Fails g g2 d (r2 + 1) (fun r3 r4 =>
R r3 0)))) ∧
(¬ (r = 0) →
R ([]) r)))
theorem pok_r38_Witness {O : Nat → Prop} {w : World} {g g2 d Ag lg cg Ad ld cd} {R : (List Int) → Int → Prop} (h : pf_r38_Witness g g2 d R) (hO : ∀ k, O k → k < w.heap.size) (hA0 : (FP.sl c3 Ag lg cg g2).P O w) (hA1 : (FP.sl cI Ad ld cd d).P O w) :
    Calls Try.prog 15 #[(.agg #[(.int .i64 g), (.slice Ag lg cg)]), (.slice Ad ld cd)] w fun e w' => ∃ r5 r6 Ar2 lr2 cr2, e = .returned (.tuple #[(.slice Ar2 lr2 cr2), (.int .i64 r6)]) ∧ Sep w no O w' (rl [Res.ro (FP.sl cI Ar2 lr2 cr2 r5)]) ∧ R r5 r6 := by
  unfold pf_r38_Witness at h; have hS : Sep w no O w (rl [Res.ro (FP.sl c3 Ag lg cg g2), Res.ro (FP.sl cI Ad ld cd d)]) := Sep.startl hO [(FP.sl c3 Ag lg cg g2), (FP.sl cI Ad ld cd d)] ⟨hA0, hA1, trivial⟩; refine calls_sh (l := [(.agg #[(.int .i64 g), (.slice Ag lg cg)]), (.slice Ad ld cd)]) Try.func15 rfl Try.ntmps15 (Nat.le_of_ble_eq_true rfl) (wt_seq (wl_region wd_wide (zn (n_box (v := (.agg #[(.int .i64 g), (.slice Ag lg cg)])) rfl ?_)))); intro g3 w2 hN; replace hS : Sep w no O w2 (stl _ 2 (Res.box 24 g3 [(.int .i64 g), (.slice Ag lg cg)])) := hS.new 2 rfl hN; clear hN; refine ⟨Stb.none _, zq (za (.slice none 0 0)) (zq (za (.int .i64 0)) (rl_end (wt_seq (wt_seq (wl_region wd_wide (zq (v_loadn (vs := [(.int .i64 g), (.slice Ag lg cg)]) rfl Try.underlying24 rfl info_24 ⟨Row.cell (hS.bx 2 rfl) (i := 0) rfl, Row.cell (hS.bx 2 rfl) (i := 1) rfl, trivial⟩) (zq (zm (.slice Ad ld cd)) (zn (n_call0 rfl (am2 rfl rfl) enter_42 ((pok_r35_Given h (no_lt _) (hS.rdr 0 rfl) (hS.rdr 1 rfl)).mono ?_))))))))))⟩; rintro _ w3 ⟨r, rfl, hC, h⟩; replace hS := hS.pur hC.pure; clear hC; refine ⟨_, rfl, ?_⟩; refine ⟨Stb.none _, zq (za (.int .i64 r)) (rl_end ?_)⟩
  refine wt_seq (wl_region wd_wide (zq (zm (.int .i64 r)) (zq (v_neq rfl rfl) (rl_end ?_)))); by_cases hp : r = 0
  · replace h := h.1 hp; refine ze hp (wt_skip (wt_seq (wp_draw [0, 1, 2, 3, 4, 5, 6, 7, 8, 9, 10, 11] (fun i => match i with | 4 => [0, 1] | _ => []) wd_wide (by kernel_rfl) (by kernel_rfl) ?_))); replace hS := hS.drew; refine rp_q rfl rfl rfl (v_loadn (vs := [(.int .i64 g), (.slice Ag lg cg)]) rfl Try.underlying24 rfl info_24 ⟨Row.cell (hS.bx 2 rfl) (i := 0) rfl, Row.cell (hS.bx 2 rfl) (i := 1) rfl, trivial⟩) (rp_q rfl rfl rfl (zm (.slice Ad ld cd)) (rp_q rfl rfl rfl (v_loadn (vs := [(.int .i64 g), (.slice Ag lg cg)]) rfl Try.underlying24 rfl info_24 ⟨Row.cell (hS.bx 2 rfl) (i := 0) rfl, Row.cell (hS.bx 2 rfl) (i := 1) rfl, trivial⟩) (rp_q rfl rfl rfl (zm (.slice Ad ld cd)) (rp_n rfl rfl rfl rfl (n_call0 rfl (am2 rfl rfl) enter_47 ((pok_r38_Of h (no_lt _) (hS.rdr 0 rfl) (hS.rdr 1 rfl)).mono ?_)))))); rintro _ w4 ⟨r2, rfl, hC, h⟩; replace hS := hS.pur hC.pure; clear hC; refine ⟨_, rfl, ?_⟩; refine ⟨⟨fun hh => Bool.noConfusion (show false = true from hh), ⟨fun hh => Bool.noConfusion (show false = true from hh), ⟨fun _ => (zm (.slice Ad ld cd)), ⟨fun _ => (v_loadn (vs := [(.int .i64 g), (.slice Ag lg cg)]) rfl Try.underlying24 rfl info_24 ⟨Row.cell (hS.bx 2 rfl) (i := 0) rfl, Row.cell (hS.bx 2 rfl) (i := 1) rfl, trivial⟩), trivial⟩⟩⟩⟩, ?_⟩; obtain ⟨hi, h⟩ := h
    refine rp_q rfl rfl rfl (v_add rfl rfl hi) (rp_n rfl rfl rfl rfl (n_call0 rfl (am3 rfl rfl rfl) enter_50 ((pok_r38_Fails h hS.blt (hS.ro 0 rfl) (hS.ro 1 rfl)).mono ?_))); rintro _ w5 ⟨r3, r4, Ar, lr, cr, rfl, hC, h⟩; replace hS := hS.call1 hC 3 0 rfl; clear hC; refine ⟨_, rfl, ?_⟩; exact ⟨Stb.none _, rp_q rfl rfl rfl (zm (.tuple #[(.slice Ar lr cr), (.bool (r4))])) (rp_q rfl rfl rfl (zx (.slice Ar lr cr)) (rp_q rfl rfl rfl (zx (.bool (r4))) (rp_q rfl rfl rfl (za (.slice Ar lr cr)) (rp_q rfl rfl rfl (za (.bool (r4))) (rp_end (wt_seq (wl_region wd_wide (zq (zm (.slice Ar lr cr)) (zq (za (.slice Ar lr cr)) (zq (za (.int .i64 0)) (rl_end (wt_ret2 rfl rfl rfl ⟨_, _, _, _, _, rfl, (hS.sel [3] (by decide)), h⟩))))))))))))⟩
  · replace h := h.2 hp; refine zf hp (wt_seq (wl_region wd_wide (zq (zm (.int .i64 r)) (zq (za (.slice none 0 0)) (zq (za (.int .i64 r)) (rl_end ?_)))))); replace hS := hS.addro 3 rfl _ (nil_sl cI _ _); exact wt_ret2 rfl rfl rfl ⟨_, _, _, _, _, rfl, (hS.sel [3] (by decide)), h⟩

/-- sandpile/sandpileref38.AtLeast: what it computes. -/
def pf_r38_AtLeast (g : Int) (g2 : List E3) (d : List Int) (r : Int) (R : Bool → Int → Prop) : Prop :=
pf_r35_Given g g2 d (fun r2 =>
((r2 = 0 →
((r < 0 →
R true 0) ∧
(¬ (r < 0) →
pf_r38_Of g g2 d (fun r3 =>
R (decide (r ≤ r3)) 0)))) ∧
(¬ (r2 = 0) →
R false r2)))
theorem pok_r38_AtLeast {O : Nat → Prop} {w : World} {g g2 d r Ag lg cg Ad ld cd} {R : Bool → Int → Prop} (h : pf_r38_AtLeast g g2 d r R) (hO : ∀ k, O k → k < w.heap.size) (hA0 : (FP.sl c3 Ag lg cg g2).P O w) (hA1 : (FP.sl cI Ad ld cd d).P O w) :
    Calls Try.prog 17 #[(.agg #[(.int .i64 g), (.slice Ag lg cg)]), (.slice Ad ld cd), (.int .i64 r)] w fun e w' => ∃ r4 r5, e = .returned (.tuple #[(.bool (r4)), (.int .i64 r5)]) ∧ Sep w no O w' (rl []) ∧ R r4 r5 := by
  unfold pf_r38_AtLeast at h; have hS : Sep w no O w (rl [Res.ro (FP.sl c3 Ag lg cg g2), Res.ro (FP.sl cI Ad ld cd d)]) := Sep.startl hO [(FP.sl c3 Ag lg cg g2), (FP.sl cI Ad ld cd d)] ⟨hA0, hA1, trivial⟩; refine calls_sh (l := [(.agg #[(.int .i64 g), (.slice Ag lg cg)]), (.slice Ad ld cd), (.int .i64 r)]) Try.func17 rfl Try.ntmps17 (Nat.le_of_ble_eq_true rfl) (wt_seq (wl_region wd_wide (zn (n_box (v := (.agg #[(.int .i64 g), (.slice Ag lg cg)])) rfl ?_)))); intro g3 w2 hN; replace hS : Sep w no O w2 (stl _ 2 (Res.box 24 g3 [(.int .i64 g), (.slice Ag lg cg)])) := hS.new 2 rfl hN; clear hN; refine ⟨Stb.none _, zq (za (.bool (false))) (zq (za (.int .i64 0)) (rl_end (wt_seq (wt_seq (wl_region wd_wide (zq (v_loadn (vs := [(.int .i64 g), (.slice Ag lg cg)]) rfl Try.underlying24 rfl info_24 ⟨Row.cell (hS.bx 2 rfl) (i := 0) rfl, Row.cell (hS.bx 2 rfl) (i := 1) rfl, trivial⟩) (zq (zm (.slice Ad ld cd)) (zn (n_call0 rfl (am2 rfl rfl) enter_42 ((pok_r35_Given h (no_lt _) (hS.rdr 0 rfl) (hS.rdr 1 rfl)).mono ?_))))))))))⟩; rintro _ w3 ⟨r2, rfl, hC, h⟩; replace hS := hS.pur hC.pure; clear hC; refine ⟨_, rfl, ?_⟩; refine ⟨Stb.none _, zq (za (.int .i64 r2)) ?_⟩
  refine rl_end (wt_seq (wl_region wd_wide (zq (zm (.int .i64 r2)) (zq (v_neq rfl rfl) (rl_end ?_))))); by_cases hp : r2 = 0
  · replace h := h.1 hp; refine ze hp (wt_skip (wt_seq (wl_region wd_wide (zq (zm (.int .i64 r)) (zq (v_lss rfl rfl) (zq (zm (.bool (decide (r < 0)))) ?_)))))); by_cases hp2 : r < 0
    · replace h := h.1 hp2; exact rl_p (wanted_n rfl (yE_of rfl (congrArg Value.bool (decide_eq_true hp2))) rfl) rfl (rl_p (wanted_n rfl (yE_of rfl (congrArg Value.bool (decide_eq_true hp2))) rfl) rfl (rl_p (wanted_n rfl (yE_of rfl (congrArg Value.bool (decide_eq_true hp2))) rfl) rfl (rl_p (wanted_n rfl (yE_of rfl (congrArg Value.bool (decide_eq_true hp2))) rfl) rfl (rl_p (wanted_n rfl (yE_of rfl (congrArg Value.bool (decide_eq_true hp2))) rfl) rfl (zq (v_pick_t (v := (.bool (true))) (congrArg Value.bool (decide_eq_true hp2)) rfl) (zq (za (.bool (true))) (zq (za (.int .i64 0)) (rl_end (wt_ret2 rfl rfl rfl ⟨_, _, rfl, (hS.sel [] (by decide)), h⟩)))))))))
    · replace h := h.2 hp2; refine rl_q (wanted_g rfl (yE_of rfl (congrArg Value.bool (decide_eq_false hp2)))) rfl rfl (v_loadn (vs := [(.int .i64 g), (.slice Ag lg cg)]) rfl Try.underlying24 rfl info_24 ⟨Row.cell (hS.bx 2 rfl) (i := 0) rfl, Row.cell (hS.bx 2 rfl) (i := 1) rfl, trivial⟩) (rl_q (wanted_g rfl (yE_of rfl (congrArg Value.bool (decide_eq_false hp2)))) rfl rfl (zm (.slice Ad ld cd)) (rl_n (wanted_g rfl (yE_of rfl (congrArg Value.bool (decide_eq_false hp2)))) rfl rfl rfl (n_call0 rfl (am2 rfl rfl) enter_47 ((pok_r38_Of h (no_lt _) (hS.rdr 0 rfl) (hS.rdr 1 rfl)).mono ?_)))); rintro _ w4 ⟨r3, rfl, hC, h⟩; replace hS := hS.pur hC.pure; clear hC; refine ⟨_, rfl, ?_⟩; exact ⟨Stb.none _, rl_q (wanted_g rfl (yE_of rfl (congrArg Value.bool (decide_eq_false hp2)))) rfl rfl (zm (.int .i64 r)) (rl_q (wanted_g rfl (yE_of rfl (congrArg Value.bool (decide_eq_false hp2)))) rfl rfl (v_geq rfl rfl) (zq (v_pick_f (v := (.bool (decide (r ≤ r3)))) (congrArg Value.bool (decide_eq_false hp2)) rfl) (zq (za (.bool (decide (r ≤ r3)))) (zq (za (.int .i64 0)) (rl_end (wt_ret2 rfl rfl rfl ⟨_, _, rfl, (hS.sel [] (by decide)), h⟩))))))⟩
  · replace h := h.2 hp; exact zf hp (wt_seq (wl_region wd_wide (zq (zm (.int .i64 r2)) (zq (za (.bool (false))) (zq (za (.int .i64 r2)) (rl_end (wt_ret2 rfl rfl rfl ⟨_, _, rfl, (hS.sel [] (by decide)), h⟩)))))))

/-- sandpile/sandpileref38.Few: what it computes. -/
def pf_r38_Few (g : Int) (g2 : List E3) (d : List Int) (most : Int) (R : Bool → Prop) : Prop :=
(∃ J2 : Prop, (J2 → pf_r35_Given g g2 d (fun r =>
((r = 0 →
pf_r34_Low g g2 d (fun r2 =>
((r2 = true →
pf_r17_Total d (fun r3 =>
R (decide (r3 ≤ most)))) ∧
(¬ (r2 = true) →
R false)))) ∧
(¬ (r = 0) →
R true)))) ∧
pf_r08_FewRanks g g2 (fun r4 =>
((r4 = true →
((100 < ((d.length : Nat) : Int) →
R false) ∧
(¬ (100 < ((d.length : Nat) : Int)) →
J2))) ∧
(¬ (r4 = true) →
R false))))
theorem pok_r38_Few {O : Nat → Prop} {w : World} {g g2 d most Ag lg cg Ad ld cd} {R : Bool → Prop} (h : pf_r38_Few g g2 d most R) (hO : ∀ k, O k → k < w.heap.size) (hA0 : (FP.sl c3 Ag lg cg g2).P O w) (hA1 : (FP.sl cI Ad ld cd d).P O w) :
    Calls Try.prog 10 #[(.agg #[(.int .i64 g), (.slice Ag lg cg)]), (.slice Ad ld cd), (.int .i64 most)] w fun e w' => ∃ r5, e = .returned (.bool (r5)) ∧ Sep w no O w' (rl []) ∧ R r5 := by
  unfold pf_r38_Few at h; have hS : Sep w no O w (rl [Res.ro (FP.sl c3 Ag lg cg g2), Res.ro (FP.sl cI Ad ld cd d)]) := Sep.startl hO [(FP.sl c3 Ag lg cg g2), (FP.sl cI Ad ld cd d)] ⟨hA0, hA1, trivial⟩; refine calls_sh (l := [(.agg #[(.int .i64 g), (.slice Ag lg cg)]), (.slice Ad ld cd), (.int .i64 most)]) Try.func10 rfl Try.ntmps10 (Nat.le_of_ble_eq_true rfl) (wt_seq (wl_region wd_wide (zn (n_box (v := (.agg #[(.int .i64 g), (.slice Ag lg cg)])) rfl ?_)))); intro g3 w2 hN; replace hS : Sep w no O w2 (stl _ 2 (Res.box 24 g3 [(.int .i64 g), (.slice Ag lg cg)])) := hS.new 2 rfl hN; clear hN; refine ⟨Stb.none _, zq (za (.bool (false))) (rl_end (wt_seq (wt_seq ?_)))⟩; obtain ⟨J2, hJ, h⟩ := h; refine wt_cutT1 (fun E ds w' => J2 ∧ ds = [] ∧ E 1 = (Value.slice Ad ld cd) ∧ E 2 = (Value.int .i64 most) ∧ E 3 = (Value.pointer (some (⟨g3, 0, none⟩ : Addr))) ∧ Sep w no O w' (rl [Res.ro (FP.sl cI Ad ld cd d), Res.box 24 g3 [(.int .i64 g), (.slice Ag lg cg)], Res.ro (FP.sl c3 Ag lg cg g2)])) ?_ ?_
  · clear h hS; rintro E ds w3 ⟨h, rfl, hE1, hE2, hE3, hS⟩; replace h := hJ h; refine wt_seq (wl_region wd_wide (zq (v_loadn (vs := [(.int .i64 g), (.slice Ag lg cg)]) hE3 Try.underlying24 rfl info_24 ⟨Row.cell (hS.bx 1 rfl) (i := 0) rfl, Row.cell (hS.bx 1 rfl) (i := 1) rfl, trivial⟩) (zq (v_move hE1) (zn (n_call0 rfl (am2 rfl rfl) enter_42 ((pok_r35_Given h (no_lt _) (hS.rdr 2 rfl) (hS.rdr 0 rfl)).mono ?_)))))); rintro _ w4 ⟨r, rfl, hC, h⟩; replace hS := hS.pur hC.pure; clear hC; refine ⟨_, rfl, ?_⟩; refine ⟨Stb.none _, zq (v_neq rfl rfl) (zq (zm (.bool (!(decide (r = 0))))) ?_)⟩; by_cases hp : r = 0
    · replace h := h.1 hp; refine rl_q (wanted_g rfl (yE_of rfl (congrArg Value.bool (congrArg Bool.not (decide_eq_true hp))))) rfl rfl (v_loadn (vs := [(.int .i64 g), (.slice Ag lg cg)]) hE3 Try.underlying24 rfl info_24 ⟨Row.cell (hS.bx 1 rfl) (i := 0) rfl, Row.cell (hS.bx 1 rfl) (i := 1) rfl, trivial⟩) (rl_q (wanted_g rfl (yE_of rfl (congrArg Value.bool (congrArg Bool.not (decide_eq_true hp))))) rfl rfl (v_move hE1) (rl_n (wanted_g rfl (yE_of rfl (congrArg Value.bool (congrArg Bool.not (decide_eq_true hp))))) rfl rfl rfl (n_call0 rfl (am2 rfl rfl) enter_43 ((pok_r34_Low h (no_lt _) (hS.rdr 2 rfl) (hS.rdr 0 rfl)).mono ?_)))); rintro _ w5 ⟨r2, rfl, hC, h⟩; replace hS := hS.pur hC.pure; clear hC; refine ⟨_, rfl, ?_⟩; refine ⟨Stb.none _, rl_q (wanted_g rfl (yE_of rfl (congrArg Value.bool (congrArg Bool.not (decide_eq_true hp))))) rfl rfl (zm (.bool (r2))) ?_⟩; by_cases hp2 : r2 = true
      · replace h := h.1 hp2; refine rl_q (wanted_g rfl (yE_of rfl (congrArg Value.bool hp2))) rfl rfl (v_move hE1) (rl_n (wanted_g rfl (yE_of rfl (congrArg Value.bool hp2))) rfl rfl rfl (n_call0 rfl (am1 rfl) enter_20 ((pok_r17_Total h (no_lt _) (hS.rdr 0 rfl)).mono ?_))); rintro _ w6 ⟨r3, rfl, hC, h⟩; replace hS := hS.pur hC.pure; clear hC; refine ⟨_, rfl, ?_⟩; exact ⟨Stb.none _, rl_q (wanted_g rfl (yE_of rfl (congrArg Value.bool hp2))) rfl rfl (v_move hE2) (rl_q (wanted_g rfl (yE_of rfl (congrArg Value.bool hp2))) rfl rfl (v_leq rfl rfl) (rl_q (wanted_g rfl (yE_of rfl (congrArg Value.bool (congrArg Bool.not (decide_eq_true hp))))) rfl rfl (v_pick_t (v := (.bool (decide (r3 ≤ most)))) (congrArg Value.bool hp2) rfl) (zq (v_pick_f (v := (.bool (decide (r3 ≤ most)))) (congrArg Value.bool (congrArg Bool.not (decide_eq_true hp))) rfl) (zq (za (.bool (decide (r3 ≤ most)))) (rl_end (wt_ret1 rfl rfl ⟨_, rfl, (hS.sel [] (by decide)), h⟩))))))⟩
      · replace h := h.2 hp2; exact rl_p (wanted_n rfl (yE_of rfl (congrArg Value.bool (Bool.eq_false_iff.2 hp2))) rfl) rfl (rl_p (wanted_n rfl (yE_of rfl (congrArg Value.bool (Bool.eq_false_iff.2 hp2))) rfl) rfl (rl_p (wanted_n rfl (yE_of rfl (congrArg Value.bool (Bool.eq_false_iff.2 hp2))) rfl) rfl (rl_p (wanted_n rfl (yE_of rfl (congrArg Value.bool (Bool.eq_false_iff.2 hp2))) rfl) rfl (rl_q (wanted_g rfl (yE_of rfl (congrArg Value.bool (congrArg Bool.not (decide_eq_true hp))))) rfl rfl (v_pick_f (v := (.bool (false))) (congrArg Value.bool (Bool.eq_false_iff.2 hp2)) rfl) (zq (v_pick_f (v := (.bool (false))) (congrArg Value.bool (congrArg Bool.not (decide_eq_true hp))) rfl) (zq (za (.bool (false))) (rl_end (wt_ret1 rfl rfl ⟨_, rfl, (hS.sel [] (by decide)), h⟩))))))))
    · replace h := h.2 hp; exact rl_p (wanted_n rfl (yE_of rfl (congrArg Value.bool (congrArg Bool.not (decide_eq_false hp)))) rfl) rfl (rl_p (wanted_n rfl (yE_of rfl (congrArg Value.bool (congrArg Bool.not (decide_eq_false hp)))) rfl) rfl (rl_p (wanted_n rfl (yE_of rfl (congrArg Value.bool (congrArg Bool.not (decide_eq_false hp)))) rfl) rfl (rl_p (wanted_n rfl (yE_of rfl (congrArg Value.bool (congrArg Bool.not (decide_eq_false hp)))) rfl) rfl (rl_p (wanted_u rfl rfl) rfl (rl_p (wanted_u rfl rfl) rfl (rl_p (wanted_u rfl rfl) rfl (rl_p (wanted_u rfl rfl) rfl (rl_p (wanted_n rfl (yE_of rfl (congrArg Value.bool (congrArg Bool.not (decide_eq_false hp)))) rfl) rfl (zq (v_pick_t (v := (.bool (true))) (congrArg Value.bool (congrArg Bool.not (decide_eq_false hp))) rfl) (zq (za (.bool (true))) (rl_end (wt_ret1 rfl rfl ⟨_, rfl, (hS.sel [] (by decide)), h⟩))))))))))))
  clear hJ; intro j; refine wl_region wd_wide (zq (v_loadn (vs := [(.int .i64 g), (.slice Ag lg cg)]) rfl Try.underlying24 rfl info_24 ⟨Row.cell (hS.bx 2 rfl) (i := 0) rfl, Row.cell (hS.bx 2 rfl) (i := 1) rfl, trivial⟩) (zn (n_call0 rfl (am1 rfl) enter_36 ((pok_r08_FewRanks h (no_lt _) (hS.rdr 0 rfl)).mono ?_)))); rintro _ w7 ⟨r4, rfl, hC, h⟩; replace hS := hS.pur hC.pure; clear hC; refine ⟨_, rfl, ?_⟩; refine ⟨Stb.none _, zq (v_not rfl) (zq (zm (.bool (!(r4)))) ?_)⟩; by_cases hp3 : r4 = true
  · replace h := h.1 hp3; refine rl_q (wanted_g rfl (yE_of rfl (congrArg Value.bool (congrArg Bool.not hp3)))) rfl rfl (zm (.slice Ad ld cd)) (rl_q (wanted_g rfl (yE_of rfl (congrArg Value.bool (congrArg Bool.not hp3)))) rfl rfl (v_lenx (n := d.length) rfl Try.underlying25 (rd_len (hS.rdr 1 rfl))) (rl_q (wanted_g rfl (yE_of rfl (congrArg Value.bool (congrArg Bool.not hp3)))) rfl rfl (v_gtr rfl rfl) (zq (v_pick_f (v := (.bool (decide (100 < ((d.length : Nat) : Int))))) (congrArg Value.bool (congrArg Bool.not hp3)) rfl) (rl_end ?_)))); by_cases hp4 : 100 < ((d.length : Nat) : Int)
    · replace h := h.1 hp4; exact zc hp4 (wt_seq (wl_region wd_wide (zq (za (.bool (false))) (rl_end (wt_ret1 rfl rfl ⟨_, rfl, (hS.sel [] (by decide)), h⟩)))))
    · replace h := h.2 hp4; exact zd hp4 (wt_skip (j _ _ _ ⟨h, rfl, rfl, rfl, rfl, (hS.sel [1, 2, 0] (by decide))⟩))
  · replace h := h.2 hp3; exact rl_p (wanted_n rfl (yE_of rfl (congrArg Value.bool (congrArg Bool.not (Bool.eq_false_iff.2 hp3)))) rfl) rfl (rl_p (wanted_n rfl (yE_of rfl (congrArg Value.bool (congrArg Bool.not (Bool.eq_false_iff.2 hp3)))) rfl) rfl (rl_p (wanted_n rfl (yE_of rfl (congrArg Value.bool (congrArg Bool.not (Bool.eq_false_iff.2 hp3)))) rfl) rfl (zq (v_pick_t (v := (.bool (true))) (congrArg Value.bool (congrArg Bool.not (Bool.eq_false_iff.2 hp3))) rfl) (rl_end (wt_cond_t rfl (wt_seq (wl_region wd_wide (zq (za (.bool (false))) (rl_end (wt_ret1 rfl rfl ⟨_, rfl, (hS.sel [] (by decide)), h⟩))))))))))
end Go.Proofs.Ytmeoemmemjipdaa

/- Pure forms of functions, made by program (pf.py), each with the proof that the code does so. -/
namespace Go.Proofs.Ytmeoemmemjipdaa
open Go Go.RowKit Go.Shelf
set_option linter.unusedVariables false
set_option maxRecDepth 100000
set_option maxHeartbeats 1000000
/-- sandpile/sandpilelaw38.awake: what it computes. -/
def pf_l38_awake (R : Bool → Prop) : Prop :=
(∃ I2 : Nat → Int → Prop, (∃ m0, I2 m0 0) ∧ ∀ m2 v, I2 m2 v → 
((v < ((([(3, [(0, 1, 1), (0, 2, 1), (1, 2, 1)], [1, 1, 0], 1), (3, [(0, 1, 1), (0, 2, 1), (1, 2, 1)], [0, 1, 0], 0), (4, [(0, 1, 1), (0, 2, 1), (0, 3, 1), (1, 2, 1), (1, 3, 1), (2, 3, 1)], [1, 1, 0, 0], 0), (4, [(0, 1, 1), (0, 2, 1), (0, 3, 1), (1, 2, 1), (1, 3, 1), (2, 3, 1)], [1, 1, 1, 0], 1), (4, [(0, 1, 1), (0, 2, 1), (0, 3, 1), (1, 2, 1), (1, 3, 1), (2, 3, 1)], [1, 1, 1, 1], 2), (1, [], [3], 3)] : List (Int × (List E3) × (List Int) × Int)).length : Nat) : Int) →
((0 ≤ v ∧ v < ((([(3, [(0, 1, 1), (0, 2, 1), (1, 2, 1)], [1, 1, 0], 1), (3, [(0, 1, 1), (0, 2, 1), (1, 2, 1)], [0, 1, 0], 0), (4, [(0, 1, 1), (0, 2, 1), (0, 3, 1), (1, 2, 1), (1, 3, 1), (2, 3, 1)], [1, 1, 0, 0], 0), (4, [(0, 1, 1), (0, 2, 1), (0, 3, 1), (1, 2, 1), (1, 3, 1), (2, 3, 1)], [1, 1, 1, 0], 1), (4, [(0, 1, 1), (0, 2, 1), (0, 3, 1), (1, 2, 1), (1, 3, 1), (2, 3, 1)], [1, 1, 1, 1], 2), (1, [], [3], 3)] : List (Int × (List E3) × (List Int) × Int)).length : Nat) : Int)) ∧
pf_rank_Rank ((gx ([(3, [(0, 1, 1), (0, 2, 1), (1, 2, 1)], [1, 1, 0], 1), (3, [(0, 1, 1), (0, 2, 1), (1, 2, 1)], [0, 1, 0], 0), (4, [(0, 1, 1), (0, 2, 1), (0, 3, 1), (1, 2, 1), (1, 3, 1), (2, 3, 1)], [1, 1, 0, 0], 0), (4, [(0, 1, 1), (0, 2, 1), (0, 3, 1), (1, 2, 1), (1, 3, 1), (2, 3, 1)], [1, 1, 1, 0], 1), (4, [(0, 1, 1), (0, 2, 1), (0, 3, 1), (1, 2, 1), (1, 3, 1), (2, 3, 1)], [1, 1, 1, 1], 2), (1, [], [3], 3)] : List (Int × (List E3) × (List Int) × Int)) v.toNat).1) ((gx ([(3, [(0, 1, 1), (0, 2, 1), (1, 2, 1)], [1, 1, 0], 1), (3, [(0, 1, 1), (0, 2, 1), (1, 2, 1)], [0, 1, 0], 0), (4, [(0, 1, 1), (0, 2, 1), (0, 3, 1), (1, 2, 1), (1, 3, 1), (2, 3, 1)], [1, 1, 0, 0], 0), (4, [(0, 1, 1), (0, 2, 1), (0, 3, 1), (1, 2, 1), (1, 3, 1), (2, 3, 1)], [1, 1, 1, 0], 1), (4, [(0, 1, 1), (0, 2, 1), (0, 3, 1), (1, 2, 1), (1, 3, 1), (2, 3, 1)], [1, 1, 1, 1], 2), (1, [], [3], 3)] : List (Int × (List E3) × (List Int) × Int)) v.toNat).2.1) ((gx ([(3, [(0, 1, 1), (0, 2, 1), (1, 2, 1)], [1, 1, 0], 1), (3, [(0, 1, 1), (0, 2, 1), (1, 2, 1)], [0, 1, 0], 0), (4, [(0, 1, 1), (0, 2, 1), (0, 3, 1), (1, 2, 1), (1, 3, 1), (2, 3, 1)], [1, 1, 0, 0], 0), (4, [(0, 1, 1), (0, 2, 1), (0, 3, 1), (1, 2, 1), (1, 3, 1), (2, 3, 1)], [1, 1, 1, 0], 1), (4, [(0, 1, 1), (0, 2, 1), (0, 3, 1), (1, 2, 1), (1, 3, 1), (2, 3, 1)], [1, 1, 1, 1], 2), (1, [], [3], 3)] : List (Int × (List E3) × (List Int) × Int)) v.toNat).2.2.1) (fun r r2 =>
((r2 = 0 →
((r = ((gx ([(3, [(0, 1, 1), (0, 2, 1), (1, 2, 1)], [1, 1, 0], 1), (3, [(0, 1, 1), (0, 2, 1), (1, 2, 1)], [0, 1, 0], 0), (4, [(0, 1, 1), (0, 2, 1), (0, 3, 1), (1, 2, 1), (1, 3, 1), (2, 3, 1)], [1, 1, 0, 0], 0), (4, [(0, 1, 1), (0, 2, 1), (0, 3, 1), (1, 2, 1), (1, 3, 1), (2, 3, 1)], [1, 1, 1, 0], 1), (4, [(0, 1, 1), (0, 2, 1), (0, 3, 1), (1, 2, 1), (1, 3, 1), (2, 3, 1)], [1, 1, 1, 1], 2), (1, [], [3], 3)] : List (Int × (List E3) × (List Int) × Int)) v.toNat).2.2.2) →
(In64 (v + 1) ∧
∃ m3, m3 < m2 ∧ I2 m3 (v + 1))) ∧
(¬ (r = ((gx ([(3, [(0, 1, 1), (0, 2, 1), (1, 2, 1)], [1, 1, 0], 1), (3, [(0, 1, 1), (0, 2, 1), (1, 2, 1)], [0, 1, 0], 0), (4, [(0, 1, 1), (0, 2, 1), (0, 3, 1), (1, 2, 1), (1, 3, 1), (2, 3, 1)], [1, 1, 0, 0], 0), (4, [(0, 1, 1), (0, 2, 1), (0, 3, 1), (1, 2, 1), (1, 3, 1), (2, 3, 1)], [1, 1, 1, 0], 1), (4, [(0, 1, 1), (0, 2, 1), (0, 3, 1), (1, 2, 1), (1, 3, 1), (2, 3, 1)], [1, 1, 1, 1], 2), (1, [], [3], 3)] : List (Int × (List E3) × (List Int) × Int)) v.toNat).2.2.2)) →
R false))) ∧
(¬ (r2 = 0) →
R false))))) ∧
(¬ (v < ((([(3, [(0, 1, 1), (0, 2, 1), (1, 2, 1)], [1, 1, 0], 1), (3, [(0, 1, 1), (0, 2, 1), (1, 2, 1)], [0, 1, 0], 0), (4, [(0, 1, 1), (0, 2, 1), (0, 3, 1), (1, 2, 1), (1, 3, 1), (2, 3, 1)], [1, 1, 0, 0], 0), (4, [(0, 1, 1), (0, 2, 1), (0, 3, 1), (1, 2, 1), (1, 3, 1), (2, 3, 1)], [1, 1, 1, 0], 1), (4, [(0, 1, 1), (0, 2, 1), (0, 3, 1), (1, 2, 1), (1, 3, 1), (2, 3, 1)], [1, 1, 1, 1], 2), (1, [], [3], 3)] : List (Int × (List E3) × (List Int) × Int)).length : Nat) : Int)) →
pf_rank_Witness 3 ([(0, 1, 1), (0, 2, 1), (1, 2, 1)]) ([1, 1, 0]) (fun r3 r4 =>
pf_rank_Witness 3 ([(0, 1, 1), (0, 2, 1), (1, 2, 1)]) ([0, 1, 0]) (fun r5 r6 =>
((r4 = 0 →
((r6 = 0 →
pf_slices_Equal_Divisor r3 ([0, 1, 1]) (fun r7 =>
((r7 = true →
pf_slices_Equal_Divisor r5 ([0, 0, 1]) (fun r8 =>
R r8)) ∧
(¬ (r7 = true) →
R false)))) ∧
(¬ (r6 = 0) →
R false))) ∧
(¬ (r4 = 0) →
R false)))))))
theorem pok_l38_awake {O : Nat → Prop} {w : World} {R : Bool → Prop} (h : pf_l38_awake R) (hO : ∀ k, O k → k < w.heap.size) :
    Calls Try.prog 11 #[] w fun e w' => ∃ r9, e = .returned (.bool (r9)) ∧ Sep w no O w' (rl []) ∧ R r9 := by
  unfold pf_l38_awake at h; have hS : Sep w no O w (rl []) := Sep.start w hO; refine calls_sh (l := []) Try.func11 rfl Try.ntmps11 (Nat.le_of_ble_eq_true rfl) (wt_seq (wl_region wd_wide (zq (za (.bool (false))) (rl_end (wt_seq (wl_region wd_wide (zn (n_build (l := [(0, (.int .i64 0)), (1, (.int .i64 1)), (2, (.int .i64 1))]) (cells := [(.int .i64 0), (.int .i64 1), (.int .i64 1)]) (places := [(0, 1), (1, 1), (2, 1)]) (bp3 rfl rfl rfl) Try.underlying83 info_83 (by kernel_rfl) rfl ?_)))))))); refine ⟨Stb.none _, zn (n_build (l := [(0, (.int .i64 0)), (1, (.int .i64 2)), (2, (.int .i64 1))]) (cells := [(.int .i64 0), (.int .i64 2), (.int .i64 1)]) (places := [(0, 1), (1, 1), (2, 1)]) (bp3 rfl rfl rfl) Try.underlying83 info_83 (by kernel_rfl) rfl ?_)⟩; refine ⟨Stb.none _, zn (n_build (l := [(0, (.int .i64 1)), (1, (.int .i64 2)), (2, (.int .i64 1))]) (cells := [(.int .i64 1), (.int .i64 2), (.int .i64 1)]) (places := [(0, 1), (1, 1), (2, 1)]) (bp3 rfl rfl rfl) Try.underlying83 info_83 (by kernel_rfl) rfl ?_)⟩; refine ⟨Stb.none _, ?_⟩
  refine zn (n_bslice (l := [(0, (.agg #[(.int .i64 0), (.int .i64 1), (.int .i64 1)])), (1, (.agg #[(.int .i64 0), (.int .i64 2), (.int .i64 1)])), (2, (.agg #[(.int .i64 1), (.int .i64 2), (.int .i64 1)]))]) (cells := [(.int .i64 0), (.int .i64 1), (.int .i64 1), (.int .i64 0), (.int .i64 2), (.int .i64 1), (.int .i64 1), (.int .i64 2), (.int .i64 1)]) (bp3 rfl rfl rfl) Try.underlying22 info_83 rfl rfl ?_); intro g w2 hN; replace hS := hS.litf (n := 3) 0 rfl (fP (fI .i64) (fP (fI .i64) (fI .i64))) hN ([(0, 1, 1), (0, 2, 1), (1, 2, 1)] : List E3) rfl (by decide) rfl; clear hN; refine ⟨Stb.none _, zn (n_build (l := [(0, (.int .i64 3)), (1, (.slice (some ⟨g, 0, none⟩) 3 3))]) (cells := [(.int .i64 3), (.slice (some ⟨g, 0, none⟩) 3 3)]) (places := [(0, 1), (1, 1)]) (bp2 rfl rfl) Try.underlying24 info_24 (by kernel_rfl) rfl ?_)⟩; refine ⟨Stb.none _, zn (n_alloc info_24 ?_)⟩; intro g2 w3 hN; replace hS : Sep w no O w3 (stl _ 1 (Res.box 24 g2 [(.int .i64 0), (.slice none 0 0)])) := hS.new 1 rfl hN; clear hN; refine ⟨Stb.none _, zo (n_storen (b := g2) (o := 0) (cells := #[(.int .i64 3), (.slice (some ⟨g, 0, none⟩) 3 3)]) rfl rfl info_24 rfl rfl (there_row (hS.bx 1 rfl) (Nat.le_of_ble_eq_true rfl)) ?_)⟩; intro w4 e1; replace hS := hS.bstn 1 rfl 0 [(.int .i64 3), (.slice (some ⟨g, 0, none⟩) 3 3)] e1; clear e1; refine ⟨Stb.none _, ?_⟩
  refine rl_end (wt_seq (wl_region wd_wide (zn (n_build (l := [(0, (.int .i64 0)), (1, (.int .i64 1)), (2, (.int .i64 1))]) (cells := [(.int .i64 0), (.int .i64 1), (.int .i64 1)]) (places := [(0, 1), (1, 1), (2, 1)]) (bp3 rfl rfl rfl) Try.underlying83 info_83 (by kernel_rfl) rfl ?_)))); refine ⟨Stb.none _, zn (n_build (l := [(0, (.int .i64 0)), (1, (.int .i64 2)), (2, (.int .i64 1))]) (cells := [(.int .i64 0), (.int .i64 2), (.int .i64 1)]) (places := [(0, 1), (1, 1), (2, 1)]) (bp3 rfl rfl rfl) Try.underlying83 info_83 (by kernel_rfl) rfl ?_)⟩; refine ⟨Stb.none _, zn (n_build (l := [(0, (.int .i64 0)), (1, (.int .i64 3)), (2, (.int .i64 1))]) (cells := [(.int .i64 0), (.int .i64 3), (.int .i64 1)]) (places := [(0, 1), (1, 1), (2, 1)]) (bp3 rfl rfl rfl) Try.underlying83 info_83 (by kernel_rfl) rfl ?_)⟩; refine ⟨Stb.none _, zn (n_build (l := [(0, (.int .i64 1)), (1, (.int .i64 2)), (2, (.int .i64 1))]) (cells := [(.int .i64 1), (.int .i64 2), (.int .i64 1)]) (places := [(0, 1), (1, 1), (2, 1)]) (bp3 rfl rfl rfl) Try.underlying83 info_83 (by kernel_rfl) rfl ?_)⟩; refine ⟨Stb.none _, zn (n_build (l := [(0, (.int .i64 1)), (1, (.int .i64 3)), (2, (.int .i64 1))]) (cells := [(.int .i64 1), (.int .i64 3), (.int .i64 1)]) (places := [(0, 1), (1, 1), (2, 1)]) (bp3 rfl rfl rfl) Try.underlying83 info_83 (by kernel_rfl) rfl ?_)⟩
  refine ⟨Stb.none _, zn (n_build (l := [(0, (.int .i64 2)), (1, (.int .i64 3)), (2, (.int .i64 1))]) (cells := [(.int .i64 2), (.int .i64 3), (.int .i64 1)]) (places := [(0, 1), (1, 1), (2, 1)]) (bp3 rfl rfl rfl) Try.underlying83 info_83 (by kernel_rfl) rfl ?_)⟩; refine ⟨Stb.none _, zn (n_bslice (l := [(0, (.agg #[(.int .i64 0), (.int .i64 1), (.int .i64 1)])), (1, (.agg #[(.int .i64 0), (.int .i64 2), (.int .i64 1)])), (2, (.agg #[(.int .i64 0), (.int .i64 3), (.int .i64 1)])), (3, (.agg #[(.int .i64 1), (.int .i64 2), (.int .i64 1)])), (4, (.agg #[(.int .i64 1), (.int .i64 3), (.int .i64 1)])), (5, (.agg #[(.int .i64 2), (.int .i64 3), (.int .i64 1)]))]) (cells := [(.int .i64 0), (.int .i64 1), (.int .i64 1), (.int .i64 0), (.int .i64 2), (.int .i64 1), (.int .i64 0), (.int .i64 3), (.int .i64 1), (.int .i64 1), (.int .i64 2), (.int .i64 1), (.int .i64 1), (.int .i64 3), (.int .i64 1), (.int .i64 2), (.int .i64 3), (.int .i64 1)]) (bp6 rfl rfl rfl rfl rfl rfl) Try.underlying22 info_83 rfl rfl ?_)⟩; intro g3 w5 hN; replace hS := hS.litf (n := 6) 2 rfl (fP (fI .i64) (fP (fI .i64) (fI .i64))) hN ([(0, 1, 1), (0, 2, 1), (0, 3, 1), (1, 2, 1), (1, 3, 1), (2, 3, 1)] : List E3) rfl (by decide) rfl; clear hN; refine ⟨Stb.none _, ?_⟩
  refine zn (n_build (l := [(0, (.int .i64 4)), (1, (.slice (some ⟨g3, 0, none⟩) 6 6))]) (cells := [(.int .i64 4), (.slice (some ⟨g3, 0, none⟩) 6 6)]) (places := [(0, 1), (1, 1)]) (bp2 rfl rfl) Try.underlying24 info_24 (by kernel_rfl) rfl ?_); refine ⟨Stb.none _, zn (n_alloc info_24 ?_)⟩; intro g4 w6 hN; replace hS : Sep w no O w6 (stl _ 3 (Res.box 24 g4 [(.int .i64 0), (.slice none 0 0)])) := hS.new 3 rfl hN; clear hN; refine ⟨Stb.none _, zo (n_storen (b := g4) (o := 0) (cells := #[(.int .i64 4), (.slice (some ⟨g3, 0, none⟩) 6 6)]) rfl rfl info_24 rfl rfl (there_row (hS.bx 3 rfl) (Nat.le_of_ble_eq_true rfl)) ?_)⟩; intro w7 e1; replace hS := hS.bstn 3 rfl 0 [(.int .i64 4), (.slice (some ⟨g3, 0, none⟩) 6 6)] e1; clear e1; refine ⟨Stb.none _, rl_end (wt_seq (wt_seq (wl_region wd_wide (zq (v_loadn (vs := [(.int .i64 3), (.slice (some ⟨g, 0, none⟩) 3 3)]) rfl Try.underlying24 rfl info_24 ⟨Row.cell (hS.bx 1 rfl) (i := 0) rfl, Row.cell (hS.bx 1 rfl) (i := 1) rfl, trivial⟩) (zn (n_bslice (l := [(0, (.int .i64 1)), (1, (.int .i64 1)), (2, (.int .i64 0))]) (cells := [(.int .i64 1), (.int .i64 1), (.int .i64 0)]) (bp3 rfl rfl rfl) Try.underlying26 info_3 rfl rfl ?_))))))⟩; intro g5 w8 hN; replace hS := hS.litf (n := 3) 4 rfl (fI .i64) hN ([1, 1, 0] : List Int) rfl (by decide) rfl; clear hN
  refine ⟨Stb.none _, zn (n_build (l := [(0, (.agg #[(.int .i64 3), (.slice (some ⟨g, 0, none⟩) 3 3)])), (1, (.slice (some ⟨g5, 0, none⟩) 3 3)), (2, (.int .i64 1))]) (cells := [(.int .i64 3), (.slice (some ⟨g, 0, none⟩) 3 3), (.slice (some ⟨g5, 0, none⟩) 3 3), (.int .i64 1)]) (places := [(0, 2), (2, 1), (3, 1)]) (bp3 rfl rfl rfl) Try.underlying84 info_84 (by kernel_rfl) rfl ?_)⟩; refine ⟨Stb.none _, zq (v_loadn (vs := [(.int .i64 3), (.slice (some ⟨g, 0, none⟩) 3 3)]) rfl Try.underlying24 rfl info_24 ⟨Row.cell (hS.bx 1 rfl) (i := 0) rfl, Row.cell (hS.bx 1 rfl) (i := 1) rfl, trivial⟩) (zn (n_bslice (l := [(0, (.int .i64 0)), (1, (.int .i64 1)), (2, (.int .i64 0))]) (cells := [(.int .i64 0), (.int .i64 1), (.int .i64 0)]) (bp3 rfl rfl rfl) Try.underlying26 info_3 rfl rfl ?_))⟩; intro g6 w9 hN; replace hS := hS.litf (n := 3) 5 rfl (fI .i64) hN ([0, 1, 0] : List Int) rfl (by decide) rfl; clear hN; refine ⟨Stb.none _, zn (n_build (l := [(0, (.agg #[(.int .i64 3), (.slice (some ⟨g, 0, none⟩) 3 3)])), (1, (.slice (some ⟨g6, 0, none⟩) 3 3)), (2, (.int .i64 0))]) (cells := [(.int .i64 3), (.slice (some ⟨g, 0, none⟩) 3 3), (.slice (some ⟨g6, 0, none⟩) 3 3), (.int .i64 0)]) (places := [(0, 2), (2, 1), (3, 1)]) (bp3 rfl rfl rfl) Try.underlying84 info_84 (by kernel_rfl) rfl ?_)⟩; refine ⟨Stb.none _, ?_⟩
  refine zq (v_loadn (vs := [(.int .i64 4), (.slice (some ⟨g3, 0, none⟩) 6 6)]) rfl Try.underlying24 rfl info_24 ⟨Row.cell (hS.bx 3 rfl) (i := 0) rfl, Row.cell (hS.bx 3 rfl) (i := 1) rfl, trivial⟩) (zn (n_bslice (l := [(0, (.int .i64 1)), (1, (.int .i64 1)), (2, (.int .i64 0)), (3, (.int .i64 0))]) (cells := [(.int .i64 1), (.int .i64 1), (.int .i64 0), (.int .i64 0)]) (bp4 rfl rfl rfl rfl) Try.underlying26 info_3 rfl rfl ?_)); intro g7 w10 hN; replace hS := hS.litf (n := 4) 6 rfl (fI .i64) hN ([1, 1, 0, 0] : List Int) rfl (by decide) rfl; clear hN; refine ⟨Stb.none _, zn (n_build (l := [(0, (.agg #[(.int .i64 4), (.slice (some ⟨g3, 0, none⟩) 6 6)])), (1, (.slice (some ⟨g7, 0, none⟩) 4 4)), (2, (.int .i64 0))]) (cells := [(.int .i64 4), (.slice (some ⟨g3, 0, none⟩) 6 6), (.slice (some ⟨g7, 0, none⟩) 4 4), (.int .i64 0)]) (places := [(0, 2), (2, 1), (3, 1)]) (bp3 rfl rfl rfl) Try.underlying84 info_84 (by kernel_rfl) rfl ?_)⟩; refine ⟨Stb.none _, zq (v_loadn (vs := [(.int .i64 4), (.slice (some ⟨g3, 0, none⟩) 6 6)]) rfl Try.underlying24 rfl info_24 ⟨Row.cell (hS.bx 3 rfl) (i := 0) rfl, Row.cell (hS.bx 3 rfl) (i := 1) rfl, trivial⟩) ?_⟩
  refine zn (n_bslice (l := [(0, (.int .i64 1)), (1, (.int .i64 1)), (2, (.int .i64 1)), (3, (.int .i64 0))]) (cells := [(.int .i64 1), (.int .i64 1), (.int .i64 1), (.int .i64 0)]) (bp4 rfl rfl rfl rfl) Try.underlying26 info_3 rfl rfl ?_); intro g8 w11 hN; replace hS := hS.litf (n := 4) 7 rfl (fI .i64) hN ([1, 1, 1, 0] : List Int) rfl (by decide) rfl; clear hN; refine ⟨Stb.none _, zn (n_build (l := [(0, (.agg #[(.int .i64 4), (.slice (some ⟨g3, 0, none⟩) 6 6)])), (1, (.slice (some ⟨g8, 0, none⟩) 4 4)), (2, (.int .i64 1))]) (cells := [(.int .i64 4), (.slice (some ⟨g3, 0, none⟩) 6 6), (.slice (some ⟨g8, 0, none⟩) 4 4), (.int .i64 1)]) (places := [(0, 2), (2, 1), (3, 1)]) (bp3 rfl rfl rfl) Try.underlying84 info_84 (by kernel_rfl) rfl ?_)⟩; refine ⟨Stb.none _, zq (v_loadn (vs := [(.int .i64 4), (.slice (some ⟨g3, 0, none⟩) 6 6)]) rfl Try.underlying24 rfl info_24 ⟨Row.cell (hS.bx 3 rfl) (i := 0) rfl, Row.cell (hS.bx 3 rfl) (i := 1) rfl, trivial⟩) (zn (n_bslice (l := [(0, (.int .i64 1)), (1, (.int .i64 1)), (2, (.int .i64 1)), (3, (.int .i64 1))]) (cells := [(.int .i64 1), (.int .i64 1), (.int .i64 1), (.int .i64 1)]) (bp4 rfl rfl rfl rfl) Try.underlying26 info_3 rfl rfl ?_))⟩; intro g9 w12 hN; replace hS := hS.litf (n := 4) 8 rfl (fI .i64) hN ([1, 1, 1, 1] : List Int) rfl (by decide) rfl; clear hN; refine ⟨Stb.none _, ?_⟩
  refine zn (n_build (l := [(0, (.agg #[(.int .i64 4), (.slice (some ⟨g3, 0, none⟩) 6 6)])), (1, (.slice (some ⟨g9, 0, none⟩) 4 4)), (2, (.int .i64 2))]) (cells := [(.int .i64 4), (.slice (some ⟨g3, 0, none⟩) 6 6), (.slice (some ⟨g9, 0, none⟩) 4 4), (.int .i64 2)]) (places := [(0, 2), (2, 1), (3, 1)]) (bp3 rfl rfl rfl) Try.underlying84 info_84 (by kernel_rfl) rfl ?_); refine ⟨Stb.none _, zn (n_build (l := [(0, (.int .i64 1))]) (cells := [(.int .i64 1), (.slice none 0 0)]) (places := [(0, 1), (1, 1)]) (bp1 rfl) Try.underlying24 info_24 (by kernel_rfl) rfl ?_)⟩; refine ⟨Stb.none _, zn (n_bslice (l := [(0, (.int .i64 3))]) (cells := [(.int .i64 3)]) (bp1 rfl) Try.underlying26 info_3 rfl rfl ?_)⟩; intro g10 w13 hN; replace hS := hS.litf (n := 1) 9 rfl (fI .i64) hN ([3] : List Int) rfl (by decide) rfl; clear hN; refine ⟨Stb.none _, zn (n_build (l := [(0, (.agg #[(.int .i64 1), (.slice none 0 0)])), (1, (.slice (some ⟨g10, 0, none⟩) 1 1)), (2, (.int .i64 3))]) (cells := [(.int .i64 1), (.slice none 0 0), (.slice (some ⟨g10, 0, none⟩) 1 1), (.int .i64 3)]) (places := [(0, 2), (2, 1), (3, 1)]) (bp3 rfl rfl rfl) Try.underlying84 info_84 (by kernel_rfl) rfl ?_)⟩; refine ⟨Stb.none _, ?_⟩; replace hS := hS.frz 0 rfl; replace hS := hS.frz 4 rfl; replace hS := hS.frz 5 rfl; replace hS := hS.frz 2 rfl; replace hS := hS.frz 6 rfl; replace hS := hS.frz 7 rfl; replace hS := hS.frz 8 rfl
  replace hS := hS.frz 9 rfl; refine zn (n_bslice (l := [(0, (.agg #[(.int .i64 3), (.slice (some ⟨g, 0, none⟩) 3 3), (.slice (some ⟨g5, 0, none⟩) 3 3), (.int .i64 1)])), (1, (.agg #[(.int .i64 3), (.slice (some ⟨g, 0, none⟩) 3 3), (.slice (some ⟨g6, 0, none⟩) 3 3), (.int .i64 0)])), (2, (.agg #[(.int .i64 4), (.slice (some ⟨g3, 0, none⟩) 6 6), (.slice (some ⟨g7, 0, none⟩) 4 4), (.int .i64 0)])), (3, (.agg #[(.int .i64 4), (.slice (some ⟨g3, 0, none⟩) 6 6), (.slice (some ⟨g8, 0, none⟩) 4 4), (.int .i64 1)])), (4, (.agg #[(.int .i64 4), (.slice (some ⟨g3, 0, none⟩) 6 6), (.slice (some ⟨g9, 0, none⟩) 4 4), (.int .i64 2)])), (5, (.agg #[(.int .i64 1), (.slice none 0 0), (.slice (some ⟨g10, 0, none⟩) 1 1), (.int .i64 3)]))]) (cells := [(.int .i64 3), (.slice (some ⟨g, 0, none⟩) 3 3), (.slice (some ⟨g5, 0, none⟩) 3 3), (.int .i64 1), (.int .i64 3), (.slice (some ⟨g, 0, none⟩) 3 3), (.slice (some ⟨g6, 0, none⟩) 3 3), (.int .i64 0), (.int .i64 4), (.slice (some ⟨g3, 0, none⟩) 6 6), (.slice (some ⟨g7, 0, none⟩) 4 4), (.int .i64 0), (.int .i64 4), (.slice (some ⟨g3, 0, none⟩) 6 6), (.slice (some ⟨g8, 0, none⟩) 4 4), (.int .i64 1), (.int .i64 4), (.slice (some ⟨g3, 0, none⟩) 6 6), (.slice (some ⟨g9, 0, none⟩) 4 4), (.int .i64 2), (.int .i64 1), (.slice none 0 0), (.slice (some ⟨g10, 0, none⟩) 1 1), (.int .i64 3)]) (bp6 rfl rfl rfl rfl rfl rfl) Try.underlying85 info_84 rfl (by kernel_rfl) ?_); intro g11 w14 hN
  replace hS := hS.lit (n := 6) (c := (cPr cI (cPr (cL c3) (cPr (cL cI) cI)))) 10 rfl hN (([(3, [(0, 1, 1), (0, 2, 1), (1, 2, 1)], [1, 1, 0], 1), (3, [(0, 1, 1), (0, 2, 1), (1, 2, 1)], [0, 1, 0], 0), (4, [(0, 1, 1), (0, 2, 1), (0, 3, 1), (1, 2, 1), (1, 3, 1), (2, 3, 1)], [1, 1, 0, 0], 0), (4, [(0, 1, 1), (0, 2, 1), (0, 3, 1), (1, 2, 1), (1, 3, 1), (2, 3, 1)], [1, 1, 1, 0], 1), (4, [(0, 1, 1), (0, 2, 1), (0, 3, 1), (1, 2, 1), (1, 3, 1), (2, 3, 1)], [1, 1, 1, 1], 2), (1, [], [3], 3)] : List (Int × (List E3) × (List Int) × Int)) : List (Int × (List E3) × (List Int) × Int)) rfl (by decide) ⟨[(.int .i64 3), (.slice (some ⟨g, 0, none⟩) 3 3), (.slice (some ⟨g5, 0, none⟩) 3 3), (.int .i64 1)], _, rfl, ⟨[(.int .i64 3)], [(.slice (some ⟨g, 0, none⟩) 3 3), (.slice (some ⟨g5, 0, none⟩) 3 3), (.int .i64 1)], rfl, rfl, ⟨[(.slice (some ⟨g, 0, none⟩) 3 3)], [(.slice (some ⟨g5, 0, none⟩) 3 3), (.int .i64 1)], rfl, (ro_R (hS.ro 0 rfl)), ⟨[(.slice (some ⟨g5, 0, none⟩) 3 3)], [(.int .i64 1)], rfl, (ro_R (hS.ro 4 rfl)), rfl⟩⟩⟩, ⟨[(.int .i64 3), (.slice (some ⟨g, 0, none⟩) 3 3), (.slice (some ⟨g6, 0, none⟩) 3 3), (.int .i64 0)], _, rfl, ⟨[(.int .i64 3)], [(.slice (some ⟨g, 0, none⟩) 3 3), (.slice (some ⟨g6, 0, none⟩) 3 3), (.int .i64 0)], rfl, rfl, ⟨[(.slice (some ⟨g, 0, none⟩) 3 3)], [(.slice (some ⟨g6, 0, none⟩) 3 3), (.int .i64 0)], rfl, (ro_R (hS.ro 0 rfl)), ⟨[(.slice (some ⟨g6, 0, none⟩) 3 3)], [(.int .i64 0)], rfl, (ro_R (hS.ro 5 rfl)), rfl⟩⟩⟩, ⟨[(.int .i64 4), (.slice (some ⟨g3, 0, none⟩) 6 6), (.slice (some ⟨g7, 0, none⟩) 4 4), (.int .i64 0)], _, rfl, ⟨[(.int .i64 4)], [(.slice (some ⟨g3, 0, none⟩) 6 6), (.slice (some ⟨g7, 0, none⟩) 4 4), (.int .i64 0)], rfl, rfl, ⟨[(.slice (some ⟨g3, 0, none⟩) 6 6)], [(.slice (some ⟨g7, 0, none⟩) 4 4), (.int .i64 0)], rfl, (ro_R (hS.ro 2 rfl)), ⟨[(.slice (some ⟨g7, 0, none⟩) 4 4)], [(.int .i64 0)], rfl, (ro_R (hS.ro 6 rfl)), rfl⟩⟩⟩, ⟨[(.int .i64 4), (.slice (some ⟨g3, 0, none⟩) 6 6), (.slice (some ⟨g8, 0, none⟩) 4 4), (.int .i64 1)], _, rfl, ⟨[(.int .i64 4)], [(.slice (some ⟨g3, 0, none⟩) 6 6), (.slice (some ⟨g8, 0, none⟩) 4 4), (.int .i64 1)], rfl, rfl, ⟨[(.slice (some ⟨g3, 0, none⟩) 6 6)], [(.slice (some ⟨g8, 0, none⟩) 4 4), (.int .i64 1)], rfl, (ro_R (hS.ro 2 rfl)), ⟨[(.slice (some ⟨g8, 0, none⟩) 4 4)], [(.int .i64 1)], rfl, (ro_R (hS.ro 7 rfl)), rfl⟩⟩⟩, ⟨[(.int .i64 4), (.slice (some ⟨g3, 0, none⟩) 6 6), (.slice (some ⟨g9, 0, none⟩) 4 4), (.int .i64 2)], _, rfl, ⟨[(.int .i64 4)], [(.slice (some ⟨g3, 0, none⟩) 6 6), (.slice (some ⟨g9, 0, none⟩) 4 4), (.int .i64 2)], rfl, rfl, ⟨[(.slice (some ⟨g3, 0, none⟩) 6 6)], [(.slice (some ⟨g9, 0, none⟩) 4 4), (.int .i64 2)], rfl, (ro_R (hS.ro 2 rfl)), ⟨[(.slice (some ⟨g9, 0, none⟩) 4 4)], [(.int .i64 2)], rfl, (ro_R (hS.ro 8 rfl)), rfl⟩⟩⟩, ⟨[(.int .i64 1), (.slice none 0 0), (.slice (some ⟨g10, 0, none⟩) 1 1), (.int .i64 3)], _, rfl, ⟨[(.int .i64 1)], [(.slice none 0 0), (.slice (some ⟨g10, 0, none⟩) 1 1), (.int .i64 3)], rfl, rfl, ⟨[(.slice none 0 0)], [(.slice (some ⟨g10, 0, none⟩) 1 1), (.int .i64 3)], rfl, ⟨_, _, _, rfl, rfl, Nat.le_refl _, Sl.nil _ _ _ _⟩, ⟨[(.slice (some ⟨g10, 0, none⟩) 1 1)], [(.int .i64 3)], rfl, (ro_R (hS.ro 9 rfl)), rfl⟩⟩⟩, rfl⟩⟩⟩⟩⟩⟩
  clear hN; refine ⟨Stb.none _, zq (v_lenx (n := ([(3, [(0, 1, 1), (0, 2, 1), (1, 2, 1)], [1, 1, 0], 1), (3, [(0, 1, 1), (0, 2, 1), (1, 2, 1)], [0, 1, 0], 0), (4, [(0, 1, 1), (0, 2, 1), (0, 3, 1), (1, 2, 1), (1, 3, 1), (2, 3, 1)], [1, 1, 0, 0], 0), (4, [(0, 1, 1), (0, 2, 1), (0, 3, 1), (1, 2, 1), (1, 3, 1), (2, 3, 1)], [1, 1, 1, 0], 1), (4, [(0, 1, 1), (0, 2, 1), (0, 3, 1), (1, 2, 1), (1, 3, 1), (2, 3, 1)], [1, 1, 1, 1], 2), (1, [], [3], 3)] : List (Int × (List E3) × (List Int) × Int)).length) rfl Try.underlying85 (rd_len (hS.rdo 10 rfl))) (zq (zm (.int .i64 0)) (rl_end (wt_block ?_)))⟩; replace hS := hS.frz 10 rfl; obtain ⟨I2, ⟨m0, h0⟩, hr⟩ := h
  refine wt_loop (fun m E ds w' => ∃ v, I2 m v ∧ ds = [] ∧ E 1 = (Value.pointer (some (⟨g2, 0, none⟩ : Addr))) ∧ E 42 = (Value.slice (some ⟨g11, 0, none⟩) 6 6) ∧ E 43 = (Value.int .i64 ((([(3, [(0, 1, 1), (0, 2, 1), (1, 2, 1)], [1, 1, 0], 1), (3, [(0, 1, 1), (0, 2, 1), (1, 2, 1)], [0, 1, 0], 0), (4, [(0, 1, 1), (0, 2, 1), (0, 3, 1), (1, 2, 1), (1, 3, 1), (2, 3, 1)], [1, 1, 0, 0], 0), (4, [(0, 1, 1), (0, 2, 1), (0, 3, 1), (1, 2, 1), (1, 3, 1), (2, 3, 1)], [1, 1, 1, 0], 1), (4, [(0, 1, 1), (0, 2, 1), (0, 3, 1), (1, 2, 1), (1, 3, 1), (2, 3, 1)], [1, 1, 1, 1], 2), (1, [], [3], 3)] : List (Int × (List E3) × (List Int) × Int)).length : Nat) : Int)) ∧ E 44 = (Value.int .i64 v) ∧ Sep w no O w' (rl [Res.box 24 g2 [(.int .i64 3), (.slice (some ⟨g, 0, none⟩) 3 3)], Res.ro (FP.sl c3 (some ⟨g, 0, none⟩) 3 3 ([(0, 1, 1), (0, 2, 1), (1, 2, 1)])), Res.ro (FP.sl (cPr cI (cPr (cL c3) (cPr (cL cI) cI))) (some ⟨g11, 0, none⟩) 6 6 ([(3, [(0, 1, 1), (0, 2, 1), (1, 2, 1)], [1, 1, 0], 1), (3, [(0, 1, 1), (0, 2, 1), (1, 2, 1)], [0, 1, 0], 0), (4, [(0, 1, 1), (0, 2, 1), (0, 3, 1), (1, 2, 1), (1, 3, 1), (2, 3, 1)], [1, 1, 0, 0], 0), (4, [(0, 1, 1), (0, 2, 1), (0, 3, 1), (1, 2, 1), (1, 3, 1), (2, 3, 1)], [1, 1, 1, 0], 1), (4, [(0, 1, 1), (0, 2, 1), (0, 3, 1), (1, 2, 1), (1, 3, 1), (2, 3, 1)], [1, 1, 1, 1], 2), (1, [], [3], 3)] : List (Int × (List E3) × (List Int) × Int)))])) m0 ⟨_, h0, rfl, rfl, rfl, rfl, rfl, (hS.sel [1, 0, 10] (by decide))⟩ ?_; clear h0 hS
  rintro m2 E ds w15 ⟨v, h, rfl, hE1, hE42, hE43, hE44, hS⟩ again; replace h := hr m2 v h; clear hr; refine wt_seq (wl_region wd_wide (zq (v_lss hE44 hE43) (rl_end (wt_seq ?_)))); by_cases hp : v < ((([(3, [(0, 1, 1), (0, 2, 1), (1, 2, 1)], [1, 1, 0], 1), (3, [(0, 1, 1), (0, 2, 1), (1, 2, 1)], [0, 1, 0], 0), (4, [(0, 1, 1), (0, 2, 1), (0, 3, 1), (1, 2, 1), (1, 3, 1), (2, 3, 1)], [1, 1, 0, 0], 0), (4, [(0, 1, 1), (0, 2, 1), (0, 3, 1), (1, 2, 1), (1, 3, 1), (2, 3, 1)], [1, 1, 1, 0], 1), (4, [(0, 1, 1), (0, 2, 1), (0, 3, 1), (1, 2, 1), (1, 3, 1), (2, 3, 1)], [1, 1, 1, 1], 2), (1, [], [3], 3)] : List (Int × (List E3) × (List Int) × Int)).length : Nat) : Int)
  · replace h := h.1 hp; refine zc hp (wt_skip (wt_seq (wt_block (wt_seq (wl_region wd_wide ?_))))); obtain ⟨hx, h⟩ := h; refine zq (v_iaddr hE42 hE44 Try.underlying85 info_84 (rd_ix (hS.rdr 2 rfl) hx)) ?_; obtain ⟨vs_, hR, _, hc⟩ := rd_cell (hS.ro 2 rfl) hx (fun q => gx_some q); obtain ⟨u_, v_, rfl, hq2, hR⟩ := hR; replace hq2 : u_ = [(.int .i64 ((gx ([(3, [(0, 1, 1), (0, 2, 1), (1, 2, 1)], [1, 1, 0], 1), (3, [(0, 1, 1), (0, 2, 1), (1, 2, 1)], [0, 1, 0], 0), (4, [(0, 1, 1), (0, 2, 1), (0, 3, 1), (1, 2, 1), (1, 3, 1), (2, 3, 1)], [1, 1, 0, 0], 0), (4, [(0, 1, 1), (0, 2, 1), (0, 3, 1), (1, 2, 1), (1, 3, 1), (2, 3, 1)], [1, 1, 1, 0], 1), (4, [(0, 1, 1), (0, 2, 1), (0, 3, 1), (1, 2, 1), (1, 3, 1), (2, 3, 1)], [1, 1, 1, 1], 2), (1, [], [3], 3)] : List (Int × (List E3) × (List Int) × Int)) v.toNat).1))] := hq2; subst hq2; obtain ⟨u_, v_, rfl, hq3, hR⟩ := hR; obtain ⟨A, l, c, rfl, hp2⟩ := R_ro hq3; clear hq3; obtain ⟨u_, v_, rfl, hq4, hR⟩ := hR; obtain ⟨A2, l2, c2, rfl, hp3⟩ := R_ro hq4; clear hq4; have hq5 := hR
    replace hq5 : v_ = [(.int .i64 ((gx ([(3, [(0, 1, 1), (0, 2, 1), (1, 2, 1)], [1, 1, 0], 1), (3, [(0, 1, 1), (0, 2, 1), (1, 2, 1)], [0, 1, 0], 0), (4, [(0, 1, 1), (0, 2, 1), (0, 3, 1), (1, 2, 1), (1, 3, 1), (2, 3, 1)], [1, 1, 0, 0], 0), (4, [(0, 1, 1), (0, 2, 1), (0, 3, 1), (1, 2, 1), (1, 3, 1), (2, 3, 1)], [1, 1, 1, 0], 1), (4, [(0, 1, 1), (0, 2, 1), (0, 3, 1), (1, 2, 1), (1, 3, 1), (2, 3, 1)], [1, 1, 1, 1], 2), (1, [], [3], 3)] : List (Int × (List E3) × (List Int) × Int)) v.toNat).2.2.2))] := hq5; subst hq5
    have hc_ : Cells _ _ 0 [(.int .i64 ((gx ([(3, [(0, 1, 1), (0, 2, 1), (1, 2, 1)], [1, 1, 0], 1), (3, [(0, 1, 1), (0, 2, 1), (1, 2, 1)], [0, 1, 0], 0), (4, [(0, 1, 1), (0, 2, 1), (0, 3, 1), (1, 2, 1), (1, 3, 1), (2, 3, 1)], [1, 1, 0, 0], 0), (4, [(0, 1, 1), (0, 2, 1), (0, 3, 1), (1, 2, 1), (1, 3, 1), (2, 3, 1)], [1, 1, 1, 0], 1), (4, [(0, 1, 1), (0, 2, 1), (0, 3, 1), (1, 2, 1), (1, 3, 1), (2, 3, 1)], [1, 1, 1, 1], 2), (1, [], [3], 3)] : List (Int × (List E3) × (List Int) × Int)) v.toNat).1)), (.slice A l c), (.slice A2 l2 c2), (.int .i64 ((gx ([(3, [(0, 1, 1), (0, 2, 1), (1, 2, 1)], [1, 1, 0], 1), (3, [(0, 1, 1), (0, 2, 1), (1, 2, 1)], [0, 1, 0], 0), (4, [(0, 1, 1), (0, 2, 1), (0, 3, 1), (1, 2, 1), (1, 3, 1), (2, 3, 1)], [1, 1, 0, 0], 0), (4, [(0, 1, 1), (0, 2, 1), (0, 3, 1), (1, 2, 1), (1, 3, 1), (2, 3, 1)], [1, 1, 1, 0], 1), (4, [(0, 1, 1), (0, 2, 1), (0, 3, 1), (1, 2, 1), (1, 3, 1), (2, 3, 1)], [1, 1, 1, 1], 2), (1, [], [3], 3)] : List (Int × (List E3) × (List Int) × Int)) v.toNat).2.2.2))] := ⟨hc 0 _ rfl, hc 1 _ rfl, hc 2 _ rfl, hc 3 _ rfl, trivial⟩; have hq_0 := hS.addro 3 rfl _ hp2
    replace hp3 := fpl_ro (Φ := (FP.sl c3 A l c ((gx ([(3, [(0, 1, 1), (0, 2, 1), (1, 2, 1)], [1, 1, 0], 1), (3, [(0, 1, 1), (0, 2, 1), (1, 2, 1)], [0, 1, 0], 0), (4, [(0, 1, 1), (0, 2, 1), (0, 3, 1), (1, 2, 1), (1, 3, 1), (2, 3, 1)], [1, 1, 0, 0], 0), (4, [(0, 1, 1), (0, 2, 1), (0, 3, 1), (1, 2, 1), (1, 3, 1), (2, 3, 1)], [1, 1, 1, 0], 1), (4, [(0, 1, 1), (0, 2, 1), (0, 3, 1), (1, 2, 1), (1, 3, 1), (2, 3, 1)], [1, 1, 1, 1], 2), (1, [], [3], 3)] : List (Int × (List E3) × (List Int) × Int)) v.toNat).2.1))) hp3 (i := 3) rfl; replace hS := hq_0; clear hq_0; have hq_1 := hS.addro 4 rfl _ hp3; replace hS := hq_1; clear hq_1
    refine zq (v_loadn (vs := [(.int .i64 ((gx ([(3, [(0, 1, 1), (0, 2, 1), (1, 2, 1)], [1, 1, 0], 1), (3, [(0, 1, 1), (0, 2, 1), (1, 2, 1)], [0, 1, 0], 0), (4, [(0, 1, 1), (0, 2, 1), (0, 3, 1), (1, 2, 1), (1, 3, 1), (2, 3, 1)], [1, 1, 0, 0], 0), (4, [(0, 1, 1), (0, 2, 1), (0, 3, 1), (1, 2, 1), (1, 3, 1), (2, 3, 1)], [1, 1, 1, 0], 1), (4, [(0, 1, 1), (0, 2, 1), (0, 3, 1), (1, 2, 1), (1, 3, 1), (2, 3, 1)], [1, 1, 1, 1], 2), (1, [], [3], 3)] : List (Int × (List E3) × (List Int) × Int)) v.toNat).1)), (.slice A l c), (.slice A2 l2 c2), (.int .i64 ((gx ([(3, [(0, 1, 1), (0, 2, 1), (1, 2, 1)], [1, 1, 0], 1), (3, [(0, 1, 1), (0, 2, 1), (1, 2, 1)], [0, 1, 0], 0), (4, [(0, 1, 1), (0, 2, 1), (0, 3, 1), (1, 2, 1), (1, 3, 1), (2, 3, 1)], [1, 1, 0, 0], 0), (4, [(0, 1, 1), (0, 2, 1), (0, 3, 1), (1, 2, 1), (1, 3, 1), (2, 3, 1)], [1, 1, 1, 0], 1), (4, [(0, 1, 1), (0, 2, 1), (0, 3, 1), (1, 2, 1), (1, 3, 1), (2, 3, 1)], [1, 1, 1, 1], 2), (1, [], [3], 3)] : List (Int × (List E3) × (List Int) × Int)) v.toNat).2.2.2))]) rfl Try.underlying84 rfl info_84 hc_) (zn (n_alloc info_84 ?_)); intro g12 w16 hN; replace hS : Sep w no O w16 (stl _ 5 (Res.box 84 g12 [(.int .i64 0), (.slice none 0 0), (.slice none 0 0), (.int .i64 0)])) := hS.new 5 rfl hN; clear hN; refine ⟨Stb.none _, ?_⟩
    refine zo (n_storen (b := g12) (o := 0) (cells := #[(.int .i64 ((gx ([(3, [(0, 1, 1), (0, 2, 1), (1, 2, 1)], [1, 1, 0], 1), (3, [(0, 1, 1), (0, 2, 1), (1, 2, 1)], [0, 1, 0], 0), (4, [(0, 1, 1), (0, 2, 1), (0, 3, 1), (1, 2, 1), (1, 3, 1), (2, 3, 1)], [1, 1, 0, 0], 0), (4, [(0, 1, 1), (0, 2, 1), (0, 3, 1), (1, 2, 1), (1, 3, 1), (2, 3, 1)], [1, 1, 1, 0], 1), (4, [(0, 1, 1), (0, 2, 1), (0, 3, 1), (1, 2, 1), (1, 3, 1), (2, 3, 1)], [1, 1, 1, 1], 2), (1, [], [3], 3)] : List (Int × (List E3) × (List Int) × Int)) v.toNat).1)), (.slice A l c), (.slice A2 l2 c2), (.int .i64 ((gx ([(3, [(0, 1, 1), (0, 2, 1), (1, 2, 1)], [1, 1, 0], 1), (3, [(0, 1, 1), (0, 2, 1), (1, 2, 1)], [0, 1, 0], 0), (4, [(0, 1, 1), (0, 2, 1), (0, 3, 1), (1, 2, 1), (1, 3, 1), (2, 3, 1)], [1, 1, 0, 0], 0), (4, [(0, 1, 1), (0, 2, 1), (0, 3, 1), (1, 2, 1), (1, 3, 1), (2, 3, 1)], [1, 1, 1, 0], 1), (4, [(0, 1, 1), (0, 2, 1), (0, 3, 1), (1, 2, 1), (1, 3, 1), (2, 3, 1)], [1, 1, 1, 1], 2), (1, [], [3], 3)] : List (Int × (List E3) × (List Int) × Int)) v.toNat).2.2.2))]) rfl rfl info_84 rfl rfl (there_row (hS.bx 5 rfl) (Nat.le_of_ble_eq_true rfl)) ?_); intro w17 e1
    replace hS := hS.bstn 5 rfl 0 [(.int .i64 ((gx ([(3, [(0, 1, 1), (0, 2, 1), (1, 2, 1)], [1, 1, 0], 1), (3, [(0, 1, 1), (0, 2, 1), (1, 2, 1)], [0, 1, 0], 0), (4, [(0, 1, 1), (0, 2, 1), (0, 3, 1), (1, 2, 1), (1, 3, 1), (2, 3, 1)], [1, 1, 0, 0], 0), (4, [(0, 1, 1), (0, 2, 1), (0, 3, 1), (1, 2, 1), (1, 3, 1), (2, 3, 1)], [1, 1, 1, 0], 1), (4, [(0, 1, 1), (0, 2, 1), (0, 3, 1), (1, 2, 1), (1, 3, 1), (2, 3, 1)], [1, 1, 1, 1], 2), (1, [], [3], 3)] : List (Int × (List E3) × (List Int) × Int)) v.toNat).1)), (.slice A l c), (.slice A2 l2 c2), (.int .i64 ((gx ([(3, [(0, 1, 1), (0, 2, 1), (1, 2, 1)], [1, 1, 0], 1), (3, [(0, 1, 1), (0, 2, 1), (1, 2, 1)], [0, 1, 0], 0), (4, [(0, 1, 1), (0, 2, 1), (0, 3, 1), (1, 2, 1), (1, 3, 1), (2, 3, 1)], [1, 1, 0, 0], 0), (4, [(0, 1, 1), (0, 2, 1), (0, 3, 1), (1, 2, 1), (1, 3, 1), (2, 3, 1)], [1, 1, 1, 0], 1), (4, [(0, 1, 1), (0, 2, 1), (0, 3, 1), (1, 2, 1), (1, 3, 1), (2, 3, 1)], [1, 1, 1, 1], 2), (1, [], [3], 3)] : List (Int × (List E3) × (List Int) × Int)) v.toNat).2.2.2))] e1; clear e1; refine ⟨Stb.none _, rl_end (wt_seq (wl_region wd_wide (zq (v_faddr rfl Try.underlying84 rfl info_24) ?_)))⟩
    refine zq (v_loadn (vs := [(.int .i64 ((gx ([(3, [(0, 1, 1), (0, 2, 1), (1, 2, 1)], [1, 1, 0], 1), (3, [(0, 1, 1), (0, 2, 1), (1, 2, 1)], [0, 1, 0], 0), (4, [(0, 1, 1), (0, 2, 1), (0, 3, 1), (1, 2, 1), (1, 3, 1), (2, 3, 1)], [1, 1, 0, 0], 0), (4, [(0, 1, 1), (0, 2, 1), (0, 3, 1), (1, 2, 1), (1, 3, 1), (2, 3, 1)], [1, 1, 1, 0], 1), (4, [(0, 1, 1), (0, 2, 1), (0, 3, 1), (1, 2, 1), (1, 3, 1), (2, 3, 1)], [1, 1, 1, 1], 2), (1, [], [3], 3)] : List (Int × (List E3) × (List Int) × Int)) v.toNat).1)), (.slice A l c)]) rfl Try.underlying24 rfl info_24 ⟨Row.cell (hS.bx 5 rfl) (i := 0) rfl, Row.cell (hS.bx 5 rfl) (i := 1) rfl, trivial⟩) (zq (v_faddr rfl Try.underlying84 rfl info_26) (zq (v_load rfl Try.underlying26 rfl (Row.cell (hS.bx 5 rfl) (i := 2) rfl)) (zn (n_call0 rfl (am2 rfl rfl) enter_12 ((pok_rank_Rank h (no_lt _) (hS.rdr 3 rfl) (hS.rdr 4 rfl)).mono ?_))))); rintro _ w18 ⟨r, r2, rfl, hC, h⟩; replace hS := hS.pur hC.pure; clear hC; refine ⟨_, rfl, ?_⟩; refine ⟨Stb.none _, zq (zm (.tuple #[(.int .i64 r), (.int .i64 r2)])) (zq (zx (.int .i64 r)) (zq (zx (.int .i64 r2)) (zq (za (.int .i64 r)) (zq (za (.int .i64 r2)) (rl_end (wt_seq ?_))))))⟩
    refine wl_region wd_wide (zq (zm (.int .i64 r2)) (zq (v_neq rfl rfl) (zq (zm (.bool (!(decide (r2 = 0))))) ?_))); by_cases hp4 : r2 = 0
    · replace h := h.1 hp4; refine rl_q (wanted_g rfl (yE_of rfl (congrArg Value.bool (congrArg Bool.not (decide_eq_true hp4))))) rfl rfl (zm (.int .i64 r)) (rl_q (wanted_g rfl (yE_of rfl (congrArg Value.bool (congrArg Bool.not (decide_eq_true hp4))))) rfl rfl (v_faddr rfl Try.underlying84 rfl info_3) (rl_q (wanted_g rfl (yE_of rfl (congrArg Value.bool (congrArg Bool.not (decide_eq_true hp4))))) rfl rfl (v_load rfl Try.underlying3 rfl (Row.cell (hS.bx 5 rfl) (i := 3) rfl)) (rl_q (wanted_g rfl (yE_of rfl (congrArg Value.bool (congrArg Bool.not (decide_eq_true hp4))))) rfl rfl (v_neq rfl rfl) (zq (v_pick_f (v := (.bool (!(decide (r = ((gx ([(3, [(0, 1, 1), (0, 2, 1), (1, 2, 1)], [1, 1, 0], 1), (3, [(0, 1, 1), (0, 2, 1), (1, 2, 1)], [0, 1, 0], 0), (4, [(0, 1, 1), (0, 2, 1), (0, 3, 1), (1, 2, 1), (1, 3, 1), (2, 3, 1)], [1, 1, 0, 0], 0), (4, [(0, 1, 1), (0, 2, 1), (0, 3, 1), (1, 2, 1), (1, 3, 1), (2, 3, 1)], [1, 1, 1, 0], 1), (4, [(0, 1, 1), (0, 2, 1), (0, 3, 1), (1, 2, 1), (1, 3, 1), (2, 3, 1)], [1, 1, 1, 1], 2), (1, [], [3], 3)] : List (Int × (List E3) × (List Int) × Int)) v.toNat).2.2.2)))))) (congrArg Value.bool (congrArg Bool.not (decide_eq_true hp4))) rfl) (rl_end ?_)))))
      by_cases hp5 : r = ((gx ([(3, [(0, 1, 1), (0, 2, 1), (1, 2, 1)], [1, 1, 0], 1), (3, [(0, 1, 1), (0, 2, 1), (1, 2, 1)], [0, 1, 0], 0), (4, [(0, 1, 1), (0, 2, 1), (0, 3, 1), (1, 2, 1), (1, 3, 1), (2, 3, 1)], [1, 1, 0, 0], 0), (4, [(0, 1, 1), (0, 2, 1), (0, 3, 1), (1, 2, 1), (1, 3, 1), (2, 3, 1)], [1, 1, 1, 0], 1), (4, [(0, 1, 1), (0, 2, 1), (0, 3, 1), (1, 2, 1), (1, 3, 1), (2, 3, 1)], [1, 1, 1, 1], 2), (1, [], [3], 3)] : List (Int × (List E3) × (List Int) × Int)) v.toNat).2.2.2)
      · replace h := h.1 hp5; refine ze hp5 (wt_skip (wt_inBlock (wl_region wd_wide ?_))); obtain ⟨hi, h⟩ := h; refine zq (v_add hE44 rfl hi) (zq (zm (.int .i64 (v + 1))) (rl_end ?_)); obtain ⟨mq, hlt, h⟩ := h; exact again mq _ _ _ ⟨_, h, rfl, hE1, hE42, hE43, rfl, (hS.sel [0, 1, 2] (by decide))⟩ hlt
      · replace h := h.2 hp5; exact zf hp5 (wt_seq (wl_region wd_wide (zq (za (.bool (false))) (rl_end (wt_ret1 rfl rfl ⟨_, rfl, (hS.sel [] (by decide)), h⟩)))))
    · replace h := h.2 hp4; exact rl_p (wanted_n rfl (yE_of rfl (congrArg Value.bool (congrArg Bool.not (decide_eq_false hp4)))) rfl) rfl (rl_p (wanted_n rfl (yE_of rfl (congrArg Value.bool (congrArg Bool.not (decide_eq_false hp4)))) rfl) rfl (rl_p (wanted_n rfl (yE_of rfl (congrArg Value.bool (congrArg Bool.not (decide_eq_false hp4)))) rfl) rfl (rl_p (wanted_n rfl (yE_of rfl (congrArg Value.bool (congrArg Bool.not (decide_eq_false hp4)))) rfl) rfl (zq (v_pick_t (v := (.bool (true))) (congrArg Value.bool (congrArg Bool.not (decide_eq_false hp4))) rfl) (rl_end (wt_cond_t rfl (wt_seq (wl_region wd_wide (zq (za (.bool (false))) (rl_end (wt_ret1 rfl rfl ⟨_, rfl, (hS.sel [] (by decide)), h⟩)))))))))))
  · replace h := h.2 hp; refine zd hp (wt_exit rfl (wt_seq (wl_region wd_wide (zq (v_loadn (vs := [(.int .i64 3), (.slice (some ⟨g, 0, none⟩) 3 3)]) hE1 Try.underlying24 rfl info_24 ⟨Row.cell (hS.bx 0 rfl) (i := 0) rfl, Row.cell (hS.bx 0 rfl) (i := 1) rfl, trivial⟩) (zn (n_bslice (l := [(0, (.int .i64 1)), (1, (.int .i64 1)), (2, (.int .i64 0))]) (cells := [(.int .i64 1), (.int .i64 1), (.int .i64 0)]) (bp3 rfl rfl rfl) Try.underlying26 info_3 rfl rfl ?_)))))); intro g13 w19 hN; replace hS := hS.litf (n := 3) 3 rfl (fI .i64) hN ([1, 1, 0] : List Int) rfl (by decide) rfl; clear hN; refine ⟨Stb.none _, ?_⟩; replace hS := hS.frz 3 rfl; refine zn (n_call0 rfl (am2 rfl rfl) enter_14 ((pok_rank_Witness h hS.blt (hS.ro 1 rfl) (hS.ro 3 rfl)).mono ?_)); rintro _ w20 ⟨r3, r4, Ar, lr, cr, rfl, hC, h⟩; replace hS := hS.call1 hC 4 0 rfl; clear hC; refine ⟨_, rfl, ?_⟩; refine ⟨Stb.none _, zq (zm (.tuple #[(.slice Ar lr cr), (.int .i64 r4)])) (zq (zx (.slice Ar lr cr)) (zq (zx (.int .i64 r4)) (zq (za (.slice Ar lr cr)) (zq (za (.int .i64 r4)) (rl_end (wt_seq (wl_region wd_wide ?_)))))))⟩
    refine zq (v_loadn (vs := [(.int .i64 3), (.slice (some ⟨g, 0, none⟩) 3 3)]) hE1 Try.underlying24 rfl info_24 ⟨Row.cell (hS.bx 0 rfl) (i := 0) rfl, Row.cell (hS.bx 0 rfl) (i := 1) rfl, trivial⟩) (zn (n_bslice (l := [(0, (.int .i64 0)), (1, (.int .i64 1)), (2, (.int .i64 0))]) (cells := [(.int .i64 0), (.int .i64 1), (.int .i64 0)]) (bp3 rfl rfl rfl) Try.underlying26 info_3 rfl rfl ?_)); intro g14 w21 hN; replace hS := hS.litf (n := 3) 5 rfl (fI .i64) hN ([0, 1, 0] : List Int) rfl (by decide) rfl; clear hN; refine ⟨Stb.none _, ?_⟩; replace hS := hS.frz 5 rfl; refine zn (n_call0 rfl (am2 rfl rfl) enter_14 ((pok_rank_Witness h hS.blt (hS.ro 1 rfl) (hS.ro 5 rfl)).mono ?_)); rintro _ w22 ⟨r5, r6, Ar2, lr2, cr2, rfl, hC, h⟩; replace hS := hS.call1 hC 6 0 rfl; clear hC; refine ⟨_, rfl, ?_⟩; refine ⟨Stb.none _, zq (zm (.tuple #[(.slice Ar2 lr2 cr2), (.int .i64 r6)])) (zq (zx (.slice Ar2 lr2 cr2)) (zq (zx (.int .i64 r6)) (zq (za (.slice Ar2 lr2 cr2)) (zq (za (.int .i64 r6)) (rl_end (wt_seq (wl_region wd_wide (zq (zm (.int .i64 r4)) (zq (v_eql rfl rfl) ?_)))))))))⟩
    refine zq (zm (.bool (decide (r4 = 0)))) ?_; by_cases hp6 : r4 = 0
    · replace h := h.1 hp6; refine rl_q (wanted_g rfl (yE_of rfl (congrArg Value.bool (decide_eq_true hp6)))) rfl rfl (zm (.int .i64 r6)) (rl_q (wanted_g rfl (yE_of rfl (congrArg Value.bool (decide_eq_true hp6)))) rfl rfl (v_eql rfl rfl) (zq (v_pick_t (v := (.bool (decide (r6 = 0)))) (congrArg Value.bool (decide_eq_true hp6)) rfl) (zq (zm (.bool (decide (r6 = 0)))) ?_))); by_cases hp7 : r6 = 0
      · replace h := h.1 hp7; refine rl_q (wanted_g rfl (yE_of rfl (congrArg Value.bool (decide_eq_true hp7)))) rfl rfl (zm (.slice Ar lr cr)) (rl_n (wanted_g rfl (yE_of rfl (congrArg Value.bool (decide_eq_true hp7)))) rfl rfl rfl (n_bslice (l := [(0, (.int .i64 0)), (1, (.int .i64 1)), (2, (.int .i64 1))]) (cells := [(.int .i64 0), (.int .i64 1), (.int .i64 1)]) (bp3 rfl rfl rfl) Try.underlying26 info_3 rfl rfl ?_)); intro g15 w23 hN; replace hS := hS.litf (n := 3) 7 rfl (fI .i64) hN ([0, 1, 1] : List Int) rfl (by decide) rfl; clear hN; refine ⟨Stb.none _, rl_n (wanted_g rfl (yE_of rfl (congrArg Value.bool (decide_eq_true hp7)))) rfl rfl rfl (n_call0 rfl (am2 rfl rfl) enter_18 ((pok_slices_Equal_Divisor h (no_lt _) (hS.rdr 4 rfl) (hS.rdo 7 rfl)).mono ?_))⟩; rintro _ w24 ⟨r7, rfl, hC, h⟩; replace hS := hS.pur hC.pure; clear hC; refine ⟨_, rfl, ?_⟩; refine ⟨Stb.none _, zq (v_pick_t (v := (.bool (r7))) (congrArg Value.bool (decide_eq_true hp7)) rfl) (zq (zm (.bool (r7))) ?_)⟩; by_cases hp8 : r7 = true
        · replace h := h.1 hp8; refine rl_q (wanted_g rfl (yE_of rfl (congrArg Value.bool hp8))) rfl rfl (zm (.slice Ar2 lr2 cr2)) (rl_n (wanted_g rfl (yE_of rfl (congrArg Value.bool hp8))) rfl rfl rfl (n_bslice (l := [(0, (.int .i64 0)), (1, (.int .i64 0)), (2, (.int .i64 1))]) (cells := [(.int .i64 0), (.int .i64 0), (.int .i64 1)]) (bp3 rfl rfl rfl) Try.underlying26 info_3 rfl rfl ?_)); intro g16 w25 hN; replace hS := hS.litf (n := 3) 8 rfl (fI .i64) hN ([0, 0, 1] : List Int) rfl (by decide) rfl; clear hN; refine ⟨Stb.none _, rl_n (wanted_g rfl (yE_of rfl (congrArg Value.bool hp8))) rfl rfl rfl (n_call0 rfl (am2 rfl rfl) enter_18 ((pok_slices_Equal_Divisor h (no_lt _) (hS.rdr 6 rfl) (hS.rdo 8 rfl)).mono ?_))⟩; rintro _ w26 ⟨r8, rfl, hC, h⟩; replace hS := hS.pur hC.pure; clear hC; refine ⟨_, rfl, ?_⟩; exact ⟨Stb.none _, zq (v_pick_t (v := (.bool (r8))) (congrArg Value.bool hp8) rfl) (zq (za (.bool (r8))) (rl_end (wt_ret1 rfl rfl ⟨_, rfl, (hS.sel [] (by decide)), h⟩)))⟩
        · replace h := h.2 hp8; exact rl_p (wanted_n rfl (yE_of rfl (congrArg Value.bool (Bool.eq_false_iff.2 hp8))) rfl) rfl (rl_p (wanted_n rfl (yE_of rfl (congrArg Value.bool (Bool.eq_false_iff.2 hp8))) rfl) rfl (rl_p (wanted_n rfl (yE_of rfl (congrArg Value.bool (Bool.eq_false_iff.2 hp8))) rfl) rfl (zq (v_pick_f (v := (.bool (false))) (congrArg Value.bool (Bool.eq_false_iff.2 hp8)) rfl) (zq (za (.bool (false))) (rl_end (wt_ret1 rfl rfl ⟨_, rfl, (hS.sel [] (by decide)), h⟩))))))
      · replace h := h.2 hp7; exact rl_p (wanted_n rfl (yE_of rfl (congrArg Value.bool (decide_eq_false hp7))) rfl) rfl (rl_p (wanted_n rfl (yE_of rfl (congrArg Value.bool (decide_eq_false hp7))) rfl) rfl (rl_p (wanted_n rfl (yE_of rfl (congrArg Value.bool (decide_eq_false hp7))) rfl) rfl (zq (v_pick_f (v := (.bool (false))) (congrArg Value.bool (decide_eq_false hp7)) rfl) (zq (zm (.bool (false))) (rl_p (wanted_n rfl (yE_of rfl rfl) rfl) rfl (rl_p (wanted_n rfl (yE_of rfl rfl) rfl) rfl (rl_p (wanted_n rfl (yE_of rfl rfl) rfl) rfl (zq (v_pick_f (v := (.bool (false))) rfl rfl) (zq (za (.bool (false))) (rl_end (wt_ret1 rfl rfl ⟨_, rfl, (hS.sel [] (by decide)), h⟩)))))))))))
    · replace h := h.2 hp6; exact rl_p (wanted_n rfl (yE_of rfl (congrArg Value.bool (decide_eq_false hp6))) rfl) rfl (rl_p (wanted_n rfl (yE_of rfl (congrArg Value.bool (decide_eq_false hp6))) rfl) rfl (zq (v_pick_f (v := (.bool (false))) (congrArg Value.bool (decide_eq_false hp6)) rfl) (zq (zm (.bool (false))) (rl_p (wanted_n rfl (yE_of rfl rfl) rfl) rfl (rl_p (wanted_n rfl (yE_of rfl rfl) rfl) rfl (rl_p (wanted_n rfl (yE_of rfl rfl) rfl) rfl (zq (v_pick_f (v := (.bool (false))) rfl rfl) (zq (zm (.bool (false))) (rl_p (wanted_n rfl (yE_of rfl rfl) rfl) rfl (rl_p (wanted_n rfl (yE_of rfl rfl) rfl) rfl (rl_p (wanted_n rfl (yE_of rfl rfl) rfl) rfl (zq (v_pick_f (v := (.bool (false))) rfl rfl) (zq (za (.bool (false))) (rl_end (wt_ret1 rfl rfl ⟨_, rfl, (hS.sel [] (by decide)), h⟩)))))))))))))))

/-- sandpile/sandpilelaw38.RankCounts: what it computes. -/
def pf_l38_RankCounts (d : Int) (d2 : List E3) (i : List Int) (a : Int) (R : Bool → Prop) : Prop :=
pf_r38_Few d d2 i 5 (fun r =>
((r = true →
pf_rank_Rank d d2 i (fun r2 r3 =>
pf_r38_Rank d d2 i (fun r4 r5 =>
pf_rank_Witness d d2 i (fun r6 r7 =>
pf_r38_Witness d d2 i (fun r8 r9 =>
pf_rank_AtLeast d d2 i a (fun r10 r11 =>
pf_r38_AtLeast d d2 i a (fun r12 r13 =>
((r2 = r4 →
((r3 = r5 →
pf_slices_Equal_Divisor r6 r8 (fun r14 =>
((r14 = true →
((r7 = r9 →
(((r10 == r12) = true →
((r11 = r13 →
pf_l38_awake (fun r15 =>
R r15)) ∧
(¬ (r11 = r13) →
R false))) ∧
(¬ ((r10 == r12) = true) →
R false))) ∧
(¬ (r7 = r9) →
R false))) ∧
(¬ (r14 = true) →
R false)))) ∧
(¬ (r3 = r5) →
R false))) ∧
(¬ (r2 = r4) →
R false))))))))) ∧
(¬ (r = true) →
pf_l38_awake (fun r16 =>
R r16))))
theorem pok_l38_RankCounts {O : Nat → Prop} {w : World} {d d2 i a Ad ld cd Ai li ci} {R : Bool → Prop} (h : pf_l38_RankCounts d d2 i a R) (hO : ∀ k, O k → k < w.heap.size) (hA0 : (FP.sl c3 Ad ld cd d2).P O w) (hA1 : (FP.sl cI Ai li ci i).P O w) :
    Calls Try.prog 3 #[(.agg #[(.int .i64 d), (.slice Ad ld cd)]), (.slice Ai li ci), (.int .i64 a)] w fun e w' => ∃ r17, e = .returned (.bool (r17)) ∧ Sep w no O w' (rl []) ∧ R r17 := by
  unfold pf_l38_RankCounts at h; have hS : Sep w no O w (rl [Res.ro (FP.sl c3 Ad ld cd d2), Res.ro (FP.sl cI Ai li ci i)]) := Sep.startl hO [(FP.sl c3 Ad ld cd d2), (FP.sl cI Ai li ci i)] ⟨hA0, hA1, trivial⟩; refine calls_sh (l := [(.agg #[(.int .i64 d), (.slice Ad ld cd)]), (.slice Ai li ci), (.int .i64 a)]) Try.func3 rfl Try.ntmps3 (Nat.le_of_ble_eq_true rfl) (wt_seq (wl_region wd_wide (zn (n_box (v := (.agg #[(.int .i64 d), (.slice Ad ld cd)])) rfl ?_)))); intro g w2 hN; replace hS : Sep w no O w2 (stl _ 2 (Res.box 24 g [(.int .i64 d), (.slice Ad ld cd)])) := hS.new 2 rfl hN; clear hN; refine ⟨Stb.none _, zq (za (.bool (false))) (rl_end (wt_seq (wt_seq (wl_region wd_wide (zq (v_loadn (vs := [(.int .i64 d), (.slice Ad ld cd)]) rfl Try.underlying24 rfl info_24 ⟨Row.cell (hS.bx 2 rfl) (i := 0) rfl, Row.cell (hS.bx 2 rfl) (i := 1) rfl, trivial⟩) (zq (zm (.slice Ai li ci)) (zn (n_call0 rfl (am3 rfl rfl rfl) enter_10 ((pok_r38_Few h (no_lt _) (hS.rdr 0 rfl) (hS.rdr 1 rfl)).mono ?_)))))))))⟩; rintro _ w3 ⟨r, rfl, hC, h⟩; replace hS := hS.pur hC.pure; clear hC; refine ⟨_, rfl, ?_⟩; refine ⟨Stb.none _, zq (v_not rfl) (rl_end ?_)⟩; by_cases hp : r = true
  · replace h := h.1 hp; refine wt_cond_f (congrArg Value.bool (congrArg Bool.not hp)) (wt_skip (wt_seq (wl_region wd_wide (zq (v_loadn (vs := [(.int .i64 d), (.slice Ad ld cd)]) rfl Try.underlying24 rfl info_24 ⟨Row.cell (hS.bx 2 rfl) (i := 0) rfl, Row.cell (hS.bx 2 rfl) (i := 1) rfl, trivial⟩) (zq (zm (.slice Ai li ci)) (zn (n_call0 rfl (am2 rfl rfl) enter_12 ((pok_rank_Rank h (no_lt _) (hS.rdr 0 rfl) (hS.rdr 1 rfl)).mono ?_)))))))); rintro _ w4 ⟨r2, r3, rfl, hC, h⟩; replace hS := hS.pur hC.pure; clear hC; refine ⟨_, rfl, ?_⟩; refine ⟨Stb.none _, zq (zm (.tuple #[(.int .i64 r2), (.int .i64 r3)])) (zq (zx (.int .i64 r2)) (zq (zx (.int .i64 r3)) (zq (za (.int .i64 r2)) (zq (za (.int .i64 r3)) (rl_end (wt_seq (wl_region wd_wide (zq (v_loadn (vs := [(.int .i64 d), (.slice Ad ld cd)]) rfl Try.underlying24 rfl info_24 ⟨Row.cell (hS.bx 2 rfl) (i := 0) rfl, Row.cell (hS.bx 2 rfl) (i := 1) rfl, trivial⟩) (zq (zm (.slice Ai li ci)) (zn (n_call0 rfl (am2 rfl rfl) enter_13 ((pok_r38_Rank h (no_lt _) (hS.rdr 0 rfl) (hS.rdr 1 rfl)).mono ?_))))))))))))⟩
    rintro _ w5 ⟨r4, r5, rfl, hC, h⟩; replace hS := hS.pur hC.pure; clear hC; refine ⟨_, rfl, ?_⟩; refine ⟨Stb.none _, zq (zm (.tuple #[(.int .i64 r4), (.int .i64 r5)])) (zq (zx (.int .i64 r4)) (zq (zx (.int .i64 r5)) (zq (za (.int .i64 r4)) (zq (za (.int .i64 r5)) (rl_end (wt_seq (wl_region wd_wide (zq (v_loadn (vs := [(.int .i64 d), (.slice Ad ld cd)]) rfl Try.underlying24 rfl info_24 ⟨Row.cell (hS.bx 2 rfl) (i := 0) rfl, Row.cell (hS.bx 2 rfl) (i := 1) rfl, trivial⟩) (zq (zm (.slice Ai li ci)) (zn (n_call0 rfl (am2 rfl rfl) enter_14 ((pok_rank_Witness h hS.blt (hS.ro 0 rfl) (hS.ro 1 rfl)).mono ?_))))))))))))⟩; rintro _ w6 ⟨r6, r7, Ar, lr, cr, rfl, hC, h⟩; replace hS := hS.call1 hC 3 0 rfl; clear hC; refine ⟨_, rfl, ?_⟩; refine ⟨Stb.none _, zq (zm (.tuple #[(.slice Ar lr cr), (.int .i64 r7)])) (zq (zx (.slice Ar lr cr)) (zq (zx (.int .i64 r7)) (zq (za (.slice Ar lr cr)) (zq (za (.int .i64 r7)) (rl_end (wt_seq ?_))))))⟩
    refine wl_region wd_wide (zq (v_loadn (vs := [(.int .i64 d), (.slice Ad ld cd)]) rfl Try.underlying24 rfl info_24 ⟨Row.cell (hS.bx 2 rfl) (i := 0) rfl, Row.cell (hS.bx 2 rfl) (i := 1) rfl, trivial⟩) (zq (zm (.slice Ai li ci)) (zn (n_call0 rfl (am2 rfl rfl) enter_15 ((pok_r38_Witness h hS.blt (hS.ro 0 rfl) (hS.ro 1 rfl)).mono ?_))))); rintro _ w7 ⟨r8, r9, Ar2, lr2, cr2, rfl, hC, h⟩; replace hS := hS.call1 hC 4 0 rfl; clear hC; refine ⟨_, rfl, ?_⟩; refine ⟨Stb.none _, zq (zm (.tuple #[(.slice Ar2 lr2 cr2), (.int .i64 r9)])) (zq (zx (.slice Ar2 lr2 cr2)) (zq (zx (.int .i64 r9)) (zq (za (.slice Ar2 lr2 cr2)) (zq (za (.int .i64 r9)) (rl_end (wt_seq (wl_region wd_wide (zq (v_loadn (vs := [(.int .i64 d), (.slice Ad ld cd)]) rfl Try.underlying24 rfl info_24 ⟨Row.cell (hS.bx 2 rfl) (i := 0) rfl, Row.cell (hS.bx 2 rfl) (i := 1) rfl, trivial⟩) (zq (zm (.slice Ai li ci)) (zq (zm (.int .i64 a)) (zn (n_call0 rfl (am3 rfl rfl rfl) enter_16 ((pok_rank_AtLeast h (no_lt _) (hS.rdr 0 rfl) (hS.rdr 1 rfl)).mono ?_)))))))))))))⟩
    rintro _ w8 ⟨r10, r11, rfl, hC, h⟩; replace hS := hS.pur hC.pure; clear hC; refine ⟨_, rfl, ?_⟩; refine ⟨Stb.none _, zq (zm (.tuple #[(.bool (r10)), (.int .i64 r11)])) (zq (zx (.bool (r10))) (zq (zx (.int .i64 r11)) (zq (za (.bool (r10))) (zq (za (.int .i64 r11)) (rl_end (wt_seq (wl_region wd_wide (zq (v_loadn (vs := [(.int .i64 d), (.slice Ad ld cd)]) rfl Try.underlying24 rfl info_24 ⟨Row.cell (hS.bx 2 rfl) (i := 0) rfl, Row.cell (hS.bx 2 rfl) (i := 1) rfl, trivial⟩) (zq (zm (.slice Ai li ci)) (zq (zm (.int .i64 a)) (zn (n_call0 rfl (am3 rfl rfl rfl) enter_17 ((pok_r38_AtLeast h (no_lt _) (hS.rdr 0 rfl) (hS.rdr 1 rfl)).mono ?_)))))))))))))⟩; rintro _ w9 ⟨r12, r13, rfl, hC, h⟩; replace hS := hS.pur hC.pure; clear hC; refine ⟨_, rfl, ?_⟩; refine ⟨Stb.none _, zq (zm (.tuple #[(.bool (r12)), (.int .i64 r13)])) (zq (zx (.bool (r12))) (zq (zx (.int .i64 r13)) (zq (za (.bool (r12))) (zq (za (.int .i64 r13)) ?_))))⟩
    refine rl_end (wt_seq (wl_region wd_wide (zq (zm (.int .i64 r2)) (zq (zm (.int .i64 r4)) (zq (v_eql rfl rfl) (zq (zm (.bool (decide (r2 = r4)))) ?_)))))); by_cases hp2 : r2 = r4
    · replace h := h.1 hp2; refine rl_q (wanted_g rfl (yE_of rfl (congrArg Value.bool (decide_eq_true hp2)))) rfl rfl (zm (.int .i64 r3)) (rl_q (wanted_g rfl (yE_of rfl (congrArg Value.bool (decide_eq_true hp2)))) rfl rfl (zm (.int .i64 r5)) (rl_q (wanted_g rfl (yE_of rfl (congrArg Value.bool (decide_eq_true hp2)))) rfl rfl (v_eql rfl rfl) (zq (v_pick_t (v := (.bool (decide (r3 = r5)))) (congrArg Value.bool (decide_eq_true hp2)) rfl) (zq (zm (.bool (decide (r3 = r5)))) ?_)))); by_cases hp3 : r3 = r5
      · replace h := h.1 hp3; refine rl_q (wanted_g rfl (yE_of rfl (congrArg Value.bool (decide_eq_true hp3)))) rfl rfl (zm (.slice Ar lr cr)) (rl_q (wanted_g rfl (yE_of rfl (congrArg Value.bool (decide_eq_true hp3)))) rfl rfl (zm (.slice Ar2 lr2 cr2)) (rl_n (wanted_g rfl (yE_of rfl (congrArg Value.bool (decide_eq_true hp3)))) rfl rfl rfl (n_call0 rfl (am2 rfl rfl) enter_18 ((pok_slices_Equal_Divisor h (no_lt _) (hS.rdr 3 rfl) (hS.rdr 4 rfl)).mono ?_)))); rintro _ w10 ⟨r14, rfl, hC, h⟩; replace hS := hS.pur hC.pure; clear hC; refine ⟨_, rfl, ?_⟩; refine ⟨Stb.none _, zq (v_pick_t (v := (.bool (r14))) (congrArg Value.bool (decide_eq_true hp3)) rfl) (zq (zm (.bool (r14))) ?_)⟩; by_cases hp4 : r14 = true
        · replace h := h.1 hp4; refine rl_q (wanted_g rfl (yE_of rfl (congrArg Value.bool hp4))) rfl rfl (zm (.int .i64 r7)) (rl_q (wanted_g rfl (yE_of rfl (congrArg Value.bool hp4))) rfl rfl (zm (.int .i64 r9)) (rl_q (wanted_g rfl (yE_of rfl (congrArg Value.bool hp4))) rfl rfl (v_eql rfl rfl) (zq (v_pick_t (v := (.bool (decide (r7 = r9)))) (congrArg Value.bool hp4) rfl) (zq (zm (.bool (decide (r7 = r9)))) ?_)))); by_cases hp5 : r7 = r9
          · replace h := h.1 hp5; refine rl_q (wanted_g rfl (yE_of rfl (congrArg Value.bool (decide_eq_true hp5)))) rfl rfl (zm (.bool (r10))) (rl_q (wanted_g rfl (yE_of rfl (congrArg Value.bool (decide_eq_true hp5)))) rfl rfl (zm (.bool (r12))) (rl_q (wanted_g rfl (yE_of rfl (congrArg Value.bool (decide_eq_true hp5)))) rfl rfl (v_beql rfl rfl Try.underlying4) (zq (v_pick_t (v := (.bool ((r10 == r12)))) (congrArg Value.bool (decide_eq_true hp5)) rfl) (zq (zm (.bool ((r10 == r12)))) ?_)))); by_cases hp6 : (r10 == r12) = true
            · replace h := h.1 hp6; refine rl_q (wanted_g rfl (yE_of rfl (congrArg Value.bool hp6))) rfl rfl (zm (.int .i64 r11)) (rl_q (wanted_g rfl (yE_of rfl (congrArg Value.bool hp6))) rfl rfl (zm (.int .i64 r13)) (rl_q (wanted_g rfl (yE_of rfl (congrArg Value.bool hp6))) rfl rfl (v_eql rfl rfl) (zq (v_pick_t (v := (.bool (decide (r11 = r13)))) (congrArg Value.bool hp6) rfl) (zq (zm (.bool (decide (r11 = r13)))) ?_)))); by_cases hp7 : r11 = r13
              · replace h := h.1 hp7; refine rl_n (wanted_g rfl (yE_of rfl (congrArg Value.bool (decide_eq_true hp7)))) rfl rfl rfl (n_call0 rfl (am0) enter_11 ((pok_l38_awake h (no_lt _)).mono ?_)); rintro _ w11 ⟨r15, rfl, hC, h⟩; replace hS := hS.pur hC.pure; clear hC; refine ⟨_, rfl, ?_⟩; exact ⟨Stb.none _, zq (v_pick_t (v := (.bool (r15))) (congrArg Value.bool (decide_eq_true hp7)) rfl) (zq (za (.bool (r15))) (rl_end (wt_ret1 rfl rfl ⟨_, rfl, (hS.sel [] (by decide)), h⟩)))⟩
              · replace h := h.2 hp7; exact rl_p (wanted_n rfl (yE_of rfl (congrArg Value.bool (decide_eq_false hp7))) rfl) rfl (zq (v_pick_f (v := (.bool (false))) (congrArg Value.bool (decide_eq_false hp7)) rfl) (zq (za (.bool (false))) (rl_end (wt_ret1 rfl rfl ⟨_, rfl, (hS.sel [] (by decide)), h⟩))))
            · replace h := h.2 hp6; exact rl_p (wanted_n rfl (yE_of rfl (congrArg Value.bool (Bool.eq_false_iff.2 hp6))) rfl) rfl (rl_p (wanted_n rfl (yE_of rfl (congrArg Value.bool (Bool.eq_false_iff.2 hp6))) rfl) rfl (rl_p (wanted_n rfl (yE_of rfl (congrArg Value.bool (Bool.eq_false_iff.2 hp6))) rfl) rfl (zq (v_pick_f (v := (.bool (false))) (congrArg Value.bool (Bool.eq_false_iff.2 hp6)) rfl) (zq (zm (.bool (false))) (rl_p (wanted_n rfl (yE_of rfl rfl) rfl) rfl (zq (v_pick_f (v := (.bool (false))) rfl rfl) (zq (za (.bool (false))) (rl_end (wt_ret1 rfl rfl ⟨_, rfl, (hS.sel [] (by decide)), h⟩)))))))))
          · replace h := h.2 hp5; exact rl_p (wanted_n rfl (yE_of rfl (congrArg Value.bool (decide_eq_false hp5))) rfl) rfl (rl_p (wanted_n rfl (yE_of rfl (congrArg Value.bool (decide_eq_false hp5))) rfl) rfl (rl_p (wanted_n rfl (yE_of rfl (congrArg Value.bool (decide_eq_false hp5))) rfl) rfl (zq (v_pick_f (v := (.bool (false))) (congrArg Value.bool (decide_eq_false hp5)) rfl) (zq (zm (.bool (false))) (rl_p (wanted_n rfl (yE_of rfl rfl) rfl) rfl (rl_p (wanted_n rfl (yE_of rfl rfl) rfl) rfl (rl_p (wanted_n rfl (yE_of rfl rfl) rfl) rfl (zq (v_pick_f (v := (.bool (false))) rfl rfl) (zq (zm (.bool (false))) (rl_p (wanted_n rfl (yE_of rfl rfl) rfl) rfl (zq (v_pick_f (v := (.bool (false))) rfl rfl) (zq (za (.bool (false))) (rl_end (wt_ret1 rfl rfl ⟨_, rfl, (hS.sel [] (by decide)), h⟩))))))))))))))
        · replace h := h.2 hp4; exact rl_p (wanted_n rfl (yE_of rfl (congrArg Value.bool (Bool.eq_false_iff.2 hp4))) rfl) rfl (rl_p (wanted_n rfl (yE_of rfl (congrArg Value.bool (Bool.eq_false_iff.2 hp4))) rfl) rfl (rl_p (wanted_n rfl (yE_of rfl (congrArg Value.bool (Bool.eq_false_iff.2 hp4))) rfl) rfl (zq (v_pick_f (v := (.bool (false))) (congrArg Value.bool (Bool.eq_false_iff.2 hp4)) rfl) (zq (zm (.bool (false))) (rl_p (wanted_n rfl (yE_of rfl rfl) rfl) rfl (rl_p (wanted_n rfl (yE_of rfl rfl) rfl) rfl (rl_p (wanted_n rfl (yE_of rfl rfl) rfl) rfl (zq (v_pick_f (v := (.bool (false))) rfl rfl) (zq (zm (.bool (false))) (rl_p (wanted_n rfl (yE_of rfl rfl) rfl) rfl (rl_p (wanted_n rfl (yE_of rfl rfl) rfl) rfl (rl_p (wanted_n rfl (yE_of rfl rfl) rfl) rfl (zq (v_pick_f (v := (.bool (false))) rfl rfl) (zq (zm (.bool (false))) (rl_p (wanted_n rfl (yE_of rfl rfl) rfl) rfl (zq (v_pick_f (v := (.bool (false))) rfl rfl) (zq (za (.bool (false))) (rl_end (wt_ret1 rfl rfl ⟨_, rfl, (hS.sel [] (by decide)), h⟩)))))))))))))))))))
      · replace h := h.2 hp3; refine rl_p (wanted_n rfl (yE_of rfl (congrArg Value.bool (decide_eq_false hp3))) rfl) rfl (rl_p (wanted_n rfl (yE_of rfl (congrArg Value.bool (decide_eq_false hp3))) rfl) rfl (rl_p (wanted_n rfl (yE_of rfl (congrArg Value.bool (decide_eq_false hp3))) rfl) rfl (zq (v_pick_f (v := (.bool (false))) (congrArg Value.bool (decide_eq_false hp3)) rfl) (zq (zm (.bool (false))) (rl_p (wanted_n rfl (yE_of rfl rfl) rfl) rfl (rl_p (wanted_n rfl (yE_of rfl rfl) rfl) rfl (rl_p (wanted_n rfl (yE_of rfl rfl) rfl) rfl (zq (v_pick_f (v := (.bool (false))) rfl rfl) (zq (zm (.bool (false))) (rl_p (wanted_n rfl (yE_of rfl rfl) rfl) rfl (rl_p (wanted_n rfl (yE_of rfl rfl) rfl) rfl (rl_p (wanted_n rfl (yE_of rfl rfl) rfl) rfl (zq (v_pick_f (v := (.bool (false))) rfl rfl) (zq (zm (.bool (false))) (rl_p (wanted_n rfl (yE_of rfl rfl) rfl) rfl (rl_p (wanted_n rfl (yE_of rfl rfl) rfl) rfl (rl_p (wanted_n rfl (yE_of rfl rfl) rfl) rfl (zq (v_pick_f (v := (.bool (false))) rfl rfl) (zq (zm (.bool (false))) (rl_p (wanted_n rfl (yE_of rfl rfl) rfl) rfl ?_))))))))))))))))))))
        exact zq (v_pick_f (v := (.bool (false))) rfl rfl) (zq (za (.bool (false))) (rl_end (wt_ret1 rfl rfl ⟨_, rfl, (hS.sel [] (by decide)), h⟩)))
    · replace h := h.2 hp2; refine rl_p (wanted_n rfl (yE_of rfl (congrArg Value.bool (decide_eq_false hp2))) rfl) rfl (rl_p (wanted_n rfl (yE_of rfl (congrArg Value.bool (decide_eq_false hp2))) rfl) rfl (rl_p (wanted_n rfl (yE_of rfl (congrArg Value.bool (decide_eq_false hp2))) rfl) rfl (zq (v_pick_f (v := (.bool (false))) (congrArg Value.bool (decide_eq_false hp2)) rfl) (zq (zm (.bool (false))) (rl_p (wanted_n rfl (yE_of rfl rfl) rfl) rfl (rl_p (wanted_n rfl (yE_of rfl rfl) rfl) rfl (rl_p (wanted_n rfl (yE_of rfl rfl) rfl) rfl (zq (v_pick_f (v := (.bool (false))) rfl rfl) (zq (zm (.bool (false))) (rl_p (wanted_n rfl (yE_of rfl rfl) rfl) rfl (rl_p (wanted_n rfl (yE_of rfl rfl) rfl) rfl (rl_p (wanted_n rfl (yE_of rfl rfl) rfl) rfl (zq (v_pick_f (v := (.bool (false))) rfl rfl) (zq (zm (.bool (false))) (rl_p (wanted_n rfl (yE_of rfl rfl) rfl) rfl (rl_p (wanted_n rfl (yE_of rfl rfl) rfl) rfl (rl_p (wanted_n rfl (yE_of rfl rfl) rfl) rfl (zq (v_pick_f (v := (.bool (false))) rfl rfl) (zq (zm (.bool (false))) (rl_p (wanted_n rfl (yE_of rfl rfl) rfl) rfl (rl_p (wanted_n rfl (yE_of rfl rfl) rfl) rfl ?_)))))))))))))))))))))
      exact rl_p (wanted_n rfl (yE_of rfl rfl) rfl) rfl (zq (v_pick_f (v := (.bool (false))) rfl rfl) (zq (zm (.bool (false))) (rl_p (wanted_n rfl (yE_of rfl rfl) rfl) rfl (zq (v_pick_f (v := (.bool (false))) rfl rfl) (zq (za (.bool (false))) (rl_end (wt_ret1 rfl rfl ⟨_, rfl, (hS.sel [] (by decide)), h⟩)))))))
  · replace h := h.2 hp; refine wt_cond_t (congrArg Value.bool (congrArg Bool.not (Bool.eq_false_iff.2 hp))) (wt_seq (wl_region wd_wide (zn (n_call0 rfl (am0) enter_11 ((pok_l38_awake h (no_lt _)).mono ?_))))); rintro _ w12 ⟨r16, rfl, hC, h⟩; replace hS := hS.pur hC.pure; clear hC; refine ⟨_, rfl, ?_⟩; exact ⟨Stb.none _, zq (za (.bool (r16))) (rl_end (wt_ret1 rfl rfl ⟨_, rfl, (hS.sel [] (by decide)), h⟩))⟩

end Go.Proofs.Ytmeoemmemjipdaa

/- What the references' pure forms come to: graphs and divisors. -/
namespace Go.Proofs.Ytmeoemmemjipdaa
open Go
set_option linter.unusedVariables false
set_option linter.unusedSimpArgs false

theorem p_r17_In {k : Int} {R : Bool → Prop} (h : R (inF k)) : pf_r17_In k R := by
  unfold pf_r17_In
  refine ⟨fun h1 => ?_, fun h1 => ?_⟩
  · have e : decide (k ≤ 1048576) = inF k := by unfold inF; simp [h1]
    rw [e]; exact h
  · have e : false = inF k := by unfold inF; simp [h1]
    rw [e]; exact h
theorem p_r08_Vertex {n v : Int} {es : List E3} {R : Bool → Prop} (h : R (decide (0 ≤ v ∧ v < n))) : pf_r08_Vertex n es v R := by
  unfold pf_r08_Vertex
  refine ⟨fun h1 => ?_, fun h1 => ?_⟩
  · have e : decide (v < n) = decide (0 ≤ v ∧ v < n) := by simp [h1]
    rw [e]; exact h
  · have e : false = decide (0 ≤ v ∧ v < n) := by simp [h1]
    rw [e]; exact h
theorem p_r17_Check {d : List Int} {n : Int} {R : Int → Prop} (h : R (checkF d n)) : pf_r17_Check d n R := by
  unfold pf_r17_Check
  have hout : ¬ (1 ≤ n ∧ n ≤ 12) → R 2 := fun q => by
    have : checkF d n = 2 := by unfold checkF vertsF; rw [if_neg q, if_neg (by omega)]
    rwa [this] at h
  refine ⟨1 ≤ n ∧ n ≤ 12, fun hn => ?_, fun q => hout (by omega), fun q => ⟨fun q2 => hout (by omega), fun q2 => ⟨by omega, by omega⟩⟩⟩
  have hc : checkF d n = if (d.length : Int) = n then (if d.all inF then 0 else 2) else 8 := by unfold checkF; rw [if_pos (by unfold vertsF; rw [if_pos hn])]
  rw [hc] at h
  refine ⟨fun hln => ?_, fun hln => by rwa [if_neg hln] at h⟩
  rw [if_pos hln] at h
  refine ⟨Cnt d.length (fun k => ∀ j, j < k → inF (gi d j) = true), Cnt.start (fun j hj => absurd hj (by omega)), ?_⟩
  rintro m _ ⟨k, rfl, rfl, hk, hinv⟩
  refine ⟨fun hlt => ⟨by omega, p_r17_In ⟨fun h1 => Cnt.next (by omega) (by omega) fun j hj => ?_, fun h1 => ?_⟩⟩, fun hge => ?_⟩
  · by_cases e : j = k
    · subst e; simpa using h1
    · exact hinv j (by omega)
  · rw [if_neg (fun hall => h1 ((all_iff_gi inF d).1 hall _ (by omega)))] at h; exact h
  · rw [if_pos ((all_iff_gi inF d).2 fun j hj => hinv j (by omega))] at h; exact h
theorem p_r17_Total {d : List Int} {R : Int → Prop} (hl : d.length ≤ 1000000) (hb : ∀ i, i < d.length → -1000000000000 ≤ gi d i ∧ gi d i ≤ 1000000000000) (h : R (dg d)) : pf_r17_Total d R := by
  unfold pf_r17_Total
  refine ⟨fun m n v => Cnt d.length (fun k => n = sm k (gi d)) m v, Cnt.start rfl, ?_⟩
  rintro m n _ ⟨k, rfl, rfl, hk, rfl⟩
  refine ⟨fun hlt => ⟨by omega, ?_, Cnt.next (by omega) (by omega) rfl⟩, fun hge => ?_⟩
  · have := sm_bound (f := gi d) (B := 1000000000000) (by omega) (n := k + 1) fun i hi => hb i (by omega)
    rw [sm] at this
    exact i64 (by simp only [Int.toNat_natCast]; omega)
  · have : k = d.length := by omega
    subst this; exact h
/-- Nothing is negative. -/
def paidF (d : List Int) : Bool := (List.range d.length).all fun v => decide (0 ≤ gi d v)
theorem p_r08_edge {n : Int} {es : List E3} {k : Nat} {R : Int → Prop} (hk : k < es.length) (hl : es.length ≤ 1000000000) (h : R (edgeF n (pre es k).1 (pre es k).2 (ge es k))) : pf_r08_edge n es (k : Int) R := by
  unfold pf_r08_edge
  simp only [Int.toNat_natCast]
  generalize hx : ge es k = x at h ⊢
  refine ⟨by omega, (0 ≤ x.1 ∧ x.1 < n) ∧ (0 ≤ x.2.1 ∧ x.2.1 < n) ∧ 1 ≤ x.2.2 ∧ x.2.2 ≤ 50, fun hJ => ?_, ?_⟩
  · have hed : ∀ a b, edgeF n a b x = if x.1 ≤ x.2.1 ∧ pcmpF a b x.1 x.2.1 < 0 then 0 else 9 := fun a b => by unfold edgeF; rw [if_pos hJ]
    rw [hed] at h
    refine ⟨fun q => by rw [if_neg (by omega)] at h; exact h, fun q => ⟨fun h0 => ?_, fun h0 => ?_⟩⟩
    · have e1 : ((k : Int) - 1).toNat = k - 1 := by omega
      rw [e1]
      have hp : pre es k = ((ge es (k - 1)).1, (ge es (k - 1)).2.1) := by unfold pre; rw [if_neg (by omega)]
      rw [hp] at h
      have hc := pcmp_lt (ge es (k - 1)).1 (ge es (k - 1)).2.1 x.1 x.2.1
      refine ⟨i64 (by omega), by omega, fun q1 => ?_, fun q1 => ⟨fun q2 => ⟨fun q3 => ?_, fun q3 => ?_⟩, fun q2 => ?_⟩⟩
      · rw [if_neg (fun h => by have := hc.1 h.2; omega)] at h; exact h
      · rw [if_neg (fun h => by have := hc.1 h.2; omega)] at h; exact h
      · rw [if_pos ⟨by omega, hc.2 (by omega)⟩] at h; exact h
      · rw [if_pos ⟨by omega, hc.2 (by omega)⟩] at h; exact h
    · have hp : pre es k = (-1, -1) := by unfold pre; rw [if_pos (by omega)]
      rw [hp, if_pos ⟨by omega, (pcmp_lt _ _ _ _).2 (.inl (by omega))⟩] at h
      exact h
  · have hed : ¬ ((0 ≤ x.1 ∧ x.1 < n) ∧ (0 ≤ x.2.1 ∧ x.2.1 < n) ∧ 1 ≤ x.2.2 ∧ x.2.2 ≤ 50) → R 2 := fun q => by unfold edgeF at h; rwa [if_neg q] at h
    refine p_r08_Vertex ⟨fun h1 => p_r08_Vertex ⟨fun h2 => ⟨fun h3 => hed (by omega), fun h3 => ⟨fun h4 => hed (by omega), fun h4 => ?_⟩⟩, fun h2 => hed (by simp at h2; omega)⟩, fun h1 => hed (by simp at h1; omega)⟩
    simp only [decide_eq_true_eq] at h1 h2
    exact ⟨h1, h2, by omega, by omega⟩
theorem p_r08_Check {n : Int} {es : List E3} {R : Int → Prop} (hl : es.length ≤ 1000000000) (h : R (gcheckF n es)) : pf_r08_Check n es R := by
  unfold pf_r08_Check
  have hout : ¬ (1 ≤ n ∧ n ≤ 12) → R 2 := fun q => by unfold gcheckF at h; rwa [if_neg q] at h
  refine ⟨1 ≤ n ∧ n ≤ 12, fun hn => ?_, fun q => hout (by omega), fun q => ⟨fun q2 => hout (by omega), fun q2 => ⟨by omega, by omega⟩⟩⟩
  have hg : gcheckF n es = gchk n (-1) (-1) es := by unfold gcheckF; rw [if_pos hn]
  rw [hg] at h
  refine ⟨Cnt es.length (fun k => gchk n (-1) (-1) es = gchk n (pre es k).1 (pre es k).2 (es.drop k)), Cnt.start rfl, ?_⟩
  rintro m _ ⟨k, rfl, rfl, hk, hinv⟩
  refine ⟨fun hlt => p_r08_edge (by omega) hl ⟨fun h0 => Cnt.next (by omega) (by omega) ?_, fun h0 => ?_⟩, fun hge => ?_⟩
  · rw [ge_drop (by omega), gchk_cons, if_pos h0] at hinv
    rw [hinv]; simp [pre]
  · rw [ge_drop (by omega), gchk_cons, if_neg h0] at hinv
    rwa [hinv] at h
  · have hk2 : k = es.length := by omega
    rw [hinv, hk2, List.drop_length] at h
    exact h
theorem p_r08_Between' {n : Int} {es : List E3} {a b : Int} {R : Int → Prop} (hl : es.length ≤ 1000000000) (h : R (((es.find? fun x => decide (x.1 = mnF a b ∧ x.2.1 = mxF a b)).map (·.2.2)).getD 0)) : pf_r08_Between n es a b R := by
  unfold pf_r08_Between
  refine ⟨Cnt es.length (fun k => es.find? (fun x => decide (x.1 = mnF a b ∧ x.2.1 = mxF a b)) = (es.drop k).find? (fun x => decide (x.1 = mnF a b ∧ x.2.1 = mxF a b))), Cnt.start rfl, ?_⟩
  rintro m _ ⟨k, rfl, rfl, hk, hinv⟩
  refine ⟨fun hlt => ?_, fun hge => ?_⟩
  · have hlt : k < es.length := by omega
    rw [ge_drop hlt, List.find?_cons] at hinv
    simp only [Int.toNat_natCast]
    refine ⟨by omega, fun h1 => ⟨fun h2 => ?_, fun h2 => Cnt.next hlt (by omega) ?_⟩, fun h1 => Cnt.next hlt (by omega) ?_⟩
    · rw [hinv] at h; simpa [h1, h2] using h
    · rw [hinv]; simp [h2]
    · rw [hinv]; simp [h1]
  · have hk2 : k = es.length := by omega
    rw [hinv, hk2, List.drop_length] at h
    exact h
/-- The edges of a right graph are few. -/
theorem W_le50 {n : Int} {es : List E3} (hg : gcheckF n es = 0) (u v : Nat) : 0 ≤ W es u v ∧ W es u v ≤ 50 := by
  by_cases e : u = v
  · subst e; rw [W_self]; omega
  · have hok := gchk_ok es _ _ (gcheck_gchk hg)
    rw [← between_W u v e es (-1) (-1) (gcheck_gchk hg)]
    cases hf : es.find? fun x => decide (x.1 = mnF (u : Int) v ∧ x.2.1 = mxF (u : Int) v) with
    | none => simp
    | some x => have := hok x (List.mem_of_find?_eq_some hf); simp; omega
theorem p_r08_Between {n : Int} {es : List E3} {u v : Nat} {R : Int → Prop} (hl : es.length ≤ 1000000000) (hg : gcheckF n es = 0) (huv : u ≠ v) (h : R (W es u v)) : pf_r08_Between n es (u : Int) (v : Int) R :=
  p_r08_Between' hl (by rw [between_W u v huv es (-1) (-1) (gcheck_gchk hg)]; exact h)
theorem deg_bound {n : Int} {es : List E3} (hg : gcheckF n es = 0) (k v : Nat) : 0 ≤ sm k (fun u => W es v u) ∧ sm k (fun u => W es v u) ≤ k * 50 :=
  ⟨sm_nonneg fun i _ => (W_le50 hg v i).1, (sm_bound (f := fun u => W es v u) (B := 50) (by omega) fun i _ => by have := W_le50 hg v i; omega).2⟩
/-- The ends of all single edges. -/
def endsF (es : List E3) : List (Int × Int) := es.flatMap fun x => List.replicate x.2.2.toNat (x.1, x.2.1)
theorem endsF_take {es : List E3} {k : Nat} (hk : k < es.length) : endsF (es.take (k + 1)) = endsF (es.take k) ++ List.replicate (ge es k).2.2.toNat ((ge es k).1, (ge es k).2.1) := by
  unfold endsF
  rw [List.take_add_one, List.getElem?_eq_getElem hk, ge_of_lt hk, List.flatMap_append]
  simp
theorem endsF_length (es : List E3) (hE : ∀ x ∈ es, 1 ≤ x.2.2 ∧ x.2.2 ≤ 50) : ((endsF es).length : Int) = (es.map (·.2.2)).sum ∧ (endsF es).length ≤ 50 * es.length := by
  induction es with
  | nil => simp [endsF]
  | cons x t ih =>
    have hx := hE x (by simp)
    have := ih fun y hy => hE y (by simp [hy])
    unfold endsF at this ⊢
    rw [List.flatMap_cons, List.length_append, List.length_replicate, List.map_cons, List.sum_cons, List.length_cons]
    omega
theorem p_r08_Ends {n : Int} {es : List E3} {R : List (Int × Int) → Prop} (hl : es.length ≤ 1000) (hE : ∀ x ∈ es, 1 ≤ x.2.2 ∧ x.2.2 ≤ 50) (h : R (endsF es)) : pf_r08_Ends n es R := by
  unfold pf_r08_Ends
  have hlen : ∀ k, (endsF (es.take k)).length ≤ 50 * k := fun k => by
    have := (endsF_length (es.take k) fun x hx => hE x (List.mem_of_mem_take hx)).2
    rw [List.length_take] at this
    omega
  refine ⟨fun m out i => Cnt es.length (fun k => out = endsF (es.take k)) m i, Cnt.start (by simp [endsF]), ?_⟩
  rintro m out _ ⟨k, rfl, rfl, hk, rfl⟩
  refine ⟨fun hlt => ?_, fun hge => ?_⟩
  · have hlt : k < es.length := by omega
    have hmk := hE _ (ge_mem hlt)
    have hl2 := hlen k
    simp only [Int.toNat_natCast]
    refine ⟨fun m2 out2 j => Cnt (ge es k).2.2.toNat (fun i => out2 = endsF (es.take k) ++ List.replicate i ((ge es k).1, (ge es k).2.1)) m2 j, Cnt.start (by simp), ?_⟩
    rintro m2 out2 _ ⟨j, rfl, rfl, hj, rfl⟩
    refine ⟨by omega, fun h1 => ⟨?_, Cnt.next (by omega) (by omega) ?_⟩, fun h1 => Cnt.next hlt (by omega) ?_⟩
    · rw [List.length_append, List.length_replicate]; omega
    · rw [List.append_assoc, List.replicate_succ']
    · have : j = (ge es k).2.2.toNat := by omega
      rw [endsF_take hlt, this]
  · have hk2 : k = es.length := by omega
    rw [hk2, List.take_length]; exact h
theorem p_r08_Size {n : Int} {es : List E3} {R : Int → Prop} (hl : es.length ≤ 1000) (hE : ∀ x ∈ es, 1 ≤ x.2.2 ∧ x.2.2 ≤ 50) (h : R ((es.map (·.2.2)).sum)) : pf_r08_Size n es R :=
  p_r08_Ends hl hE (by rw [(endsF_length es hE).1]; exact h)
theorem p_r08_small {n a b : Int} {es : List E3} {R : Bool → Prop} (h : R (smallF n es a b)) : pf_r08_small n es a b R := by
  unfold pf_r08_small
  unfold smallF at h
  refine ⟨fun h1 => ?_, fun h1 => p_r08_Check (by omega) ⟨fun h2 => ⟨fun h3 => ?_, fun h3 => ?_⟩, fun h2 => ?_⟩⟩
  · rwa [decide_eq_false (by omega)] at h
  · have hE := gchk_ok es _ _ (gcheck_gchk h2)
    refine p_r08_Size (by omega) (fun x hx => (hE x hx).2.2.2.2) ?_
    have e : decide ((es.map (·.2.2)).sum ≤ b) = decide (es.length ≤ 40 ∧ (gcheckF n es = 0 → n ≤ a ∧ (es.map (·.2.2)).sum ≤ b)) := by
      rw [decide_eq_decide]; constructor
      · intro q; exact ⟨by omega, fun _ => ⟨h3, q⟩⟩
      · intro q; exact (q.2 h2).2
    rw [e]; exact h
  · rwa [decide_eq_false (fun q => h3 (q.2 h2).1)] at h
  · rwa [decide_eq_true ⟨by omega, fun q => absurd q h2⟩] at h
end Go.Proofs.Ytmeoemmemjipdaa

/- Borrowing: a vertex in debt borrows from its neighbours, until there is no debt, or each vertex has borrowed. No program in sight. -/
namespace Go.Proofs.Ytmeoemmemjipdaa
open Go
set_option linter.unusedVariables false
set_option linter.unusedSectionVars false
set_option linter.unusedSimpArgs false

/-- A divisor is winnable: a script leads to one without debts. -/
def Win (n : Nat) (es : List E3) (d : List Int) : Prop := ∃ s : Nat → Int, ∀ v, v < n → 0 ≤ gi d v - Lp n es s v

theorem Lp_unit {n : Nat} {es : List E3} {v : Nat} (hv : v < n) (i : Nat) : Lp n es (fun j => if j = v then 1 else 0) i = if i = v then deg n es v else - W es i v := by
  rw [Lp_ind]
  have h1 : sm n (fun u => (if u = v then (1 : Int) else 0) * W es u i) = W es v i := by
    rw [← sm_one (W es v i) hv]
    refine sm_congr fun u hu => ?_
    show (if u = v then (1 : Int) else 0) * W es u i = if u = v then W es v i else 0
    split
    · rename_i e; rw [e]; omega
    · omega
  rw [h1]
  by_cases e : i = v
  · subst e; rw [if_pos rfl, if_pos rfl, W_self]; omega
  · rw [if_neg e, if_neg e, W_symm]; omega

/-- Where borrowing stands: how often each vertex has borrowed, the chips now, who has borrowed. -/
structure Bor (n : Nat) (es : List E3) (d : List Int) (c : Nat → Int) (x : List Int) (b : List Bool) : Prop where
  xl : x.length = n
  bl : b.length = n
  val : ∀ v, v < n → gi x v = gi d v + Lp n es c v
  c0 : ∀ v, v < n → 0 ≤ c v
  bo : ∀ v, v < n → (gb b v = true ↔ 0 < c v)
  up : ∀ v, v < n → gi x v ≤ 1000
  least : ∀ t : Nat → Int, (∀ v, v < n → 0 ≤ t v) → (∀ v, v < n → 0 ≤ gi d v + Lp n es t v) → ∀ v, v < n → c v ≤ t v

section
variable {n : Nat} {es : List E3} {d : List Int}
theorem bor_start (hd : d.length = n) (hb : ∀ v, v < n → gi d v ≤ 1000) : Bor n es d (fun _ => 0) d (List.replicate n false) :=
  ⟨hd, by simp, fun v hv => by rw [Lp_const]; omega, fun v hv => Int.le_refl _, fun v hv => by rw [gb_rep]; simp, hb, fun t ht _ v hv => ht v hv⟩

theorem deg_le {m : Int} (hg : gcheckF m es = 0) (hn : n ≤ 12) (v : Nat) : 0 ≤ deg n es v ∧ deg n es v ≤ 600 := by
  have := deg_bound hg n v
  unfold deg
  omega

theorem bor_step {m : Int} (hg : gcheckF m es = 0) (hE : EOk n es) (hn : n ≤ 12) {c : Nat → Int} {x : List Int} {b : List Bool} (h : Bor n es d c x b) {v : Nat} (hv : v < n) (hneg : gi x v < 0) {y : List Int} (hyl : y.length = n)
    (hy : ∀ i, i < n → gi y i = if i = v then gi x v + deg n es v else gi x i - W es i v) : Bor n es d (fun j => c j + if j = v then 1 else 0) y (b.set v true) := by
  refine ⟨hyl, by rw [List.length_set, h.bl], fun i hi => ?_, fun i hi => ?_, fun i hi => ?_, fun i hi => ?_, fun t ht0 ht i hi => ?_⟩
  · rw [hy i hi, Lp_add c (fun j => if j = v then 1 else 0), Lp_unit hv, h.val i hi]
    by_cases e : i = v
    · subst e; rw [if_pos rfl, if_pos rfl, h.val i hi]; omega
    · rw [if_neg e, if_neg e]; omega
  · have := h.c0 i hi
    show 0 ≤ c i + if i = v then 1 else 0
    split <;> omega
  · rw [gb_set (by rw [h.bl]; exact hv)]
    have := h.c0 i hi
    show _ ↔ 0 < c i + if i = v then 1 else 0
    by_cases e : i = v
    · rw [if_pos e, if_pos e]; simp; omega
    · rw [if_neg e, if_neg e, h.bo i hi]; simp
  · rw [hy i hi]
    have h1 := deg_le hg hn (n := n) v
    have h2 := h.up i hi
    have h3 := W_nonneg hE i v
    split <;> omega
  · have h1 := h.least t ht0 ht i hi
    show c i + (if i = v then 1 else 0) ≤ t i
    by_cases e : i = v
    · subst e
      rw [if_pos rfl]
      apply Int.not_lt.1
      intro hlt
      have e2 : t i = c i := by omega
      have h3 : Lp n es t i ≤ Lp n es c i := by
        unfold Lp
        refine sm_le fun u hu => ?_
        show W es i u * (t i - t u) ≤ W es i u * (c i - c u)
        exact Int.mul_le_mul_of_nonneg_left (by have := h.least t ht0 ht u hu; omega) (W_nonneg hE i u)
      have := ht i hi
      have := h.val i hi
      omega
    · rw [if_neg e]; omega

/-- While a vertex has not borrowed, there were not many steps. -/
theorem bor_few (hE : EOk n es) (hC : ∀ q, q < n → Conn n es q) (hn : n ≤ 12) (hdb : ∀ v, v < n → -1000 ≤ gi d v) {c : Nat → Int} {x : List Int} {b : List Bool} (h : Bor n es d c x b) {w : Nat} (hw : w < n) (h0 : gb b w ≠ true) : ∀ v, v < n → c v ≤ 288000 := by
  have cw : c w = 0 := by
    have h1 := h.c0 w hw
    have h2 := (h.bo w hw)
    have : ¬ 0 < c w := fun h3 => h0 (h2.2 h3)
    omega
  intro v hv
  have h1 := climb hE (hC w hw) hw (f := c) (G := 24000) (by omega) (fun S hS => ?_) v hv
  · have h2 := low_le (f := c) hv
    have h3 : low n c (c v) * 24000 ≤ 12 * 24000 := Int.mul_le_mul_of_nonneg_right (by omega) (by omega)
    omega
  · have h4 : sm n (fun v => if S v = true then Lp n es c v else 0) ≤ sm n (fun _ => 2000) := sm_le fun u hu => by
      show (if S u = true then Lp n es c u else 0) ≤ 2000
      have h5 := h.val u hu
      have h6 := h.up u hu
      have h7 := hdb u hu
      split <;> omega
    rw [sm_const] at h4
    omega
theorem bor_total (hn : n ≤ 12) {c : Nat → Int} (hc : ∀ v, v < n → c v ≤ 288000) : sm n c ≤ 3456000 := by
  have h := sm_le (f := c) (g := fun _ => 288000) (n := n) hc
  rw [sm_const] at h
  omega
theorem bor_count {c : Nat → Int} {v : Nat} (hv : v < n) : sm n (fun j => c j + if j = v then 1 else 0) = sm n c + 1 := by
  rw [sm_add c (fun j => if j = v then 1 else 0), sm_one 1 hv]
theorem bor_win {c : Nat → Int} {x : List Int} {b : List Bool} (h : Bor n es d c x b) (hx : ∀ v, v < n → 0 ≤ gi x v) : Win n es d := by
  refine ⟨fun i => (-1) * c i, fun v hv => ?_⟩
  rw [Lp_mul]
  have := hx v hv
  rw [h.val v hv] at this
  omega
theorem max_at (s : Nat → Int) : ∀ n : Nat, 1 ≤ n → ∃ w, w < n ∧ ∀ v, v < n → s v ≤ s w
  | 0, h => absurd h (by omega)
  | 1, _ => ⟨0, by omega, fun v hv => by rw [show v = 0 by omega]; omega⟩
  | n + 2, _ => by
    obtain ⟨w, hw, h⟩ := max_at s (n + 1) (by omega)
    by_cases c : s (n + 1) ≤ s w
    · refine ⟨w, by omega, fun v hv => ?_⟩
      by_cases e : v = n + 1
      · rw [e]; exact c
      · exact h v (by omega)
    · refine ⟨n + 1, by omega, fun v hv => ?_⟩
      by_cases e : v = n + 1
      · rw [e]; omega
      · have := h v (by omega); omega
theorem bor_loss (hn : 1 ≤ n) {c : Nat → Int} {x : List Int} {b : List Bool} (h : Bor n es d c x b) (hall : ∀ v, v < n → gb b v = true) : ¬ Win n es d := by
  rintro ⟨s, hs⟩
  obtain ⟨w, hw, hmax⟩ := max_at s n hn
  have h1 := h.least (fun i => s w + (-1) * s i) (fun v hv => by have := hmax v hv; show 0 ≤ s w + -1 * s v; omega) (fun v hv => by
    rw [Lp_add (fun _ => s w) (fun i => (-1) * s i), Lp_const, Lp_mul]
    have := hs v hv
    omega) w hw
  have h2 := (h.bo w hw).1 (hall w hw)
  have h3 : c w ≤ s w + -1 * s w := h1
  omega
/-- A divisor is winnable exactly if its reduced form has no debt. -/
theorem win_red {q : Nat} {r : List Int} {s : Nat → Int} (hE : EOk n es) (hq : q < n) (hr : Red n es q r) (hl : ∀ v, v < n → gi r v = gi d v - Lp n es s v) : Win n es d ↔ 0 ≤ gi r q := by
  constructor
  · rintro ⟨t, ht⟩
    -- the end of t is the form behind a firing
    have h1 := red_script hE hq hr (d' := tab (fun v => gi d v - Lp n es t v) n) (fun v hv _ => by rw [gi_tab _ hv]; exact ht v hv) (f := fun i => t i + (-1) * s i) fun v hv => by
      rw [gi_tab _ hv, Lp_add t (fun i => (-1) * s i), Lp_mul, hl v hv]; omega
    have h2 : 0 ≤ Lp n es (fun i => t i + (-1) * s i) q := by
      unfold Lp
      refine sm_nonneg fun u hu => ?_
      exact Int.mul_nonneg (W_nonneg hE q u) (by have := h1 u hu; show 0 ≤ t q + -1 * s q - (t u + -1 * s u); omega)
    have h3 := ht q hq
    rw [Lp_add t (fun i => (-1) * s i), Lp_mul] at h2
    rw [hl q hq]; omega
  · intro h0
    refine ⟨s, fun v hv => ?_⟩
    rw [← hl v hv]
    by_cases e : v = q
    · rw [e]; exact h0
    · exact hr.pos v hv e
end
end Go.Proofs.Ytmeoemmemjipdaa

/- The genus: how many single edges there are, and how many chips a reduced divisor has. No program in sight. -/
namespace Go.Proofs.Ytmeoemmemjipdaa
open Go
set_option linter.unusedVariables false
set_option linter.unusedSimpArgs false

/-- The single edges that are no loops. -/
def plainM (es : List E3) : Int := (es.map fun x => if x.1 = x.2.1 then 0 else x.2.2).sum
theorem tot_plain {n : Nat} : ∀ {es : List E3}, EOk n es → tot n es = 2 * plainM es
  | [], _ => by
    unfold tot plainM
    rw [sm_congr (g := fun _ => 0) (fun v _ => by rw [sm_congr (g := fun _ => 0) (fun u _ => W_nil v u), sm_zero]), sm_zero]
    simp
  | x :: es, hE => by
    have ih := tot_plain (es := es) (fun y hy => hE y (by simp [hy]))
    have hx := hE x (by simp)
    have h1 : tot n (x :: es) = sm n (fun v => sm n (fun u => w1 x v u)) + tot n es := by
      unfold tot
      rw [← sm_add]
      refine sm_congr fun v _ => ?_
      rw [← sm_add]
      exact sm_congr fun u _ => W_cons x es v u
    have hp : plainM (x :: es) = (if x.1 = x.2.1 then 0 else x.2.2) + plainM es := by simp [plainM]
    rw [h1, hp, ih]
    by_cases e : x.1 = x.2.1
    · rw [if_pos e]
      have h2 : sm n (fun v => sm n (fun u => w1 x v u)) = 0 := by
        rw [sm_congr (g := fun _ => 0) (fun v _ => by rw [sm_congr (g := fun _ => 0) (fun u _ => by unfold w1; rw [if_neg (fun h => h.1 e)]), sm_zero]), sm_zero]
      omega
    · rw [if_neg e]
      have h2 : sm n (fun v => sm n (fun u => w1 x v u)) = sm n (fun v => sm n (fun u => (if v = x.1.toNat then (if u = x.2.1.toNat then x.2.2 else 0) else 0) + (if v = x.2.1.toNat then (if u = x.1.toNat then x.2.2 else 0) else 0))) :=
        sm_congr fun v _ => sm_congr fun u _ => by
          show w1 x v u = ite _ _ _ + ite _ _ _
          unfold w1
          by_cases a1 : v = x.1.toNat
          · by_cases a2 : u = x.2.1.toNat
            · rw [if_pos ⟨e, .inl ⟨by omega, by omega⟩⟩, if_pos a1, if_pos a2, if_neg (by omega)]; omega
            · rw [if_neg (fun h => by omega), if_pos a1, if_neg a2, if_neg (by omega)]; omega
          · rw [if_neg a1]
            by_cases b1 : v = x.2.1.toNat
            · rw [if_pos b1]
              by_cases b2 : u = x.1.toNat
              · rw [if_pos ⟨e, .inr ⟨by omega, by omega⟩⟩, if_pos b2]; omega
              · rw [if_neg (fun h => by omega), if_neg b2]; omega
            · rw [if_neg (fun h => by omega), if_neg b1]; omega
      have h3 : ∀ a b : Nat, a < n → b < n → sm n (fun v => sm n (fun u => if v = a then (if u = b then x.2.2 else 0) else 0)) = x.2.2 := fun a b ha hb => by
        rw [sm_congr (g := fun v => if v = a then x.2.2 else 0) (fun v _ => by
          by_cases e : v = a
          · simp only [if_pos e]; exact sm_one _ hb
          · simp only [if_neg e]; exact sm_zero n)]
        exact sm_one _ ha
      have h4 : sm n (fun v => sm n (fun u => (if v = x.1.toNat then (if u = x.2.1.toNat then x.2.2 else 0) else 0) + (if v = x.2.1.toNat then (if u = x.1.toNat then x.2.2 else 0) else 0))) = x.2.2 + x.2.2 := by
        have e : ∀ A B : Nat → Nat → Int, sm n (fun v => sm n (fun u => A v u + B v u)) = sm n (fun v => sm n (A v)) + sm n (fun v => sm n (B v)) := fun A B => by
          rw [← sm_add]
          exact sm_congr fun v _ => by rw [← sm_add]
        refine (e (fun v u => if v = x.1.toNat then (if u = x.2.1.toNat then x.2.2 else 0) else 0) (fun v u => if v = x.2.1.toNat then (if u = x.1.toNat then x.2.2 else 0) else 0)).trans ?_
        rw [h3 x.1.toNat x.2.1.toNat (by omega) (by omega), h3 x.2.1.toNat x.1.toNat (by omega) (by omega)]
      omega
end Go.Proofs.Ytmeoemmemjipdaa
