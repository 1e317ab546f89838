/- Texts laid together: Pa, Pb, Pt, Pe, Pg, PEa, PEb. -/
import Derived.Test.YtmeoemmemjipdaaK4
/- Pure forms of functions, made by program (pf.py), each with the proof that the code does so. -/
namespace Go.Proofs.Ytmeoemmemjipdaa
open Go Go.RowKit Go.Shelf
set_option linter.unusedVariables false
set_option maxRecDepth 100000
set_option maxHeartbeats 1000000
/-- sandpile/sandpileref17.In: what it computes. -/
def pf_r17_In (k : Int) (R : Bool → Prop) : Prop :=
(((-1048576) ≤ k →
R (decide (k ≤ 1048576))) ∧
(¬ ((-1048576) ≤ k) →
R false))
theorem pok_r17_In {O : Nat → Prop} {w : World} {k} {R : Bool → Prop} (h : pf_r17_In k R) (hO : ∀ k, O k → k < w.heap.size) :
    Calls Try.prog 73 #[(.int .i64 k)] w fun e w' => ∃ r, e = .returned (.bool (r)) ∧ Sep w no O w' (rl []) ∧ R r := by
  unfold pf_r17_In at h; have hS : Sep w no O w (rl []) := Sep.start w hO; refine calls_sh (l := [(.int .i64 k)]) Try.func73 rfl Try.ntmps73 (Nat.le_of_ble_eq_true rfl) (wt_seq (wl_region wd_wide (zq (za (.bool (false))) (rl_end (wt_seq (wl_region wd_wide (zq (zm (.int .i64 k)) (zq (v_geq rfl rfl) (zq (zm (.bool (decide ((-1048576) ≤ k)))) ?_))))))))); by_cases hp : (-1048576) ≤ k
  · replace h := h.1 hp; exact rl_q (wanted_g rfl (yE_of rfl (congrArg Value.bool (decide_eq_true hp)))) rfl rfl (zm (.int .i64 k)) (rl_q (wanted_g rfl (yE_of rfl (congrArg Value.bool (decide_eq_true hp)))) rfl rfl (v_leq rfl rfl) (zq (v_pick_t (v := (.bool (decide (k ≤ 1048576)))) (congrArg Value.bool (decide_eq_true hp)) rfl) (zq (za (.bool (decide (k ≤ 1048576)))) (rl_end (wt_ret1 rfl rfl ⟨_, rfl, (hS.sel [] (by decide)), h⟩)))))
  · replace h := h.2 hp; exact rl_p (wanted_n rfl (yE_of rfl (congrArg Value.bool (decide_eq_false hp))) rfl) rfl (rl_p (wanted_n rfl (yE_of rfl (congrArg Value.bool (decide_eq_false hp))) rfl) rfl (zq (v_pick_f (v := (.bool (false))) (congrArg Value.bool (decide_eq_false hp)) rfl) (zq (za (.bool (false))) (rl_end (wt_ret1 rfl rfl ⟨_, rfl, (hS.sel [] (by decide)), h⟩)))))

/-- sandpile/sandpileref17.Check: what it computes. -/
def pf_r17_Check (d : List Int) (n : Int) (R : Int → Prop) : Prop :=
(∃ J2 : Prop, (J2 → ((((d.length : Nat) : Int) = n →
(∃ I2 : Nat → Int → Prop, (∃ m0, I2 m0 0) ∧ ∀ m2 v, I2 m2 v → 
((v < n →
((0 ≤ v ∧ v < ((d.length : Nat) : Int)) ∧
pf_r17_In (gi d v.toNat) (fun r =>
((r = true →
(In64 (v + 1) ∧
∃ m3, m3 < m2 ∧ I2 m3 (v + 1))) ∧
(¬ (r = true) →
R 2))))) ∧
(¬ (v < n) →
R 0)))) ∧
(¬ (((d.length : Nat) : Int) = n) →
R 8))) ∧
((n < 1 →
R 2) ∧
(¬ (n < 1) →
((12 < n →
R 2) ∧
(¬ (12 < n) →
J2)))))
theorem pok_r17_Check {O : Nat → Prop} {w : World} {d n Ad ld cd} {R : Int → Prop} (h : pf_r17_Check d n R) (hO : ∀ k, O k → k < w.heap.size) (hA0 : (FP.sl cI Ad ld cd d).P O w) :
    Calls Try.prog 31 #[(.slice Ad ld cd), (.int .i64 n)] w fun e w' => ∃ r2, e = .returned (.int .i64 r2) ∧ Sep w no O w' (rl []) ∧ R r2 := by
  unfold pf_r17_Check at h; have hS : Sep w no O w (rl [Res.ro (FP.sl cI Ad ld cd d)]) := Sep.startl hO [(FP.sl cI Ad ld cd d)] ⟨hA0, trivial⟩; refine calls_sh (l := [(.slice Ad ld cd), (.int .i64 n)]) Try.func31 rfl Try.ntmps31 (Nat.le_of_ble_eq_true rfl) (wt_seq (wl_region wd_wide (zq (za (.int .i64 0)) (rl_end (wt_seq (wt_seq ?_)))))); obtain ⟨J2, hJ, h⟩ := h; refine wt_cutT1 (fun E ds w' => J2 ∧ ds = [] ∧ E 0 = (Value.slice Ad ld cd) ∧ E 1 = (Value.int .i64 n) ∧ Sep w no O w' (rl [Res.ro (FP.sl cI Ad ld cd d)])) ?_ ?_
  · clear h hS; rintro E ds w2 ⟨h, rfl, hE0, hE1, hS⟩; replace h := hJ h; refine wt_seq (wt_seq (wl_region wd_wide (zq (v_move hE0) (zq (v_lenx (n := d.length) rfl Try.underlying26 (rd_len (hS.rdr 0 rfl))) (zq (v_move hE1) (zq (v_neq rfl rfl) (rl_end ?_))))))); by_cases hp : ((d.length : Nat) : Int) = n
    · replace h := h.1 hp; refine ze hp (wt_skip (wt_seq (wt_seq (wl_region wd_wide (zq (za (.int .i64 0)) (rl_end (wt_block ?_))))))); obtain ⟨I2, ⟨m0, h0⟩, hr⟩ := h; refine wt_loop (fun m E ds w' => ∃ v, I2 m v ∧ ds = [] ∧ E 0 = (Value.slice Ad ld cd) ∧ E 1 = (Value.int .i64 n) ∧ E 5 = (Value.int .i64 v) ∧ Sep w no O w' (rl [Res.ro (FP.sl cI Ad ld cd d)])) m0 ⟨_, h0, rfl, hE0, hE1, rfl, (hS.sel [0] (by decide))⟩ ?_; clear h0 hS; rintro m2 E ds w3 ⟨v, h, rfl, hE0, hE1, hE5, hS⟩ again; replace h := hr m2 v h; clear hr; refine wt_seq (wt_seq (wl_region wd_wide (zq (v_move hE5) (zq (v_move hE1) (zq (v_lss rfl rfl) (rl_end ?_)))))); by_cases hp2 : v < n
      · replace h := h.1 hp2; refine zc hp2 (wt_skip (wt_seq (wt_block (wt_seq (wl_region wd_wide (zq (v_move hE0) (zq (v_move hE5) ?_))))))); obtain ⟨hx, h⟩ := h; refine zq (v_iaddr rfl rfl Try.underlying26 info_3 (rd_ix (hS.rdr 0 rfl) hx)) (zq (v_load (v := (.int .i64 (gi d v.toNat))) rfl Try.underlying3 rfl (rd_1 (hS.rdr 0 rfl) hx (fun q => gi_some q) rfl)) ?_); refine zn (n_call0 rfl (am1 rfl) enter_73 ((pok_r17_In h (no_lt _)).mono ?_)); rintro _ w4 ⟨r, rfl, hC, h⟩; replace hS := hS.pur hC.pure; clear hC; refine ⟨_, rfl, ?_⟩; refine ⟨Stb.none _, zq (v_not rfl) (rl_end ?_)⟩; by_cases hp3 : r = true
        · replace h := h.1 hp3; refine wt_cond_f (congrArg Value.bool (congrArg Bool.not hp3)) (wt_skip (wt_inBlock (wl_region wd_wide (zq (v_move hE5) ?_)))); obtain ⟨hi, h⟩ := h; refine zq (v_add rfl rfl hi) (zq (za (.int .i64 (v + 1))) (rl_end ?_)); obtain ⟨mq, hlt, h⟩ := h; exact again mq _ _ _ ⟨_, h, rfl, hE0, hE1, rfl, (hS.sel [0] (by decide))⟩ hlt
        · replace h := h.2 hp3; exact wt_cond_t (congrArg Value.bool (congrArg Bool.not (Bool.eq_false_iff.2 hp3))) (wt_seq (wl_region wd_wide (zq (za (.int .i64 2)) (rl_end (wt_ret1 rfl rfl ⟨_, rfl, (hS.sel [] (by decide)), h⟩)))))
      · replace h := h.2 hp2; exact zd hp2 (wt_exit rfl (wt_seq (wl_region wd_wide (zq (za (.int .i64 0)) (rl_end (wt_ret1 rfl rfl ⟨_, rfl, (hS.sel [] (by decide)), h⟩))))))
    · replace h := h.2 hp; exact zf hp (wt_seq (wl_region wd_wide (zq (za (.int .i64 8)) (rl_end (wt_ret1 rfl rfl ⟨_, rfl, (hS.sel [] (by decide)), h⟩)))))
  clear hJ; intro j; refine wl_region wd_wide (zq (zm (.int .i64 n)) (zq (v_lss rfl rfl) (zq (zm (.bool (decide (n < 1)))) ?_))); by_cases hp4 : n < 1
  · replace h := h.1 hp4; exact rl_p (wanted_n rfl (yE_of rfl (congrArg Value.bool (decide_eq_true hp4))) rfl) rfl (rl_p (wanted_n rfl (yE_of rfl (congrArg Value.bool (decide_eq_true hp4))) rfl) rfl (zq (v_pick_t (v := (.bool (true))) (congrArg Value.bool (decide_eq_true hp4)) rfl) (rl_end (wt_cond_t rfl (wt_seq (wl_region wd_wide (zq (za (.int .i64 2)) (rl_end (wt_ret1 rfl rfl ⟨_, rfl, (hS.sel [] (by decide)), h⟩)))))))))
  · replace h := h.2 hp4; refine rl_q (wanted_g rfl (yE_of rfl (congrArg Value.bool (decide_eq_false hp4)))) rfl rfl (zm (.int .i64 n)) (rl_q (wanted_g rfl (yE_of rfl (congrArg Value.bool (decide_eq_false hp4)))) rfl rfl (v_gtr rfl rfl) (zq (v_pick_f (v := (.bool (decide (12 < n)))) (congrArg Value.bool (decide_eq_false hp4)) rfl) (rl_end ?_))); by_cases hp5 : 12 < n
    · replace h := h.1 hp5; exact zc hp5 (wt_seq (wl_region wd_wide (zq (za (.int .i64 2)) (rl_end (wt_ret1 rfl rfl ⟨_, rfl, (hS.sel [] (by decide)), h⟩)))))
    · replace h := h.2 hp5; exact zd hp5 (wt_skip (j _ _ _ ⟨h, rfl, rfl, rfl, (hS.sel [0] (by decide))⟩))

/-- sandpile/sandpileref17.Total: what it computes. -/
def pf_r17_Total (d : List Int) (R : Int → Prop) : Prop :=
(∃ I2 : Nat → Int → Int → Prop, (∃ m0, I2 m0 0 0) ∧ ∀ m2 n v, I2 m2 n v → 
((v < ((d.length : Nat) : Int) →
((0 ≤ v ∧ v < ((d.length : Nat) : Int)) ∧
(In64 (n + (gi d v.toNat)) ∧
(In64 (v + 1) ∧
∃ m3, m3 < m2 ∧ I2 m3 (n + (gi d v.toNat)) (v + 1))))) ∧
(¬ (v < ((d.length : Nat) : Int)) →
R n)))
theorem pok_r17_Total {O : Nat → Prop} {w : World} {d Ad ld cd} {R : Int → Prop} (h : pf_r17_Total d R) (hO : ∀ k, O k → k < w.heap.size) (hA0 : (FP.sl cI Ad ld cd d).P O w) :
    Calls Try.prog 20 #[(.slice Ad ld cd)] w fun e w' => ∃ r, e = .returned (.int .i64 r) ∧ Sep w no O w' (rl []) ∧ R r := by
  unfold pf_r17_Total at h; have hS : Sep w no O w (rl [Res.ro (FP.sl cI Ad ld cd d)]) := Sep.startl hO [(FP.sl cI Ad ld cd d)] ⟨hA0, trivial⟩; refine calls_sh (l := [(.slice Ad ld cd)]) Try.func20 rfl Try.ntmps20 (Nat.le_of_ble_eq_true rfl) (wt_seq (wl_region wd_wide (zq (za (.int .i64 0)) (rl_end (wt_seq (wl_region wd_wide (zq (za (.int .i64 0)) (rl_end (wt_seq (wt_seq (wl_region wd_wide (zq (za (.int .i64 0)) (rl_end (wt_block ?_)))))))))))))); obtain ⟨I2, ⟨m0, h0⟩, hr⟩ := h; refine wt_loop (fun m E ds w' => ∃ n v, I2 m n v ∧ ds = [] ∧ E 0 = (Value.slice Ad ld cd) ∧ E 3 = (Value.int .i64 n) ∧ E 4 = (Value.int .i64 v) ∧ Sep w no O w' (rl [Res.ro (FP.sl cI Ad ld cd d)])) m0 ⟨_, _, h0, rfl, rfl, rfl, rfl, (hS.sel [0] (by decide))⟩ ?_; clear h0 hS; rintro m2 E ds w2 ⟨n, v, h, rfl, hE0, hE3, hE4, hS⟩ again; replace h := hr m2 n v h; clear hr; refine wt_seq (wt_seq (wl_region wd_wide (zq (v_move hE4) (zq (v_move hE0) (zq (v_lenx (n := d.length) rfl Try.underlying26 (rd_len (hS.rdr 0 rfl))) (zq (v_lss rfl rfl) (rl_end ?_))))))); by_cases hp : v < ((d.length : Nat) : Int)
  · replace h := h.1 hp; refine zc hp (wt_skip (wt_seq (wt_block (wl_region wd_wide (zq (v_move hE3) (zq (v_move hE0) (zq (v_move hE4) ?_))))))); obtain ⟨hx, h⟩ := h; refine zq (v_iaddr rfl rfl Try.underlying26 info_3 (rd_ix (hS.rdr 0 rfl) hx)) (zq (v_load (v := (.int .i64 (gi d v.toNat))) rfl Try.underlying3 rfl (rd_1 (hS.rdr 0 rfl) hx (fun q => gi_some q) rfl)) ?_); obtain ⟨hi, h⟩ := h; refine zq (v_add rfl rfl hi) (zq (za (.int .i64 (n + (gi d v.toNat)))) (rl_end (wt_inBlock (wl_region wd_wide (zq (v_move hE4) ?_))))); obtain ⟨hi2, h⟩ := h; refine zq (v_add rfl rfl hi2) (zq (za (.int .i64 (v + 1))) (rl_end ?_)); obtain ⟨mq, hlt, h⟩ := h; exact again mq _ _ _ ⟨_, _, h, rfl, hE0, rfl, rfl, (hS.sel [0] (by decide))⟩ hlt
  · replace h := h.2 hp; exact zd hp (wt_exit rfl (wt_seq (wl_region wd_wide (zq (v_move hE3) (zq (za (.int .i64 n)) (rl_end (wt_ret1 rfl rfl ⟨_, rfl, (hS.sel [] (by decide)), h⟩)))))))

/-- sandpile/sandpileref08.Vertex: what it computes. -/
def pf_r08_Vertex (g : Int) (g2 : List E3) (v : Int) (R : Bool → Prop) : Prop :=
((0 ≤ v →
R (decide (v < g))) ∧
(¬ (0 ≤ v) →
R false))
theorem pok_r08_Vertex {O : Nat → Prop} {w : World} {g g2 v Ag lg cg} {R : Bool → Prop} (h : pf_r08_Vertex g g2 v R) (hO : ∀ k, O k → k < w.heap.size) (hA0 : (FP.sl c3 Ag lg cg g2).P O w) :
    Calls Try.prog 158 #[(.agg #[(.int .i64 g), (.slice Ag lg cg)]), (.int .i64 v)] w fun e w' => ∃ r, e = .returned (.bool (r)) ∧ Sep w no O w' (rl []) ∧ R r := by
  unfold pf_r08_Vertex at h; have hS : Sep w no O w (rl [Res.ro (FP.sl c3 Ag lg cg g2)]) := Sep.startl hO [(FP.sl c3 Ag lg cg g2)] ⟨hA0, trivial⟩; refine calls_sh (l := [(.agg #[(.int .i64 g), (.slice Ag lg cg)]), (.int .i64 v)]) Try.func158 rfl Try.ntmps158 (Nat.le_of_ble_eq_true rfl) (wt_seq (wl_region wd_wide (zn (n_box (v := (.agg #[(.int .i64 g), (.slice Ag lg cg)])) rfl ?_)))); intro g3 w2 hN; replace hS : Sep w no O w2 (stl _ 1 (Res.box 24 g3 [(.int .i64 g), (.slice Ag lg cg)])) := hS.new 1 rfl hN; clear hN; refine ⟨Stb.none _, zq (za (.bool (false))) (rl_end (wt_seq (wl_region wd_wide (zq (zm (.int .i64 v)) (zq (v_geq rfl rfl) (zq (zm (.bool (decide (0 ≤ v)))) ?_))))))⟩; by_cases hp : 0 ≤ v
  · replace h := h.1 hp; exact rl_q (wanted_g rfl (yE_of rfl (congrArg Value.bool (decide_eq_true hp)))) rfl rfl (zm (.int .i64 v)) (rl_q (wanted_g rfl (yE_of rfl (congrArg Value.bool (decide_eq_true hp)))) rfl rfl (v_faddr rfl Try.underlying24 rfl info_3) (rl_q (wanted_g rfl (yE_of rfl (congrArg Value.bool (decide_eq_true hp)))) rfl rfl (v_load rfl Try.underlying3 rfl (Row.cell (hS.bx 1 rfl) (i := 0) rfl)) (rl_q (wanted_g rfl (yE_of rfl (congrArg Value.bool (decide_eq_true hp)))) rfl rfl (v_lss rfl rfl) (zq (v_pick_t (v := (.bool (decide (v < g)))) (congrArg Value.bool (decide_eq_true hp)) rfl) (zq (za (.bool (decide (v < g)))) (rl_end (wt_ret1 rfl rfl ⟨_, rfl, (hS.sel [] (by decide)), h⟩)))))))
  · replace h := h.2 hp; exact rl_p (wanted_n rfl (yE_of rfl (congrArg Value.bool (decide_eq_false hp))) rfl) rfl (rl_p (wanted_n rfl (yE_of rfl (congrArg Value.bool (decide_eq_false hp))) rfl) rfl (rl_p (wanted_n rfl (yE_of rfl (congrArg Value.bool (decide_eq_false hp))) rfl) rfl (rl_p (wanted_n rfl (yE_of rfl (congrArg Value.bool (decide_eq_false hp))) rfl) rfl (zq (v_pick_f (v := (.bool (false))) (congrArg Value.bool (decide_eq_false hp)) rfl) (zq (za (.bool (false))) (rl_end (wt_ret1 rfl rfl ⟨_, rfl, (hS.sel [] (by decide)), h⟩)))))))

/-- sandpile/sandpileref08.Between: what it computes. -/
def pf_r08_Between (g : Int) (g2 : List E3) (a : Int) (b : Int) (R : Int → Prop) : Prop :=
(∃ I2 : Nat → Int → Prop, (∃ m0, I2 m0 0) ∧ ∀ m2 i, I2 m2 i → 
((i < ((g2.length : Nat) : Int) →
((0 ≤ i ∧ i < ((g2.length : Nat) : Int)) ∧
((((ge g2 i.toNat).1) = (mnF a b) →
((((ge g2 i.toNat).2.1) = (mxF a b) →
R ((ge g2 i.toNat).2.2)) ∧
(¬ (((ge g2 i.toNat).2.1) = (mxF a b)) →
(In64 (i + 1) ∧
∃ m3, m3 < m2 ∧ I2 m3 (i + 1))))) ∧
(¬ (((ge g2 i.toNat).1) = (mnF a b)) →
(In64 (i + 1) ∧
∃ m4, m4 < m2 ∧ I2 m4 (i + 1)))))) ∧
(¬ (i < ((g2.length : Nat) : Int)) →
R 0)))
theorem pok_r08_Between {O : Nat → Prop} {w : World} {g g2 a b Ag lg cg} {R : Int → Prop} (h : pf_r08_Between g g2 a b R) (hO : ∀ k, O k → k < w.heap.size) (hA0 : (FP.sl c3 Ag lg cg g2).P O w) :
    Calls Try.prog 129 #[(.agg #[(.int .i64 g), (.slice Ag lg cg)]), (.int .i64 a), (.int .i64 b)] w fun e w' => ∃ r, e = .returned (.int .i64 r) ∧ Sep w no O w' (rl []) ∧ R r := by
  unfold pf_r08_Between at h; have hS : Sep w no O w (rl [Res.ro (FP.sl c3 Ag lg cg g2)]) := Sep.startl hO [(FP.sl c3 Ag lg cg g2)] ⟨hA0, trivial⟩; refine calls_sh (l := [(.agg #[(.int .i64 g), (.slice Ag lg cg)]), (.int .i64 a), (.int .i64 b)]) Try.func129 rfl Try.ntmps129 (Nat.le_of_ble_eq_true rfl) (wt_seq (wl_region wd_wide (zn (n_box (v := (.agg #[(.int .i64 g), (.slice Ag lg cg)])) rfl ?_)))); intro g3 w2 hN; replace hS : Sep w no O w2 (stl _ 1 (Res.box 24 g3 [(.int .i64 g), (.slice Ag lg cg)])) := hS.new 1 rfl hN; clear hN; refine ⟨Stb.none _, zq (za (.int .i64 0)) (rl_end (wt_seq (wt_seq (wl_region wd_wide (zq (za (.int .i64 0)) (rl_end (wt_block ?_)))))))⟩; obtain ⟨I2, ⟨m0, h0⟩, hr⟩ := h; refine wt_loop (fun m E ds w' => ∃ i, I2 m i ∧ ds = [] ∧ E 1 = (Value.int .i64 a) ∧ E 2 = (Value.int .i64 b) ∧ E 3 = (Value.pointer (some (⟨g3, 0, none⟩ : Addr))) ∧ E 7 = (Value.int .i64 i) ∧ Sep w no O w' (rl [Res.box 24 g3 [(.int .i64 g), (.slice Ag lg cg)], Res.ro (FP.sl c3 Ag lg cg g2)])) m0 ⟨_, h0, rfl, rfl, rfl, rfl, rfl, (hS.sel [1, 0] (by decide))⟩ ?_; clear h0 hS; rintro m2 E ds w3 ⟨i, h, rfl, hE1, hE2, hE3, hE7, hS⟩ again; replace h := hr m2 i h; clear hr; refine wt_seq (wt_seq (wl_region wd_wide ?_))
  refine zq (v_move hE7) (zq (v_faddr hE3 Try.underlying24 rfl info_22) (zq (v_load rfl Try.underlying22 rfl (Row.cell (hS.bx 0 rfl) (i := 1) rfl)) (zq (v_lenx (n := g2.length) rfl Try.underlying22 (rd_len (hS.rdr 1 rfl))) (zq (v_lss rfl rfl) (rl_end ?_))))); by_cases hp : i < ((g2.length : Nat) : Int)
  · replace h := h.1 hp; refine zc hp (wt_skip (wt_seq (wt_block (wt_seq (wl_region wd_wide (zq (v_faddr hE3 Try.underlying24 rfl info_22) (zq (v_load rfl Try.underlying22 rfl (Row.cell (hS.bx 0 rfl) (i := 1) rfl)) (zq (v_move hE7) ?_)))))))); obtain ⟨hx, h⟩ := h; refine zq (v_iaddr rfl rfl Try.underlying22 info_83 (rd_ix (hS.rdr 1 rfl) hx)) (zq (v_loadn (vs := [(.int .i64 ((ge g2 i.toNat).1)), (.int .i64 ((ge g2 i.toNat).2.1)), (.int .i64 ((ge g2 i.toNat).2.2))]) rfl Try.underlying83 rfl info_83 (rd_fs (hS.rdr 1 rfl) hx (fun q => ge_some q))) ?_); refine zn (n_alloc info_83 ?_); intro g4 w4 hN; replace hS : Sep w no O w4 (stl _ 2 (Res.box 83 g4 [(.int .i64 0), (.int .i64 0), (.int .i64 0)])) := hS.new 2 rfl hN; clear hN; refine ⟨Stb.none _, zo (n_storen (b := g4) (o := 0) (cells := #[(.int .i64 ((ge g2 i.toNat).1)), (.int .i64 ((ge g2 i.toNat).2.1)), (.int .i64 ((ge g2 i.toNat).2.2))]) rfl rfl info_83 rfl rfl (there_row (hS.bx 2 rfl) (Nat.le_of_ble_eq_true rfl)) ?_)⟩; intro w5 e1; replace hS := hS.bstn 2 rfl 0 [(.int .i64 ((ge g2 i.toNat).1)), (.int .i64 ((ge g2 i.toNat).2.1)), (.int .i64 ((ge g2 i.toNat).2.2))] e1; clear e1; refine ⟨Stb.none _, rl_end (wt_seq ?_)⟩
    refine wl_region wd_wide (zq (v_faddr rfl Try.underlying83 rfl info_3) (zq (v_load rfl Try.underlying3 rfl (Row.cell (hS.bx 2 rfl) (i := 0) rfl)) (zq (v_move hE1) (zq (v_move hE2) (zq (v_min2 rfl rfl) (zq (v_eql rfl rfl) (zq (zm (.bool (decide (((ge g2 i.toNat).1) = (mnF a b))))) ?_))))))); by_cases hp2 : ((ge g2 i.toNat).1) = (mnF a b)
    · replace h := h.1 hp2; refine rl_q (wanted_g rfl (yE_of rfl (congrArg Value.bool (decide_eq_true hp2)))) rfl rfl (v_faddr rfl Try.underlying83 rfl info_3) (rl_q (wanted_g rfl (yE_of rfl (congrArg Value.bool (decide_eq_true hp2)))) rfl rfl (v_load rfl Try.underlying3 rfl (Row.cell (hS.bx 2 rfl) (i := 1) rfl)) (rl_q (wanted_g rfl (yE_of rfl (congrArg Value.bool (decide_eq_true hp2)))) rfl rfl (v_move hE1) (rl_q (wanted_g rfl (yE_of rfl (congrArg Value.bool (decide_eq_true hp2)))) rfl rfl (v_move hE2) (rl_q (wanted_g rfl (yE_of rfl (congrArg Value.bool (decide_eq_true hp2)))) rfl rfl (v_max2 rfl rfl) (rl_q (wanted_g rfl (yE_of rfl (congrArg Value.bool (decide_eq_true hp2)))) rfl rfl (v_eql rfl rfl) (zq (v_pick_t (v := (.bool (decide (((ge g2 i.toNat).2.1) = (mxF a b))))) (congrArg Value.bool (decide_eq_true hp2)) rfl) (rl_end ?_))))))); by_cases hp3 : ((ge g2 i.toNat).2.1) = (mxF a b)
      · replace h := h.1 hp3; exact zc hp3 (wt_seq (wl_region wd_wide (zq (v_faddr rfl Try.underlying83 rfl info_3) (zq (v_load rfl Try.underlying3 rfl (Row.cell (hS.bx 2 rfl) (i := 2) rfl)) (zq (za (.int .i64 ((ge g2 i.toNat).2.2))) (rl_end (wt_ret1 rfl rfl ⟨_, rfl, (hS.sel [] (by decide)), h⟩)))))))
      · replace h := h.2 hp3; refine zd hp3 (wt_skip (wt_inBlock (wl_region wd_wide (zq (v_move hE7) ?_)))); obtain ⟨hi, h⟩ := h; refine zq (v_add rfl rfl hi) (zq (za (.int .i64 (i + 1))) (rl_end ?_)); obtain ⟨mq, hlt, h⟩ := h; exact again mq _ _ _ ⟨_, h, rfl, hE1, hE2, hE3, rfl, (hS.sel [0, 1] (by decide))⟩ hlt
    · replace h := h.2 hp2; refine rl_p (wanted_n rfl (yE_of rfl (congrArg Value.bool (decide_eq_false hp2))) rfl) rfl (rl_p (wanted_n rfl (yE_of rfl (congrArg Value.bool (decide_eq_false hp2))) rfl) rfl (rl_p (wanted_n rfl (yE_of rfl (congrArg Value.bool (decide_eq_false hp2))) rfl) rfl (rl_p (wanted_n rfl (yE_of rfl (congrArg Value.bool (decide_eq_false hp2))) rfl) rfl (rl_p (wanted_n rfl (yE_of rfl (congrArg Value.bool (decide_eq_false hp2))) rfl) rfl (rl_p (wanted_n rfl (yE_of rfl (congrArg Value.bool (decide_eq_false hp2))) rfl) rfl (zq (v_pick_f (v := (.bool (false))) (congrArg Value.bool (decide_eq_false hp2)) rfl) (rl_end (wt_cond_f rfl (wt_skip (wt_inBlock (wl_region wd_wide (zq (v_move hE7) ?_)))))))))))); obtain ⟨hi2, h⟩ := h; refine zq (v_add rfl rfl hi2) (zq (za (.int .i64 (i + 1))) (rl_end ?_)); obtain ⟨mq, hlt, h⟩ := h; exact again mq _ _ _ ⟨_, h, rfl, hE1, hE2, hE3, rfl, (hS.sel [0, 1] (by decide))⟩ hlt
  · replace h := h.2 hp; exact zd hp (wt_exit rfl (wt_seq (wl_region wd_wide (zq (za (.int .i64 0)) (rl_end (wt_ret1 rfl rfl ⟨_, rfl, (hS.sel [] (by decide)), h⟩))))))

/-- sandpile/sandpileref08.edge: what it computes. -/
def pf_r08_edge (d : Int) (d2 : List E3) (i : Int) (R : Int → Prop) : Prop :=
((0 ≤ i ∧ i < ((d2.length : Nat) : Int)) ∧
(∃ J2 : Prop, (J2 → ((((ge d2 i.toNat).2.1) < ((ge d2 i.toNat).1) →
R 9) ∧
(¬ (((ge d2 i.toNat).2.1) < ((ge d2 i.toNat).1)) →
((0 < i →
(In64 (i - 1) ∧
((0 ≤ (i - 1) ∧ (i - 1) < ((d2.length : Nat) : Int)) ∧
((((ge d2 i.toNat).1) < ((ge d2 (i - 1).toNat).1) →
R 9) ∧
(¬ (((ge d2 i.toNat).1) < ((ge d2 (i - 1).toNat).1)) →
((((ge d2 i.toNat).1) = ((ge d2 (i - 1).toNat).1) →
((((ge d2 i.toNat).2.1) ≤ ((ge d2 (i - 1).toNat).2.1) →
R 9) ∧
(¬ (((ge d2 i.toNat).2.1) ≤ ((ge d2 (i - 1).toNat).2.1)) →
R 0))) ∧
(¬ (((ge d2 i.toNat).1) = ((ge d2 (i - 1).toNat).1)) →
R 0))))))) ∧
(¬ (0 < i) →
R 0))))) ∧
pf_r08_Vertex d d2 ((ge d2 i.toNat).1) (fun r =>
((r = true →
pf_r08_Vertex d d2 ((ge d2 i.toNat).2.1) (fun r2 =>
((r2 = true →
((((ge d2 i.toNat).2.2) < 1 →
R 2) ∧
(¬ (((ge d2 i.toNat).2.2) < 1) →
((50 < ((ge d2 i.toNat).2.2) →
R 2) ∧
(¬ (50 < ((ge d2 i.toNat).2.2)) →
J2))))) ∧
(¬ (r2 = true) →
R 2)))) ∧
(¬ (r = true) →
R 2)))))
theorem pok_r08_edge {O : Nat → Prop} {w : World} {d d2 i Ad ld cd} {R : Int → Prop} (h : pf_r08_edge d d2 i R) (hO : ∀ k, O k → k < w.heap.size) (hA0 : (FP.sl c3 Ad ld cd d2).P O w) :
    Calls Try.prog 130 #[(.agg #[(.int .i64 d), (.slice Ad ld cd)]), (.int .i64 i)] w fun e w' => ∃ r3, e = .returned (.int .i64 r3) ∧ Sep w no O w' (rl []) ∧ R r3 := by
  unfold pf_r08_edge at h; have hS : Sep w no O w (rl [Res.ro (FP.sl c3 Ad ld cd d2)]) := Sep.startl hO [(FP.sl c3 Ad ld cd d2)] ⟨hA0, trivial⟩; refine calls_sh (l := [(.agg #[(.int .i64 d), (.slice Ad ld cd)]), (.int .i64 i)]) Try.func130 rfl Try.ntmps130 (Nat.le_of_ble_eq_true rfl) (wt_seq (wl_region wd_wide (zn (n_box (v := (.agg #[(.int .i64 d), (.slice Ad ld cd)])) rfl ?_)))); intro g w2 hN; replace hS : Sep w no O w2 (stl _ 1 (Res.box 24 g [(.int .i64 d), (.slice Ad ld cd)])) := hS.new 1 rfl hN; clear hN; refine ⟨Stb.none _, zq (za (.int .i64 0)) (rl_end (wt_seq (wl_region wd_wide (zq (v_faddr rfl Try.underlying24 rfl info_22) (zq (v_load rfl Try.underlying22 rfl (Row.cell (hS.bx 1 rfl) (i := 1) rfl)) (zq (zm (.int .i64 i)) ?_))))))⟩; obtain ⟨hx, h⟩ := h; refine zq (v_iaddr rfl rfl Try.underlying22 info_83 (rd_ix (hS.rdr 0 rfl) hx)) (zq (v_loadn (vs := [(.int .i64 ((ge d2 i.toNat).1)), (.int .i64 ((ge d2 i.toNat).2.1)), (.int .i64 ((ge d2 i.toNat).2.2))]) rfl Try.underlying83 rfl info_83 (rd_fs (hS.rdr 0 rfl) hx (fun q => ge_some q))) ?_); refine zn (n_alloc info_83 ?_); intro g2 w3 hN
  replace hS : Sep w no O w3 (stl _ 2 (Res.box 83 g2 [(.int .i64 0), (.int .i64 0), (.int .i64 0)])) := hS.new 2 rfl hN; clear hN; refine ⟨Stb.none _, zo (n_storen (b := g2) (o := 0) (cells := #[(.int .i64 ((ge d2 i.toNat).1)), (.int .i64 ((ge d2 i.toNat).2.1)), (.int .i64 ((ge d2 i.toNat).2.2))]) rfl rfl info_83 rfl rfl (there_row (hS.bx 2 rfl) (Nat.le_of_ble_eq_true rfl)) ?_)⟩; intro w4 e1; replace hS := hS.bstn 2 rfl 0 [(.int .i64 ((ge d2 i.toNat).1)), (.int .i64 ((ge d2 i.toNat).2.1)), (.int .i64 ((ge d2 i.toNat).2.2))] e1; clear e1; refine ⟨Stb.none _, rl_end (wt_seq (wt_seq ?_))⟩; obtain ⟨J2, hJ, h⟩ := h; refine wt_cutT1 (fun E ds w' => J2 ∧ ds = [] ∧ E 1 = (Value.int .i64 i) ∧ E 2 = (Value.pointer (some (⟨g, 0, none⟩ : Addr))) ∧ E 5 = (Value.pointer (some (⟨g2, 0, none⟩ : Addr))) ∧ Sep w no O w' (rl [Res.box 24 g [(.int .i64 d), (.slice Ad ld cd)], Res.ro (FP.sl c3 Ad ld cd d2), Res.box 83 g2 [(.int .i64 ((ge d2 i.toNat).1)), (.int .i64 ((ge d2 i.toNat).2.1)), (.int .i64 ((ge d2 i.toNat).2.2))]])) ?_ ?_
  · clear h hS; rintro E ds w5 ⟨h, rfl, hE1, hE2, hE5, hS⟩; replace h := hJ h; refine wt_seq (wt_seq (wl_region wd_wide (zq (v_faddr hE5 Try.underlying83 rfl info_3) (zq (v_load rfl Try.underlying3 rfl (Row.cell (hS.bx 2 rfl) (i := 0) rfl)) (zq (v_faddr hE5 Try.underlying83 rfl info_3) (zq (v_load rfl Try.underlying3 rfl (Row.cell (hS.bx 2 rfl) (i := 1) rfl)) (zq (v_gtr rfl rfl) (rl_end ?_)))))))); by_cases hp : ((ge d2 i.toNat).2.1) < ((ge d2 i.toNat).1)
    · replace h := h.1 hp; exact zc hp (wt_seq (wl_region wd_wide (zq (za (.int .i64 9)) (rl_end (wt_ret1 rfl rfl ⟨_, rfl, (hS.sel [] (by decide)), h⟩)))))
    · replace h := h.2 hp; refine zd hp (wt_skip (wt_seq (wt_seq (wl_region wd_wide (zq (v_move hE1) (zq (v_gtr rfl rfl) (rl_end ?_))))))); by_cases hp2 : 0 < i
      · replace h := h.1 hp2; refine zc hp2 (wt_seq (wl_region wd_wide (zq (v_faddr hE2 Try.underlying24 rfl info_22) (zq (v_load rfl Try.underlying22 rfl (Row.cell (hS.bx 0 rfl) (i := 1) rfl)) (zq (v_move hE1) ?_))))); obtain ⟨hi, h⟩ := h; refine zq (v_sub rfl rfl hi) ?_; obtain ⟨hx2, h⟩ := h; refine zq (v_iaddr rfl rfl Try.underlying22 info_83 (rd_ix (hS.rdr 1 rfl) hx2)) (zq (v_loadn (vs := [(.int .i64 ((ge d2 (i - 1).toNat).1)), (.int .i64 ((ge d2 (i - 1).toNat).2.1)), (.int .i64 ((ge d2 (i - 1).toNat).2.2))]) rfl Try.underlying83 rfl info_83 (rd_fs (hS.rdr 1 rfl) hx2 (fun q => ge_some q))) ?_); refine zn (n_alloc info_83 ?_); intro g3 w6 hN; replace hS : Sep w no O w6 (stl _ 3 (Res.box 83 g3 [(.int .i64 0), (.int .i64 0), (.int .i64 0)])) := hS.new 3 rfl hN; clear hN; refine ⟨Stb.none _, zo (n_storen (b := g3) (o := 0) (cells := #[(.int .i64 ((ge d2 (i - 1).toNat).1)), (.int .i64 ((ge d2 (i - 1).toNat).2.1)), (.int .i64 ((ge d2 (i - 1).toNat).2.2))]) rfl rfl info_83 rfl rfl (there_row (hS.bx 3 rfl) (Nat.le_of_ble_eq_true rfl)) ?_)⟩; intro w7 e1; replace hS := hS.bstn 3 rfl 0 [(.int .i64 ((ge d2 (i - 1).toNat).1)), (.int .i64 ((ge d2 (i - 1).toNat).2.1)), (.int .i64 ((ge d2 (i - 1).toNat).2.2))] e1
        clear e1; refine ⟨Stb.none _, rl_end (wt_seq (wl_region wd_wide (zq (v_faddr hE5 Try.underlying83 rfl info_3) (zq (v_load rfl Try.underlying3 rfl (Row.cell (hS.bx 2 rfl) (i := 0) rfl)) (zq (v_faddr rfl Try.underlying83 rfl info_3) (zq (v_load rfl Try.underlying3 rfl (Row.cell (hS.bx 3 rfl) (i := 0) rfl)) (zq (v_lss rfl rfl) (zq (zm (.bool (decide (((ge d2 i.toNat).1) < ((ge d2 (i - 1).toNat).1))))) ?_))))))))⟩; by_cases hp3 : ((ge d2 i.toNat).1) < ((ge d2 (i - 1).toNat).1)
        · replace h := h.1 hp3; exact rl_p (wanted_n rfl (yE_of rfl (congrArg Value.bool (decide_eq_true hp3))) rfl) rfl (rl_p (wanted_n rfl (yE_of rfl (congrArg Value.bool (decide_eq_true hp3))) rfl) rfl (rl_p (wanted_n rfl (yE_of rfl (congrArg Value.bool (decide_eq_true hp3))) rfl) rfl (rl_p (wanted_n rfl (yE_of rfl (congrArg Value.bool (decide_eq_true hp3))) rfl) rfl (rl_p (wanted_n rfl (yE_of rfl (congrArg Value.bool (decide_eq_true hp3))) rfl) rfl (rl_p (wanted_n rfl (yE_of rfl (congrArg Value.bool (decide_eq_true hp3))) rfl) rfl (rl_p (wanted_u rfl rfl) rfl (rl_p (wanted_u rfl rfl) rfl (rl_p (wanted_u rfl rfl) rfl (rl_p (wanted_u rfl rfl) rfl (rl_p (wanted_u rfl rfl) rfl (rl_p (wanted_n rfl (yE_of rfl (congrArg Value.bool (decide_eq_true hp3))) rfl) rfl (zq (v_pick_t (v := (.bool (true))) (congrArg Value.bool (decide_eq_true hp3)) rfl) (rl_end (wt_cond_t rfl (wt_seq (wl_region wd_wide (zq (za (.int .i64 9)) (rl_end (wt_ret1 rfl rfl ⟨_, rfl, (hS.sel [] (by decide)), h⟩)))))))))))))))))))
        · replace h := h.2 hp3; refine rl_q (wanted_g rfl (yE_of rfl (congrArg Value.bool (decide_eq_false hp3)))) rfl rfl (v_faddr hE5 Try.underlying83 rfl info_3) (rl_q (wanted_g rfl (yE_of rfl (congrArg Value.bool (decide_eq_false hp3)))) rfl rfl (v_load rfl Try.underlying3 rfl (Row.cell (hS.bx 2 rfl) (i := 0) rfl)) (rl_q (wanted_g rfl (yE_of rfl (congrArg Value.bool (decide_eq_false hp3)))) rfl rfl (v_faddr rfl Try.underlying83 rfl info_3) (rl_q (wanted_g rfl (yE_of rfl (congrArg Value.bool (decide_eq_false hp3)))) rfl rfl (v_load rfl Try.underlying3 rfl (Row.cell (hS.bx 3 rfl) (i := 0) rfl)) (rl_q (wanted_g rfl (yE_of rfl (congrArg Value.bool (decide_eq_false hp3)))) rfl rfl (v_eql rfl rfl) (rl_q (wanted_g rfl (yE_of rfl (congrArg Value.bool (decide_eq_false hp3)))) rfl rfl (zm (.bool (decide (((ge d2 i.toNat).1) = ((ge d2 (i - 1).toNat).1))))) ?_))))); by_cases hp4 : ((ge d2 i.toNat).1) = ((ge d2 (i - 1).toNat).1)
          · replace h := h.1 hp4; refine rl_q (wanted_g rfl (yE_of rfl (congrArg Value.bool (decide_eq_true hp4)))) rfl rfl (v_faddr hE5 Try.underlying83 rfl info_3) (rl_q (wanted_g rfl (yE_of rfl (congrArg Value.bool (decide_eq_true hp4)))) rfl rfl (v_load rfl Try.underlying3 rfl (Row.cell (hS.bx 2 rfl) (i := 1) rfl)) (rl_q (wanted_g rfl (yE_of rfl (congrArg Value.bool (decide_eq_true hp4)))) rfl rfl (v_faddr rfl Try.underlying83 rfl info_3) (rl_q (wanted_g rfl (yE_of rfl (congrArg Value.bool (decide_eq_true hp4)))) rfl rfl (v_load rfl Try.underlying3 rfl (Row.cell (hS.bx 3 rfl) (i := 1) rfl)) (rl_q (wanted_g rfl (yE_of rfl (congrArg Value.bool (decide_eq_true hp4)))) rfl rfl (v_leq rfl rfl) (rl_q (wanted_g rfl (yE_of rfl (congrArg Value.bool (decide_eq_false hp3)))) rfl rfl (v_pick_t (v := (.bool (decide (((ge d2 i.toNat).2.1) ≤ ((ge d2 (i - 1).toNat).2.1))))) (congrArg Value.bool (decide_eq_true hp4)) rfl) (zq (v_pick_f (v := (.bool (decide (((ge d2 i.toNat).2.1) ≤ ((ge d2 (i - 1).toNat).2.1))))) (congrArg Value.bool (decide_eq_false hp3)) rfl) (rl_end ?_))))))); by_cases hp5 : ((ge d2 i.toNat).2.1) ≤ ((ge d2 (i - 1).toNat).2.1)
            · replace h := h.1 hp5; exact zc hp5 (wt_seq (wl_region wd_wide (zq (za (.int .i64 9)) (rl_end (wt_ret1 rfl rfl ⟨_, rfl, (hS.sel [] (by decide)), h⟩)))))
            · replace h := h.2 hp5; exact zd hp5 (wt_skip (wt_seq (wl_region wd_wide (zq (za (.int .i64 0)) (rl_end (wt_ret1 rfl rfl ⟨_, rfl, (hS.sel [] (by decide)), h⟩))))))
          · replace h := h.2 hp4; exact rl_p (wanted_n rfl (yE_of rfl (congrArg Value.bool (decide_eq_false hp4))) rfl) rfl (rl_p (wanted_n rfl (yE_of rfl (congrArg Value.bool (decide_eq_false hp4))) rfl) rfl (rl_p (wanted_n rfl (yE_of rfl (congrArg Value.bool (decide_eq_false hp4))) rfl) rfl (rl_p (wanted_n rfl (yE_of rfl (congrArg Value.bool (decide_eq_false hp4))) rfl) rfl (rl_p (wanted_n rfl (yE_of rfl (congrArg Value.bool (decide_eq_false hp4))) rfl) rfl (rl_q (wanted_g rfl (yE_of rfl (congrArg Value.bool (decide_eq_false hp3)))) rfl rfl (v_pick_f (v := (.bool (false))) (congrArg Value.bool (decide_eq_false hp4)) rfl) (zq (v_pick_f (v := (.bool (false))) (congrArg Value.bool (decide_eq_false hp3)) rfl) (rl_end (wt_cond_f rfl (wt_skip (wt_seq (wl_region wd_wide (zq (za (.int .i64 0)) (rl_end (wt_ret1 rfl rfl ⟨_, rfl, (hS.sel [] (by decide)), h⟩))))))))))))))
      · replace h := h.2 hp2; exact zd hp2 (wt_skip (wt_seq (wl_region wd_wide (zq (za (.int .i64 0)) (rl_end (wt_ret1 rfl rfl ⟨_, rfl, (hS.sel [] (by decide)), h⟩))))))
  clear hJ; intro j; refine wl_region wd_wide (zq (v_loadn (vs := [(.int .i64 d), (.slice Ad ld cd)]) rfl Try.underlying24 rfl info_24 ⟨Row.cell (hS.bx 1 rfl) (i := 0) rfl, Row.cell (hS.bx 1 rfl) (i := 1) rfl, trivial⟩) (zq (v_faddr rfl Try.underlying83 rfl info_3) (zq (v_load rfl Try.underlying3 rfl (Row.cell (hS.bx 2 rfl) (i := 0) rfl)) (zn (n_call0 rfl (am2 rfl rfl) enter_158 ((pok_r08_Vertex h (no_lt _) (hS.rdr 0 rfl)).mono ?_)))))); rintro _ w8 ⟨r, rfl, hC, h⟩; replace hS := hS.pur hC.pure; clear hC; refine ⟨_, rfl, ?_⟩; refine ⟨Stb.none _, zq (v_not rfl) (zq (zm (.bool (!(r)))) ?_)⟩; by_cases hp6 : r = true
  · replace h := h.1 hp6; refine rl_q (wanted_g rfl (yE_of rfl (congrArg Value.bool (congrArg Bool.not hp6)))) rfl rfl (v_loadn (vs := [(.int .i64 d), (.slice Ad ld cd)]) rfl Try.underlying24 rfl info_24 ⟨Row.cell (hS.bx 1 rfl) (i := 0) rfl, Row.cell (hS.bx 1 rfl) (i := 1) rfl, trivial⟩) (rl_q (wanted_g rfl (yE_of rfl (congrArg Value.bool (congrArg Bool.not hp6)))) rfl rfl (v_faddr rfl Try.underlying83 rfl info_3) (rl_q (wanted_g rfl (yE_of rfl (congrArg Value.bool (congrArg Bool.not hp6)))) rfl rfl (v_load rfl Try.underlying3 rfl (Row.cell (hS.bx 2 rfl) (i := 1) rfl)) (rl_n (wanted_g rfl (yE_of rfl (congrArg Value.bool (congrArg Bool.not hp6)))) rfl rfl rfl (n_call0 rfl (am2 rfl rfl) enter_158 ((pok_r08_Vertex h (no_lt _) (hS.rdr 0 rfl)).mono ?_))))); rintro _ w9 ⟨r2, rfl, hC, h⟩; replace hS := hS.pur hC.pure; clear hC; refine ⟨_, rfl, ?_⟩; refine ⟨Stb.none _, rl_q (wanted_g rfl (yE_of rfl (congrArg Value.bool (congrArg Bool.not hp6)))) rfl rfl (v_not rfl) (zq (v_pick_f (v := (.bool (!(r2)))) (congrArg Value.bool (congrArg Bool.not hp6)) rfl) (zq (zm (.bool (!(r2)))) ?_))⟩; by_cases hp7 : r2 = true
    · replace h := h.1 hp7; refine rl_q (wanted_g rfl (yE_of rfl (congrArg Value.bool (congrArg Bool.not hp7)))) rfl rfl (v_faddr rfl Try.underlying83 rfl info_3) (rl_q (wanted_g rfl (yE_of rfl (congrArg Value.bool (congrArg Bool.not hp7)))) rfl rfl (v_load rfl Try.underlying3 rfl (Row.cell (hS.bx 2 rfl) (i := 2) rfl)) (rl_q (wanted_g rfl (yE_of rfl (congrArg Value.bool (congrArg Bool.not hp7)))) rfl rfl (v_lss rfl rfl) (zq (v_pick_f (v := (.bool (decide (((ge d2 i.toNat).2.2) < 1)))) (congrArg Value.bool (congrArg Bool.not hp7)) rfl) (zq (zm (.bool (decide (((ge d2 i.toNat).2.2) < 1)))) ?_)))); by_cases hp8 : ((ge d2 i.toNat).2.2) < 1
      · replace h := h.1 hp8; exact rl_p (wanted_n rfl (yE_of rfl (congrArg Value.bool (decide_eq_true hp8))) rfl) rfl (rl_p (wanted_n rfl (yE_of rfl (congrArg Value.bool (decide_eq_true hp8))) rfl) rfl (rl_p (wanted_n rfl (yE_of rfl (congrArg Value.bool (decide_eq_true hp8))) rfl) rfl (zq (v_pick_t (v := (.bool (true))) (congrArg Value.bool (decide_eq_true hp8)) rfl) (rl_end (wt_cond_t rfl (wt_seq (wl_region wd_wide (zq (za (.int .i64 2)) (rl_end (wt_ret1 rfl rfl ⟨_, rfl, (hS.sel [] (by decide)), h⟩))))))))))
      · replace h := h.2 hp8; refine rl_q (wanted_g rfl (yE_of rfl (congrArg Value.bool (decide_eq_false hp8)))) rfl rfl (v_faddr rfl Try.underlying83 rfl info_3) (rl_q (wanted_g rfl (yE_of rfl (congrArg Value.bool (decide_eq_false hp8)))) rfl rfl (v_load rfl Try.underlying3 rfl (Row.cell (hS.bx 2 rfl) (i := 2) rfl)) (rl_q (wanted_g rfl (yE_of rfl (congrArg Value.bool (decide_eq_false hp8)))) rfl rfl (v_gtr rfl rfl) (zq (v_pick_f (v := (.bool (decide (50 < ((ge d2 i.toNat).2.2))))) (congrArg Value.bool (decide_eq_false hp8)) rfl) (rl_end ?_)))); by_cases hp9 : 50 < ((ge d2 i.toNat).2.2)
        · replace h := h.1 hp9; exact zc hp9 (wt_seq (wl_region wd_wide (zq (za (.int .i64 2)) (rl_end (wt_ret1 rfl rfl ⟨_, rfl, (hS.sel [] (by decide)), h⟩)))))
        · replace h := h.2 hp9; exact zd hp9 (wt_skip (j _ _ _ ⟨h, rfl, rfl, rfl, rfl, (hS.sel [1, 0, 2] (by decide))⟩))
    · replace h := h.2 hp7; exact rl_p (wanted_n rfl (yE_of rfl (congrArg Value.bool (congrArg Bool.not (Bool.eq_false_iff.2 hp7)))) rfl) rfl (rl_p (wanted_n rfl (yE_of rfl (congrArg Value.bool (congrArg Bool.not (Bool.eq_false_iff.2 hp7)))) rfl) rfl (rl_p (wanted_n rfl (yE_of rfl (congrArg Value.bool (congrArg Bool.not (Bool.eq_false_iff.2 hp7)))) rfl) rfl (zq (v_pick_t (v := (.bool (true))) (congrArg Value.bool (congrArg Bool.not (Bool.eq_false_iff.2 hp7))) rfl) (zq (zm (.bool (true))) (rl_p (wanted_n rfl (yE_of rfl rfl) rfl) rfl (rl_p (wanted_n rfl (yE_of rfl rfl) rfl) rfl (rl_p (wanted_n rfl (yE_of rfl rfl) rfl) rfl (zq (v_pick_t (v := (.bool (true))) rfl rfl) (rl_end (wt_cond_t rfl (wt_seq (wl_region wd_wide (zq (za (.int .i64 2)) (rl_end (wt_ret1 rfl rfl ⟨_, rfl, (hS.sel [] (by decide)), h⟩)))))))))))))))
  · replace h := h.2 hp6; refine rl_p (wanted_n rfl (yE_of rfl (congrArg Value.bool (congrArg Bool.not (Bool.eq_false_iff.2 hp6)))) rfl) rfl (rl_p (wanted_n rfl (yE_of rfl (congrArg Value.bool (congrArg Bool.not (Bool.eq_false_iff.2 hp6)))) rfl) rfl (rl_p (wanted_n rfl (yE_of rfl (congrArg Value.bool (congrArg Bool.not (Bool.eq_false_iff.2 hp6)))) rfl) rfl (rl_p (wanted_n rfl (yE_of rfl (congrArg Value.bool (congrArg Bool.not (Bool.eq_false_iff.2 hp6)))) rfl) rfl (rl_p (wanted_n rfl (yE_of rfl (congrArg Value.bool (congrArg Bool.not (Bool.eq_false_iff.2 hp6)))) rfl) rfl (zq (v_pick_t (v := (.bool (true))) (congrArg Value.bool (congrArg Bool.not (Bool.eq_false_iff.2 hp6))) rfl) (zq (zm (.bool (true))) (rl_p (wanted_n rfl (yE_of rfl rfl) rfl) rfl (rl_p (wanted_n rfl (yE_of rfl rfl) rfl) rfl (rl_p (wanted_n rfl (yE_of rfl rfl) rfl) rfl (zq (v_pick_t (v := (.bool (true))) rfl rfl) (zq (zm (.bool (true))) (rl_p (wanted_n rfl (yE_of rfl rfl) rfl) rfl (rl_p (wanted_n rfl (yE_of rfl rfl) rfl) rfl (rl_p (wanted_n rfl (yE_of rfl rfl) rfl) rfl (zq (v_pick_t (v := (.bool (true))) rfl rfl) (rl_end (wt_cond_t rfl (wt_seq (wl_region wd_wide (zq (za (.int .i64 2)) ?_))))))))))))))))))))
    exact rl_end (wt_ret1 rfl rfl ⟨_, rfl, (hS.sel [] (by decide)), h⟩)

/-- sandpile/sandpileref08.Check: what it computes. -/
def pf_r08_Check (g : Int) (g2 : List E3) (R : Int → Prop) : Prop :=
(∃ J2 : Prop, (J2 → (∃ I2 : Nat → Int → Prop, (∃ m0, I2 m0 0) ∧ ∀ m2 i, I2 m2 i → 
((i < ((g2.length : Nat) : Int) →
pf_r08_edge g g2 i (fun r =>
((r = 0 →
(In64 (i + 1) ∧
∃ m3, m3 < m2 ∧ I2 m3 (i + 1))) ∧
(¬ (r = 0) →
R r)))) ∧
(¬ (i < ((g2.length : Nat) : Int)) →
R 0)))) ∧
((g < 1 →
R 2) ∧
(¬ (g < 1) →
((12 < g →
R 2) ∧
(¬ (12 < g) →
J2)))))
theorem pok_r08_Check {O : Nat → Prop} {w : World} {g g2 Ag lg cg} {R : Int → Prop} (h : pf_r08_Check g g2 R) (hO : ∀ k, O k → k < w.heap.size) (hA0 : (FP.sl c3 Ag lg cg g2).P O w) :
    Calls Try.prog 91 #[(.agg #[(.int .i64 g), (.slice Ag lg cg)])] w fun e w' => ∃ r2, e = .returned (.int .i64 r2) ∧ Sep w no O w' (rl []) ∧ R r2 := by
  unfold pf_r08_Check at h; have hS : Sep w no O w (rl [Res.ro (FP.sl c3 Ag lg cg g2)]) := Sep.startl hO [(FP.sl c3 Ag lg cg g2)] ⟨hA0, trivial⟩; refine calls_sh (l := [(.agg #[(.int .i64 g), (.slice Ag lg cg)])]) Try.func91 rfl Try.ntmps91 (Nat.le_of_ble_eq_true rfl) (wt_seq (wl_region wd_wide (zn (n_box (v := (.agg #[(.int .i64 g), (.slice Ag lg cg)])) rfl ?_)))); intro g3 w2 hN; replace hS : Sep w no O w2 (stl _ 1 (Res.box 24 g3 [(.int .i64 g), (.slice Ag lg cg)])) := hS.new 1 rfl hN; clear hN; refine ⟨Stb.none _, zq (za (.int .i64 0)) (rl_end (wt_seq (wt_seq ?_)))⟩; obtain ⟨J2, hJ, h⟩ := h; refine wt_cutT1 (fun E ds w' => J2 ∧ ds = [] ∧ E 1 = (Value.pointer (some (⟨g3, 0, none⟩ : Addr))) ∧ Sep w no O w' (rl [Res.box 24 g3 [(.int .i64 g), (.slice Ag lg cg)], Res.ro (FP.sl c3 Ag lg cg g2)])) ?_ ?_
  · clear h hS; rintro E ds w3 ⟨h, rfl, hE1, hS⟩; replace h := hJ h; refine wt_seq (wt_seq (wl_region wd_wide (zq (za (.int .i64 0)) (rl_end (wt_block ?_))))); obtain ⟨I2, ⟨m0, h0⟩, hr⟩ := h; refine wt_loop (fun m E ds w' => ∃ i, I2 m i ∧ ds = [] ∧ E 1 = (Value.pointer (some (⟨g3, 0, none⟩ : Addr))) ∧ E 3 = (Value.int .i64 i) ∧ Sep w no O w' (rl [Res.box 24 g3 [(.int .i64 g), (.slice Ag lg cg)], Res.ro (FP.sl c3 Ag lg cg g2)])) m0 ⟨_, h0, rfl, hE1, rfl, (hS.sel [0, 1] (by decide))⟩ ?_; clear h0 hS; rintro m2 E ds w4 ⟨i, h, rfl, hE1, hE3, hS⟩ again; replace h := hr m2 i h; clear hr; refine wt_seq (wt_seq (wl_region wd_wide (zq (v_move hE3) (zq (v_faddr hE1 Try.underlying24 rfl info_22) (zq (v_load rfl Try.underlying22 rfl (Row.cell (hS.bx 0 rfl) (i := 1) rfl)) (zq (v_lenx (n := g2.length) rfl Try.underlying22 (rd_len (hS.rdr 1 rfl))) (zq (v_lss rfl rfl) (rl_end ?_)))))))); by_cases hp : i < ((g2.length : Nat) : Int)
    · replace h := h.1 hp; refine zc hp (wt_skip (wt_seq (wt_block (wt_seq (wl_region wd_wide (zq (v_loadn (vs := [(.int .i64 g), (.slice Ag lg cg)]) hE1 Try.underlying24 rfl info_24 ⟨Row.cell (hS.bx 0 rfl) (i := 0) rfl, Row.cell (hS.bx 0 rfl) (i := 1) rfl, trivial⟩) (zq (v_move hE3) (zn (n_call0 rfl (am2 rfl rfl) enter_130 ((pok_r08_edge h (no_lt _) (hS.rdr 1 rfl)).mono ?_)))))))))); rintro _ w5 ⟨r, rfl, hC, h⟩; replace hS := hS.pur hC.pure; clear hC; refine ⟨_, rfl, ?_⟩; refine ⟨Stb.none _, zq (za (.int .i64 r)) (rl_end (wt_seq (wl_region wd_wide (zq (zm (.int .i64 r)) (zq (v_neq rfl rfl) (rl_end ?_))))))⟩; by_cases hp2 : r = 0
      · replace h := h.1 hp2; refine ze hp2 (wt_skip (wt_inBlock (wl_region wd_wide (zq (v_move hE3) ?_)))); obtain ⟨hi, h⟩ := h; refine zq (v_add rfl rfl hi) (zq (za (.int .i64 (i + 1))) (rl_end ?_)); obtain ⟨mq, hlt, h⟩ := h; exact again mq _ _ _ ⟨_, h, rfl, hE1, rfl, (hS.sel [0, 1] (by decide))⟩ hlt
      · replace h := h.2 hp2; exact zf hp2 (wt_seq (wl_region wd_wide (zq (zm (.int .i64 r)) (zq (za (.int .i64 r)) (rl_end (wt_ret1 rfl rfl ⟨_, rfl, (hS.sel [] (by decide)), h⟩))))))
    · replace h := h.2 hp; exact zd hp (wt_exit rfl (wt_seq (wl_region wd_wide (zq (za (.int .i64 0)) (rl_end (wt_ret1 rfl rfl ⟨_, rfl, (hS.sel [] (by decide)), h⟩))))))
  clear hJ; intro j; refine wl_region wd_wide (zq (v_faddr rfl Try.underlying24 rfl info_3) (zq (v_load rfl Try.underlying3 rfl (Row.cell (hS.bx 1 rfl) (i := 0) rfl)) (zq (v_lss rfl rfl) (zq (zm (.bool (decide (g < 1)))) ?_)))); by_cases hp3 : g < 1
  · replace h := h.1 hp3; exact rl_p (wanted_n rfl (yE_of rfl (congrArg Value.bool (decide_eq_true hp3))) rfl) rfl (rl_p (wanted_n rfl (yE_of rfl (congrArg Value.bool (decide_eq_true hp3))) rfl) rfl (rl_p (wanted_n rfl (yE_of rfl (congrArg Value.bool (decide_eq_true hp3))) rfl) rfl (zq (v_pick_t (v := (.bool (true))) (congrArg Value.bool (decide_eq_true hp3)) rfl) (rl_end (wt_cond_t rfl (wt_seq (wl_region wd_wide (zq (za (.int .i64 2)) (rl_end (wt_ret1 rfl rfl ⟨_, rfl, (hS.sel [] (by decide)), h⟩))))))))))
  · replace h := h.2 hp3; refine rl_q (wanted_g rfl (yE_of rfl (congrArg Value.bool (decide_eq_false hp3)))) rfl rfl (v_faddr rfl Try.underlying24 rfl info_3) (rl_q (wanted_g rfl (yE_of rfl (congrArg Value.bool (decide_eq_false hp3)))) rfl rfl (v_load rfl Try.underlying3 rfl (Row.cell (hS.bx 1 rfl) (i := 0) rfl)) (rl_q (wanted_g rfl (yE_of rfl (congrArg Value.bool (decide_eq_false hp3)))) rfl rfl (v_gtr rfl rfl) (zq (v_pick_f (v := (.bool (decide (12 < g)))) (congrArg Value.bool (decide_eq_false hp3)) rfl) (rl_end ?_)))); by_cases hp4 : 12 < g
    · replace h := h.1 hp4; exact zc hp4 (wt_seq (wl_region wd_wide (zq (za (.int .i64 2)) (rl_end (wt_ret1 rfl rfl ⟨_, rfl, (hS.sel [] (by decide)), h⟩)))))
    · replace h := h.2 hp4; exact zd hp4 (wt_skip (j _ _ _ ⟨h, rfl, rfl, (hS.sel [1, 0] (by decide))⟩))

/-- sandpile/sandpileref08.Ends: what it computes. -/
def pf_r08_Ends (g : Int) (g2 : List E3) (R : (List (Int × Int)) → Prop) : Prop :=
(∃ I2 : Nat → (List (Int × Int)) → Int → Prop, (∃ m0, I2 m0 ([]) 0) ∧ ∀ m2 out i, I2 m2 out i → 
((i < ((g2.length : Nat) : Int) →
(∃ I3 : Nat → (List (Int × Int)) → Int → Prop, (∃ m0, I3 m0 out 0) ∧ ∀ m3 out2 k, I3 m3 out2 k → 
((0 ≤ i ∧ i < ((g2.length : Nat) : Int)) ∧
((k < ((ge g2 i.toNat).2.2) →
(out2.length + 1 ≤ 1000000000 ∧
(In64 (k + 1) ∧
∃ m4, m4 < m3 ∧ I3 m4 (out2 ++ [((ge g2 i.toNat).1, (ge g2 i.toNat).2.1)]) (k + 1)))) ∧
(¬ (k < ((ge g2 i.toNat).2.2)) →
(In64 (i + 1) ∧
∃ m5, m5 < m2 ∧ I2 m5 out2 (i + 1))))))) ∧
(¬ (i < ((g2.length : Nat) : Int)) →
R out)))
theorem pok_r08_Ends {O : Nat → Prop} {w : World} {g g2 Ag lg cg} {R : (List (Int × Int)) → Prop} (h : pf_r08_Ends g g2 R) (hO : ∀ k, O k → k < w.heap.size) (hA0 : (FP.sl c3 Ag lg cg g2).P O w) :
    Calls Try.prog 144 #[(.agg #[(.int .i64 g), (.slice Ag lg cg)])] w fun e w' => ∃ r Ar lr cr, e = .returned (.slice Ar lr cr) ∧ Sep w no O w' (rl [Res.own c2 187 Ar lr cr r]) ∧ R r := by
  unfold pf_r08_Ends at h; have hS : Sep w no O w (rl [Res.ro (FP.sl c3 Ag lg cg g2)]) := Sep.startl hO [(FP.sl c3 Ag lg cg g2)] ⟨hA0, trivial⟩; refine calls_sh (l := [(.agg #[(.int .i64 g), (.slice Ag lg cg)])]) Try.func144 rfl Try.ntmps144 (Nat.le_of_ble_eq_true rfl) (wt_seq (wl_region wd_wide (zn (n_box (v := (.agg #[(.int .i64 g), (.slice Ag lg cg)])) rfl ?_)))); intro g3 w2 hN; replace hS : Sep w no O w2 (stl _ 1 (Res.box 24 g3 [(.int .i64 g), (.slice Ag lg cg)])) := hS.new 1 rfl hN; clear hN; refine ⟨Stb.none _, zq (za (.slice none 0 0)) (rl_end (wt_seq (wl_region wd_wide (zq (za (.slice none 0 0)) (rl_end (wt_seq (wt_seq (wl_region wd_wide (zq (za (.int .i64 0)) (rl_end (wt_block ?_)))))))))))⟩; replace hS := hS.nil 2 rfl c2 187; obtain ⟨I2, ⟨m0, h0⟩, hr⟩ := h
  refine wt_loop (fun m E ds w' => ∃ out i Aout lout cout, I2 m out i ∧ ds = [] ∧ E 1 = (Value.pointer (some (⟨g3, 0, none⟩ : Addr))) ∧ E 3 = (Value.slice Aout lout cout) ∧ E 4 = (Value.int .i64 i) ∧ Sep w no O w' (rl [Res.own c2 187 Aout lout cout out, Res.box 24 g3 [(.int .i64 g), (.slice Ag lg cg)], Res.ro (FP.sl c3 Ag lg cg g2)])) m0 ⟨_, _, _, _, _, h0, rfl, rfl, rfl, rfl, (hS.sel [2, 1, 0] (by decide))⟩ ?_; clear h0 hS; rintro m2 E ds w3 ⟨out, i, Aout, lout, cout, h, rfl, hE1, hE3, hE4, hS⟩ again; replace h := hr m2 out i h; clear hr; refine wt_seq (wt_seq (wl_region wd_wide (zq (v_move hE4) (zq (v_faddr hE1 Try.underlying24 rfl info_22) (zq (v_load rfl Try.underlying22 rfl (Row.cell (hS.bx 1 rfl) (i := 1) rfl)) (zq (v_lenx (n := g2.length) rfl Try.underlying22 (rd_len (hS.rdr 2 rfl))) (zq (v_lss rfl rfl) (rl_end ?_)))))))); by_cases hp : i < ((g2.length : Nat) : Int)
  · replace h := h.1 hp; refine zc hp (wt_skip (wt_seq (wt_block (wt_seq (wl_region wd_wide (zq (za (.int .i64 0)) (rl_end (wt_block ?_)))))))); obtain ⟨I3, ⟨m0, h0⟩, hr⟩ := h; refine wt_loop (fun m E ds w' => ∃ out2 k Aout2 lout2 cout2, I3 m out2 k ∧ ds = [] ∧ E 1 = (Value.pointer (some (⟨g3, 0, none⟩ : Addr))) ∧ E 3 = (Value.slice Aout2 lout2 cout2) ∧ E 4 = (Value.int .i64 i) ∧ E 5 = (Value.int .i64 k) ∧ Sep w no O w' (rl [Res.own c2 187 Aout2 lout2 cout2 out2, Res.box 24 g3 [(.int .i64 g), (.slice Ag lg cg)], Res.ro (FP.sl c3 Ag lg cg g2)])) m0 ⟨_, _, _, _, _, h0, rfl, hE1, hE3, hE4, rfl, (hS.sel [0, 1, 2] (by decide))⟩ ?_; clear h0 hS; rintro m3 E ds w4 ⟨out2, k, Aout2, lout2, cout2, h, rfl, hE1, hE3, hE4, hE5, hS⟩ again2; replace h := hr m3 out2 k h; clear hr; refine wt_seq (wt_seq (wl_region wd_wide (zq (v_move hE5) (zq (v_faddr hE1 Try.underlying24 rfl info_22) (zq (v_load rfl Try.underlying22 rfl (Row.cell (hS.bx 1 rfl) (i := 1) rfl)) (zq (v_move hE4) ?_)))))); obtain ⟨hx, h⟩ := h; refine zq (v_iaddr rfl rfl Try.underlying22 info_83 (rd_ix (hS.rdr 2 rfl) hx)) ?_
    refine zq (v_faddr rfl Try.underlying83 rfl info_3) (zq (v_load (v := (.int .i64 ((ge g2 i.toNat).2.2))) rfl Try.underlying3 rfl (rd_f (hS.rdr 2 rfl) hx (fun q => ge_some q) 2 rfl)) ?_); refine zq (v_lss rfl rfl) (rl_end ?_); by_cases hp2 : k < ((ge g2 i.toNat).2.2)
    · replace h := h.1 hp2; refine zc hp2 (wt_skip (wt_seq (wt_block (wp_draw [0, 1, 2, 3, 4, 5, 6, 7, 8, 9, 10, 11, 12, 13, 14, 15, 16] (fun i => match i with | 13 => [0] | 14 => [0] | _ => []) wd_wide (by kernel_rfl) (by kernel_rfl) ?_)))); replace hS := hS.drew; refine rp_q rfl rfl rfl (v_move hE3) (rp_q rfl rfl rfl (v_faddr hE1 Try.underlying24 rfl info_22) (rp_q rfl rfl rfl (v_load rfl Try.underlying22 rfl (Row.cell (hS.bx 1 rfl) (i := 1) rfl)) (rp_q rfl rfl rfl (v_move hE4) (rp_q rfl rfl rfl (v_iaddr rfl rfl Try.underlying22 info_83 (rd_ix (hS.rdr 2 rfl) hx)) (rp_q rfl rfl rfl (v_faddr rfl Try.underlying83 rfl info_3) (rp_q rfl rfl rfl (v_load (v := (.int .i64 ((ge g2 i.toNat).1))) rfl Try.underlying3 rfl (rd_f (hS.rdr 2 rfl) hx (fun q => ge_some q) 0 rfl)) ?_)))))); refine rp_q rfl rfl rfl (v_faddr hE1 Try.underlying24 rfl info_22) (rp_q rfl rfl rfl (v_load rfl Try.underlying22 rfl (Row.cell (hS.bx 1 rfl) (i := 1) rfl)) (rp_q rfl rfl rfl (v_move hE4) (rp_q rfl rfl rfl (v_iaddr rfl rfl Try.underlying22 info_83 (rd_ix (hS.rdr 2 rfl) hx)) (rp_q rfl rfl rfl (v_faddr rfl Try.underlying83 rfl info_3) ?_))))
      refine rp_q rfl rfl rfl (v_load (v := (.int .i64 ((ge g2 i.toNat).2.1))) rfl Try.underlying3 rfl (rd_f (hS.rdr 2 rfl) hx (fun q => ge_some q) 1 rfl)) ?_; refine rp_n rfl rfl rfl rfl (n_builda (l := [(0, (.int .i64 ((ge g2 i.toNat).1))), (1, (.int .i64 ((ge g2 i.toNat).2.1)))]) (cells := [(.int .i64 ((ge g2 i.toNat).1)), (.int .i64 ((ge g2 i.toNat).2.1))]) (bp2 rfl rfl) Try.underlying187 info_187 info_3 rfl ?_); refine ⟨⟨fun hh => Bool.noConfusion (show false = true from hh), ⟨fun hh => Bool.noConfusion (show false = true from hh), ⟨fun hh => Bool.noConfusion (show false = true from hh), ⟨fun hh => Bool.noConfusion (show false = true from hh), ⟨fun hh => Bool.noConfusion (show false = true from hh), ⟨fun hh => Bool.noConfusion (show false = true from hh), ⟨fun hh => Bool.noConfusion (show false = true from hh), ⟨fun hh => Bool.noConfusion (show false = true from hh), ⟨fun hh => Bool.noConfusion (show false = true from hh), ⟨fun hh => Bool.noConfusion (show false = true from hh), ⟨fun hh => Bool.noConfusion (show false = true from hh), ⟨fun hh => Bool.noConfusion (show false = true from hh), ⟨fun _ => (v_move hE3), trivial⟩⟩⟩⟩⟩⟩⟩⟩⟩⟩⟩⟩⟩, ?_⟩; refine rp_n rfl rfl rfl rfl (n_bslice (l := [(0, (.agg #[(.int .i64 ((ge g2 i.toNat).1)), (.int .i64 ((ge g2 i.toNat).2.1))]))]) (cells := [(.int .i64 ((ge g2 i.toNat).1)), (.int .i64 ((ge g2 i.toNat).2.1))]) (bp1 rfl) Try.underlying181 info_187 rfl rfl ?_); intro g4 w5 hN
      replace hS := hS.litf (n := 1) 3 rfl (fP (fI .i64) (fI .i64)) hN ([((ge g2 i.toNat).1, (ge g2 i.toNat).2.1)] : List (Int × Int)) rfl (by decide) rfl; clear hN; refine ⟨⟨fun hh => Bool.noConfusion (show false = true from hh), ⟨fun hh => Bool.noConfusion (show false = true from hh), ⟨fun hh => Bool.noConfusion (show false = true from hh), ⟨fun hh => Bool.noConfusion (show false = true from hh), ⟨fun hh => Bool.noConfusion (show false = true from hh), ⟨fun hh => Bool.noConfusion (show false = true from hh), ⟨fun hh => Bool.noConfusion (show false = true from hh), ⟨fun hh => Bool.noConfusion (show false = true from hh), ⟨fun hh => Bool.noConfusion (show false = true from hh), ⟨fun hh => Bool.noConfusion (show false = true from hh), ⟨fun hh => Bool.noConfusion (show false = true from hh), ⟨fun hh => Bool.noConfusion (show false = true from hh), ⟨fun _ => (v_move hE3), trivial⟩⟩⟩⟩⟩⟩⟩⟩⟩⟩⟩⟩⟩, ?_⟩; obtain ⟨hx2, h⟩ := h; refine rp_n rfl rfl rfl rfl (n_app (c := c2) rfl rfl Try.underlying181 Try.underlying181 info_187 rfl rfl (by decide) hS 0 rfl (hS.yo 3 rfl) hx2 ?_); clear hS; intro A c w6 hS; refine ⟨Stb.none _, rp_q rfl rfl rfl (za (.slice A (lout2 + 1) c)) (rp_end (wt_inBlock (wl_region wd_wide (zq (v_move hE5) ?_))))⟩; obtain ⟨hi, h⟩ := h; refine zq (v_add rfl rfl hi) ?_
      refine zq (za (.int .i64 (k + 1))) (rl_end ?_); obtain ⟨mq, hlt, h⟩ := h; exact again2 mq _ _ _ ⟨_, _, _, _, _, h, rfl, hE1, rfl, hE4, rfl, (hS.sel [0, 1, 2] (by decide))⟩ hlt
    · replace h := h.2 hp2; refine zd hp2 (wt_exit rfl (wt_inBlock (wl_region wd_wide (zq (v_move hE4) ?_)))); obtain ⟨hi2, h⟩ := h; refine zq (v_add rfl rfl hi2) (zq (za (.int .i64 (i + 1))) (rl_end ?_)); obtain ⟨mq, hlt, h⟩ := h; exact again mq _ _ _ ⟨_, _, _, _, _, h, rfl, hE1, hE3, rfl, (hS.sel [0, 1, 2] (by decide))⟩ hlt
  · replace h := h.2 hp; exact zd hp (wt_exit rfl (wt_seq (wl_region wd_wide (zq (v_move hE3) (zq (za (.slice Aout lout cout)) (rl_end (wt_ret1 rfl rfl ⟨_, _, _, _, rfl, (hS.sel [0] (by decide)), h⟩)))))))

/-- sandpile/sandpileref08.Size: what it computes. -/
def pf_r08_Size (g : Int) (g2 : List E3) (R : Int → Prop) : Prop :=
pf_r08_Ends g g2 (fun r =>
R ((r.length : Nat) : Int))
theorem pok_r08_Size {O : Nat → Prop} {w : World} {g g2 Ag lg cg} {R : Int → Prop} (h : pf_r08_Size g g2 R) (hO : ∀ k, O k → k < w.heap.size) (hA0 : (FP.sl c3 Ag lg cg g2).P O w) :
    Calls Try.prog 113 #[(.agg #[(.int .i64 g), (.slice Ag lg cg)])] w fun e w' => ∃ r2, e = .returned (.int .i64 r2) ∧ Sep w no O w' (rl []) ∧ R r2 := by
  unfold pf_r08_Size at h; have hS : Sep w no O w (rl [Res.ro (FP.sl c3 Ag lg cg g2)]) := Sep.startl hO [(FP.sl c3 Ag lg cg g2)] ⟨hA0, trivial⟩; refine calls_sh (l := [(.agg #[(.int .i64 g), (.slice Ag lg cg)])]) Try.func113 rfl Try.ntmps113 (Nat.le_of_ble_eq_true rfl) (wt_seq (wl_region wd_wide (zn (n_box (v := (.agg #[(.int .i64 g), (.slice Ag lg cg)])) rfl ?_)))); intro g3 w2 hN; replace hS : Sep w no O w2 (stl _ 1 (Res.box 24 g3 [(.int .i64 g), (.slice Ag lg cg)])) := hS.new 1 rfl hN; clear hN; refine ⟨Stb.none _, zq (za (.int .i64 0)) (rl_end (wt_seq (wl_region wd_wide (zq (v_loadn (vs := [(.int .i64 g), (.slice Ag lg cg)]) rfl Try.underlying24 rfl info_24 ⟨Row.cell (hS.bx 1 rfl) (i := 0) rfl, Row.cell (hS.bx 1 rfl) (i := 1) rfl, trivial⟩) (zn (n_call0 rfl (am1 rfl) enter_144 ((pok_r08_Ends h (no_lt _) (hS.rdr 0 rfl)).mono ?_)))))))⟩; rintro _ w3 ⟨r, Ar, lr, cr, rfl, hC, h⟩; replace hS := hS.call1 (hC.widen (flatS (flat_own (fP (fI .i64) (fI .i64)) _ _ _ _ _) flat0) hS.blt) 2 0 rfl; clear hC; refine ⟨_, rfl, ?_⟩; refine ⟨Stb.none _, zq (v_lenx (n := r.length) rfl Try.underlying181 (rd_len (hS.rdo 2 rfl))) (zq (za (.int .i64 ((r.length : Nat) : Int))) (rl_end ?_))⟩
  exact wt_ret1 rfl rfl ⟨_, rfl, (hS.sel [] (by decide)), h⟩

/-- sandpile/sandpileref08.small: what it computes. -/
def pf_r08_small (g : Int) (g2 : List E3) (vertices : Int) (single : Int) (R : Bool → Prop) : Prop :=
((40 < ((g2.length : Nat) : Int) →
R false) ∧
(¬ (40 < ((g2.length : Nat) : Int)) →
pf_r08_Check g g2 (fun r =>
((r = 0 →
((g ≤ vertices →
pf_r08_Size g g2 (fun r2 =>
R (decide (r2 ≤ single)))) ∧
(¬ (g ≤ vertices) →
R false))) ∧
(¬ (r = 0) →
R true)))))
theorem pok_r08_small {O : Nat → Prop} {w : World} {g g2 vertices single Ag lg cg} {R : Bool → Prop} (h : pf_r08_small g g2 vertices single R) (hO : ∀ k, O k → k < w.heap.size) (hA0 : (FP.sl c3 Ag lg cg g2).P O w) :
    Calls Try.prog 76 #[(.agg #[(.int .i64 g), (.slice Ag lg cg)]), (.int .i64 vertices), (.int .i64 single)] w fun e w' => ∃ r3, e = .returned (.bool (r3)) ∧ Sep w no O w' (rl []) ∧ R r3 := by
  unfold pf_r08_small at h; have hS : Sep w no O w (rl [Res.ro (FP.sl c3 Ag lg cg g2)]) := Sep.startl hO [(FP.sl c3 Ag lg cg g2)] ⟨hA0, trivial⟩; refine calls_sh (l := [(.agg #[(.int .i64 g), (.slice Ag lg cg)]), (.int .i64 vertices), (.int .i64 single)]) Try.func76 rfl Try.ntmps76 (Nat.le_of_ble_eq_true rfl) (wt_seq (wl_region wd_wide (zn (n_box (v := (.agg #[(.int .i64 g), (.slice Ag lg cg)])) rfl ?_)))); intro g3 w2 hN; replace hS : Sep w no O w2 (stl _ 1 (Res.box 24 g3 [(.int .i64 g), (.slice Ag lg cg)])) := hS.new 1 rfl hN; clear hN; refine ⟨Stb.none _, zq (za (.bool (false))) (rl_end (wt_seq (wt_seq (wl_region wd_wide (zq (v_faddr rfl Try.underlying24 rfl info_22) (zq (v_load rfl Try.underlying22 rfl (Row.cell (hS.bx 1 rfl) (i := 1) rfl)) (zq (v_lenx (n := g2.length) rfl Try.underlying22 (rd_len (hS.rdr 0 rfl))) (zq (v_gtr rfl rfl) (rl_end ?_)))))))))⟩; by_cases hp : 40 < ((g2.length : Nat) : Int)
  · replace h := h.1 hp; exact zc hp (wt_seq (wl_region wd_wide (zq (za (.bool (false))) (rl_end (wt_ret1 rfl rfl ⟨_, rfl, (hS.sel [] (by decide)), h⟩)))))
  · replace h := h.2 hp; refine zd hp (wt_skip (wt_seq (wt_seq (wl_region wd_wide (zq (v_loadn (vs := [(.int .i64 g), (.slice Ag lg cg)]) rfl Try.underlying24 rfl info_24 ⟨Row.cell (hS.bx 1 rfl) (i := 0) rfl, Row.cell (hS.bx 1 rfl) (i := 1) rfl, trivial⟩) (zn (n_call0 rfl (am1 rfl) enter_91 ((pok_r08_Check h (no_lt _) (hS.rdr 0 rfl)).mono ?_)))))))); rintro _ w3 ⟨r, rfl, hC, h⟩; replace hS := hS.pur hC.pure; clear hC; refine ⟨_, rfl, ?_⟩; refine ⟨Stb.none _, zq (v_neq rfl rfl) (rl_end ?_)⟩; by_cases hp2 : r = 0
    · replace h := h.1 hp2; refine ze hp2 (wt_skip (wt_seq (wl_region wd_wide (zq (v_faddr rfl Try.underlying24 rfl info_3) (zq (v_load rfl Try.underlying3 rfl (Row.cell (hS.bx 1 rfl) (i := 0) rfl)) (zq (zm (.int .i64 vertices)) (zq (v_leq rfl rfl) (zq (zm (.bool (decide (g ≤ vertices)))) ?_)))))))); by_cases hp3 : g ≤ vertices
      · replace h := h.1 hp3; refine rl_q (wanted_g rfl (yE_of rfl (congrArg Value.bool (decide_eq_true hp3)))) rfl rfl (v_loadn (vs := [(.int .i64 g), (.slice Ag lg cg)]) rfl Try.underlying24 rfl info_24 ⟨Row.cell (hS.bx 1 rfl) (i := 0) rfl, Row.cell (hS.bx 1 rfl) (i := 1) rfl, trivial⟩) (rl_n (wanted_g rfl (yE_of rfl (congrArg Value.bool (decide_eq_true hp3)))) rfl rfl rfl (n_call0 rfl (am1 rfl) enter_113 ((pok_r08_Size h (no_lt _) (hS.rdr 0 rfl)).mono ?_))); rintro _ w4 ⟨r2, rfl, hC, h⟩; replace hS := hS.pur hC.pure; clear hC; refine ⟨_, rfl, ?_⟩; exact ⟨Stb.none _, rl_q (wanted_g rfl (yE_of rfl (congrArg Value.bool (decide_eq_true hp3)))) rfl rfl (zm (.int .i64 single)) (rl_q (wanted_g rfl (yE_of rfl (congrArg Value.bool (decide_eq_true hp3)))) rfl rfl (v_leq rfl rfl) (zq (v_pick_t (v := (.bool (decide (r2 ≤ single)))) (congrArg Value.bool (decide_eq_true hp3)) rfl) (zq (za (.bool (decide (r2 ≤ single)))) (rl_end (wt_ret1 rfl rfl ⟨_, rfl, (hS.sel [] (by decide)), h⟩)))))⟩
      · replace h := h.2 hp3; exact rl_p (wanted_n rfl (yE_of rfl (congrArg Value.bool (decide_eq_false hp3))) rfl) rfl (rl_p (wanted_n rfl (yE_of rfl (congrArg Value.bool (decide_eq_false hp3))) rfl) rfl (rl_p (wanted_n rfl (yE_of rfl (congrArg Value.bool (decide_eq_false hp3))) rfl) rfl (rl_p (wanted_n rfl (yE_of rfl (congrArg Value.bool (decide_eq_false hp3))) rfl) rfl (zq (v_pick_f (v := (.bool (false))) (congrArg Value.bool (decide_eq_false hp3)) rfl) (zq (za (.bool (false))) (rl_end (wt_ret1 rfl rfl ⟨_, rfl, (hS.sel [] (by decide)), h⟩)))))))
    · replace h := h.2 hp2; exact zf hp2 (wt_seq (wl_region wd_wide (zq (za (.bool (true))) (rl_end (wt_ret1 rfl rfl ⟨_, rfl, (hS.sel [] (by decide)), h⟩)))))

/-- sandpile/sandpileref08.Reached: what it computes. -/
def pf_r08_Reached (g : Int) (g2 : List E3) (v : Int) (R : (List Bool) → Prop) : Prop :=
((0 ≤ g ∧ g ≤ 1000000) ∧
((0 ≤ v ∧ v < (((List.replicate g.toNat false).length : Nat) : Int)) ∧
(∃ I2 : Nat → Int → (List Bool) → Prop, (∃ m0, I2 m0 0 ((List.replicate g.toNat false).set v.toNat true)) ∧ ∀ m2 round out, I2 m2 round out → 
((round < g →
(∃ I3 : Nat → Int → (List Bool) → Prop, (∃ m0, I3 m0 0 out) ∧ ∀ m3 a out2, I3 m3 a out2 → 
((a < g →
(∃ I4 : Nat → Int → (List Bool) → Prop, (∃ m0, I4 m0 0 out2) ∧ ∀ m4 b out3, I4 m4 b out3 → 
((b < g →
((0 ≤ a ∧ a < ((out3.length : Nat) : Int)) ∧
((gb out3 a.toNat = true →
pf_r08_Between g g2 a b (fun r =>
((0 < r →
((0 ≤ b ∧ b < ((out3.length : Nat) : Int)) ∧
(In64 (b + 1) ∧
∃ m5, m5 < m4 ∧ I4 m5 (b + 1) (out3.set b.toNat true)))) ∧
(¬ (0 < r) →
(In64 (b + 1) ∧
∃ m6, m6 < m4 ∧ I4 m6 (b + 1) out3))))) ∧
(¬ (gb out3 a.toNat = true) →
(In64 (b + 1) ∧
∃ m7, m7 < m4 ∧ I4 m7 (b + 1) out3))))) ∧
(¬ (b < g) →
(In64 (a + 1) ∧
∃ m8, m8 < m3 ∧ I3 m8 (a + 1) out3))))) ∧
(¬ (a < g) →
(In64 (round + 1) ∧
∃ m9, m9 < m2 ∧ I2 m9 (round + 1) out2))))) ∧
(¬ (round < g) →
R out)))))
theorem pok_r08_Reached {O : Nat → Prop} {w : World} {g g2 v Ag lg cg} {R : (List Bool) → Prop} (h : pf_r08_Reached g g2 v R) (hO : ∀ k, O k → k < w.heap.size) (hA0 : (FP.sl c3 Ag lg cg g2).P O w) :
    Calls Try.prog 159 #[(.agg #[(.int .i64 g), (.slice Ag lg cg)]), (.int .i64 v)] w fun e w' => ∃ r2 Ar lr cr, e = .returned (.slice Ar lr cr) ∧ Sep w no O w' (rl [Res.own cB 4 Ar lr cr r2]) ∧ R r2 := by
  unfold pf_r08_Reached at h; have hS : Sep w no O w (rl [Res.ro (FP.sl c3 Ag lg cg g2)]) := Sep.startl hO [(FP.sl c3 Ag lg cg g2)] ⟨hA0, trivial⟩; refine calls_sh (l := [(.agg #[(.int .i64 g), (.slice Ag lg cg)]), (.int .i64 v)]) Try.func159 rfl Try.ntmps159 (Nat.le_of_ble_eq_true rfl) (wt_seq (wl_region wd_wide (zn (n_box (v := (.agg #[(.int .i64 g), (.slice Ag lg cg)])) rfl ?_)))); intro g3 w2 hN; replace hS : Sep w no O w2 (stl _ 1 (Res.box 24 g3 [(.int .i64 g), (.slice Ag lg cg)])) := hS.new 1 rfl hN; clear hN; refine ⟨Stb.none _, zq (za (.slice none 0 0)) (rl_end (wt_seq (wl_region wd_wide (zq (v_faddr rfl Try.underlying24 rfl info_3) (zq (v_load rfl Try.underlying3 rfl (Row.cell (hS.bx 1 rfl) (i := 0) rfl)) ?_)))))⟩; obtain ⟨hx, h⟩ := h; refine zn (n_make rfl rfl Try.underlying144 info_4 (by decide) rfl hx ?_); intro g4 w3 hN; replace hS := hS.made 2 rfl cB (.bool (false)) false (fun _ _ => rfl) hN (by omega); clear hN; refine ⟨Stb.none _, zq (za (.slice (some ⟨g4, 0, none⟩) g.toNat g.toNat)) (rl_end (wt_seq (wl_region wd_wide (zq (zm (.slice (some ⟨g4, 0, none⟩) g.toNat g.toNat)) (zq (zm (.int .i64 v)) ?_)))))⟩
  obtain ⟨hx2, h⟩ := h; refine zq (v_iaddr rfl rfl Try.underlying144 info_4 (rd_ix (hS.rdo 2 rfl) hx2)) (zo (zt (.bool (true)) info_4 (hS.wr 2 rfl rfl hx2) ?_)); intro w4 e1; replace hS := hS.st 2 rfl rfl hx2 (x := true) rfl e1; clear e1; refine ⟨Stb.none _, rl_end (wt_seq (wt_seq (wl_region wd_wide (zq (za (.int .i64 0)) (rl_end (wt_block ?_))))))⟩; obtain ⟨I2, ⟨m0, h0⟩, hr⟩ := h; refine wt_loop (fun m E ds w' => ∃ round out Aout lout cout, I2 m round out ∧ ds = [] ∧ E 2 = (Value.pointer (some (⟨g3, 0, none⟩ : Addr))) ∧ E 5 = (Value.slice Aout lout cout) ∧ E 6 = (Value.int .i64 round) ∧ Sep w no O w' (rl [Res.box 24 g3 [(.int .i64 g), (.slice Ag lg cg)], Res.ro (FP.sl c3 Ag lg cg g2), Res.own cB 4 Aout lout cout out])) m0 ⟨_, _, _, _, _, h0, rfl, rfl, rfl, rfl, (hS.sel [1, 0, 2] (by decide))⟩ ?_; clear h0 hS; rintro m2 E ds w5 ⟨round, out, Aout, lout, cout, h, rfl, hE2, hE5, hE6, hS⟩ again; replace h := hr m2 round out h; clear hr; refine wt_seq (wt_seq (wl_region wd_wide (zq (v_move hE6) (zq (v_faddr hE2 Try.underlying24 rfl info_3) (zq (v_load rfl Try.underlying3 rfl (Row.cell (hS.bx 0 rfl) (i := 0) rfl)) ?_)))))
  refine zq (v_lss rfl rfl) (rl_end ?_); by_cases hp : round < g
  · replace h := h.1 hp; refine zc hp (wt_skip (wt_seq (wt_block (wt_seq (wl_region wd_wide (zq (za (.int .i64 0)) (rl_end (wt_block ?_)))))))); obtain ⟨I3, ⟨m0, h0⟩, hr⟩ := h; refine wt_loop (fun m E ds w' => ∃ a out2 Aout2 lout2 cout2, I3 m a out2 ∧ ds = [] ∧ E 2 = (Value.pointer (some (⟨g3, 0, none⟩ : Addr))) ∧ E 5 = (Value.slice Aout2 lout2 cout2) ∧ E 6 = (Value.int .i64 round) ∧ E 7 = (Value.int .i64 a) ∧ Sep w no O w' (rl [Res.box 24 g3 [(.int .i64 g), (.slice Ag lg cg)], Res.ro (FP.sl c3 Ag lg cg g2), Res.own cB 4 Aout2 lout2 cout2 out2])) m0 ⟨_, _, _, _, _, h0, rfl, hE2, hE5, hE6, rfl, (hS.sel [0, 1, 2] (by decide))⟩ ?_; clear h0 hS; rintro m3 E ds w6 ⟨a, out2, Aout2, lout2, cout2, h, rfl, hE2, hE5, hE6, hE7, hS⟩ again2; replace h := hr m3 a out2 h; clear hr; refine wt_seq (wt_seq (wl_region wd_wide (zq (v_move hE7) (zq (v_faddr hE2 Try.underlying24 rfl info_3) (zq (v_load rfl Try.underlying3 rfl (Row.cell (hS.bx 0 rfl) (i := 0) rfl)) (zq (v_lss rfl rfl) (rl_end ?_))))))); by_cases hp2 : a < g
    · replace h := h.1 hp2; refine zc hp2 (wt_skip (wt_seq (wt_block (wt_seq (wl_region wd_wide (zq (za (.int .i64 0)) (rl_end (wt_block ?_)))))))); obtain ⟨I4, ⟨m0, h0⟩, hr⟩ := h; refine wt_loop (fun m E ds w' => ∃ b out3 Aout3 lout3 cout3, I4 m b out3 ∧ ds = [] ∧ E 2 = (Value.pointer (some (⟨g3, 0, none⟩ : Addr))) ∧ E 5 = (Value.slice Aout3 lout3 cout3) ∧ E 6 = (Value.int .i64 round) ∧ E 7 = (Value.int .i64 a) ∧ E 8 = (Value.int .i64 b) ∧ Sep w no O w' (rl [Res.box 24 g3 [(.int .i64 g), (.slice Ag lg cg)], Res.ro (FP.sl c3 Ag lg cg g2), Res.own cB 4 Aout3 lout3 cout3 out3])) m0 ⟨_, _, _, _, _, h0, rfl, hE2, hE5, hE6, hE7, rfl, (hS.sel [0, 1, 2] (by decide))⟩ ?_; clear h0 hS; rintro m4 E ds w7 ⟨b, out3, Aout3, lout3, cout3, h, rfl, hE2, hE5, hE6, hE7, hE8, hS⟩ again3; replace h := hr m4 b out3 h; clear hr; refine wt_seq (wt_seq (wl_region wd_wide (zq (v_move hE8) (zq (v_faddr hE2 Try.underlying24 rfl info_3) (zq (v_load rfl Try.underlying3 rfl (Row.cell (hS.bx 0 rfl) (i := 0) rfl)) (zq (v_lss rfl rfl) (rl_end ?_))))))); by_cases hp3 : b < g
      · replace h := h.1 hp3; refine zc hp3 (wt_skip (wt_seq (wt_block (wt_seq (wl_region wd_wide (zq (v_move hE5) (zq (v_move hE7) ?_))))))); obtain ⟨hx3, h⟩ := h; refine zq (v_iaddr rfl rfl Try.underlying144 info_4 (rd_ix (hS.rdo 2 rfl) hx3)) (zq (v_load (v := (.bool (gb out3 a.toNat))) rfl Try.underlying4 rfl (rd_1 (hS.rdo 2 rfl) hx3 (fun q => gb_some q) rfl)) ?_); refine zq (zm (.bool (gb out3 a.toNat))) ?_; by_cases hp4 : gb out3 a.toNat = true
        · replace h := h.1 hp4; refine rl_q (wanted_g rfl (yE_of rfl (congrArg Value.bool hp4))) rfl rfl (v_loadn (vs := [(.int .i64 g), (.slice Ag lg cg)]) hE2 Try.underlying24 rfl info_24 ⟨Row.cell (hS.bx 0 rfl) (i := 0) rfl, Row.cell (hS.bx 0 rfl) (i := 1) rfl, trivial⟩) (rl_q (wanted_g rfl (yE_of rfl (congrArg Value.bool hp4))) rfl rfl (v_move hE7) (rl_q (wanted_g rfl (yE_of rfl (congrArg Value.bool hp4))) rfl rfl (v_move hE8) (rl_n (wanted_g rfl (yE_of rfl (congrArg Value.bool hp4))) rfl rfl rfl (n_call0 rfl (am3 rfl rfl rfl) enter_129 ((pok_r08_Between h (no_lt _) (hS.rdr 1 rfl)).mono ?_))))); rintro _ w8 ⟨r, rfl, hC, h⟩; replace hS := hS.pur hC.pure; clear hC; refine ⟨_, rfl, ?_⟩; refine ⟨Stb.none _, rl_q (wanted_g rfl (yE_of rfl (congrArg Value.bool hp4))) rfl rfl (v_gtr rfl rfl) (zq (v_pick_t (v := (.bool (decide (0 < r)))) (congrArg Value.bool hp4) rfl) (rl_end ?_))⟩; by_cases hp5 : 0 < r
          · replace h := h.1 hp5; refine zc hp5 (wl_region wd_wide (zq (v_move hE5) (zq (v_move hE8) ?_))); obtain ⟨hx4, h⟩ := h; refine zq (v_iaddr rfl rfl Try.underlying144 info_4 (rd_ix (hS.rdo 2 rfl) hx4)) (zo (zt (.bool (true)) info_4 (hS.wr 2 rfl rfl hx4) ?_)); intro w9 e1; replace hS := hS.st 2 rfl rfl hx4 (x := true) rfl e1; clear e1; refine ⟨Stb.none _, rl_end (wt_inBlock (wl_region wd_wide (zq (v_move hE8) ?_)))⟩; obtain ⟨hi, h⟩ := h; refine zq (v_add rfl rfl hi) (zq (za (.int .i64 (b + 1))) (rl_end ?_)); obtain ⟨mq, hlt, h⟩ := h; exact again3 mq _ _ _ ⟨_, _, _, _, _, h, rfl, hE2, hE5, hE6, hE7, rfl, (hS.sel [0, 1, 2] (by decide))⟩ hlt
          · replace h := h.2 hp5; refine zd hp5 (wt_skip (wt_inBlock (wl_region wd_wide (zq (v_move hE8) ?_)))); obtain ⟨hi2, h⟩ := h; refine zq (v_add rfl rfl hi2) (zq (za (.int .i64 (b + 1))) (rl_end ?_)); obtain ⟨mq, hlt, h⟩ := h; exact again3 mq _ _ _ ⟨_, _, _, _, _, h, rfl, hE2, hE5, hE6, hE7, rfl, (hS.sel [0, 1, 2] (by decide))⟩ hlt
        · replace h := h.2 hp4; refine rl_p (wanted_n rfl (yE_of rfl (congrArg Value.bool (Bool.eq_false_iff.2 hp4))) rfl) rfl (rl_p (wanted_n rfl (yE_of rfl (congrArg Value.bool (Bool.eq_false_iff.2 hp4))) rfl) rfl (rl_p (wanted_n rfl (yE_of rfl (congrArg Value.bool (Bool.eq_false_iff.2 hp4))) rfl) rfl (rl_p (wanted_n rfl (yE_of rfl (congrArg Value.bool (Bool.eq_false_iff.2 hp4))) rfl) rfl (rl_p (wanted_n rfl (yE_of rfl (congrArg Value.bool (Bool.eq_false_iff.2 hp4))) rfl) rfl (zq (v_pick_f (v := (.bool (false))) (congrArg Value.bool (Bool.eq_false_iff.2 hp4)) rfl) (rl_end (wt_cond_f rfl (wt_skip (wt_inBlock (wl_region wd_wide (zq (v_move hE8) ?_))))))))))); obtain ⟨hi3, h⟩ := h; refine zq (v_add rfl rfl hi3) (zq (za (.int .i64 (b + 1))) (rl_end ?_)); obtain ⟨mq, hlt, h⟩ := h; exact again3 mq _ _ _ ⟨_, _, _, _, _, h, rfl, hE2, hE5, hE6, hE7, rfl, (hS.sel [0, 1, 2] (by decide))⟩ hlt
      · replace h := h.2 hp3; refine zd hp3 (wt_exit rfl (wt_inBlock (wl_region wd_wide (zq (v_move hE7) ?_)))); obtain ⟨hi4, h⟩ := h; refine zq (v_add rfl rfl hi4) (zq (za (.int .i64 (a + 1))) (rl_end ?_)); obtain ⟨mq, hlt, h⟩ := h; exact again2 mq _ _ _ ⟨_, _, _, _, _, h, rfl, hE2, hE5, hE6, rfl, (hS.sel [0, 1, 2] (by decide))⟩ hlt
    · replace h := h.2 hp2; refine zd hp2 (wt_exit rfl (wt_inBlock (wl_region wd_wide (zq (v_move hE6) ?_)))); obtain ⟨hi5, h⟩ := h; refine zq (v_add rfl rfl hi5) (zq (za (.int .i64 (round + 1))) (rl_end ?_)); obtain ⟨mq, hlt, h⟩ := h; exact again mq _ _ _ ⟨_, _, _, _, _, h, rfl, hE2, hE5, rfl, (hS.sel [0, 1, 2] (by decide))⟩ hlt
  · replace h := h.2 hp; exact zd hp (wt_exit rfl (wt_seq (wl_region wd_wide (zq (v_move hE5) (zq (za (.slice Aout lout cout)) (rl_end (wt_ret1 rfl rfl ⟨_, _, _, _, rfl, (hS.sel [2] (by decide)), h⟩)))))))

/-- sandpile/sandpileref08.Parts: what it computes. -/
def pf_r08_Parts (g : Int) (g2 : List E3) (R : Int → Prop) : Prop :=
((0 ≤ g ∧ g ≤ 1000000) ∧
(∃ I2 : Nat → Int → Int → (List Bool) → Prop, (∃ m0, I2 m0 0 0 (List.replicate g.toNat false)) ∧ ∀ m2 n v seen, I2 m2 n v seen → 
((v < g →
((0 ≤ v ∧ v < ((seen.length : Nat) : Int)) ∧
((gb seen v.toNat = true →
(In64 (v + 1) ∧
∃ m3, m3 < m2 ∧ I2 m3 n (v + 1) seen)) ∧
(¬ (gb seen v.toNat = true) →
(In64 (n + 1) ∧
pf_r08_Reached g g2 v (fun r =>
(∃ I3 : Nat → Int → (List Bool) → Prop, (∃ m0, I3 m0 0 seen) ∧ ∀ m4 u seen2, I3 m4 u seen2 → 
((u < g →
((0 ≤ u ∧ u < ((seen2.length : Nat) : Int)) ∧
((gb seen2 u.toNat = true →
(In64 (u + 1) ∧
∃ m5, m5 < m4 ∧ I3 m5 (u + 1) (seen2.set u.toNat true))) ∧
(¬ (gb seen2 u.toNat = true) →
((0 ≤ u ∧ u < ((r.length : Nat) : Int)) ∧
(In64 (u + 1) ∧
∃ m6, m6 < m4 ∧ I3 m6 (u + 1) (seen2.set u.toNat (gb r u.toNat)))))))) ∧
(¬ (u < g) →
(In64 (v + 1) ∧
∃ m7, m7 < m2 ∧ I2 m7 (n + 1) (v + 1) seen2)))))))))) ∧
(¬ (v < g) →
R n))))
theorem pok_r08_Parts {O : Nat → Prop} {w : World} {g g2 Ag lg cg} {R : Int → Prop} (h : pf_r08_Parts g g2 R) (hO : ∀ k, O k → k < w.heap.size) (hA0 : (FP.sl c3 Ag lg cg g2).P O w) :
    Calls Try.prog 131 #[(.agg #[(.int .i64 g), (.slice Ag lg cg)])] w fun e w' => ∃ r2, e = .returned (.int .i64 r2) ∧ Sep w no O w' (rl []) ∧ R r2 := by
  unfold pf_r08_Parts at h; have hS : Sep w no O w (rl [Res.ro (FP.sl c3 Ag lg cg g2)]) := Sep.startl hO [(FP.sl c3 Ag lg cg g2)] ⟨hA0, trivial⟩; refine calls_sh (l := [(.agg #[(.int .i64 g), (.slice Ag lg cg)])]) Try.func131 rfl Try.ntmps131 (Nat.le_of_ble_eq_true rfl) (wt_seq (wl_region wd_wide (zn (n_box (v := (.agg #[(.int .i64 g), (.slice Ag lg cg)])) rfl ?_)))); intro g3 w2 hN; replace hS : Sep w no O w2 (stl _ 1 (Res.box 24 g3 [(.int .i64 g), (.slice Ag lg cg)])) := hS.new 1 rfl hN; clear hN; refine ⟨Stb.none _, zq (za (.int .i64 0)) (rl_end (wt_seq (wl_region wd_wide (zq (za (.int .i64 0)) (rl_end (wt_seq (wl_region wd_wide (zq (v_faddr rfl Try.underlying24 rfl info_3) (zq (v_load rfl Try.underlying3 rfl (Row.cell (hS.bx 1 rfl) (i := 0) rfl)) ?_)))))))))⟩; obtain ⟨hx, h⟩ := h; refine zn (n_make rfl rfl Try.underlying144 info_4 (by decide) rfl hx ?_); intro g4 w3 hN; replace hS := hS.made 2 rfl cB (.bool (false)) false (fun _ _ => rfl) hN (by omega); clear hN; refine ⟨Stb.none _, zq (za (.slice (some ⟨g4, 0, none⟩) g.toNat g.toNat)) (rl_end (wt_seq (wt_seq (wl_region wd_wide ?_))))⟩
  refine zq (za (.int .i64 0)) (rl_end (wt_block ?_)); obtain ⟨I2, ⟨m0, h0⟩, hr⟩ := h; refine wt_loop (fun m E ds w' => ∃ n v seen Aseen lseen cseen, I2 m n v seen ∧ ds = [] ∧ E 1 = (Value.pointer (some (⟨g3, 0, none⟩ : Addr))) ∧ E 3 = (Value.int .i64 n) ∧ E 4 = (Value.slice Aseen lseen cseen) ∧ E 5 = (Value.int .i64 v) ∧ Sep w no O w' (rl [Res.box 24 g3 [(.int .i64 g), (.slice Ag lg cg)], Res.ro (FP.sl c3 Ag lg cg g2), Res.own cB 4 Aseen lseen cseen seen])) m0 ⟨_, _, _, _, _, _, h0, rfl, rfl, rfl, rfl, rfl, (hS.sel [1, 0, 2] (by decide))⟩ ?_; clear h0 hS; rintro m2 E ds w4 ⟨n, v, seen, Aseen, lseen, cseen, h, rfl, hE1, hE3, hE4, hE5, hS⟩ again; replace h := hr m2 n v seen h; clear hr; refine wt_seq (wt_seq (wl_region wd_wide (zq (v_move hE5) (zq (v_faddr hE1 Try.underlying24 rfl info_3) (zq (v_load rfl Try.underlying3 rfl (Row.cell (hS.bx 0 rfl) (i := 0) rfl)) (zq (v_lss rfl rfl) (rl_end ?_))))))); by_cases hp : v < g
  · replace h := h.1 hp; refine zc hp (wt_skip (wt_seq (wt_block (wt_seq (wt_seq (wl_region wd_wide (zq (v_move hE4) (zq (v_move hE5) ?_)))))))); obtain ⟨hx2, h⟩ := h; refine zq (v_iaddr rfl rfl Try.underlying144 info_4 (rd_ix (hS.rdo 2 rfl) hx2)) (zq (v_load (v := (.bool (gb seen v.toNat))) rfl Try.underlying4 rfl (rd_1 (hS.rdo 2 rfl) hx2 (fun q => gb_some q) rfl)) ?_); refine rl_end ?_; by_cases hp2 : gb seen v.toNat = true
    · replace h := h.1 hp2; refine wt_cond_t (congrArg Value.bool hp2) (wt_exit rfl (wl_region wd_wide (zq (v_move hE5) ?_))); obtain ⟨hi, h⟩ := h; refine zq (v_add rfl rfl hi) (zq (za (.int .i64 (v + 1))) (rl_end ?_)); obtain ⟨mq, hlt, h⟩ := h; exact again mq _ _ _ ⟨_, _, _, _, _, _, h, rfl, hE1, hE3, hE4, rfl, (hS.sel [0, 1, 2] (by decide))⟩ hlt
    · replace h := h.2 hp2; refine wt_cond_f (congrArg Value.bool (Bool.eq_false_iff.2 hp2)) (wt_skip (wt_seq (wl_region wd_wide (zq (v_move hE3) ?_)))); obtain ⟨hi2, h⟩ := h; refine zq (v_add rfl rfl hi2) (zq (za (.int .i64 (n + 1))) (rl_end (wt_seq (wl_region wd_wide (zq (v_loadn (vs := [(.int .i64 g), (.slice Ag lg cg)]) hE1 Try.underlying24 rfl info_24 ⟨Row.cell (hS.bx 0 rfl) (i := 0) rfl, Row.cell (hS.bx 0 rfl) (i := 1) rfl, trivial⟩) (zq (v_move hE5) (zn (n_call0 rfl (am2 rfl rfl) enter_159 ((pok_r08_Reached h (no_lt _) (hS.rdr 1 rfl)).mono ?_))))))))); rintro _ w5 ⟨r, Ar, lr, cr, rfl, hC, h⟩; replace hS := hS.call1 (hC.widen (flatS (flat_own fB _ _ _ _ _) flat0) hS.blt) 3 0 rfl; clear hC; refine ⟨_, rfl, ?_⟩; refine ⟨Stb.none _, zq (za (.slice Ar lr cr)) (rl_end (wt_seq (wl_region wd_wide (zq (za (.int .i64 0)) (rl_end (wt_block ?_))))))⟩; obtain ⟨I3, ⟨m0, h0⟩, hr⟩ := h
      refine wt_loop (fun m E ds w' => ∃ u seen2 Aseen2 lseen2 cseen2, I3 m u seen2 ∧ ds = [] ∧ E 1 = (Value.pointer (some (⟨g3, 0, none⟩ : Addr))) ∧ E 3 = (Value.int .i64 (n + 1)) ∧ E 4 = (Value.slice Aseen2 lseen2 cseen2) ∧ E 5 = (Value.int .i64 v) ∧ E 6 = (Value.slice Ar lr cr) ∧ E 7 = (Value.int .i64 u) ∧ Sep w no O w' (rl [Res.box 24 g3 [(.int .i64 g), (.slice Ag lg cg)], Res.ro (FP.sl c3 Ag lg cg g2), Res.own cB 4 Aseen2 lseen2 cseen2 seen2, Res.own cB 4 Ar lr cr r])) m0 ⟨_, _, _, _, _, h0, rfl, hE1, rfl, hE4, hE5, rfl, rfl, (hS.sel [0, 1, 2, 3] (by decide))⟩ ?_; clear h0 hS; rintro m4 E ds w6 ⟨u, seen2, Aseen2, lseen2, cseen2, h, rfl, hE1, hE3, hE4, hE5, hE6, hE7, hS⟩ again2; replace h := hr m4 u seen2 h; clear hr; refine wt_seq (wt_seq (wl_region wd_wide (zq (v_move hE7) (zq (v_faddr hE1 Try.underlying24 rfl info_3) (zq (v_load rfl Try.underlying3 rfl (Row.cell (hS.bx 0 rfl) (i := 0) rfl)) (zq (v_lss rfl rfl) (rl_end ?_))))))); by_cases hp3 : u < g
      · replace h := h.1 hp3; refine zc hp3 (wt_skip (wt_seq (wt_block (wl_region wd_wide (zq (v_move hE4) (zq (v_move hE7) (zq (v_move hE4) (zq (v_move hE7) ?_)))))))); obtain ⟨hx3, h⟩ := h; refine zq (v_iaddr rfl rfl Try.underlying144 info_4 (rd_ix (hS.rdo 2 rfl) hx3)) (zq (v_load (v := (.bool (gb seen2 u.toNat))) rfl Try.underlying4 rfl (rd_1 (hS.rdo 2 rfl) hx3 (fun q => gb_some q) rfl)) ?_); refine zq (zm (.bool (gb seen2 u.toNat))) ?_; by_cases hp4 : gb seen2 u.toNat = true
        · replace h := h.1 hp4; refine rl_p (wanted_n rfl (yE_of rfl (congrArg Value.bool hp4)) rfl) rfl (rl_p (wanted_n rfl (yE_of rfl (congrArg Value.bool hp4)) rfl) rfl (rl_p (wanted_n rfl (yE_of rfl (congrArg Value.bool hp4)) rfl) rfl (rl_p (wanted_n rfl (yE_of rfl (congrArg Value.bool hp4)) rfl) rfl (zq (v_pick_t (v := (.bool (true))) (congrArg Value.bool hp4) rfl) (zq (v_iaddr rfl rfl Try.underlying144 info_4 (rd_ix (hS.rdo 2 rfl) hx3)) (zo (zt (.bool (true)) info_4 (hS.wr 2 rfl rfl hx3) ?_))))))); intro w7 e1; replace hS := hS.st 2 rfl rfl hx3 (x := true) rfl e1; clear e1; refine ⟨Stb.none _, rl_end (wt_inBlock (wl_region wd_wide (zq (v_move hE7) ?_)))⟩; obtain ⟨hi3, h⟩ := h; refine zq (v_add rfl rfl hi3) (zq (za (.int .i64 (u + 1))) (rl_end ?_)); obtain ⟨mq, hlt, h⟩ := h; exact again2 mq _ _ _ ⟨_, _, _, _, _, h, rfl, hE1, hE3, hE4, hE5, hE6, rfl, (hS.sel [0, 1, 2, 3] (by decide))⟩ hlt
        · replace h := h.2 hp4; refine rl_q (wanted_g rfl (yE_of rfl (congrArg Value.bool (Bool.eq_false_iff.2 hp4)))) rfl rfl (v_move hE6) (rl_q (wanted_g rfl (yE_of rfl (congrArg Value.bool (Bool.eq_false_iff.2 hp4)))) rfl rfl (v_move hE7) ?_); obtain ⟨hx4, h⟩ := h; refine rl_q (wanted_g rfl (yE_of rfl (congrArg Value.bool (Bool.eq_false_iff.2 hp4)))) rfl rfl (v_iaddr rfl rfl Try.underlying144 info_4 (rd_ix (hS.rdo 3 rfl) hx4)) (rl_q (wanted_g rfl (yE_of rfl (congrArg Value.bool (Bool.eq_false_iff.2 hp4)))) rfl rfl (v_load (v := (.bool (gb r u.toNat))) rfl Try.underlying4 rfl (rd_1 (hS.rdo 3 rfl) hx4 (fun q => gb_some q) rfl)) ?_); refine zq (v_pick_f (v := (.bool (gb r u.toNat))) (congrArg Value.bool (Bool.eq_false_iff.2 hp4)) rfl) (zq (v_iaddr rfl rfl Try.underlying144 info_4 (rd_ix (hS.rdo 2 rfl) hx3)) (zo (zt (.bool (gb r u.toNat)) info_4 (hS.wr 2 rfl rfl hx3) ?_))); intro w8 e1; replace hS := hS.st 2 rfl rfl hx3 (x := gb r u.toNat) rfl e1; clear e1; refine ⟨Stb.none _, rl_end (wt_inBlock (wl_region wd_wide (zq (v_move hE7) ?_)))⟩; obtain ⟨hi4, h⟩ := h; refine zq (v_add rfl rfl hi4) (zq (za (.int .i64 (u + 1))) (rl_end ?_)); obtain ⟨mq, hlt, h⟩ := h
          exact again2 mq _ _ _ ⟨_, _, _, _, _, h, rfl, hE1, hE3, hE4, hE5, hE6, rfl, (hS.sel [0, 1, 2, 3] (by decide))⟩ hlt
      · replace h := h.2 hp3; refine zd hp3 (wt_exit rfl (wt_inBlock (wl_region wd_wide (zq (v_move hE5) ?_)))); obtain ⟨hi5, h⟩ := h; refine zq (v_add rfl rfl hi5) (zq (za (.int .i64 (v + 1))) (rl_end ?_)); obtain ⟨mq, hlt, h⟩ := h; exact again mq _ _ _ ⟨_, _, _, _, _, _, h, rfl, hE1, hE3, hE4, rfl, (hS.sel [0, 1, 2] (by decide))⟩ hlt
  · replace h := h.2 hp; exact zd hp (wt_exit rfl (wt_seq (wl_region wd_wide (zq (v_move hE3) (zq (za (.int .i64 n)) (rl_end (wt_ret1 rfl rfl ⟨_, rfl, (hS.sel [] (by decide)), h⟩)))))))

/-- sandpile/sandpileref08.Connected: what it computes. -/
def pf_r08_Connected (g : Int) (g2 : List E3) (R : Bool → Prop) : Prop :=
pf_r08_Parts g g2 (fun r =>
R (decide (r = 1)))
theorem pok_r08_Connected {O : Nat → Prop} {w : World} {g g2 Ag lg cg} {R : Bool → Prop} (h : pf_r08_Connected g g2 R) (hO : ∀ k, O k → k < w.heap.size) (hA0 : (FP.sl c3 Ag lg cg g2).P O w) :
    Calls Try.prog 92 #[(.agg #[(.int .i64 g), (.slice Ag lg cg)])] w fun e w' => ∃ r2, e = .returned (.bool (r2)) ∧ Sep w no O w' (rl []) ∧ R r2 := by
  unfold pf_r08_Connected at h; have hS : Sep w no O w (rl [Res.ro (FP.sl c3 Ag lg cg g2)]) := Sep.startl hO [(FP.sl c3 Ag lg cg g2)] ⟨hA0, trivial⟩; refine calls_sh (l := [(.agg #[(.int .i64 g), (.slice Ag lg cg)])]) Try.func92 rfl Try.ntmps92 (Nat.le_of_ble_eq_true rfl) (wt_seq (wl_region wd_wide (zn (n_box (v := (.agg #[(.int .i64 g), (.slice Ag lg cg)])) rfl ?_)))); intro g3 w2 hN; replace hS : Sep w no O w2 (stl _ 1 (Res.box 24 g3 [(.int .i64 g), (.slice Ag lg cg)])) := hS.new 1 rfl hN; clear hN; refine ⟨Stb.none _, zq (za (.bool (false))) (rl_end (wt_seq (wl_region wd_wide (zq (v_loadn (vs := [(.int .i64 g), (.slice Ag lg cg)]) rfl Try.underlying24 rfl info_24 ⟨Row.cell (hS.bx 1 rfl) (i := 0) rfl, Row.cell (hS.bx 1 rfl) (i := 1) rfl, trivial⟩) (zn (n_call0 rfl (am1 rfl) enter_131 ((pok_r08_Parts h (no_lt _) (hS.rdr 0 rfl)).mono ?_)))))))⟩; rintro _ w3 ⟨r, rfl, hC, h⟩; replace hS := hS.pur hC.pure; clear hC; refine ⟨_, rfl, ?_⟩; exact ⟨Stb.none _, zq (v_eql rfl rfl) (zq (za (.bool (decide (r = 1)))) (rl_end (wt_ret1 rfl rfl ⟨_, rfl, (hS.sel [] (by decide)), h⟩)))⟩

/-- sandpile/sandpileref25.Joined: what it computes. -/
def pf_r25_Joined (g : Int) (g2 : List E3) (R : Int → Prop) : Prop :=
pf_r08_Check g g2 (fun r =>
((r = 0 →
pf_r08_Connected g g2 (fun r2 =>
((r2 = true →
R 0) ∧
(¬ (r2 = true) →
R 13)))) ∧
(¬ (r = 0) →
R r)))
theorem pok_r25_Joined {O : Nat → Prop} {w : World} {g g2 Ag lg cg} {R : Int → Prop} (h : pf_r25_Joined g g2 R) (hO : ∀ k, O k → k < w.heap.size) (hA0 : (FP.sl c3 Ag lg cg g2).P O w) :
    Calls Try.prog 51 #[(.agg #[(.int .i64 g), (.slice Ag lg cg)])] w fun e w' => ∃ r3, e = .returned (.int .i64 r3) ∧ Sep w no O w' (rl []) ∧ R r3 := by
  unfold pf_r25_Joined at h; have hS : Sep w no O w (rl [Res.ro (FP.sl c3 Ag lg cg g2)]) := Sep.startl hO [(FP.sl c3 Ag lg cg g2)] ⟨hA0, trivial⟩; refine calls_sh (l := [(.agg #[(.int .i64 g), (.slice Ag lg cg)])]) Try.func51 rfl Try.ntmps51 (Nat.le_of_ble_eq_true rfl) (wt_seq (wl_region wd_wide (zn (n_box (v := (.agg #[(.int .i64 g), (.slice Ag lg cg)])) rfl ?_)))); intro g3 w2 hN; replace hS : Sep w no O w2 (stl _ 1 (Res.box 24 g3 [(.int .i64 g), (.slice Ag lg cg)])) := hS.new 1 rfl hN; clear hN; refine ⟨Stb.none _, zq (za (.int .i64 0)) (rl_end (wt_seq (wt_seq (wl_region wd_wide (zq (v_loadn (vs := [(.int .i64 g), (.slice Ag lg cg)]) rfl Try.underlying24 rfl info_24 ⟨Row.cell (hS.bx 1 rfl) (i := 0) rfl, Row.cell (hS.bx 1 rfl) (i := 1) rfl, trivial⟩) (zn (n_call0 rfl (am1 rfl) enter_91 ((pok_r08_Check h (no_lt _) (hS.rdr 0 rfl)).mono ?_))))))))⟩; rintro _ w3 ⟨r, rfl, hC, h⟩; replace hS := hS.pur hC.pure; clear hC; refine ⟨_, rfl, ?_⟩; refine ⟨Stb.none _, zq (za (.int .i64 r)) (rl_end (wt_seq (wl_region wd_wide (zq (zm (.int .i64 r)) (zq (v_neq rfl rfl) (rl_end ?_))))))⟩; by_cases hp : r = 0
  · replace h := h.1 hp; refine ze hp (wt_skip (wt_seq (wt_seq (wl_region wd_wide (zq (v_loadn (vs := [(.int .i64 g), (.slice Ag lg cg)]) rfl Try.underlying24 rfl info_24 ⟨Row.cell (hS.bx 1 rfl) (i := 0) rfl, Row.cell (hS.bx 1 rfl) (i := 1) rfl, trivial⟩) (zn (n_call0 rfl (am1 rfl) enter_92 ((pok_r08_Connected h (no_lt _) (hS.rdr 0 rfl)).mono ?_)))))))); rintro _ w4 ⟨r2, rfl, hC, h⟩; replace hS := hS.pur hC.pure; clear hC; refine ⟨_, rfl, ?_⟩; refine ⟨Stb.none _, zq (v_not rfl) (rl_end ?_)⟩; by_cases hp2 : r2 = true
    · replace h := h.1 hp2; exact wt_cond_f (congrArg Value.bool (congrArg Bool.not hp2)) (wt_skip (wt_seq (wl_region wd_wide (zq (za (.int .i64 0)) (rl_end (wt_ret1 rfl rfl ⟨_, rfl, (hS.sel [] (by decide)), h⟩))))))
    · replace h := h.2 hp2; exact wt_cond_t (congrArg Value.bool (congrArg Bool.not (Bool.eq_false_iff.2 hp2))) (wt_seq (wl_region wd_wide (zq (za (.int .i64 13)) (rl_end (wt_ret1 rfl rfl ⟨_, rfl, (hS.sel [] (by decide)), h⟩)))))
  · replace h := h.2 hp; exact zf hp (wt_seq (wl_region wd_wide (zq (zm (.int .i64 r)) (zq (za (.int .i64 r)) (rl_end (wt_ret1 rfl rfl ⟨_, rfl, (hS.sel [] (by decide)), h⟩))))))

/-- sandpile/sandpileref34.Low: what it computes. -/
def pf_r34_Low (g : Int) (g2 : List E3) (d : List Int) (R : Bool → Prop) : Prop :=
((100 < ((d.length : Nat) : Int) →
R false) ∧
(¬ (100 < ((d.length : Nat) : Int)) →
pf_r17_Check d g (fun r =>
((r = 0 →
(∃ I2 : Nat → Int → Prop, (∃ m0, I2 m0 0) ∧ ∀ m2 i, I2 m2 i → 
((i < ((d.length : Nat) : Int) →
((0 ≤ i ∧ i < ((d.length : Nat) : Int)) ∧
(((gi d i.toNat) < (-100) →
R false) ∧
(¬ ((gi d i.toNat) < (-100)) →
((100 < (gi d i.toNat) →
R false) ∧
(¬ (100 < (gi d i.toNat)) →
(In64 (i + 1) ∧
∃ m3, m3 < m2 ∧ I2 m3 (i + 1)))))))) ∧
(¬ (i < ((d.length : Nat) : Int)) →
R true)))) ∧
(¬ (r = 0) →
R true)))))
theorem pok_r34_Low {O : Nat → Prop} {w : World} {g g2 d Ag lg cg Ad ld cd} {R : Bool → Prop} (h : pf_r34_Low g g2 d R) (hO : ∀ k, O k → k < w.heap.size) (hA0 : (FP.sl c3 Ag lg cg g2).P O w) (hA1 : (FP.sl cI Ad ld cd d).P O w) :
    Calls Try.prog 43 #[(.agg #[(.int .i64 g), (.slice Ag lg cg)]), (.slice Ad ld cd)] w fun e w' => ∃ r2, e = .returned (.bool (r2)) ∧ Sep w no O w' (rl []) ∧ R r2 := by
  unfold pf_r34_Low at h; have hS : Sep w no O w (rl [Res.ro (FP.sl c3 Ag lg cg g2), Res.ro (FP.sl cI Ad ld cd d)]) := Sep.startl hO [(FP.sl c3 Ag lg cg g2), (FP.sl cI Ad ld cd d)] ⟨hA0, hA1, trivial⟩; refine calls_sh (l := [(.agg #[(.int .i64 g), (.slice Ag lg cg)]), (.slice Ad ld cd)]) Try.func43 rfl Try.ntmps43 (Nat.le_of_ble_eq_true rfl) (wt_seq (wl_region wd_wide (zn (n_box (v := (.agg #[(.int .i64 g), (.slice Ag lg cg)])) rfl ?_)))); intro g3 w2 hN; replace hS : Sep w no O w2 (stl _ 2 (Res.box 24 g3 [(.int .i64 g), (.slice Ag lg cg)])) := hS.new 2 rfl hN; clear hN; refine ⟨Stb.none _, zq (za (.bool (false))) (rl_end (wt_seq (wt_seq (wl_region wd_wide (zq (zm (.slice Ad ld cd)) (zq (v_lenx (n := d.length) rfl Try.underlying25 (rd_len (hS.rdr 1 rfl))) (zq (v_gtr rfl rfl) (rl_end ?_))))))))⟩; by_cases hp : 100 < ((d.length : Nat) : Int)
  · replace h := h.1 hp; exact zc hp (wt_seq (wl_region wd_wide (zq (za (.bool (false))) (rl_end (wt_ret1 rfl rfl ⟨_, rfl, (hS.sel [] (by decide)), h⟩)))))
  · replace h := h.2 hp; refine zd hp (wt_skip (wt_seq (wt_seq (wl_region wd_wide (zq (zm (.slice Ad ld cd)) (zq (v_faddr rfl Try.underlying24 rfl info_3) (zq (v_load rfl Try.underlying3 rfl (Row.cell (hS.bx 2 rfl) (i := 0) rfl)) (zn (n_call0 rfl (am2 rfl rfl) enter_31 ((pok_r17_Check h (no_lt _) (hS.rdr 1 rfl)).mono ?_)))))))))); rintro _ w3 ⟨r, rfl, hC, h⟩; replace hS := hS.pur hC.pure; clear hC; refine ⟨_, rfl, ?_⟩; refine ⟨Stb.none _, zq (v_neq rfl rfl) (rl_end ?_)⟩; by_cases hp2 : r = 0
    · replace h := h.1 hp2; refine ze hp2 (wt_skip (wt_seq (wt_seq (wl_region wd_wide (zq (za (.int .i64 0)) (rl_end (wt_block ?_))))))); obtain ⟨I2, ⟨m0, h0⟩, hr⟩ := h; refine wt_loop (fun m E ds w' => ∃ i, I2 m i ∧ ds = [] ∧ E 1 = (Value.slice Ad ld cd) ∧ E 5 = (Value.int .i64 i) ∧ Sep w no O w' (rl [Res.ro (FP.sl cI Ad ld cd d)])) m0 ⟨_, h0, rfl, rfl, rfl, (hS.sel [1] (by decide))⟩ ?_; clear h0 hS; rintro m2 E ds w4 ⟨i, h, rfl, hE1, hE5, hS⟩ again; replace h := hr m2 i h; clear hr; refine wt_seq (wt_seq (wl_region wd_wide (zq (v_move hE5) (zq (v_move hE1) (zq (v_lenx (n := d.length) rfl Try.underlying25 (rd_len (hS.rdr 0 rfl))) (zq (v_lss rfl rfl) (rl_end ?_))))))); by_cases hp3 : i < ((d.length : Nat) : Int)
      · replace h := h.1 hp3; refine zc hp3 (wt_skip (wt_seq (wt_block (wt_seq (wl_region wd_wide (zq (v_move hE1) (zq (v_move hE5) ?_))))))); obtain ⟨hx, h⟩ := h; refine zq (v_iaddr rfl rfl Try.underlying25 info_3 (rd_ix (hS.rdr 0 rfl) hx)) (zq (v_load (v := (.int .i64 (gi d i.toNat))) rfl Try.underlying3 rfl (rd_1 (hS.rdr 0 rfl) hx (fun q => gi_some q) rfl)) ?_); refine zq (v_lss rfl rfl) (zq (zm (.bool (decide ((gi d i.toNat) < (-100))))) ?_); by_cases hp4 : (gi d i.toNat) < (-100)
        · replace h := h.1 hp4; exact rl_p (wanted_n rfl (yE_of rfl (congrArg Value.bool (decide_eq_true hp4))) rfl) rfl (rl_p (wanted_n rfl (yE_of rfl (congrArg Value.bool (decide_eq_true hp4))) rfl) rfl (rl_p (wanted_n rfl (yE_of rfl (congrArg Value.bool (decide_eq_true hp4))) rfl) rfl (rl_p (wanted_n rfl (yE_of rfl (congrArg Value.bool (decide_eq_true hp4))) rfl) rfl (rl_p (wanted_n rfl (yE_of rfl (congrArg Value.bool (decide_eq_true hp4))) rfl) rfl (zq (v_pick_t (v := (.bool (true))) (congrArg Value.bool (decide_eq_true hp4)) rfl) (rl_end (wt_cond_t rfl (wt_seq (wl_region wd_wide (zq (za (.bool (false))) (rl_end (wt_ret1 rfl rfl ⟨_, rfl, (hS.sel [] (by decide)), h⟩))))))))))))
        · replace h := h.2 hp4; refine rl_q (wanted_g rfl (yE_of rfl (congrArg Value.bool (decide_eq_false hp4)))) rfl rfl (v_move hE1) (rl_q (wanted_g rfl (yE_of rfl (congrArg Value.bool (decide_eq_false hp4)))) rfl rfl (v_move hE5) (rl_q (wanted_g rfl (yE_of rfl (congrArg Value.bool (decide_eq_false hp4)))) rfl rfl (v_iaddr rfl rfl Try.underlying25 info_3 (rd_ix (hS.rdr 0 rfl) hx)) (rl_q (wanted_g rfl (yE_of rfl (congrArg Value.bool (decide_eq_false hp4)))) rfl rfl (v_load (v := (.int .i64 (gi d i.toNat))) rfl Try.underlying3 rfl (rd_1 (hS.rdr 0 rfl) hx (fun q => gi_some q) rfl)) ?_))); refine rl_q (wanted_g rfl (yE_of rfl (congrArg Value.bool (decide_eq_false hp4)))) rfl rfl (v_gtr rfl rfl) (zq (v_pick_f (v := (.bool (decide (100 < (gi d i.toNat))))) (congrArg Value.bool (decide_eq_false hp4)) rfl) (rl_end ?_)); by_cases hp5 : 100 < (gi d i.toNat)
          · replace h := h.1 hp5; exact zc hp5 (wt_seq (wl_region wd_wide (zq (za (.bool (false))) (rl_end (wt_ret1 rfl rfl ⟨_, rfl, (hS.sel [] (by decide)), h⟩)))))
          · replace h := h.2 hp5; refine zd hp5 (wt_skip (wt_inBlock (wl_region wd_wide (zq (v_move hE5) ?_)))); obtain ⟨hi, h⟩ := h; refine zq (v_add rfl rfl hi) (zq (za (.int .i64 (i + 1))) (rl_end ?_)); obtain ⟨mq, hlt, h⟩ := h; exact again mq _ _ _ ⟨_, h, rfl, hE1, rfl, (hS.sel [0] (by decide))⟩ hlt
      · replace h := h.2 hp3; exact zd hp3 (wt_exit rfl (wt_seq (wl_region wd_wide (zq (za (.bool (true))) (rl_end (wt_ret1 rfl rfl ⟨_, rfl, (hS.sel [] (by decide)), h⟩))))))
    · replace h := h.2 hp2; exact zf hp2 (wt_seq (wl_region wd_wide (zq (za (.bool (true))) (rl_end (wt_ret1 rfl rfl ⟨_, rfl, (hS.sel [] (by decide)), h⟩)))))

/-- sandpile/sandpileref25.Plus: what it computes. -/
def pf_r25_Plus (a : List Int) (b : List Int) (k : Int) (R : (List Int) → Prop) : Prop :=
((0 ≤ ((a.length : Nat) : Int) ∧ ((a.length : Nat) : Int) ≤ 1000000) ∧
(∃ I2 : Nat → Int → (List Int) → Prop, (∃ m0, I2 m0 0 (List.replicate ((a.length : Nat) : Int).toNat (0 : Int))) ∧ ∀ m2 i out, I2 m2 i out → 
((i < ((a.length : Nat) : Int) →
((0 ≤ i ∧ i < ((a.length : Nat) : Int)) ∧
((0 ≤ i ∧ i < ((b.length : Nat) : Int)) ∧
(In64 (k * (gi b i.toNat)) ∧
(In64 ((gi a i.toNat) + (k * (gi b i.toNat))) ∧
((0 ≤ i ∧ i < ((out.length : Nat) : Int)) ∧
(In64 (i + 1) ∧
∃ m3, m3 < m2 ∧ I2 m3 (i + 1) (out.set i.toNat ((gi a i.toNat) + (k * (gi b i.toNat))))))))))) ∧
(¬ (i < ((a.length : Nat) : Int)) →
R out))))
theorem pok_r25_Plus {O : Nat → Prop} {w : World} {a b k Aa la ca Ab lb cb} {R : (List Int) → Prop} (h : pf_r25_Plus a b k R) (hO : ∀ k, O k → k < w.heap.size) (hA0 : (FP.sl cI Aa la ca a).P O w) (hA1 : (FP.sl cI Ab lb cb b).P O w) :
    Calls Try.prog 64 #[(.slice Aa la ca), (.slice Ab lb cb), (.int .i64 k)] w fun e w' => ∃ r Ar lr cr, e = .returned (.slice Ar lr cr) ∧ Sep w no O w' (rl [Res.own cI 3 Ar lr cr r]) ∧ R r := by
  unfold pf_r25_Plus at h; have hS : Sep w no O w (rl [Res.ro (FP.sl cI Aa la ca a), Res.ro (FP.sl cI Ab lb cb b)]) := Sep.startl hO [(FP.sl cI Aa la ca a), (FP.sl cI Ab lb cb b)] ⟨hA0, hA1, trivial⟩; refine calls_sh (l := [(.slice Aa la ca), (.slice Ab lb cb), (.int .i64 k)]) Try.func64 rfl Try.ntmps64 (Nat.le_of_ble_eq_true rfl) (wt_seq (wl_region wd_wide (zq (za (.slice none 0 0)) (rl_end (wt_seq (wl_region wd_wide (zq (zm (.slice Aa la ca)) (zq (v_lenx (n := a.length) rfl Try.underlying25 (rd_len (hS.rdr 0 rfl))) ?_)))))))); obtain ⟨hx, h⟩ := h; refine zn (n_make rfl rfl Try.underlying25 info_3 (by decide) rfl hx ?_); intro g w2 hN; replace hS := hS.made 2 rfl cI (.int .i64 0) (0 : Int) (fun _ _ => rfl) hN (by omega); clear hN; refine ⟨Stb.none _, zq (za (.slice (some ⟨g, 0, none⟩) (((a.length : Nat) : Int).toNat) (((a.length : Nat) : Int).toNat))) (rl_end (wt_seq (wt_seq (wl_region wd_wide (zq (za (.int .i64 0)) (rl_end (wt_block ?_)))))))⟩; obtain ⟨I2, ⟨m0, h0⟩, hr⟩ := h
  refine wt_loop (fun m E ds w' => ∃ i out Aout lout cout, I2 m i out ∧ ds = [] ∧ E 0 = (Value.slice Aa la ca) ∧ E 1 = (Value.slice Ab lb cb) ∧ E 2 = (Value.int .i64 k) ∧ E 7 = (Value.slice Aout lout cout) ∧ E 8 = (Value.int .i64 i) ∧ Sep w no O w' (rl [Res.ro (FP.sl cI Aa la ca a), Res.ro (FP.sl cI Ab lb cb b), Res.own cI 3 Aout lout cout out])) m0 ⟨_, _, _, _, _, h0, rfl, rfl, rfl, rfl, rfl, rfl, (hS.sel [0, 1, 2] (by decide))⟩ ?_; clear h0 hS; rintro m2 E ds w3 ⟨i, out, Aout, lout, cout, h, rfl, hE0, hE1, hE2, hE7, hE8, hS⟩ again; replace h := hr m2 i out h; clear hr; refine wt_seq (wt_seq (wl_region wd_wide (zq (v_move hE8) (zq (v_move hE0) (zq (v_lenx (n := a.length) rfl Try.underlying25 (rd_len (hS.rdr 0 rfl))) (zq (v_lss rfl rfl) (rl_end ?_))))))); by_cases hp : i < ((a.length : Nat) : Int)
  · replace h := h.1 hp; refine zc hp (wt_skip (wt_seq (wt_block (wp_draw [0, 1, 2, 3, 4, 5, 6, 7, 8, 9, 10, 11, 12, 13, 14] st0 wd_wide (by kernel_rfl) (by kernel_rfl) ?_)))); replace hS := hS.drew; refine rp_q rfl rfl rfl (v_move hE7) (rp_q rfl rfl rfl (v_move hE8) (rp_q rfl rfl rfl (v_move hE0) (rp_q rfl rfl rfl (v_move hE8) ?_))); obtain ⟨hx2, h⟩ := h; refine rp_q rfl rfl rfl (v_iaddr rfl rfl Try.underlying25 info_3 (rd_ix (hS.rdr 0 rfl) hx2)) (rp_q rfl rfl rfl (v_load (v := (.int .i64 (gi a i.toNat))) rfl Try.underlying3 rfl (rd_1 (hS.rdr 0 rfl) hx2 (fun q => gi_some q) rfl)) ?_); refine rp_q rfl rfl rfl (v_move hE2) (rp_q rfl rfl rfl (v_move hE1) (rp_q rfl rfl rfl (v_move hE8) ?_)); obtain ⟨hx3, h⟩ := h; refine rp_q rfl rfl rfl (v_iaddr rfl rfl Try.underlying25 info_3 (rd_ix (hS.rdr 1 rfl) hx3)) (rp_q rfl rfl rfl (v_load (v := (.int .i64 (gi b i.toNat))) rfl Try.underlying3 rfl (rd_1 (hS.rdr 1 rfl) hx3 (fun q => gi_some q) rfl)) ?_); obtain ⟨hi, h⟩ := h; refine rp_q rfl rfl rfl (v_mul rfl rfl hi) ?_; obtain ⟨hi2, h⟩ := h; refine rp_q rfl rfl rfl (v_add rfl rfl hi2) ?_; obtain ⟨hx4, h⟩ := h
    refine rp_q rfl rfl rfl (v_iaddr rfl rfl Try.underlying25 info_3 (rd_ix (hS.rdo 2 rfl) hx4)) (rp_n0 rfl rfl rfl (zt (.int .i64 ((gi a i.toNat) + (k * (gi b i.toNat)))) info_3 (hS.wr 2 rfl rfl hx4) ?_)); intro w4 e1; replace hS := hS.st 2 rfl rfl hx4 (x := (gi a i.toNat) + (k * (gi b i.toNat))) rfl e1; clear e1; refine ⟨Stb.none _, rp_end (wt_inBlock (wl_region wd_wide (zq (v_move hE8) ?_)))⟩; obtain ⟨hi3, h⟩ := h; refine zq (v_add rfl rfl hi3) (zq (za (.int .i64 (i + 1))) (rl_end ?_)); obtain ⟨mq, hlt, h⟩ := h; exact again mq _ _ _ ⟨_, _, _, _, _, h, rfl, hE0, hE1, hE2, hE7, rfl, (hS.sel [0, 1, 2] (by decide))⟩ hlt
  · replace h := h.2 hp; exact zd hp (wt_exit rfl (wt_seq (wl_region wd_wide (zq (v_move hE7) (zq (za (.slice Aout lout cout)) (rl_end (wt_ret1 rfl rfl ⟨_, _, _, _, rfl, (hS.sel [2] (by decide)), h⟩)))))))

end Go.Proofs.Ytmeoemmemjipdaa

/- Pure forms of functions, made by program (pf.py), each with the proof that the code does so. -/
namespace Go.Proofs.Ytmeoemmemjipdaa
open Go Go.RowKit Go.Shelf
set_option linter.unusedVariables false
set_option maxRecDepth 100000
set_option maxHeartbeats 1000000
/-- slices.Equal[sandpile/api.Divisor,int]: what it computes. -/
def pf_slices_Equal_Divisor (s1 : List Int) (s2 : List Int) (R : Bool → Prop) : Prop :=
((((s1.length : Nat) : Int) = ((s2.length : Nat) : Int) →
(∃ I2 : Nat → Int → Prop, (∃ m0, I2 m0 0) ∧ ∀ m2 v, I2 m2 v → 
((v < ((s1.length : Nat) : Int) →
((0 ≤ v ∧ v < ((s1.length : Nat) : Int)) ∧
((0 ≤ v ∧ v < ((s2.length : Nat) : Int)) ∧
(((gi s1 v.toNat) = (gi s2 v.toNat) →
(In64 (v + 1) ∧
∃ m3, m3 < m2 ∧ I2 m3 (v + 1))) ∧
(¬ ((gi s1 v.toNat) = (gi s2 v.toNat)) →
R false))))) ∧
(¬ (v < ((s1.length : Nat) : Int)) →
R true)))) ∧
(¬ (((s1.length : Nat) : Int) = ((s2.length : Nat) : Int)) →
R false))
theorem pok_slices_Equal_Divisor {O : Nat → Prop} {w : World} {s1 s2 As1 ls1 cs1 As2 ls2 cs2} {R : Bool → Prop} (h : pf_slices_Equal_Divisor s1 s2 R) (hO : ∀ k, O k → k < w.heap.size) (hA0 : (FP.sl cI As1 ls1 cs1 s1).P O w) (hA1 : (FP.sl cI As2 ls2 cs2 s2).P O w) :
    Calls Try.prog 18 #[(.slice As1 ls1 cs1), (.slice As2 ls2 cs2)] w fun e w' => ∃ r, e = .returned (.bool (r)) ∧ Sep w no O w' (rl []) ∧ R r := by
  unfold pf_slices_Equal_Divisor at h; have hS : Sep w no O w (rl [Res.ro (FP.sl cI As1 ls1 cs1 s1), Res.ro (FP.sl cI As2 ls2 cs2 s2)]) := Sep.startl hO [(FP.sl cI As1 ls1 cs1 s1), (FP.sl cI As2 ls2 cs2 s2)] ⟨hA0, hA1, trivial⟩; refine calls_sh (l := [(.slice As1 ls1 cs1), (.slice As2 ls2 cs2)]) Try.func18 rfl Try.ntmps18 (Nat.le_of_ble_eq_true rfl) (wt_seq (wl_region wd_wide (zq (za (.bool (false))) (rl_end (wt_seq (wt_seq (wl_region wd_wide (zq (zm (.slice As1 ls1 cs1)) (zq (v_lenx (n := s1.length) rfl Try.underlying26 (rd_len (hS.rdr 0 rfl))) (zq (zm (.slice As2 ls2 cs2)) (zq (v_lenx (n := s2.length) rfl Try.underlying26 (rd_len (hS.rdr 1 rfl))) (zq (v_neq rfl rfl) (rl_end ?_))))))))))))); by_cases hp : ((s1.length : Nat) : Int) = ((s2.length : Nat) : Int)
  · replace h := h.1 hp; refine ze hp (wt_skip (wt_seq (wt_seq (wl_region wd_wide (zq (zm (.slice As1 ls1 cs1)) (zq (v_lenx (n := s1.length) rfl Try.underlying26 (rd_len (hS.rdr 0 rfl))) (zq (zm (.int .i64 0)) (rl_end (wt_block ?_))))))))); obtain ⟨I2, ⟨m0, h0⟩, hr⟩ := h; refine wt_loop (fun m E ds w' => ∃ v, I2 m v ∧ ds = [] ∧ E 0 = (Value.slice As1 ls1 cs1) ∧ E 1 = (Value.slice As2 ls2 cs2) ∧ E 12 = (Value.int .i64 ((s1.length : Nat) : Int)) ∧ E 13 = (Value.int .i64 v) ∧ Sep w no O w' (rl [Res.ro (FP.sl cI As1 ls1 cs1 s1), Res.ro (FP.sl cI As2 ls2 cs2 s2)])) m0 ⟨_, h0, rfl, rfl, rfl, rfl, rfl, (hS.sel [0, 1] (by decide))⟩ ?_; clear h0 hS; rintro m2 E ds w2 ⟨v, h, rfl, hE0, hE1, hE12, hE13, hS⟩ again; replace h := hr m2 v h; clear hr; refine wt_seq (wl_region wd_wide (zq (v_lss hE13 hE12) (rl_end (wt_seq ?_)))); by_cases hp2 : v < ((s1.length : Nat) : Int)
    · replace h := h.1 hp2; refine zc hp2 (wt_skip (wt_seq (wt_block (wt_seq (wl_region wd_wide (zq (v_move hE13) (zq (za (.int .i64 v)) (rl_end (wt_seq (wp_draw [0, 1, 2, 3, 4, 5, 6, 7, 8] st0 wd_wide (by kernel_rfl) (by kernel_rfl) ?_)))))))))); replace hS := hS.drew; refine rp_q rfl rfl rfl (v_move hE0) (rp_q rfl rfl rfl (zm (.int .i64 v)) ?_); obtain ⟨hx, h⟩ := h; refine rp_q rfl rfl rfl (v_iaddr rfl rfl Try.underlying26 info_3 (rd_ix (hS.rdr 0 rfl) hx)) (rp_q rfl rfl rfl (v_load (v := (.int .i64 (gi s1 v.toNat))) rfl Try.underlying3 rfl (rd_1 (hS.rdr 0 rfl) hx (fun q => gi_some q) rfl)) ?_); refine rp_q rfl rfl rfl (v_move hE1) (rp_q rfl rfl rfl (zm (.int .i64 v)) ?_); obtain ⟨hx2, h⟩ := h; refine rp_q rfl rfl rfl (v_iaddr rfl rfl Try.underlying26 info_3 (rd_ix (hS.rdr 1 rfl) hx2)) (rp_q rfl rfl rfl (v_load (v := (.int .i64 (gi s2 v.toNat))) rfl Try.underlying3 rfl (rd_1 (hS.rdr 1 rfl) hx2 (fun q => gi_some q) rfl)) ?_); refine rp_q rfl rfl rfl (v_neq rfl rfl) (rp_end ?_); by_cases hp3 : (gi s1 v.toNat) = (gi s2 v.toNat)
      · replace h := h.1 hp3; refine ze hp3 (wt_skip (wt_inBlock (wl_region wd_wide ?_))); obtain ⟨hi, h⟩ := h; refine zq (v_add hE13 rfl hi) (zq (zm (.int .i64 (v + 1))) (rl_end ?_)); obtain ⟨mq, hlt, h⟩ := h; exact again mq _ _ _ ⟨_, h, rfl, hE0, hE1, hE12, rfl, (hS.sel [0, 1] (by decide))⟩ hlt
      · replace h := h.2 hp3; exact zf hp3 (wt_seq (wl_region wd_wide (zq (za (.bool (false))) (rl_end (wt_ret1 rfl rfl ⟨_, rfl, (hS.sel [] (by decide)), h⟩)))))
    · replace h := h.2 hp2; exact zd hp2 (wt_exit rfl (wt_seq (wl_region wd_wide (zq (za (.bool (true))) (rl_end (wt_ret1 rfl rfl ⟨_, rfl, (hS.sel [] (by decide)), h⟩))))))
  · replace h := h.2 hp; exact zf hp (wt_seq (wl_region wd_wide (zq (za (.bool (false))) (rl_end (wt_ret1 rfl rfl ⟨_, rfl, (hS.sel [] (by decide)), h⟩)))))

/-- slices.Clone[sandpile/api.Divisor,int]: what it computes. -/
def pf_slices_Clone_Divisor (s : List Int) (R : (List Int) → Prop) : Prop :=
(∀ nil : Bool, (nil = true → s = []) →
((nil = true →
R ([])) ∧
(¬ (nil = true) →
(0 + s.length ≤ 1000000000 ∧
R ([] ++ s)))))
theorem pok_slices_Clone_Divisor {O : Nat → Prop} {w : World} {s As ls cs} {R : (List Int) → Prop} (h : pf_slices_Clone_Divisor s R) (hO : ∀ k, O k → k < w.heap.size) (hA0 : (FP.sl cI As ls cs s).P O w) :
    Calls Try.prog 22 #[(.slice As ls cs)] w fun e w' => ∃ r Ar lr cr, e = .returned (.slice Ar lr cr) ∧ Sep w no O w' (rl [Res.own cI 3 Ar lr cr r]) ∧ R r := by
  unfold pf_slices_Clone_Divisor at h; have hS : Sep w no O w (rl [Res.ro (FP.sl cI As ls cs s)]) := Sep.startl hO [(FP.sl cI As ls cs s)] ⟨hA0, trivial⟩; refine calls_sh (l := [(.slice As ls cs)]) Try.func22 rfl Try.ntmps22 (Nat.le_of_ble_eq_true rfl) (wt_seq (wl_region wd_wide (zq (za (.slice none 0 0)) (rl_end (wt_seq (wt_seq (wl_region wd_wide (zq (zm (.slice As ls cs)) ?_)))))))); obtain ⟨nil, hn⟩ : ∃ b, Option.isNone As = b := ⟨_, rfl⟩; replace h := h nil (by rw [← hn]; exact rd_nil (hS.rdr 0 rfl)); refine zq (v_seqlx rfl rfl Try.underlying26 hn) (rl_end ?_); by_cases hp : nil = true
  · replace h := h.1 hp; refine wt_cond_t (congrArg Value.bool hp) (wt_seq (wl_region wd_wide (zq (za (.slice none 0 0)) (rl_end ?_)))); replace hS := hS.nil 1 rfl cI 3; exact wt_ret1 rfl rfl ⟨_, _, _, _, rfl, (hS.sel [1] (by decide)), h⟩
  · replace h := h.2 hp; refine wt_cond_f (congrArg Value.bool (Bool.eq_false_iff.2 hp)) (wt_skip (wt_seq (wl_region wd_wide (zn (n_bslice (l := []) (cells := []) (bp0) Try.underlying26 info_3 rfl rfl ?_))))); intro g w2 hN; replace hS := hS.litf (n := 0) 1 rfl (fI .i64) hN ([] : List Int) rfl (by decide) rfl; clear hN; refine ⟨Stb.none _, zq (zm (.slice As ls cs)) ?_⟩; obtain ⟨hx, h⟩ := h; refine zn (n_app (c := cI) rfl rfl Try.underlying26 Try.underlying26 info_3 rfl rfl (by decide) hS 1 rfl (hS.yr 0 rfl) hx ?_); clear hS; intro A c w3 hS; exact ⟨Stb.none _, zq (za (.slice A (0 + ls) c)) (rl_end (wt_ret1 rfl rfl ⟨_, _, _, _, rfl, (hS.sel [1] (by decide)), h⟩))⟩
end Go.Proofs.Ytmeoemmemjipdaa

/- Pure forms of functions, made by program (pf.py), each with the proof that the code does so. -/
namespace Go.Proofs.Ytmeoemmemjipdaa
open Go Go.RowKit Go.Shelf
set_option linter.unusedVariables false
set_option maxRecDepth 100000
set_option maxHeartbeats 1000000
end Go.Proofs.Ytmeoemmemjipdaa

/- Pure forms of functions, made by program (pf.py), each with the proof that the code does so. -/
namespace Go.Proofs.Ytmeoemmemjipdaa
open Go Go.RowKit Go.Shelf
set_option linter.unusedVariables false
set_option maxRecDepth 100000
set_option maxHeartbeats 1000000
/-- cmp.isNaN[int]: what it computes. -/
def pf_cmp_isNaN_int (x : Int) (R : Bool → Prop) : Prop :=
R (!(decide (x = x)))
theorem pok_cmp_isNaN_int {O : Nat → Prop} {w : World} {x} {R : Bool → Prop} (h : pf_cmp_isNaN_int x R) (hO : ∀ k, O k → k < w.heap.size) :
    Calls Try.prog 170 #[(.int .i64 x)] w fun e w' => ∃ r, e = .returned (.bool (r)) ∧ Sep w no O w' (rl []) ∧ R r := by
  unfold pf_cmp_isNaN_int at h; have hS : Sep w no O w (rl []) := Sep.start w hO; exact calls_sh (l := [(.int .i64 x)]) Try.func170 rfl Try.ntmps170 (Nat.le_of_ble_eq_true rfl) (wt_seq (wl_region wd_wide (zq (za (.bool (false))) (rl_end (wt_seq (wl_region wd_wide (zq (zm (.int .i64 x)) (zq (zm (.int .i64 x)) (zq (v_neq rfl rfl) (zq (za (.bool (!(decide (x = x))))) (rl_end (wt_ret1 rfl rfl ⟨_, rfl, (hS.sel [] (by decide)), h⟩))))))))))))

/-- slices.Min[sandpile/api.Divisor,int]: what it computes. -/
def pf_slices_Min_Divisor (x : List Int) (R : Int → Prop) : Prop :=
(∃ J2 : Prop, (J2 → ((0 ≤ (0 : Int) ∧ (0 : Int) < ((x.length : Nat) : Int)) ∧
(∃ I2 : Nat → Int → Int → Prop, (∃ m0, I2 m0 (gi x (0 : Int).toNat) 1) ∧ ∀ m2 m3 i, I2 m2 m3 i → 
((i < ((x.length : Nat) : Int) →
((0 ≤ i ∧ i < ((x.length : Nat) : Int)) ∧
(In64 (i + 1) ∧
∃ m4, m4 < m2 ∧ I2 m4 (mnF m3 (gi x i.toNat)) (i + 1)))) ∧
(¬ (i < ((x.length : Nat) : Int)) →
R m3))))) ∧
((((x.length : Nat) : Int) < 1 →
False) ∧
(¬ (((x.length : Nat) : Int) < 1) →
J2)))
theorem pok_slices_Min_Divisor {O : Nat → Prop} {w : World} {x Ax lx cx} {R : Int → Prop} (h : pf_slices_Min_Divisor x R) (hO : ∀ k, O k → k < w.heap.size) (hA0 : (FP.sl cI Ax lx cx x).P O w) :
    Calls Try.prog 58 #[(.slice Ax lx cx)] w fun e w' => ∃ r, e = .returned (.int .i64 r) ∧ Sep w no O w' (rl []) ∧ R r := by
  unfold pf_slices_Min_Divisor at h; have hS : Sep w no O w (rl [Res.ro (FP.sl cI Ax lx cx x)]) := Sep.startl hO [(FP.sl cI Ax lx cx x)] ⟨hA0, trivial⟩; refine calls_sh (l := [(.slice Ax lx cx)]) Try.func58 rfl Try.ntmps58 (Nat.le_of_ble_eq_true rfl) (wt_seq (wl_region wd_wide (zq (za (.int .i64 0)) (rl_end (wt_seq (wt_seq (wl_region wd_wide (zq (zm (.slice Ax lx cx)) (zq (v_lenx (n := x.length) rfl Try.underlying26 (rd_len (hS.rdr 0 rfl))) (zq (v_lss rfl rfl) (rl_end ?_))))))))))); obtain ⟨J2, hJ, h⟩ := h; refine wt_cutT0 (fun E ds w' => J2 ∧ ds = [] ∧ E 0 = (Value.slice Ax lx cx) ∧ Sep w no O w' (rl [Res.ro (FP.sl cI Ax lx cx x)])) ?_ ?_
  · clear h hS; rintro E ds w2 ⟨h, rfl, hE0, hS⟩; replace h := hJ h; refine wt_seq (wl_region wd_wide (zq (v_move hE0) ?_)); obtain ⟨hx, h⟩ := h; refine zq (v_iaddr rfl rfl Try.underlying26 info_3 (rd_ix (hS.rdr 0 rfl) hx)) (zq (v_load (v := (.int .i64 (gi x (0 : Int).toNat))) rfl Try.underlying3 rfl (rd_1 (hS.rdr 0 rfl) hx (fun q => gi_some q) rfl)) ?_); refine zq (za (.int .i64 (gi x (0 : Int).toNat))) (rl_end (wt_seq (wt_seq (wl_region wd_wide (zq (za (.int .i64 1)) (rl_end (wt_block ?_))))))); obtain ⟨I2, ⟨m0, h0⟩, hr⟩ := h; refine wt_loop (fun m E ds w' => ∃ m3 i, I2 m m3 i ∧ ds = [] ∧ E 0 = (Value.slice Ax lx cx) ∧ E 3 = (Value.int .i64 m3) ∧ E 4 = (Value.int .i64 i) ∧ Sep w no O w' (rl [Res.ro (FP.sl cI Ax lx cx x)])) m0 ⟨_, _, h0, rfl, hE0, rfl, rfl, (hS.sel [0] (by decide))⟩ ?_; clear h0 hS; rintro m2 E ds w3 ⟨m3, i, h, rfl, hE0, hE3, hE4, hS⟩ again; replace h := hr m2 m3 i h; clear hr; refine wt_seq (wt_seq (wl_region wd_wide (zq (v_move hE4) (zq (v_move hE0) (zq (v_lenx (n := x.length) rfl Try.underlying26 (rd_len (hS.rdr 0 rfl))) (zq (v_lss rfl rfl) (rl_end ?_)))))))
    by_cases hp : i < ((x.length : Nat) : Int)
    · replace h := h.1 hp; refine zc hp (wt_skip (wt_seq (wt_block (wl_region wd_wide (zq (v_move hE3) (zq (v_move hE0) (zq (v_move hE4) ?_))))))); obtain ⟨hx2, h⟩ := h; refine zq (v_iaddr rfl rfl Try.underlying26 info_3 (rd_ix (hS.rdr 0 rfl) hx2)) (zq (v_load (v := (.int .i64 (gi x i.toNat))) rfl Try.underlying3 rfl (rd_1 (hS.rdr 0 rfl) hx2 (fun q => gi_some q) rfl)) ?_); refine zq (v_min2 rfl rfl) (zq (za (.int .i64 (mnF m3 (gi x i.toNat)))) (rl_end (wt_inBlock (wl_region wd_wide (zq (v_move hE4) ?_))))); obtain ⟨hi, h⟩ := h; refine zq (v_add rfl rfl hi) (zq (za (.int .i64 (i + 1))) (rl_end ?_)); obtain ⟨mq, hlt, h⟩ := h; exact again mq _ _ _ ⟨_, _, h, rfl, hE0, rfl, rfl, (hS.sel [0] (by decide))⟩ hlt
    · replace h := h.2 hp; exact zd hp (wt_exit rfl (wt_seq (wl_region wd_wide (zq (v_move hE3) (zq (za (.int .i64 m3)) (rl_end (wt_ret1 rfl rfl ⟨_, rfl, (hS.sel [] (by decide)), h⟩)))))))
  clear hJ; intro j; by_cases hp2 : ((x.length : Nat) : Int) < 1
  · replace h := h.1 hp2; exact zc hp2 (wl_region wd_wide h.elim)
  · replace h := h.2 hp2; exact zd hp2 (wt_skip (j _ _ _ ⟨h, rfl, rfl, (hS.sel [0] (by decide))⟩))
end Go.Proofs.Ytmeoemmemjipdaa

/- Pure forms of functions, made by program (pf.py), each with the proof that the code does so. -/
namespace Go.Proofs.Ytmeoemmemjipdaa
open Go Go.RowKit Go.Shelf
set_option linter.unusedVariables false
set_option maxRecDepth 100000
set_option maxHeartbeats 1000000
/-- sandpile/chips.within: what it computes. -/
def pf_chips_within (k : Int) (R : Bool → Prop) : Prop :=
(((-1048576) ≤ k →
R (decide (k ≤ 1048576))) ∧
(¬ ((-1048576) ≤ k) →
R false))
theorem pok_chips_within {O : Nat → Prop} {w : World} {k} {R : Bool → Prop} (h : pf_chips_within k R) (hO : ∀ k, O k → k < w.heap.size) :
    Calls Try.prog 95 #[(.int .i64 k)] w fun e w' => ∃ r, e = .returned (.bool (r)) ∧ Sep w no O w' (rl []) ∧ R r := by
  unfold pf_chips_within at h; have hS : Sep w no O w (rl []) := Sep.start w hO; refine calls_sh (l := [(.int .i64 k)]) Try.func95 rfl Try.ntmps95 (Nat.le_of_ble_eq_true rfl) (wt_seq (wl_region wd_wide (zq (za (.bool (false))) (rl_end (wt_seq (wl_region wd_wide (zq (zm (.int .i64 k)) (zq (v_geq rfl rfl) (zq (zm (.bool (decide ((-1048576) ≤ k)))) ?_))))))))); by_cases hp : (-1048576) ≤ k
  · replace h := h.1 hp; exact rl_q (wanted_g rfl (yE_of rfl (congrArg Value.bool (decide_eq_true hp)))) rfl rfl (zm (.int .i64 k)) (rl_q (wanted_g rfl (yE_of rfl (congrArg Value.bool (decide_eq_true hp)))) rfl rfl (v_leq rfl rfl) (zq (v_pick_t (v := (.bool (decide (k ≤ 1048576)))) (congrArg Value.bool (decide_eq_true hp)) rfl) (zq (za (.bool (decide (k ≤ 1048576)))) (rl_end (wt_ret1 rfl rfl ⟨_, rfl, (hS.sel [] (by decide)), h⟩)))))
  · replace h := h.2 hp; exact rl_p (wanted_n rfl (yE_of rfl (congrArg Value.bool (decide_eq_false hp))) rfl) rfl (rl_p (wanted_n rfl (yE_of rfl (congrArg Value.bool (decide_eq_false hp))) rfl) rfl (zq (v_pick_f (v := (.bool (false))) (congrArg Value.bool (decide_eq_false hp)) rfl) (zq (za (.bool (false))) (rl_end (wt_ret1 rfl rfl ⟨_, rfl, (hS.sel [] (by decide)), h⟩)))))

/-- sandpile/chips.vertices: what it computes. -/
def pf_chips_vertices (n : Int) (R : Int → Prop) : Prop :=
((n < 1 →
R 2) ∧
(¬ (n < 1) →
((12 < n →
R 2) ∧
(¬ (12 < n) →
R 0))))
theorem pok_chips_vertices {O : Nat → Prop} {w : World} {n} {R : Int → Prop} (h : pf_chips_vertices n R) (hO : ∀ k, O k → k < w.heap.size) :
    Calls Try.prog 97 #[(.int .i64 n)] w fun e w' => ∃ r, e = .returned (.int .i64 r) ∧ Sep w no O w' (rl []) ∧ R r := by
  unfold pf_chips_vertices at h; have hS : Sep w no O w (rl []) := Sep.start w hO; refine calls_sh (l := [(.int .i64 n)]) Try.func97 rfl Try.ntmps97 (Nat.le_of_ble_eq_true rfl) (wt_seq (wl_region wd_wide (zq (za (.int .i64 0)) (rl_end (wt_seq (wt_seq (wl_region wd_wide (zq (zm (.int .i64 n)) (zq (v_lss rfl rfl) (zq (zm (.bool (decide (n < 1)))) ?_)))))))))); by_cases hp : n < 1
  · replace h := h.1 hp; exact rl_p (wanted_n rfl (yE_of rfl (congrArg Value.bool (decide_eq_true hp))) rfl) rfl (rl_p (wanted_n rfl (yE_of rfl (congrArg Value.bool (decide_eq_true hp))) rfl) rfl (zq (v_pick_t (v := (.bool (true))) (congrArg Value.bool (decide_eq_true hp)) rfl) (rl_end (wt_cond_t rfl (wt_seq (wl_region wd_wide (zq (za (.int .i64 2)) (rl_end (wt_ret1 rfl rfl ⟨_, rfl, (hS.sel [] (by decide)), h⟩)))))))))
  · replace h := h.2 hp; refine rl_q (wanted_g rfl (yE_of rfl (congrArg Value.bool (decide_eq_false hp)))) rfl rfl (zm (.int .i64 n)) (rl_q (wanted_g rfl (yE_of rfl (congrArg Value.bool (decide_eq_false hp)))) rfl rfl (v_gtr rfl rfl) (zq (v_pick_f (v := (.bool (decide (12 < n)))) (congrArg Value.bool (decide_eq_false hp)) rfl) (rl_end ?_))); by_cases hp2 : 12 < n
    · replace h := h.1 hp2; exact zc hp2 (wt_seq (wl_region wd_wide (zq (za (.int .i64 2)) (rl_end (wt_ret1 rfl rfl ⟨_, rfl, (hS.sel [] (by decide)), h⟩)))))
    · replace h := h.2 hp2; exact zd hp2 (wt_skip (wt_seq (wl_region wd_wide (zq (za (.int .i64 0)) (rl_end (wt_ret1 rfl rfl ⟨_, rfl, (hS.sel [] (by decide)), h⟩))))))

/-- sandpile/chips.Check: what it computes. -/
def pf_chips_Check (d : List Int) (n : Int) (R : Int → Prop) : Prop :=
pf_chips_vertices n (fun r =>
((r = 0 →
((((d.length : Nat) : Int) = n →
(∃ I2 : Nat → Int → Prop, (∃ m0, I2 m0 0) ∧ ∀ m2 v, I2 m2 v → 
((v < ((d.length : Nat) : Int) →
((0 ≤ v ∧ v < ((d.length : Nat) : Int)) ∧
pf_chips_within (gi d v.toNat) (fun r2 =>
((r2 = true →
(In64 (v + 1) ∧
∃ m3, m3 < m2 ∧ I2 m3 (v + 1))) ∧
(¬ (r2 = true) →
R 2))))) ∧
(¬ (v < ((d.length : Nat) : Int)) →
R 0)))) ∧
(¬ (((d.length : Nat) : Int) = n) →
R 8))) ∧
(¬ (r = 0) →
R r)))
theorem pok_chips_Check {O : Nat → Prop} {w : World} {d n Ad ld cd} {R : Int → Prop} (h : pf_chips_Check d n R) (hO : ∀ k, O k → k < w.heap.size) (hA0 : (FP.sl cI Ad ld cd d).P O w) :
    Calls Try.prog 57 #[(.slice Ad ld cd), (.int .i64 n)] w fun e w' => ∃ r3, e = .returned (.int .i64 r3) ∧ Sep w no O w' (rl []) ∧ R r3 := by
  unfold pf_chips_Check at h; have hS : Sep w no O w (rl [Res.ro (FP.sl cI Ad ld cd d)]) := Sep.startl hO [(FP.sl cI Ad ld cd d)] ⟨hA0, trivial⟩; refine calls_sh (l := [(.slice Ad ld cd), (.int .i64 n)]) Try.func57 rfl Try.ntmps57 (Nat.le_of_ble_eq_true rfl) (wt_seq (wl_region wd_wide (zq (za (.int .i64 0)) (rl_end (wt_seq (wt_seq (wl_region wd_wide (zq (zm (.int .i64 n)) (zn (n_call0 rfl (am1 rfl) enter_97 ((pok_chips_vertices h (no_lt _)).mono ?_))))))))))); rintro _ w2 ⟨r, rfl, hC, h⟩; replace hS := hS.pur hC.pure; clear hC; refine ⟨_, rfl, ?_⟩; refine ⟨Stb.none _, zq (za (.int .i64 r)) (rl_end (wt_seq (wl_region wd_wide (zq (zm (.int .i64 r)) (zq (v_neq rfl rfl) (rl_end ?_))))))⟩; by_cases hp : r = 0
  · replace h := h.1 hp; refine ze hp (wt_skip (wt_seq (wt_seq (wl_region wd_wide (zq (zm (.slice Ad ld cd)) (zq (v_lenx (n := d.length) rfl Try.underlying26 (rd_len (hS.rdr 0 rfl))) (zq (zm (.int .i64 n)) (zq (v_neq rfl rfl) (rl_end ?_))))))))); by_cases hp2 : ((d.length : Nat) : Int) = n
    · replace h := h.1 hp2; refine ze hp2 (wt_skip (wt_seq (wt_seq (wl_region wd_wide (zq (zm (.slice Ad ld cd)) (zq (v_lenx (n := d.length) rfl Try.underlying26 (rd_len (hS.rdr 0 rfl))) (zq (zm (.int .i64 0)) (rl_end (wt_block ?_))))))))); obtain ⟨I2, ⟨m0, h0⟩, hr⟩ := h; refine wt_loop (fun m E ds w' => ∃ v, I2 m v ∧ ds = [] ∧ E 17 = (Value.slice Ad ld cd) ∧ E 18 = (Value.int .i64 ((d.length : Nat) : Int)) ∧ E 19 = (Value.int .i64 v) ∧ Sep w no O w' (rl [Res.ro (FP.sl cI Ad ld cd d)])) m0 ⟨_, h0, rfl, rfl, rfl, rfl, (hS.sel [0] (by decide))⟩ ?_; clear h0 hS; rintro m2 E ds w3 ⟨v, h, rfl, hE17, hE18, hE19, hS⟩ again; replace h := hr m2 v h; clear hr; refine wt_seq (wl_region wd_wide (zq (v_lss hE19 hE18) (rl_end (wt_seq ?_)))); by_cases hp3 : v < ((d.length : Nat) : Int)
      · replace h := h.1 hp3; refine zc hp3 (wt_skip (wt_seq (wt_block (wt_seq (wl_region wd_wide ?_))))); obtain ⟨hx, h⟩ := h; refine zq (v_iaddr hE17 hE19 Try.underlying26 info_3 (rd_ix (hS.rdr 0 rfl) hx)) (zq (v_load (v := (.int .i64 (gi d v.toNat))) rfl Try.underlying3 rfl (rd_1 (hS.rdr 0 rfl) hx (fun q => gi_some q) rfl)) ?_); refine zq (za (.int .i64 (gi d v.toNat))) (rl_end (wt_seq (wl_region wd_wide (zq (zm (.int .i64 (gi d v.toNat))) (zn (n_call0 rfl (am1 rfl) enter_95 ((pok_chips_within h (no_lt _)).mono ?_))))))); rintro _ w4 ⟨r2, rfl, hC, h⟩; replace hS := hS.pur hC.pure; clear hC; refine ⟨_, rfl, ?_⟩; refine ⟨Stb.none _, zq (v_not rfl) (rl_end ?_)⟩; by_cases hp4 : r2 = true
        · replace h := h.1 hp4; refine wt_cond_f (congrArg Value.bool (congrArg Bool.not hp4)) (wt_skip (wt_inBlock (wl_region wd_wide ?_))); obtain ⟨hi, h⟩ := h; refine zq (v_add hE19 rfl hi) (zq (zm (.int .i64 (v + 1))) (rl_end ?_)); obtain ⟨mq, hlt, h⟩ := h; exact again mq _ _ _ ⟨_, h, rfl, hE17, hE18, rfl, (hS.sel [0] (by decide))⟩ hlt
        · replace h := h.2 hp4; exact wt_cond_t (congrArg Value.bool (congrArg Bool.not (Bool.eq_false_iff.2 hp4))) (wt_seq (wl_region wd_wide (zq (za (.int .i64 2)) (rl_end (wt_ret1 rfl rfl ⟨_, rfl, (hS.sel [] (by decide)), h⟩)))))
      · replace h := h.2 hp3; exact zd hp3 (wt_exit rfl (wt_seq (wl_region wd_wide (zq (za (.int .i64 0)) (rl_end (wt_ret1 rfl rfl ⟨_, rfl, (hS.sel [] (by decide)), h⟩))))))
    · replace h := h.2 hp2; exact zf hp2 (wt_seq (wl_region wd_wide (zq (za (.int .i64 8)) (rl_end (wt_ret1 rfl rfl ⟨_, rfl, (hS.sel [] (by decide)), h⟩)))))
  · replace h := h.2 hp; exact zf hp (wt_seq (wl_region wd_wide (zq (zm (.int .i64 r)) (zq (za (.int .i64 r)) (rl_end (wt_ret1 rfl rfl ⟨_, rfl, (hS.sel [] (by decide)), h⟩))))))

/-- sandpile/graph.vertex: what it computes. -/
def pf_graph_vertex (n : Int) (v : Int) (R : Bool → Prop) : Prop :=
((0 ≤ v →
R (decide (v < n))) ∧
(¬ (0 ≤ v) →
R false))
theorem pok_graph_vertex {O : Nat → Prop} {w : World} {n v} {R : Bool → Prop} (h : pf_graph_vertex n v R) (hO : ∀ k, O k → k < w.heap.size) :
    Calls Try.prog 133 #[(.int .i64 n), (.int .i64 v)] w fun e w' => ∃ r, e = .returned (.bool (r)) ∧ Sep w no O w' (rl []) ∧ R r := by
  unfold pf_graph_vertex at h; have hS : Sep w no O w (rl []) := Sep.start w hO; refine calls_sh (l := [(.int .i64 n), (.int .i64 v)]) Try.func133 rfl Try.ntmps133 (Nat.le_of_ble_eq_true rfl) (wt_seq (wl_region wd_wide (zq (za (.bool (false))) (rl_end (wt_seq (wl_region wd_wide (zq (zm (.int .i64 v)) (zq (v_geq rfl rfl) (zq (zm (.bool (decide (0 ≤ v)))) ?_))))))))); by_cases hp : 0 ≤ v
  · replace h := h.1 hp; exact rl_q (wanted_g rfl (yE_of rfl (congrArg Value.bool (decide_eq_true hp)))) rfl rfl (zm (.int .i64 v)) (rl_q (wanted_g rfl (yE_of rfl (congrArg Value.bool (decide_eq_true hp)))) rfl rfl (zm (.int .i64 n)) (rl_q (wanted_g rfl (yE_of rfl (congrArg Value.bool (decide_eq_true hp)))) rfl rfl (v_lss rfl rfl) (zq (v_pick_t (v := (.bool (decide (v < n)))) (congrArg Value.bool (decide_eq_true hp)) rfl) (zq (za (.bool (decide (v < n)))) (rl_end (wt_ret1 rfl rfl ⟨_, rfl, (hS.sel [] (by decide)), h⟩))))))
  · replace h := h.2 hp; exact rl_p (wanted_n rfl (yE_of rfl (congrArg Value.bool (decide_eq_false hp))) rfl) rfl (rl_p (wanted_n rfl (yE_of rfl (congrArg Value.bool (decide_eq_false hp))) rfl) rfl (rl_p (wanted_n rfl (yE_of rfl (congrArg Value.bool (decide_eq_false hp))) rfl) rfl (zq (v_pick_f (v := (.bool (false))) (congrArg Value.bool (decide_eq_false hp)) rfl) (zq (za (.bool (false))) (rl_end (wt_ret1 rfl rfl ⟨_, rfl, (hS.sel [] (by decide)), h⟩))))))

/-- cmp.Compare[int]: what it computes. -/
def pf_cmp_Compare_int (x : Int) (y : Int) (R : Int → Prop) : Prop :=
pf_cmp_isNaN_int x (fun r =>
pf_cmp_isNaN_int y (fun r2 =>
((r = true →
((r2 = true →
R 0) ∧
(¬ (r2 = true) →
R (-1)))) ∧
(¬ (r = true) →
((r2 = true →
R 1) ∧
(¬ (r2 = true) →
((x < y →
R (-1)) ∧
(¬ (x < y) →
((y < x →
R 1) ∧
(¬ (y < x) →
R 0))))))))))
theorem pok_cmp_Compare_int {O : Nat → Prop} {w : World} {x y} {R : Int → Prop} (h : pf_cmp_Compare_int x y R) (hO : ∀ k, O k → k < w.heap.size) :
    Calls Try.prog 162 #[(.int .i64 x), (.int .i64 y)] w fun e w' => ∃ r3, e = .returned (.int .i64 r3) ∧ Sep w no O w' (rl []) ∧ R r3 := by
  unfold pf_cmp_Compare_int at h; have hS : Sep w no O w (rl []) := Sep.start w hO; refine calls_sh (l := [(.int .i64 x), (.int .i64 y)]) Try.func162 rfl Try.ntmps162 (Nat.le_of_ble_eq_true rfl) (wt_seq (wl_region wd_wide (zq (za (.int .i64 0)) (rl_end (wt_seq (wl_region wd_wide (zq (zm (.int .i64 x)) (zn (n_call0 rfl (am1 rfl) enter_170 ((pok_cmp_isNaN_int h (no_lt _)).mono ?_)))))))))); rintro _ w2 ⟨r, rfl, hC, h⟩; replace hS := hS.pur hC.pure; clear hC; refine ⟨_, rfl, ?_⟩; refine ⟨Stb.none _, zq (za (.bool (r))) (rl_end (wt_seq (wl_region wd_wide (zq (zm (.int .i64 y)) (zn (n_call0 rfl (am1 rfl) enter_170 ((pok_cmp_isNaN_int h (no_lt _)).mono ?_)))))))⟩; rintro _ w3 ⟨r2, rfl, hC, h⟩; replace hS := hS.pur hC.pure; clear hC; refine ⟨_, rfl, ?_⟩; refine ⟨Stb.none _, zq (za (.bool (r2))) (rl_end (wt_seq (wt_seq (wl_region wd_wide (zq (zm (.bool (r))) (rl_end ?_))))))⟩; by_cases hp : r = true
  · replace h := h.1 hp; refine wt_cond_t (congrArg Value.bool hp) (wt_seq (wt_seq (wl_region wd_wide (zq (zm (.bool (r2))) (rl_end ?_))))); by_cases hp2 : r2 = true
    · replace h := h.1 hp2; exact wt_cond_t (congrArg Value.bool hp2) (wt_seq (wl_region wd_wide (zq (za (.int .i64 0)) (rl_end (wt_ret1 rfl rfl ⟨_, rfl, (hS.sel [] (by decide)), h⟩)))))
    · replace h := h.2 hp2; exact wt_cond_f (congrArg Value.bool (Bool.eq_false_iff.2 hp2)) (wt_skip (wt_seq (wl_region wd_wide (zq (za (.int .i64 (-1))) (rl_end (wt_ret1 rfl rfl ⟨_, rfl, (hS.sel [] (by decide)), h⟩))))))
  · replace h := h.2 hp; refine wt_cond_f (congrArg Value.bool (Bool.eq_false_iff.2 hp)) (wt_skip (wt_seq (wt_seq (wl_region wd_wide (zq (zm (.bool (r2))) (rl_end ?_)))))); by_cases hp3 : r2 = true
    · replace h := h.1 hp3; exact wt_cond_t (congrArg Value.bool hp3) (wt_seq (wl_region wd_wide (zq (za (.int .i64 1)) (rl_end (wt_ret1 rfl rfl ⟨_, rfl, (hS.sel [] (by decide)), h⟩)))))
    · replace h := h.2 hp3; refine wt_cond_f (congrArg Value.bool (Bool.eq_false_iff.2 hp3)) (wt_skip (wt_seq (wt_seq (wl_region wd_wide (zq (zm (.int .i64 x)) (zq (zm (.int .i64 y)) (zq (v_lss rfl rfl) (rl_end ?_)))))))); by_cases hp4 : x < y
      · replace h := h.1 hp4; exact zc hp4 (wt_seq (wl_region wd_wide (zq (za (.int .i64 (-1))) (rl_end (wt_ret1 rfl rfl ⟨_, rfl, (hS.sel [] (by decide)), h⟩)))))
      · replace h := h.2 hp4; refine zd hp4 (wt_skip (wt_seq (wt_seq (wl_region wd_wide (zq (zm (.int .i64 x)) (zq (zm (.int .i64 y)) (zq (v_gtr rfl rfl) (rl_end ?_)))))))); by_cases hp5 : y < x
        · replace h := h.1 hp5; exact zc hp5 (wt_seq (wl_region wd_wide (zq (za (.int .i64 1)) (rl_end (wt_ret1 rfl rfl ⟨_, rfl, (hS.sel [] (by decide)), h⟩)))))
        · replace h := h.2 hp5; exact zd hp5 (wt_skip (wt_seq (wl_region wd_wide (zq (za (.int .i64 0)) (rl_end (wt_ret1 rfl rfl ⟨_, rfl, (hS.sel [] (by decide)), h⟩))))))

/-- cmp.Or[int]: what it computes. -/
def pf_cmp_Or_int (vals : List Int) (R : Int → Prop) : Prop :=
(∃ I2 : Nat → Int → Prop, (∃ m0, I2 m0 0) ∧ ∀ m2 v, I2 m2 v → 
((v < ((vals.length : Nat) : Int) →
((0 ≤ v ∧ v < ((vals.length : Nat) : Int)) ∧
(((gi vals v.toNat) = 0 →
(In64 (v + 1) ∧
∃ m3, m3 < m2 ∧ I2 m3 (v + 1))) ∧
(¬ ((gi vals v.toNat) = 0) →
R (gi vals v.toNat))))) ∧
(¬ (v < ((vals.length : Nat) : Int)) →
R 0)))
theorem pok_cmp_Or_int {O : Nat → Prop} {w : World} {vals Avals lvals cvals} {R : Int → Prop} (h : pf_cmp_Or_int vals R) (hO : ∀ k, O k → k < w.heap.size) (hA0 : (FP.sl cI Avals lvals cvals vals).P O w) :
    Calls Try.prog 161 #[(.slice Avals lvals cvals)] w fun e w' => ∃ r, e = .returned (.int .i64 r) ∧ Sep w no O w' (rl []) ∧ R r := by
  unfold pf_cmp_Or_int at h; have hS : Sep w no O w (rl [Res.ro (FP.sl cI Avals lvals cvals vals)]) := Sep.startl hO [(FP.sl cI Avals lvals cvals vals)] ⟨hA0, trivial⟩; refine calls_sh (l := [(.slice Avals lvals cvals)]) Try.func161 rfl Try.ntmps161 (Nat.le_of_ble_eq_true rfl) (wt_seq (wl_region wd_wide (zq (za (.int .i64 0)) (rl_end (wt_seq (wl_region wd_wide (zq (za (.int .i64 0)) (rl_end (wt_seq (wt_seq (wl_region wd_wide (zq (zm (.slice Avals lvals cvals)) (zq (v_lenx (n := vals.length) rfl Try.underlying25 (rd_len (hS.rdr 0 rfl))) (zq (zm (.int .i64 0)) (rl_end (wt_block ?_)))))))))))))))); obtain ⟨I2, ⟨m0, h0⟩, hr⟩ := h; refine wt_loop (fun m E ds w' => ∃ v, I2 m v ∧ ds = [] ∧ E 3 = (Value.int .i64 0) ∧ E 6 = (Value.slice Avals lvals cvals) ∧ E 7 = (Value.int .i64 ((vals.length : Nat) : Int)) ∧ E 8 = (Value.int .i64 v) ∧ Sep w no O w' (rl [Res.ro (FP.sl cI Avals lvals cvals vals)])) m0 ⟨_, h0, rfl, rfl, rfl, rfl, rfl, (hS.sel [0] (by decide))⟩ ?_; clear h0 hS; rintro m2 E ds w2 ⟨v, h, rfl, hE3, hE6, hE7, hE8, hS⟩ again; replace h := hr m2 v h; clear hr; refine wt_seq (wl_region wd_wide (zq (v_lss hE8 hE7) (rl_end (wt_seq ?_))))
  by_cases hp : v < ((vals.length : Nat) : Int)
  · replace h := h.1 hp; refine zc hp (wt_skip (wt_seq (wt_block (wt_seq (wl_region wd_wide ?_))))); obtain ⟨hx, h⟩ := h; refine zq (v_iaddr hE6 hE8 Try.underlying25 info_3 (rd_ix (hS.rdr 0 rfl) hx)) (zq (v_load (v := (.int .i64 (gi vals v.toNat))) rfl Try.underlying3 rfl (rd_1 (hS.rdr 0 rfl) hx (fun q => gi_some q) rfl)) ?_); refine zq (za (.int .i64 (gi vals v.toNat))) (rl_end (wt_seq (wl_region wd_wide (zq (zm (.int .i64 (gi vals v.toNat))) (zq (v_move hE3) (zq (v_neq rfl rfl) (rl_end ?_))))))); by_cases hp2 : (gi vals v.toNat) = 0
    · replace h := h.1 hp2; refine ze hp2 (wt_skip (wt_inBlock (wl_region wd_wide ?_))); obtain ⟨hi, h⟩ := h; refine zq (v_add hE8 rfl hi) (zq (zm (.int .i64 (v + 1))) (rl_end ?_)); obtain ⟨mq, hlt, h⟩ := h; exact again mq _ _ _ ⟨_, h, rfl, hE3, hE6, hE7, rfl, (hS.sel [0] (by decide))⟩ hlt
    · replace h := h.2 hp2; exact zf hp2 (wt_seq (wl_region wd_wide (zq (zm (.int .i64 (gi vals v.toNat))) (zq (za (.int .i64 (gi vals v.toNat))) (rl_end (wt_ret1 rfl rfl ⟨_, rfl, (hS.sel [] (by decide)), h⟩))))))
  · replace h := h.2 hp; exact zd hp (wt_exit rfl (wt_seq (wl_region wd_wide (zq (v_move hE3) (zq (za (.int .i64 0)) (rl_end (wt_ret1 rfl rfl ⟨_, rfl, (hS.sel [] (by decide)), h⟩)))))))

/-- (sandpile/graph.pair).compare: what it computes. -/
def pf_graph_pair_compare (p : Int) (p2 : Int) (q : Int) (q2 : Int) (R : Int → Prop) : Prop :=
pf_cmp_Compare_int p q (fun r =>
pf_cmp_Compare_int p2 q2 (fun r2 =>
pf_cmp_Or_int ([r, r2]) (fun r3 =>
R r3)))
theorem pok_graph_pair_compare {O : Nat → Prop} {w : World} {p p2 q q2} {R : Int → Prop} (h : pf_graph_pair_compare p p2 q q2 R) (hO : ∀ k, O k → k < w.heap.size) :
    Calls Try.prog 134 #[(.agg #[(.int .i64 p), (.int .i64 p2)]), (.agg #[(.int .i64 q), (.int .i64 q2)])] w fun e w' => ∃ r4, e = .returned (.int .i64 r4) ∧ Sep w no O w' (rl []) ∧ R r4 := by
  unfold pf_graph_pair_compare at h; have hS : Sep w no O w (rl []) := Sep.start w hO; refine calls_sh (l := [(.agg #[(.int .i64 p), (.int .i64 p2)]), (.agg #[(.int .i64 q), (.int .i64 q2)])]) Try.func134 rfl Try.ntmps134 (Nat.le_of_ble_eq_true rfl) (wt_seq (wl_region wd_wide (zn (n_box (v := (.agg #[(.int .i64 p), (.int .i64 p2)])) rfl ?_)))); intro g w2 hN; replace hS : Sep w no O w2 (stl _ 0 (Res.box 167 g [(.int .i64 p), (.int .i64 p2)])) := hS.new 0 rfl hN; clear hN; refine ⟨Stb.none _, zn (n_box (v := (.agg #[(.int .i64 q), (.int .i64 q2)])) rfl ?_)⟩; intro g2 w3 hN; replace hS : Sep w no O w3 (stl _ 1 (Res.box 167 g2 [(.int .i64 q), (.int .i64 q2)])) := hS.new 1 rfl hN; clear hN; refine ⟨Stb.none _, zq (za (.int .i64 0)) (rl_end (wt_seq (wp_draw [0, 1, 2, 3, 5, 6, 7, 8, 4, 9, 10, 11, 12] (fun i => match i with | 4 => [5, 6, 7, 8] | _ => []) wd_wide (by kernel_rfl) (by kernel_rfl) ?_)))⟩; replace hS := hS.drew; refine rp_q rfl rfl rfl (v_faddr rfl Try.underlying167 rfl info_3) (rp_q rfl rfl rfl (v_load rfl Try.underlying3 rfl (Row.cell (hS.bx 0 rfl) (i := 0) rfl)) (rp_q rfl rfl rfl (v_faddr rfl Try.underlying167 rfl info_3) (rp_q rfl rfl rfl (v_load rfl Try.underlying3 rfl (Row.cell (hS.bx 1 rfl) (i := 0) rfl)) ?_)))
  refine rp_q rfl rfl rfl (v_faddr rfl Try.underlying167 rfl info_3) (rp_q rfl rfl rfl (v_load rfl Try.underlying3 rfl (Row.cell (hS.bx 0 rfl) (i := 1) rfl)) (rp_q rfl rfl rfl (v_faddr rfl Try.underlying167 rfl info_3) (rp_q rfl rfl rfl (v_load rfl Try.underlying3 rfl (Row.cell (hS.bx 1 rfl) (i := 1) rfl)) (rp_n rfl rfl rfl rfl (n_call0 rfl (am2 rfl rfl) enter_162 ((pok_cmp_Compare_int h (no_lt _)).mono ?_)))))); rintro _ w4 ⟨r, rfl, hC, h⟩; replace hS := hS.pur hC.pure; clear hC; refine ⟨_, rfl, ?_⟩; refine ⟨⟨fun _ => (v_load rfl Try.underlying3 rfl (Row.cell (hS.bx 1 rfl) (i := 1) rfl)), ⟨fun _ => (v_faddr rfl Try.underlying167 rfl info_3), ⟨fun _ => (v_load rfl Try.underlying3 rfl (Row.cell (hS.bx 0 rfl) (i := 1) rfl)), ⟨fun _ => (v_faddr rfl Try.underlying167 rfl info_3), ⟨fun hh => Bool.noConfusion (show false = true from hh), ⟨fun hh => Bool.noConfusion (show false = true from hh), ⟨fun hh => Bool.noConfusion (show false = true from hh), ⟨fun hh => Bool.noConfusion (show false = true from hh), trivial⟩⟩⟩⟩⟩⟩⟩⟩, ?_⟩; refine rp_n rfl rfl rfl rfl (n_call0 rfl (am2 rfl rfl) enter_162 ((pok_cmp_Compare_int h (no_lt _)).mono ?_)); rintro _ w5 ⟨r2, rfl, hC, h⟩; replace hS := hS.pur hC.pure; clear hC; refine ⟨_, rfl, ?_⟩; refine ⟨Stb.none _, rp_n rfl rfl rfl rfl (n_bslice (l := [(0, (.int .i64 r)), (1, (.int .i64 r2))]) (cells := [(.int .i64 r), (.int .i64 r2)]) (bp2 rfl rfl) Try.underlying25 info_3 rfl rfl ?_)⟩; intro g3 w6 hN
  replace hS := hS.litf (n := 2) 2 rfl (fI .i64) hN ([r, r2] : List Int) rfl (by decide) rfl; clear hN; refine ⟨Stb.none _, rp_n rfl rfl rfl rfl (n_call0 rfl (am1 rfl) enter_161 ((pok_cmp_Or_int h (no_lt _) (hS.rdo 2 rfl)).mono ?_))⟩; rintro _ w7 ⟨r3, rfl, hC, h⟩; replace hS := hS.pur hC.pure; clear hC; refine ⟨_, rfl, ?_⟩; exact ⟨Stb.none _, rp_q rfl rfl rfl (za (.int .i64 r3)) (rp_end (wt_ret1 rfl rfl ⟨_, rfl, (hS.sel [] (by decide)), h⟩))⟩

/-- sandpile/graph.Check: what it computes. -/
def pf_graph_Check (d : Int) (d2 : List E3) (R : Int → Prop) : Prop :=
(∃ J2 : Prop, (J2 → (∃ I2 : Nat → Int → Int → Int → Prop, (∃ m0, I2 m0 0 (-1) (-1)) ∧ ∀ m2 v v2 v3, I2 m2 v v2 v3 → 
((v < ((d2.length : Nat) : Int) →
((0 ≤ v ∧ v < ((d2.length : Nat) : Int)) ∧
(∃ J3 : Prop, (J3 → ((((ge d2 v.toNat).2.1) < ((ge d2 v.toNat).1) →
R 9) ∧
(¬ (((ge d2 v.toNat).2.1) < ((ge d2 v.toNat).1)) →
pf_graph_pair_compare v2 v3 ((ge d2 v.toNat).1) ((ge d2 v.toNat).2.1) (fun r =>
((0 ≤ r →
R 9) ∧
(¬ (0 ≤ r) →
(In64 (v + 1) ∧
∃ m3, m3 < m2 ∧ I2 m3 (v + 1) ((ge d2 v.toNat).1) ((ge d2 v.toNat).2.1)))))))) ∧
pf_graph_vertex d ((ge d2 v.toNat).1) (fun r2 =>
((r2 = true →
pf_graph_vertex d ((ge d2 v.toNat).2.1) (fun r3 =>
((r3 = true →
((((ge d2 v.toNat).2.2) < 1 →
R 2) ∧
(¬ (((ge d2 v.toNat).2.2) < 1) →
((50 < ((ge d2 v.toNat).2.2) →
R 2) ∧
(¬ (50 < ((ge d2 v.toNat).2.2)) →
J3))))) ∧
(¬ (r3 = true) →
R 2)))) ∧
(¬ (r2 = true) →
R 2)))))) ∧
(¬ (v < ((d2.length : Nat) : Int)) →
R 0)))) ∧
((d < 1 →
R 2) ∧
(¬ (d < 1) →
((12 < d →
R 2) ∧
(¬ (12 < d) →
J2)))))
theorem pok_graph_Check {O : Nat → Prop} {w : World} {d d2 Ad ld cd} {R : Int → Prop} (h : pf_graph_Check d d2 R) (hO : ∀ k, O k → k < w.heap.size) (hA0 : (FP.sl c3 Ad ld cd d2).P O w) :
    Calls Try.prog 100 #[(.agg #[(.int .i64 d), (.slice Ad ld cd)])] w fun e w' => ∃ r4, e = .returned (.int .i64 r4) ∧ Sep w no O w' (rl []) ∧ R r4 := by
  unfold pf_graph_Check at h; have hS : Sep w no O w (rl [Res.ro (FP.sl c3 Ad ld cd d2)]) := Sep.startl hO [(FP.sl c3 Ad ld cd d2)] ⟨hA0, trivial⟩; refine calls_sh (l := [(.agg #[(.int .i64 d), (.slice Ad ld cd)])]) Try.func100 rfl Try.ntmps100 (Nat.le_of_ble_eq_true rfl) (wt_seq (wl_region wd_wide (zn (n_box (v := (.agg #[(.int .i64 d), (.slice Ad ld cd)])) rfl ?_)))); intro g w2 hN; replace hS : Sep w no O w2 (stl _ 1 (Res.box 24 g [(.int .i64 d), (.slice Ad ld cd)])) := hS.new 1 rfl hN; clear hN; refine ⟨Stb.none _, zq (za (.int .i64 0)) (rl_end (wt_seq (wt_seq ?_)))⟩; obtain ⟨J2, hJ, h⟩ := h; refine wt_cutT1 (fun E ds w' => J2 ∧ ds = [] ∧ E 1 = (Value.pointer (some (⟨g, 0, none⟩ : Addr))) ∧ Sep w no O w' (rl [Res.box 24 g [(.int .i64 d), (.slice Ad ld cd)], Res.ro (FP.sl c3 Ad ld cd d2)])) ?_ ?_
  · clear h hS; rintro E ds w3 ⟨h, rfl, hE1, hS⟩; replace h := hJ h; refine wt_seq (wl_region wd_wide (zn (n_build (l := [(0, (.int .i64 (-1))), (1, (.int .i64 (-1)))]) (cells := [(.int .i64 (-1)), (.int .i64 (-1))]) (places := [(0, 1), (1, 1)]) (bp2 rfl rfl) Try.underlying167 info_167 (by kernel_rfl) rfl ?_))); refine ⟨Stb.none _, zn (n_alloc info_167 ?_)⟩; intro g2 w4 hN; replace hS : Sep w no O w4 (stl _ 2 (Res.box 167 g2 [(.int .i64 0), (.int .i64 0)])) := hS.new 2 rfl hN; clear hN; refine ⟨Stb.none _, zo (n_storen (b := g2) (o := 0) (cells := #[(.int .i64 (-1)), (.int .i64 (-1))]) rfl rfl info_167 rfl rfl (there_row (hS.bx 2 rfl) (Nat.le_of_ble_eq_true rfl)) ?_)⟩; intro w5 e1; replace hS := hS.bstn 2 rfl 0 [(.int .i64 (-1)), (.int .i64 (-1))] e1; clear e1; refine ⟨Stb.none _, rl_end (wt_seq (wt_seq (wl_region wd_wide (zq (v_faddr hE1 Try.underlying24 rfl info_22) (zq (v_load rfl Try.underlying22 rfl (Row.cell (hS.bx 0 rfl) (i := 1) rfl)) (zq (v_lenx (n := d2.length) rfl Try.underlying22 (rd_len (hS.rdr 1 rfl))) (zq (zm (.int .i64 0)) (rl_end (wt_block ?_)))))))))⟩; obtain ⟨I2, ⟨m0, h0⟩, hr⟩ := h
    refine wt_loop (fun m E ds w' => ∃ v v2 v3, I2 m v v2 v3 ∧ ds = [] ∧ E 1 = (Value.pointer (some (⟨g, 0, none⟩ : Addr))) ∧ E 3 = (Value.pointer (some (⟨g2, 0, none⟩ : Addr))) ∧ E 17 = (Value.slice Ad ld cd) ∧ E 18 = (Value.int .i64 ((d2.length : Nat) : Int)) ∧ E 19 = (Value.int .i64 v) ∧ Sep w no O w' (rl [Res.box 24 g [(.int .i64 d), (.slice Ad ld cd)], Res.ro (FP.sl c3 Ad ld cd d2), Res.box 167 g2 [(.int .i64 v2), (.int .i64 v3)]])) m0 ⟨_, _, _, h0, rfl, hE1, rfl, rfl, rfl, rfl, (hS.sel [0, 1, 2] (by decide))⟩ ?_; clear h0 hS; rintro m2 E ds w6 ⟨v, v2, v3, h, rfl, hE1, hE3, hE17, hE18, hE19, hS⟩ again; replace h := hr m2 v v2 v3 h; clear hr; refine wt_seq (wl_region wd_wide (zq (v_lss hE19 hE18) (rl_end (wt_seq ?_)))); by_cases hp : v < ((d2.length : Nat) : Int)
    · replace h := h.1 hp; refine zc hp (wt_skip (wt_seq (wt_block (wt_seq (wl_region wd_wide ?_))))); obtain ⟨hx, h⟩ := h; refine zq (v_iaddr hE17 hE19 Try.underlying22 info_83 (rd_ix (hS.rdr 1 rfl) hx)) (zq (v_loadn (vs := [(.int .i64 ((ge d2 v.toNat).1)), (.int .i64 ((ge d2 v.toNat).2.1)), (.int .i64 ((ge d2 v.toNat).2.2))]) rfl Try.underlying83 rfl info_83 (rd_fs (hS.rdr 1 rfl) hx (fun q => ge_some q))) ?_); refine zn (n_alloc info_83 ?_); intro g3 w7 hN; replace hS : Sep w no O w7 (stl _ 3 (Res.box 83 g3 [(.int .i64 0), (.int .i64 0), (.int .i64 0)])) := hS.new 3 rfl hN; clear hN; refine ⟨Stb.none _, zo (n_storen (b := g3) (o := 0) (cells := #[(.int .i64 ((ge d2 v.toNat).1)), (.int .i64 ((ge d2 v.toNat).2.1)), (.int .i64 ((ge d2 v.toNat).2.2))]) rfl rfl info_83 rfl rfl (there_row (hS.bx 3 rfl) (Nat.le_of_ble_eq_true rfl)) ?_)⟩; intro w8 e1; replace hS := hS.bstn 3 rfl 0 [(.int .i64 ((ge d2 v.toNat).1)), (.int .i64 ((ge d2 v.toNat).2.1)), (.int .i64 ((ge d2 v.toNat).2.2))] e1; clear e1; refine ⟨Stb.none _, rl_end (wt_seq (wl_region wd_wide (zq (v_faddr rfl Try.underlying83 rfl info_3) (zq (v_load rfl Try.underlying3 rfl (Row.cell (hS.bx 3 rfl) (i := 0) rfl)) ?_))))⟩
      refine zq (v_faddr rfl Try.underlying83 rfl info_3) (zq (v_load rfl Try.underlying3 rfl (Row.cell (hS.bx 3 rfl) (i := 1) rfl)) (zn (n_build (l := [(0, (.int .i64 ((ge d2 v.toNat).1))), (1, (.int .i64 ((ge d2 v.toNat).2.1)))]) (cells := [(.int .i64 ((ge d2 v.toNat).1)), (.int .i64 ((ge d2 v.toNat).2.1))]) (places := [(0, 1), (1, 1)]) (bp2 rfl rfl) Try.underlying167 info_167 (by kernel_rfl) rfl ?_))); refine ⟨Stb.none _, zn (n_alloc info_167 ?_)⟩; intro g4 w9 hN; replace hS : Sep w no O w9 (stl _ 4 (Res.box 167 g4 [(.int .i64 0), (.int .i64 0)])) := hS.new 4 rfl hN; clear hN; refine ⟨Stb.none _, zo (n_storen (b := g4) (o := 0) (cells := #[(.int .i64 ((ge d2 v.toNat).1)), (.int .i64 ((ge d2 v.toNat).2.1))]) rfl rfl info_167 rfl rfl (there_row (hS.bx 4 rfl) (Nat.le_of_ble_eq_true rfl)) ?_)⟩; intro w10 e1; replace hS := hS.bstn 4 rfl 0 [(.int .i64 ((ge d2 v.toNat).1)), (.int .i64 ((ge d2 v.toNat).2.1))] e1; clear e1; refine ⟨Stb.none _, rl_end (wt_seq (wt_block (wt_seq ?_)))⟩; obtain ⟨J3, hJ, h⟩ := h
      refine wt_cutB1 (fun E ds w' => J3 ∧ ds = [] ∧ E 1 = (Value.pointer (some (⟨g, 0, none⟩ : Addr))) ∧ E 3 = (Value.pointer (some (⟨g2, 0, none⟩ : Addr))) ∧ E 5 = (Value.pointer (some (⟨g3, 0, none⟩ : Addr))) ∧ E 6 = (Value.pointer (some (⟨g4, 0, none⟩ : Addr))) ∧ E 17 = (Value.slice Ad ld cd) ∧ E 18 = (Value.int .i64 ((d2.length : Nat) : Int)) ∧ E 19 = (Value.int .i64 v) ∧ Sep w no O w' (rl [Res.box 24 g [(.int .i64 d), (.slice Ad ld cd)], Res.ro (FP.sl c3 Ad ld cd d2), Res.box 167 g2 [(.int .i64 v2), (.int .i64 v3)], Res.box 83 g3 [(.int .i64 ((ge d2 v.toNat).1)), (.int .i64 ((ge d2 v.toNat).2.1)), (.int .i64 ((ge d2 v.toNat).2.2))], Res.box 167 g4 [(.int .i64 ((ge d2 v.toNat).1)), (.int .i64 ((ge d2 v.toNat).2.1))]])) ?_ ?_
      · clear h hS; rintro E ds w11 ⟨h, rfl, hE1, hE3, hE5, hE6, hE17, hE18, hE19, hS⟩; replace h := hJ h; refine wt_seq (wl_region wd_wide (zq (v_faddr hE5 Try.underlying83 rfl info_3) (zq (v_load rfl Try.underlying3 rfl (Row.cell (hS.bx 3 rfl) (i := 0) rfl)) (zq (v_faddr hE5 Try.underlying83 rfl info_3) (zq (v_load rfl Try.underlying3 rfl (Row.cell (hS.bx 3 rfl) (i := 1) rfl)) (zq (v_gtr rfl rfl) (zq (zm (.bool (decide (((ge d2 v.toNat).2.1) < ((ge d2 v.toNat).1))))) ?_))))))); by_cases hp2 : ((ge d2 v.toNat).2.1) < ((ge d2 v.toNat).1)
        · replace h := h.1 hp2; exact rl_p (wanted_n rfl (yE_of rfl (congrArg Value.bool (decide_eq_true hp2))) rfl) rfl (rl_p (wanted_n rfl (yE_of rfl (congrArg Value.bool (decide_eq_true hp2))) rfl) rfl (rl_p (wanted_n rfl (yE_of rfl (congrArg Value.bool (decide_eq_true hp2))) rfl) rfl (rl_p (wanted_n rfl (yE_of rfl (congrArg Value.bool (decide_eq_true hp2))) rfl) rfl (zq (v_pick_t (v := (.bool (true))) (congrArg Value.bool (decide_eq_true hp2)) rfl) (zq (za (.bool (true))) (rl_end (wt_cond_t rfl (wt_seq (wl_region wd_wide (zq (za (.int .i64 9)) (rl_end (wt_ret1 rfl rfl ⟨_, rfl, (hS.sel [] (by decide)), h⟩))))))))))))
        · replace h := h.2 hp2; refine rl_q (wanted_g rfl (yE_of rfl (congrArg Value.bool (decide_eq_false hp2)))) rfl rfl (v_loadn (vs := [(.int .i64 v2), (.int .i64 v3)]) hE3 Try.underlying167 rfl info_167 ⟨Row.cell (hS.bx 2 rfl) (i := 0) rfl, Row.cell (hS.bx 2 rfl) (i := 1) rfl, trivial⟩) (rl_q (wanted_g rfl (yE_of rfl (congrArg Value.bool (decide_eq_false hp2)))) rfl rfl (v_loadn (vs := [(.int .i64 ((ge d2 v.toNat).1)), (.int .i64 ((ge d2 v.toNat).2.1))]) hE6 Try.underlying167 rfl info_167 ⟨Row.cell (hS.bx 4 rfl) (i := 0) rfl, Row.cell (hS.bx 4 rfl) (i := 1) rfl, trivial⟩) (rl_n (wanted_g rfl (yE_of rfl (congrArg Value.bool (decide_eq_false hp2)))) rfl rfl rfl (n_call0 rfl (am2 rfl rfl) enter_134 ((pok_graph_pair_compare h (no_lt _)).mono ?_)))); rintro _ w12 ⟨r, rfl, hC, h⟩; replace hS := hS.pur hC.pure; clear hC; refine ⟨_, rfl, ?_⟩; refine ⟨Stb.none _, rl_q (wanted_g rfl (yE_of rfl (congrArg Value.bool (decide_eq_false hp2)))) rfl rfl (v_geq rfl rfl) (zq (v_pick_f (v := (.bool (decide (0 ≤ r)))) (congrArg Value.bool (decide_eq_false hp2)) rfl) (zq (za (.bool (decide (0 ≤ r)))) (rl_end ?_)))⟩; by_cases hp3 : 0 ≤ r
          · replace h := h.1 hp3; exact zc hp3 (wt_seq (wl_region wd_wide (zq (za (.int .i64 9)) (rl_end (wt_ret1 rfl rfl ⟨_, rfl, (hS.sel [] (by decide)), h⟩)))))
          · replace h := h.2 hp3; refine zd hp3 (wt_skip (wt_inBlock (wl_region wd_wide (zq (v_loadn (vs := [(.int .i64 ((ge d2 v.toNat).1)), (.int .i64 ((ge d2 v.toNat).2.1))]) hE6 Try.underlying167 rfl info_167 ⟨Row.cell (hS.bx 4 rfl) (i := 0) rfl, Row.cell (hS.bx 4 rfl) (i := 1) rfl, trivial⟩) (zo (n_storen (b := g2) (o := 0) (cells := #[(.int .i64 ((ge d2 v.toNat).1)), (.int .i64 ((ge d2 v.toNat).2.1))]) hE3 rfl info_167 rfl rfl (there_row (hS.bx 2 rfl) (Nat.le_of_ble_eq_true rfl)) ?_)))))); intro w13 e1; replace hS := hS.bstn 2 rfl 0 [(.int .i64 ((ge d2 v.toNat).1)), (.int .i64 ((ge d2 v.toNat).2.1))] e1; clear e1; refine ⟨Stb.none _, rl_end (wt_inBlock (wl_region wd_wide ?_))⟩; obtain ⟨hi, h⟩ := h; refine zq (v_add hE19 rfl hi) (zq (zm (.int .i64 (v + 1))) (rl_end ?_)); obtain ⟨mq, hlt, h⟩ := h; exact again mq _ _ _ ⟨_, _, _, h, rfl, hE1, hE3, hE17, hE18, rfl, (hS.sel [0, 1, 2] (by decide))⟩ hlt
      clear hJ; intro j2; refine wl_region wd_wide (zq (v_faddr hE1 Try.underlying24 rfl info_3) (zq (v_load rfl Try.underlying3 rfl (Row.cell (hS.bx 0 rfl) (i := 0) rfl)) (zq (v_faddr rfl Try.underlying83 rfl info_3) (zq (v_load rfl Try.underlying3 rfl (Row.cell (hS.bx 3 rfl) (i := 0) rfl)) (zn (n_call0 rfl (am2 rfl rfl) enter_133 ((pok_graph_vertex h (no_lt _)).mono ?_))))))); rintro _ w14 ⟨r2, rfl, hC, h⟩; replace hS := hS.pur hC.pure; clear hC; refine ⟨_, rfl, ?_⟩; refine ⟨Stb.none _, zq (v_not rfl) (zq (zm (.bool (!(r2)))) ?_)⟩; by_cases hp4 : r2 = true
      · replace h := h.1 hp4; refine rl_q (wanted_g rfl (yE_of rfl (congrArg Value.bool (congrArg Bool.not hp4)))) rfl rfl (v_faddr hE1 Try.underlying24 rfl info_3) (rl_q (wanted_g rfl (yE_of rfl (congrArg Value.bool (congrArg Bool.not hp4)))) rfl rfl (v_load rfl Try.underlying3 rfl (Row.cell (hS.bx 0 rfl) (i := 0) rfl)) (rl_q (wanted_g rfl (yE_of rfl (congrArg Value.bool (congrArg Bool.not hp4)))) rfl rfl (v_faddr rfl Try.underlying83 rfl info_3) (rl_q (wanted_g rfl (yE_of rfl (congrArg Value.bool (congrArg Bool.not hp4)))) rfl rfl (v_load rfl Try.underlying3 rfl (Row.cell (hS.bx 3 rfl) (i := 1) rfl)) (rl_n (wanted_g rfl (yE_of rfl (congrArg Value.bool (congrArg Bool.not hp4)))) rfl rfl rfl (n_call0 rfl (am2 rfl rfl) enter_133 ((pok_graph_vertex h (no_lt _)).mono ?_)))))); rintro _ w15 ⟨r3, rfl, hC, h⟩; replace hS := hS.pur hC.pure; clear hC; refine ⟨_, rfl, ?_⟩; refine ⟨Stb.none _, rl_q (wanted_g rfl (yE_of rfl (congrArg Value.bool (congrArg Bool.not hp4)))) rfl rfl (v_not rfl) (zq (v_pick_f (v := (.bool (!(r3)))) (congrArg Value.bool (congrArg Bool.not hp4)) rfl) (zq (zm (.bool (!(r3)))) ?_))⟩; by_cases hp5 : r3 = true
        · replace h := h.1 hp5; refine rl_q (wanted_g rfl (yE_of rfl (congrArg Value.bool (congrArg Bool.not hp5)))) rfl rfl (v_faddr rfl Try.underlying83 rfl info_3) (rl_q (wanted_g rfl (yE_of rfl (congrArg Value.bool (congrArg Bool.not hp5)))) rfl rfl (v_load rfl Try.underlying3 rfl (Row.cell (hS.bx 3 rfl) (i := 2) rfl)) (rl_q (wanted_g rfl (yE_of rfl (congrArg Value.bool (congrArg Bool.not hp5)))) rfl rfl (v_lss rfl rfl) (zq (v_pick_f (v := (.bool (decide (((ge d2 v.toNat).2.2) < 1)))) (congrArg Value.bool (congrArg Bool.not hp5)) rfl) (zq (zm (.bool (decide (((ge d2 v.toNat).2.2) < 1)))) ?_)))); by_cases hp6 : ((ge d2 v.toNat).2.2) < 1
          · replace h := h.1 hp6; exact rl_p (wanted_n rfl (yE_of rfl (congrArg Value.bool (decide_eq_true hp6))) rfl) rfl (rl_p (wanted_n rfl (yE_of rfl (congrArg Value.bool (decide_eq_true hp6))) rfl) rfl (rl_p (wanted_n rfl (yE_of rfl (congrArg Value.bool (decide_eq_true hp6))) rfl) rfl (zq (v_pick_t (v := (.bool (true))) (congrArg Value.bool (decide_eq_true hp6)) rfl) (zq (za (.bool (true))) (rl_end (wt_cond_t rfl (wt_seq (wl_region wd_wide (zq (za (.int .i64 2)) (rl_end (wt_ret1 rfl rfl ⟨_, rfl, (hS.sel [] (by decide)), h⟩)))))))))))
          · replace h := h.2 hp6; refine rl_q (wanted_g rfl (yE_of rfl (congrArg Value.bool (decide_eq_false hp6)))) rfl rfl (v_faddr rfl Try.underlying83 rfl info_3) (rl_q (wanted_g rfl (yE_of rfl (congrArg Value.bool (decide_eq_false hp6)))) rfl rfl (v_load rfl Try.underlying3 rfl (Row.cell (hS.bx 3 rfl) (i := 2) rfl)) (rl_q (wanted_g rfl (yE_of rfl (congrArg Value.bool (decide_eq_false hp6)))) rfl rfl (v_gtr rfl rfl) (zq (v_pick_f (v := (.bool (decide (50 < ((ge d2 v.toNat).2.2))))) (congrArg Value.bool (decide_eq_false hp6)) rfl) (zq (za (.bool (decide (50 < ((ge d2 v.toNat).2.2))))) (rl_end ?_))))); by_cases hp7 : 50 < ((ge d2 v.toNat).2.2)
            · replace h := h.1 hp7; exact zc hp7 (wt_seq (wl_region wd_wide (zq (za (.int .i64 2)) (rl_end (wt_ret1 rfl rfl ⟨_, rfl, (hS.sel [] (by decide)), h⟩)))))
            · replace h := h.2 hp7; exact zd hp7 (j2 _ _ _ ⟨h, rfl, hE1, hE3, rfl, rfl, hE17, hE18, hE19, (hS.sel [0, 1, 2, 3, 4] (by decide))⟩)
        · replace h := h.2 hp5; exact rl_p (wanted_n rfl (yE_of rfl (congrArg Value.bool (congrArg Bool.not (Bool.eq_false_iff.2 hp5)))) rfl) rfl (rl_p (wanted_n rfl (yE_of rfl (congrArg Value.bool (congrArg Bool.not (Bool.eq_false_iff.2 hp5)))) rfl) rfl (rl_p (wanted_n rfl (yE_of rfl (congrArg Value.bool (congrArg Bool.not (Bool.eq_false_iff.2 hp5)))) rfl) rfl (zq (v_pick_t (v := (.bool (true))) (congrArg Value.bool (congrArg Bool.not (Bool.eq_false_iff.2 hp5))) rfl) (zq (zm (.bool (true))) (rl_p (wanted_n rfl (yE_of rfl rfl) rfl) rfl (rl_p (wanted_n rfl (yE_of rfl rfl) rfl) rfl (rl_p (wanted_n rfl (yE_of rfl rfl) rfl) rfl (zq (v_pick_t (v := (.bool (true))) rfl rfl) (zq (za (.bool (true))) (rl_end (wt_cond_t rfl (wt_seq (wl_region wd_wide (zq (za (.int .i64 2)) (rl_end (wt_ret1 rfl rfl ⟨_, rfl, (hS.sel [] (by decide)), h⟩))))))))))))))))
      · replace h := h.2 hp4; refine rl_p (wanted_n rfl (yE_of rfl (congrArg Value.bool (congrArg Bool.not (Bool.eq_false_iff.2 hp4)))) rfl) rfl (rl_p (wanted_n rfl (yE_of rfl (congrArg Value.bool (congrArg Bool.not (Bool.eq_false_iff.2 hp4)))) rfl) rfl (rl_p (wanted_n rfl (yE_of rfl (congrArg Value.bool (congrArg Bool.not (Bool.eq_false_iff.2 hp4)))) rfl) rfl (rl_p (wanted_n rfl (yE_of rfl (congrArg Value.bool (congrArg Bool.not (Bool.eq_false_iff.2 hp4)))) rfl) rfl (rl_p (wanted_n rfl (yE_of rfl (congrArg Value.bool (congrArg Bool.not (Bool.eq_false_iff.2 hp4)))) rfl) rfl (rl_p (wanted_n rfl (yE_of rfl (congrArg Value.bool (congrArg Bool.not (Bool.eq_false_iff.2 hp4)))) rfl) rfl (zq (v_pick_t (v := (.bool (true))) (congrArg Value.bool (congrArg Bool.not (Bool.eq_false_iff.2 hp4))) rfl) (zq (zm (.bool (true))) (rl_p (wanted_n rfl (yE_of rfl rfl) rfl) rfl (rl_p (wanted_n rfl (yE_of rfl rfl) rfl) rfl (rl_p (wanted_n rfl (yE_of rfl rfl) rfl) rfl (zq (v_pick_t (v := (.bool (true))) rfl rfl) (zq (zm (.bool (true))) (rl_p (wanted_n rfl (yE_of rfl rfl) rfl) rfl (rl_p (wanted_n rfl (yE_of rfl rfl) rfl) rfl (rl_p (wanted_n rfl (yE_of rfl rfl) rfl) rfl (zq (v_pick_t (v := (.bool (true))) rfl rfl) ?_))))))))))))))))
        exact zq (za (.bool (true))) (rl_end (wt_cond_t rfl (wt_seq (wl_region wd_wide (zq (za (.int .i64 2)) (rl_end (wt_ret1 rfl rfl ⟨_, rfl, (hS.sel [] (by decide)), h⟩)))))))
    · replace h := h.2 hp; exact zd hp (wt_exit rfl (wt_seq (wl_region wd_wide (zq (za (.int .i64 0)) (rl_end (wt_ret1 rfl rfl ⟨_, rfl, (hS.sel [] (by decide)), h⟩))))))
  clear hJ; intro j; refine wl_region wd_wide (zq (v_faddr rfl Try.underlying24 rfl info_3) (zq (v_load rfl Try.underlying3 rfl (Row.cell (hS.bx 1 rfl) (i := 0) rfl)) (zq (v_lss rfl rfl) (zq (zm (.bool (decide (d < 1)))) ?_)))); by_cases hp8 : d < 1
  · replace h := h.1 hp8; exact rl_p (wanted_n rfl (yE_of rfl (congrArg Value.bool (decide_eq_true hp8))) rfl) rfl (rl_p (wanted_n rfl (yE_of rfl (congrArg Value.bool (decide_eq_true hp8))) rfl) rfl (rl_p (wanted_n rfl (yE_of rfl (congrArg Value.bool (decide_eq_true hp8))) rfl) rfl (zq (v_pick_t (v := (.bool (true))) (congrArg Value.bool (decide_eq_true hp8)) rfl) (rl_end (wt_cond_t rfl (wt_seq (wl_region wd_wide (zq (za (.int .i64 2)) (rl_end (wt_ret1 rfl rfl ⟨_, rfl, (hS.sel [] (by decide)), h⟩))))))))))
  · replace h := h.2 hp8; refine rl_q (wanted_g rfl (yE_of rfl (congrArg Value.bool (decide_eq_false hp8)))) rfl rfl (v_faddr rfl Try.underlying24 rfl info_3) (rl_q (wanted_g rfl (yE_of rfl (congrArg Value.bool (decide_eq_false hp8)))) rfl rfl (v_load rfl Try.underlying3 rfl (Row.cell (hS.bx 1 rfl) (i := 0) rfl)) (rl_q (wanted_g rfl (yE_of rfl (congrArg Value.bool (decide_eq_false hp8)))) rfl rfl (v_gtr rfl rfl) (zq (v_pick_f (v := (.bool (decide (12 < d)))) (congrArg Value.bool (decide_eq_false hp8)) rfl) (rl_end ?_)))); by_cases hp9 : 12 < d
    · replace h := h.1 hp9; exact zc hp9 (wt_seq (wl_region wd_wide (zq (za (.int .i64 2)) (rl_end (wt_ret1 rfl rfl ⟨_, rfl, (hS.sel [] (by decide)), h⟩)))))
    · replace h := h.2 hp9; exact zd hp9 (wt_skip (j _ _ _ ⟨h, rfl, rfl, (hS.sel [1, 0] (by decide))⟩))

end Go.Proofs.Ytmeoemmemjipdaa

/- Pure forms of functions, made by program (pf.py), each with the proof that the code does so. -/
namespace Go.Proofs.Ytmeoemmemjipdaa
open Go Go.RowKit Go.Shelf
set_option linter.unusedVariables false
set_option maxRecDepth 100000
set_option maxHeartbeats 1000000
/-- sandpile/effective.Winnable: what it computes. -/
def pf_effective_Winnable (g : Int) (g2 : List E3) (d : List Int) (R : Bool → (List Int) → (List Int) → Int → Prop) : Prop :=
pf_reduced_Reduce g g2 0 d (fun r r2 r3 =>
((r3 = 0 →
((0 ≤ (0 : Int) ∧ (0 : Int) < ((r.length : Nat) : Int)) ∧
R (decide (0 ≤ (gi r (0 : Int).toNat))) r r2 0)) ∧
(¬ (r3 = 0) →
R false ([]) ([]) r3)))
theorem pok_effective_Winnable {O : Nat → Prop} {w : World} {g g2 d Ag lg cg Ad ld cd} {R : Bool → (List Int) → (List Int) → Int → Prop} (h : pf_effective_Winnable g g2 d R) (hO : ∀ k, O k → k < w.heap.size) (hA0 : (FP.sl c3 Ag lg cg g2).P O w) (hA1 : (FP.sl cI Ad ld cd d).P O w) :
    Calls Try.prog 34 #[(.agg #[(.int .i64 g), (.slice Ag lg cg)]), (.slice Ad ld cd)] w fun e w' => ∃ r4 r5 r6 r7 Ar3 lr3 cr3 Ar4 lr4 cr4, e = .returned (.tuple #[(.bool (r4)), (.slice Ar3 lr3 cr3), (.slice Ar4 lr4 cr4), (.int .i64 r7)]) ∧ Sep w no O w' (rl [Res.own cI 3 Ar3 lr3 cr3 r5, Res.own cI 3 Ar4 lr4 cr4 r6]) ∧ R r4 r5 r6 r7 := by
  unfold pf_effective_Winnable at h; have hS : Sep w no O w (rl [Res.ro (FP.sl c3 Ag lg cg g2), Res.ro (FP.sl cI Ad ld cd d)]) := Sep.startl hO [(FP.sl c3 Ag lg cg g2), (FP.sl cI Ad ld cd d)] ⟨hA0, hA1, trivial⟩; refine calls_sh (l := [(.agg #[(.int .i64 g), (.slice Ag lg cg)]), (.slice Ad ld cd)]) Try.func34 rfl Try.ntmps34 (Nat.le_of_ble_eq_true rfl) (wt_seq (wl_region wd_wide (zn (n_box (v := (.agg #[(.int .i64 g), (.slice Ag lg cg)])) rfl ?_)))); intro g3 w2 hN; replace hS : Sep w no O w2 (stl _ 2 (Res.box 24 g3 [(.int .i64 g), (.slice Ag lg cg)])) := hS.new 2 rfl hN; clear hN; refine ⟨Stb.none _, zq (za (.bool (false))) (zq (za (.slice none 0 0)) (zq (za (.slice none 0 0)) (zq (za (.int .i64 0)) (rl_end (wt_seq (wl_region wd_wide (zq (v_loadn (vs := [(.int .i64 g), (.slice Ag lg cg)]) rfl Try.underlying24 rfl info_24 ⟨Row.cell (hS.bx 2 rfl) (i := 0) rfl, Row.cell (hS.bx 2 rfl) (i := 1) rfl, trivial⟩) (zq (zm (.slice Ad ld cd)) (zn (n_call0 rfl (am3 rfl rfl rfl) enter_75 ((pok_reduced_Reduce h (no_lt _) (hS.rdr 0 rfl) (hS.rdr 1 rfl)).mono ?_)))))))))))⟩; rintro _ w3 ⟨r, r2, r3, Ar, lr, cr, Ar2, lr2, cr2, rfl, hC, h⟩
  replace hS := hS.call2 (hC.widen (flatS (flat_own (fI .i64) _ _ _ _ _) (flatS (flat_own (fI .i64) _ _ _ _ _) flat0)) hS.blt) 3 0 4 1 rfl rfl (by decide) (by decide); clear hC; refine ⟨_, rfl, ?_⟩; refine ⟨Stb.none _, zq (zm (.tuple #[(.slice Ar lr cr), (.slice Ar2 lr2 cr2), (.int .i64 r3)])) (zq (zx (.slice Ar lr cr)) (zq (zx (.slice Ar2 lr2 cr2)) (zq (zx (.int .i64 r3)) (zq (za (.slice Ar lr cr)) (zq (za (.slice Ar2 lr2 cr2)) (zq (za (.int .i64 r3)) (rl_end (wt_seq (wt_seq (wl_region wd_wide (zq (zm (.int .i64 r3)) (zq (v_neq rfl rfl) (rl_end ?_)))))))))))))⟩; by_cases hp : r3 = 0
  · replace h := h.1 hp; refine ze hp (wt_skip (wt_seq (wl_region wd_wide (zq (zm (.slice Ar lr cr)) ?_)))); obtain ⟨hx, h⟩ := h; refine zq (v_iaddr rfl rfl Try.underlying26 info_3 (rd_ix (hS.rdo 3 rfl) hx)) (zq (v_load (v := (.int .i64 (gi r (0 : Int).toNat))) rfl Try.underlying3 rfl (rd_1 (hS.rdo 3 rfl) hx (fun q => gi_some q) rfl)) ?_); exact zq (v_geq rfl rfl) (zq (zm (.slice Ar lr cr)) (zq (zm (.slice Ar2 lr2 cr2)) (zq (za (.bool (decide (0 ≤ (gi r (0 : Int).toNat))))) (zq (za (.slice Ar lr cr)) (zq (za (.slice Ar2 lr2 cr2)) (zq (za (.int .i64 0)) (rl_end (wt_ret4 rfl rfl rfl rfl rfl ⟨_, _, _, _, _, _, _, _, _, _, rfl, (hS.sel [3, 4] (by decide)), h⟩))))))))
  · replace h := h.2 hp; refine zf hp (wt_seq (wl_region wd_wide (zq (zm (.int .i64 r3)) (zq (za (.bool (false))) (zq (za (.slice none 0 0)) (zq (za (.slice none 0 0)) (zq (za (.int .i64 r3)) (rl_end ?_)))))))); replace hS := hS.nil 5 rfl cI 3; replace hS := hS.nil 6 rfl cI 3; exact wt_ret4 rfl rfl rfl rfl rfl ⟨_, _, _, _, _, _, _, _, _, _, rfl, (hS.sel [5, 6] (by decide)), h⟩

/-- sandpile/sandpileref35.Given: what it computes. -/
def pf_r35_Given (g : Int) (g2 : List E3) (d : List Int) (R : Int → Prop) : Prop :=
pf_r25_Joined g g2 (fun r =>
((r = 0 →
pf_r17_Check d g (fun r2 =>
R r2)) ∧
(¬ (r = 0) →
R r)))
theorem pok_r35_Given {O : Nat → Prop} {w : World} {g g2 d Ag lg cg Ad ld cd} {R : Int → Prop} (h : pf_r35_Given g g2 d R) (hO : ∀ k, O k → k < w.heap.size) (hA0 : (FP.sl c3 Ag lg cg g2).P O w) (hA1 : (FP.sl cI Ad ld cd d).P O w) :
    Calls Try.prog 42 #[(.agg #[(.int .i64 g), (.slice Ag lg cg)]), (.slice Ad ld cd)] w fun e w' => ∃ r3, e = .returned (.int .i64 r3) ∧ Sep w no O w' (rl []) ∧ R r3 := by
  unfold pf_r35_Given at h; have hS : Sep w no O w (rl [Res.ro (FP.sl c3 Ag lg cg g2), Res.ro (FP.sl cI Ad ld cd d)]) := Sep.startl hO [(FP.sl c3 Ag lg cg g2), (FP.sl cI Ad ld cd d)] ⟨hA0, hA1, trivial⟩; refine calls_sh (l := [(.agg #[(.int .i64 g), (.slice Ag lg cg)]), (.slice Ad ld cd)]) Try.func42 rfl Try.ntmps42 (Nat.le_of_ble_eq_true rfl) (wt_seq (wl_region wd_wide (zn (n_box (v := (.agg #[(.int .i64 g), (.slice Ag lg cg)])) rfl ?_)))); intro g3 w2 hN; replace hS : Sep w no O w2 (stl _ 2 (Res.box 24 g3 [(.int .i64 g), (.slice Ag lg cg)])) := hS.new 2 rfl hN; clear hN; refine ⟨Stb.none _, zq (za (.int .i64 0)) (rl_end (wt_seq (wt_seq (wl_region wd_wide (zq (v_loadn (vs := [(.int .i64 g), (.slice Ag lg cg)]) rfl Try.underlying24 rfl info_24 ⟨Row.cell (hS.bx 2 rfl) (i := 0) rfl, Row.cell (hS.bx 2 rfl) (i := 1) rfl, trivial⟩) (zn (n_call0 rfl (am1 rfl) enter_51 ((pok_r25_Joined h (no_lt _) (hS.rdr 0 rfl)).mono ?_))))))))⟩; rintro _ w3 ⟨r, rfl, hC, h⟩; replace hS := hS.pur hC.pure; clear hC; refine ⟨_, rfl, ?_⟩; refine ⟨Stb.none _, zq (za (.int .i64 r)) (rl_end (wt_seq (wl_region wd_wide (zq (zm (.int .i64 r)) (zq (v_neq rfl rfl) ?_)))))⟩
  refine rl_end ?_; by_cases hp : r = 0
  · replace h := h.1 hp; refine ze hp (wt_skip (wt_seq (wl_region wd_wide (zq (zm (.slice Ad ld cd)) (zq (v_faddr rfl Try.underlying24 rfl info_3) (zq (v_load rfl Try.underlying3 rfl (Row.cell (hS.bx 2 rfl) (i := 0) rfl)) (zn (n_call0 rfl (am2 rfl rfl) enter_31 ((pok_r17_Check h (no_lt _) (hS.rdr 1 rfl)).mono ?_))))))))); rintro _ w4 ⟨r2, rfl, hC, h⟩; replace hS := hS.pur hC.pure; clear hC; refine ⟨_, rfl, ?_⟩; exact ⟨Stb.none _, zq (za (.int .i64 r2)) (rl_end (wt_ret1 rfl rfl ⟨_, rfl, (hS.sel [] (by decide)), h⟩))⟩
  · replace h := h.2 hp; exact zf hp (wt_seq (wl_region wd_wide (zq (zm (.int .i64 r)) (zq (za (.int .i64 r)) (rl_end (wt_ret1 rfl rfl ⟨_, rfl, (hS.sel [] (by decide)), h⟩))))))

/-- sandpile/sandpileref36.debtor: what it computes. -/
def pf_r36_debtor (d : List Int) (R : Int → Prop) : Prop :=
(∃ I2 : Nat → Int → Prop, (∃ m0, I2 m0 0) ∧ ∀ m2 v, I2 m2 v → 
((v < ((d.length : Nat) : Int) →
((0 ≤ v ∧ v < ((d.length : Nat) : Int)) ∧
(((gi d v.toNat) < 0 →
R v) ∧
(¬ ((gi d v.toNat) < 0) →
(In64 (v + 1) ∧
∃ m3, m3 < m2 ∧ I2 m3 (v + 1)))))) ∧
(¬ (v < ((d.length : Nat) : Int)) →
R (-1))))
theorem pok_r36_debtor {O : Nat → Prop} {w : World} {d Ad ld cd} {R : Int → Prop} (h : pf_r36_debtor d R) (hO : ∀ k, O k → k < w.heap.size) (hA0 : (FP.sl cI Ad ld cd d).P O w) :
    Calls Try.prog 127 #[(.slice Ad ld cd)] w fun e w' => ∃ r, e = .returned (.int .i64 r) ∧ Sep w no O w' (rl []) ∧ R r := by
  unfold pf_r36_debtor at h; have hS : Sep w no O w (rl [Res.ro (FP.sl cI Ad ld cd d)]) := Sep.startl hO [(FP.sl cI Ad ld cd d)] ⟨hA0, trivial⟩; refine calls_sh (l := [(.slice Ad ld cd)]) Try.func127 rfl Try.ntmps127 (Nat.le_of_ble_eq_true rfl) (wt_seq (wl_region wd_wide (zq (za (.int .i64 0)) (rl_end (wt_seq (wt_seq (wl_region wd_wide (zq (za (.int .i64 0)) (rl_end (wt_block ?_)))))))))); obtain ⟨I2, ⟨m0, h0⟩, hr⟩ := h; refine wt_loop (fun m E ds w' => ∃ v, I2 m v ∧ ds = [] ∧ E 0 = (Value.slice Ad ld cd) ∧ E 3 = (Value.int .i64 v) ∧ Sep w no O w' (rl [Res.ro (FP.sl cI Ad ld cd d)])) m0 ⟨_, h0, rfl, rfl, rfl, (hS.sel [0] (by decide))⟩ ?_; clear h0 hS; rintro m2 E ds w2 ⟨v, h, rfl, hE0, hE3, hS⟩ again; replace h := hr m2 v h; clear hr; refine wt_seq (wt_seq (wl_region wd_wide (zq (v_move hE3) (zq (v_move hE0) (zq (v_lenx (n := d.length) rfl Try.underlying25 (rd_len (hS.rdr 0 rfl))) (zq (v_lss rfl rfl) (rl_end ?_))))))); by_cases hp : v < ((d.length : Nat) : Int)
  · replace h := h.1 hp; refine zc hp (wt_skip (wt_seq (wt_block (wt_seq (wl_region wd_wide (zq (v_move hE0) (zq (v_move hE3) ?_))))))); obtain ⟨hx, h⟩ := h; refine zq (v_iaddr rfl rfl Try.underlying25 info_3 (rd_ix (hS.rdr 0 rfl) hx)) (zq (v_load (v := (.int .i64 (gi d v.toNat))) rfl Try.underlying3 rfl (rd_1 (hS.rdr 0 rfl) hx (fun q => gi_some q) rfl)) ?_); refine zq (v_lss rfl rfl) (rl_end ?_); by_cases hp2 : (gi d v.toNat) < 0
    · replace h := h.1 hp2; exact zc hp2 (wt_seq (wl_region wd_wide (zq (v_move hE3) (zq (za (.int .i64 v)) (rl_end (wt_ret1 rfl rfl ⟨_, rfl, (hS.sel [] (by decide)), h⟩))))))
    · replace h := h.2 hp2; refine zd hp2 (wt_skip (wt_inBlock (wl_region wd_wide (zq (v_move hE3) ?_)))); obtain ⟨hi, h⟩ := h; refine zq (v_add rfl rfl hi) (zq (za (.int .i64 (v + 1))) (rl_end ?_)); obtain ⟨mq, hlt, h⟩ := h; exact again mq _ _ _ ⟨_, h, rfl, hE0, rfl, (hS.sel [0] (by decide))⟩ hlt
  · replace h := h.2 hp; exact zd hp (wt_exit rfl (wt_seq (wl_region wd_wide (zq (za (.int .i64 (-1))) (rl_end (wt_ret1 rfl rfl ⟨_, rfl, (hS.sel [] (by decide)), h⟩))))))

/-- sandpile/sandpileref36.all: what it computes. -/
def pf_r36_all (l : List Bool) (R : Bool → Prop) : Prop :=
(∃ I2 : Nat → Int → Prop, (∃ m0, I2 m0 0) ∧ ∀ m2 i, I2 m2 i → 
((i < ((l.length : Nat) : Int) →
((0 ≤ i ∧ i < ((l.length : Nat) : Int)) ∧
((gb l i.toNat = true →
(In64 (i + 1) ∧
∃ m3, m3 < m2 ∧ I2 m3 (i + 1))) ∧
(¬ (gb l i.toNat = true) →
R false)))) ∧
(¬ (i < ((l.length : Nat) : Int)) →
R true)))
theorem pok_r36_all {O : Nat → Prop} {w : World} {l Al ll cl} {R : Bool → Prop} (h : pf_r36_all l R) (hO : ∀ k, O k → k < w.heap.size) (hA0 : (FP.sl cB Al ll cl l).P O w) :
    Calls Try.prog 128 #[(.slice Al ll cl)] w fun e w' => ∃ r, e = .returned (.bool (r)) ∧ Sep w no O w' (rl []) ∧ R r := by
  unfold pf_r36_all at h; have hS : Sep w no O w (rl [Res.ro (FP.sl cB Al ll cl l)]) := Sep.startl hO [(FP.sl cB Al ll cl l)] ⟨hA0, trivial⟩; refine calls_sh (l := [(.slice Al ll cl)]) Try.func128 rfl Try.ntmps128 (Nat.le_of_ble_eq_true rfl) (wt_seq (wl_region wd_wide (zq (za (.bool (false))) (rl_end (wt_seq (wt_seq (wl_region wd_wide (zq (za (.int .i64 0)) (rl_end (wt_block ?_)))))))))); obtain ⟨I2, ⟨m0, h0⟩, hr⟩ := h; refine wt_loop (fun m E ds w' => ∃ i, I2 m i ∧ ds = [] ∧ E 0 = (Value.slice Al ll cl) ∧ E 3 = (Value.int .i64 i) ∧ Sep w no O w' (rl [Res.ro (FP.sl cB Al ll cl l)])) m0 ⟨_, h0, rfl, rfl, rfl, (hS.sel [0] (by decide))⟩ ?_; clear h0 hS; rintro m2 E ds w2 ⟨i, h, rfl, hE0, hE3, hS⟩ again; replace h := hr m2 i h; clear hr; refine wt_seq (wt_seq (wl_region wd_wide (zq (v_move hE3) (zq (v_move hE0) (zq (v_lenx (n := l.length) rfl Try.underlying144 (rd_len (hS.rdr 0 rfl))) (zq (v_lss rfl rfl) (rl_end ?_))))))); by_cases hp : i < ((l.length : Nat) : Int)
  · replace h := h.1 hp; refine zc hp (wt_skip (wt_seq (wt_block (wt_seq (wl_region wd_wide (zq (v_move hE0) (zq (v_move hE3) ?_))))))); obtain ⟨hx, h⟩ := h; refine zq (v_iaddr rfl rfl Try.underlying144 info_4 (rd_ix (hS.rdr 0 rfl) hx)) (zq (v_load (v := (.bool (gb l i.toNat))) rfl Try.underlying4 rfl (rd_1 (hS.rdr 0 rfl) hx (fun q => gb_some q) rfl)) ?_); refine zq (v_not rfl) (rl_end ?_); by_cases hp2 : gb l i.toNat = true
    · replace h := h.1 hp2; refine wt_cond_f (congrArg Value.bool (congrArg Bool.not hp2)) (wt_skip (wt_inBlock (wl_region wd_wide (zq (v_move hE3) ?_)))); obtain ⟨hi, h⟩ := h; refine zq (v_add rfl rfl hi) (zq (za (.int .i64 (i + 1))) (rl_end ?_)); obtain ⟨mq, hlt, h⟩ := h; exact again mq _ _ _ ⟨_, h, rfl, hE0, rfl, (hS.sel [0] (by decide))⟩ hlt
    · replace h := h.2 hp2; exact wt_cond_t (congrArg Value.bool (congrArg Bool.not (Bool.eq_false_iff.2 hp2))) (wt_seq (wl_region wd_wide (zq (za (.bool (false))) (rl_end (wt_ret1 rfl rfl ⟨_, rfl, (hS.sel [] (by decide)), h⟩)))))
  · replace h := h.2 hp; exact zd hp (wt_exit rfl (wt_seq (wl_region wd_wide (zq (za (.bool (true))) (rl_end (wt_ret1 rfl rfl ⟨_, rfl, (hS.sel [] (by decide)), h⟩))))))

/-- sandpile/sandpileref36.Wins: what it computes. -/
def pf_r36_Wins (g : Int) (g2 : List E3) (d : List Int) (R : Bool → Prop) : Prop :=
pf_r17_Total d (fun r =>
((r < 0 →
R false) ∧
(¬ (r < 0) →
(0 + d.length ≤ 1000000000 ∧
((0 ≤ g ∧ g ≤ 1000000) ∧
(∃ I2 : Nat → Int → (List Int) → (List Bool) → Prop, (∃ m0, I2 m0 0 ([] ++ d) (List.replicate g.toNat false)) ∧ ∀ m2 step d2 borrowed, I2 m2 step d2 borrowed → 
((step < 10000000 →
pf_r36_debtor d2 (fun r2 =>
((r2 < 0 →
R true) ∧
(¬ (r2 < 0) →
pf_r36_all borrowed (fun r3 =>
((r3 = true →
R false) ∧
(¬ (r3 = true) →
((0 ≤ r2 ∧ r2 < ((borrowed.length : Nat) : Int)) ∧
(∃ I3 : Nat → Int → (List Int) → Prop, (∃ m0, I3 m0 0 d2) ∧ ∀ m3 u d3, I3 m3 u d3 → 
((u < g →
((u = r2 →
(In64 (u + 1) ∧
∃ m4, m4 < m3 ∧ I3 m4 (u + 1) d3)) ∧
(¬ (u = r2) →
((0 ≤ u ∧ u < ((d3.length : Nat) : Int)) ∧
pf_r08_Between g g2 u r2 (fun r4 =>
(In64 ((gi d3 u.toNat) - r4) ∧
((0 ≤ r2 ∧ r2 < (((d3.set u.toNat ((gi d3 u.toNat) - r4)).length : Nat) : Int)) ∧
pf_r08_Between g g2 u r2 (fun r5 =>
(In64 ((gi (d3.set u.toNat ((gi d3 u.toNat) - r4)) r2.toNat) + r5) ∧
(In64 (u + 1) ∧
∃ m5, m5 < m3 ∧ I3 m5 (u + 1) ((d3.set u.toNat ((gi d3 u.toNat) - r4)).set r2.toNat ((gi (d3.set u.toNat ((gi d3 u.toNat) - r4)) r2.toNat) + r5)))))))))))) ∧
(¬ (u < g) →
(In64 (step + 1) ∧
∃ m6, m6 < m2 ∧ I2 m6 (step + 1) d3 (borrowed.set r2.toNat true))))))))))))) ∧
(¬ (step < 10000000) →
R false))))))))
theorem pok_r36_Wins {O : Nat → Prop} {w : World} {g g2 d Ag lg cg Ad ld cd} {R : Bool → Prop} (h : pf_r36_Wins g g2 d R) (hO : ∀ k, O k → k < w.heap.size) (hA0 : (FP.sl c3 Ag lg cg g2).P O w) (hA1 : (FP.sl cI Ad ld cd d).P O w) :
    Calls Try.prog 90 #[(.agg #[(.int .i64 g), (.slice Ag lg cg)]), (.slice Ad ld cd)] w fun e w' => ∃ r6, e = .returned (.bool (r6)) ∧ Sep w no O w' (rl []) ∧ R r6 := by
  unfold pf_r36_Wins at h; have hS : Sep w no O w (rl [Res.ro (FP.sl c3 Ag lg cg g2), Res.ro (FP.sl cI Ad ld cd d)]) := Sep.startl hO [(FP.sl c3 Ag lg cg g2), (FP.sl cI Ad ld cd d)] ⟨hA0, hA1, trivial⟩; refine calls_sh (l := [(.agg #[(.int .i64 g), (.slice Ag lg cg)]), (.slice Ad ld cd)]) Try.func90 rfl Try.ntmps90 (Nat.le_of_ble_eq_true rfl) (wt_seq (wl_region wd_wide (zn (n_box (v := (.agg #[(.int .i64 g), (.slice Ag lg cg)])) rfl ?_)))); intro g3 w2 hN; replace hS : Sep w no O w2 (stl _ 2 (Res.box 24 g3 [(.int .i64 g), (.slice Ag lg cg)])) := hS.new 2 rfl hN; clear hN; refine ⟨Stb.none _, zq (za (.bool (false))) (rl_end (wt_seq (wt_seq (wl_region wd_wide (zq (zm (.slice Ad ld cd)) (zn (n_call0 rfl (am1 rfl) enter_20 ((pok_r17_Total h (no_lt _) (hS.rdr 1 rfl)).mono ?_))))))))⟩; rintro _ w3 ⟨r, rfl, hC, h⟩; replace hS := hS.pur hC.pure; clear hC; refine ⟨_, rfl, ?_⟩; refine ⟨Stb.none _, zq (v_lss rfl rfl) (rl_end ?_)⟩; by_cases hp : r < 0
  · replace h := h.1 hp; exact zc hp (wt_seq (wl_region wd_wide (zq (za (.bool (false))) (rl_end (wt_ret1 rfl rfl ⟨_, rfl, (hS.sel [] (by decide)), h⟩)))))
  · replace h := h.2 hp; refine zd hp (wt_skip (wt_seq (wl_region wd_wide (zn (n_bslice (l := []) (cells := []) (bp0) Try.underlying25 info_3 rfl rfl ?_))))); intro g4 w4 hN; replace hS := hS.litf (n := 0) 3 rfl (fI .i64) hN ([] : List Int) rfl (by decide) rfl; clear hN; refine ⟨Stb.none _, zq (zm (.slice Ad ld cd)) ?_⟩; obtain ⟨hx, h⟩ := h; refine zn (n_app (c := cI) rfl rfl Try.underlying25 Try.underlying25 info_3 rfl rfl (by decide) hS 3 rfl (hS.yr 1 rfl) hx ?_); clear hS; intro A c w5 hS; refine ⟨Stb.none _, zq (za (.slice A (0 + ld) c)) (rl_end (wt_seq (wl_region wd_wide (zq (v_faddr rfl Try.underlying24 rfl info_3) (zq (v_load rfl Try.underlying3 rfl (Row.cell (hS.bx 2 rfl) (i := 0) rfl)) ?_)))))⟩; obtain ⟨hx2, h⟩ := h; refine zn (n_make rfl rfl Try.underlying144 info_4 (by decide) rfl hx2 ?_); intro g5 w6 hN; replace hS := hS.made 4 rfl cB (.bool (false)) false (fun _ _ => rfl) hN (by omega); clear hN; refine ⟨Stb.none _, zq (za (.slice (some ⟨g5, 0, none⟩) g.toNat g.toNat)) (rl_end (wt_seq (wt_seq (wl_region wd_wide (zq (za (.int .i64 0)) ?_)))))⟩
    refine rl_end (wt_block ?_); obtain ⟨I2, ⟨m0, h0⟩, hr⟩ := h; refine wt_loop (fun m E ds w' => ∃ step d2 borrowed Ad2 ld2 cd2 Aborrowed lborrowed cborrowed, I2 m step d2 borrowed ∧ ds = [] ∧ E 1 = (Value.slice Ad2 ld2 cd2) ∧ E 2 = (Value.pointer (some (⟨g3, 0, none⟩ : Addr))) ∧ E 5 = (Value.slice Aborrowed lborrowed cborrowed) ∧ E 6 = (Value.int .i64 step) ∧ Sep w no O w' (rl [Res.own cI 3 Ad2 ld2 cd2 d2, Res.box 24 g3 [(.int .i64 g), (.slice Ag lg cg)], Res.ro (FP.sl c3 Ag lg cg g2), Res.own cB 4 Aborrowed lborrowed cborrowed borrowed])) m0 ⟨_, _, _, _, _, _, _, _, _, h0, rfl, rfl, rfl, rfl, rfl, (hS.sel [3, 2, 0, 4] (by decide))⟩ ?_; clear h0 hS; rintro m2 E ds w7 ⟨step, d2, borrowed, Ad2, ld2, cd2, Aborrowed, lborrowed, cborrowed, h, rfl, hE1, hE2, hE5, hE6, hS⟩ again; replace h := hr m2 step d2 borrowed h; clear hr; refine wt_seq (wt_seq (wl_region wd_wide (zq (v_move hE6) (zq (v_lss rfl rfl) (rl_end ?_))))); by_cases hp2 : step < 10000000
    · replace h := h.1 hp2; refine zc hp2 (wt_skip (wt_seq (wt_block (wt_seq (wl_region wd_wide (zq (v_move hE1) (zn (n_call0 rfl (am1 rfl) enter_127 ((pok_r36_debtor h (no_lt _) (hS.rdo 0 rfl)).mono ?_))))))))); rintro _ w8 ⟨r2, rfl, hC, h⟩; replace hS := hS.pur hC.pure; clear hC; refine ⟨_, rfl, ?_⟩; refine ⟨Stb.none _, zq (za (.int .i64 r2)) (rl_end (wt_seq (wt_seq (wl_region wd_wide (zq (zm (.int .i64 r2)) (zq (v_lss rfl rfl) (rl_end ?_)))))))⟩; by_cases hp3 : r2 < 0
      · replace h := h.1 hp3; exact zc hp3 (wt_seq (wl_region wd_wide (zq (za (.bool (true))) (rl_end (wt_ret1 rfl rfl ⟨_, rfl, (hS.sel [] (by decide)), h⟩)))))
      · replace h := h.2 hp3; refine zd hp3 (wt_skip (wt_seq (wt_seq (wl_region wd_wide (zq (v_move hE5) (zn (n_call0 rfl (am1 rfl) enter_128 ((pok_r36_all h (no_lt _) (hS.rdo 3 rfl)).mono ?_)))))))); rintro _ w9 ⟨r3, rfl, hC, h⟩; replace hS := hS.pur hC.pure; clear hC; refine ⟨_, rfl, ?_⟩; refine ⟨Stb.none _, rl_end ?_⟩; by_cases hp4 : r3 = true
        · replace h := h.1 hp4; exact wt_cond_t (congrArg Value.bool hp4) (wt_seq (wl_region wd_wide (zq (za (.bool (false))) (rl_end (wt_ret1 rfl rfl ⟨_, rfl, (hS.sel [] (by decide)), h⟩)))))
        · replace h := h.2 hp4; refine wt_cond_f (congrArg Value.bool (Bool.eq_false_iff.2 hp4)) (wt_skip (wt_seq (wl_region wd_wide (zq (v_move hE5) (zq (zm (.int .i64 r2)) ?_))))); obtain ⟨hx3, h⟩ := h; refine zq (v_iaddr rfl rfl Try.underlying144 info_4 (rd_ix (hS.rdo 3 rfl) hx3)) (zo (zt (.bool (true)) info_4 (hS.wr 3 rfl rfl hx3) ?_)); intro w10 e1; replace hS := hS.st 3 rfl rfl hx3 (x := true) rfl e1; clear e1; refine ⟨Stb.none _, rl_end (wt_seq (wl_region wd_wide (zq (za (.int .i64 0)) (rl_end (wt_block ?_)))))⟩; obtain ⟨I3, ⟨m0, h0⟩, hr⟩ := h
          refine wt_loop (fun m E ds w' => ∃ u d3 Ad3 ld3 cd3, I3 m u d3 ∧ ds = [] ∧ E 1 = (Value.slice Ad3 ld3 cd3) ∧ E 2 = (Value.pointer (some (⟨g3, 0, none⟩ : Addr))) ∧ E 5 = (Value.slice Aborrowed lborrowed cborrowed) ∧ E 6 = (Value.int .i64 step) ∧ E 7 = (Value.int .i64 r2) ∧ E 8 = (Value.int .i64 u) ∧ Sep w no O w' (rl [Res.own cI 3 Ad3 ld3 cd3 d3, Res.box 24 g3 [(.int .i64 g), (.slice Ag lg cg)], Res.ro (FP.sl c3 Ag lg cg g2), Res.own cB 4 Aborrowed lborrowed cborrowed (borrowed.set r2.toNat true)])) m0 ⟨_, _, _, _, _, h0, rfl, hE1, hE2, hE5, hE6, rfl, rfl, (hS.sel [0, 1, 2, 3] (by decide))⟩ ?_; clear h0 hS; rintro m3 E ds w11 ⟨u, d3, Ad3, ld3, cd3, h, rfl, hE1, hE2, hE5, hE6, hE7, hE8, hS⟩ again2; replace h := hr m3 u d3 h; clear hr; refine wt_seq (wt_seq (wl_region wd_wide (zq (v_move hE8) (zq (v_faddr hE2 Try.underlying24 rfl info_3) (zq (v_load rfl Try.underlying3 rfl (Row.cell (hS.bx 1 rfl) (i := 0) rfl)) (zq (v_lss rfl rfl) (rl_end ?_))))))); by_cases hp5 : u < g
          · replace h := h.1 hp5; refine zc hp5 (wt_skip (wt_seq (wt_block (wt_seq (wl_region wd_wide (zq (v_move hE8) (zq (v_move hE7) (zq (v_neq rfl rfl) (rl_end ?_))))))))); by_cases hp6 : u = r2
            · replace h := h.1 hp6; refine ze hp6 (wt_skip (wt_inBlock (wl_region wd_wide (zq (v_move hE8) ?_)))); obtain ⟨hi, h⟩ := h; refine zq (v_add rfl rfl hi) (zq (za (.int .i64 (u + 1))) (rl_end ?_)); obtain ⟨mq, hlt, h⟩ := h; exact again2 mq _ _ _ ⟨_, _, _, _, _, h, rfl, hE1, hE2, hE5, hE6, hE7, rfl, (hS.sel [0, 1, 2, 3] (by decide))⟩ hlt
            · replace h := h.2 hp6; refine zf hp6 (wt_seq (wp_draw [0, 1, 2, 3, 4, 5, 6, 7, 8, 9, 10] (fun i => match i with | 7 => [0, 1, 2, 3] | _ => []) wd_wide (by kernel_rfl) (by kernel_rfl) ?_)); replace hS := hS.drew; refine rp_q rfl rfl rfl (v_move hE1) (rp_q rfl rfl rfl (v_move hE8) ?_); obtain ⟨hx4, h⟩ := h; refine rp_q rfl rfl rfl (v_iaddr rfl rfl Try.underlying25 info_3 (rd_ix (hS.rdo 0 rfl) hx4)) (rp_q rfl rfl rfl (v_load (v := (.int .i64 (gi d3 u.toNat))) rfl Try.underlying3 rfl (rd_1 (hS.rdo 0 rfl) hx4 (fun q => gi_some q) rfl)) ?_); refine rp_q rfl rfl rfl (v_loadn (vs := [(.int .i64 g), (.slice Ag lg cg)]) hE2 Try.underlying24 rfl info_24 ⟨Row.cell (hS.bx 1 rfl) (i := 0) rfl, Row.cell (hS.bx 1 rfl) (i := 1) rfl, trivial⟩) (rp_q rfl rfl rfl (v_move hE8) (rp_q rfl rfl rfl (v_move hE7) (rp_n rfl rfl rfl rfl (n_call0 rfl (am3 rfl rfl rfl) enter_129 ((pok_r08_Between h (no_lt _) (hS.rdr 2 rfl)).mono ?_))))); rintro _ w12 ⟨r4, rfl, hC, h⟩; replace hS := hS.pur hC.pure; clear hC; refine ⟨_, rfl, ?_⟩
              refine ⟨⟨fun hh => Bool.noConfusion (show false = true from hh), ⟨fun hh => Bool.noConfusion (show false = true from hh), ⟨fun hh => Bool.noConfusion (show false = true from hh), ⟨fun _ => (v_load (v := (Value.int .i64 (gi d3 u.toNat))) rfl Try.underlying3 rfl (rd_1 (hS.rdo 0 rfl) hx4 (fun q => gi_some q) rfl)), ⟨fun _ => (v_iaddr rfl rfl Try.underlying25 info_3 (rd_ix (hS.rdo 0 rfl) hx4)), ⟨fun _ => (v_move hE8), ⟨fun _ => (v_move hE1), trivial⟩⟩⟩⟩⟩⟩⟩, ?_⟩; obtain ⟨hi2, h⟩ := h; refine rp_q rfl rfl rfl (v_sub rfl rfl hi2) (rp_q rfl rfl rfl (v_iaddr rfl rfl Try.underlying25 info_3 (rd_ix (hS.rdo 0 rfl) hx4)) (rp_n0 rfl rfl rfl (zt (.int .i64 ((gi d3 u.toNat) - r4)) info_3 (hS.wr 0 rfl rfl hx4) ?_))); intro w13 e1; replace hS := hS.st 0 rfl rfl hx4 (x := (gi d3 u.toNat) - r4) rfl e1; clear e1; refine ⟨Stb.none _, rp_end (wp_draw [0, 1, 2, 3, 4, 5, 6, 7, 8, 9, 10] (fun i => match i with | 7 => [0, 1, 2, 3] | _ => []) wd_wide (by kernel_rfl) (by kernel_rfl) ?_)⟩; replace hS := hS.drew; refine rp_q rfl rfl rfl (v_move hE1) (rp_q rfl rfl rfl (v_move hE7) ?_); obtain ⟨hx5, h⟩ := h; refine rp_q rfl rfl rfl (v_iaddr rfl rfl Try.underlying25 info_3 (rd_ix (hS.rdo 0 rfl) hx5)) ?_
              refine rp_q rfl rfl rfl (v_load (v := (.int .i64 (gi (d3.set u.toNat ((gi d3 u.toNat) - r4)) r2.toNat))) rfl Try.underlying3 rfl (rd_1 (hS.rdo 0 rfl) hx5 (fun q => gi_some q) rfl)) ?_; refine rp_q rfl rfl rfl (v_loadn (vs := [(.int .i64 g), (.slice Ag lg cg)]) hE2 Try.underlying24 rfl info_24 ⟨Row.cell (hS.bx 1 rfl) (i := 0) rfl, Row.cell (hS.bx 1 rfl) (i := 1) rfl, trivial⟩) (rp_q rfl rfl rfl (v_move hE8) (rp_q rfl rfl rfl (v_move hE7) (rp_n rfl rfl rfl rfl (n_call0 rfl (am3 rfl rfl rfl) enter_129 ((pok_r08_Between h (no_lt _) (hS.rdr 2 rfl)).mono ?_))))); rintro _ w14 ⟨r5, rfl, hC, h⟩; replace hS := hS.pur hC.pure; clear hC; refine ⟨_, rfl, ?_⟩; refine ⟨⟨fun hh => Bool.noConfusion (show false = true from hh), ⟨fun hh => Bool.noConfusion (show false = true from hh), ⟨fun hh => Bool.noConfusion (show false = true from hh), ⟨fun _ => (v_load (v := (Value.int .i64 (gi (d3.set u.toNat ((gi d3 u.toNat) - r4)) r2.toNat))) rfl Try.underlying3 rfl (rd_1 (hS.rdo 0 rfl) hx5 (fun q => gi_some q) rfl)), ⟨fun _ => (v_iaddr rfl rfl Try.underlying25 info_3 (rd_ix (hS.rdo 0 rfl) hx5)), ⟨fun _ => (v_move hE7), ⟨fun _ => (v_move hE1), trivial⟩⟩⟩⟩⟩⟩⟩, ?_⟩; obtain ⟨hi3, h⟩ := h; refine rp_q rfl rfl rfl (v_add rfl rfl hi3) (rp_q rfl rfl rfl (v_iaddr rfl rfl Try.underlying25 info_3 (rd_ix (hS.rdo 0 rfl) hx5)) ?_)
              refine rp_n0 rfl rfl rfl (zt (.int .i64 ((gi (d3.set u.toNat ((gi d3 u.toNat) - r4)) r2.toNat) + r5)) info_3 (hS.wr 0 rfl rfl hx5) ?_); intro w15 e1; replace hS := hS.st 0 rfl rfl hx5 (x := (gi (d3.set u.toNat ((gi d3 u.toNat) - r4)) r2.toNat) + r5) rfl e1; clear e1; refine ⟨Stb.none _, rp_end (wt_inBlock (wl_region wd_wide (zq (v_move hE8) ?_)))⟩; obtain ⟨hi4, h⟩ := h; refine zq (v_add rfl rfl hi4) (zq (za (.int .i64 (u + 1))) (rl_end ?_)); obtain ⟨mq, hlt, h⟩ := h; exact again2 mq _ _ _ ⟨_, _, _, _, _, h, rfl, hE1, hE2, hE5, hE6, hE7, rfl, (hS.sel [0, 1, 2, 3] (by decide))⟩ hlt
          · replace h := h.2 hp5; refine zd hp5 (wt_exit rfl (wt_inBlock (wl_region wd_wide (zq (v_move hE6) ?_)))); obtain ⟨hi5, h⟩ := h; refine zq (v_add rfl rfl hi5) (zq (za (.int .i64 (step + 1))) (rl_end ?_)); obtain ⟨mq, hlt, h⟩ := h; exact again mq _ _ _ ⟨_, _, _, _, _, _, _, _, _, h, rfl, hE1, hE2, hE5, rfl, (hS.sel [0, 1, 2, 3] (by decide))⟩ hlt
    · replace h := h.2 hp2; exact zd hp2 (wt_exit rfl (wt_seq (wl_region wd_wide (zq (za (.bool (false))) (rl_end (wt_ret1 rfl rfl ⟨_, rfl, (hS.sel [] (by decide)), h⟩))))))
end Go.Proofs.Ytmeoemmemjipdaa

/- Pure forms of functions, made by program (pf.py), each with the proof that the code does so. -/
namespace Go.Proofs.Ytmeoemmemjipdaa
open Go Go.RowKit Go.Shelf
set_option linter.unusedVariables false
set_option maxRecDepth 100000
set_option maxHeartbeats 1000000
/-- sandpile/chips.own: what it computes. -/
def pf_chips_own (l : List (List Int)) (R : Int → Prop) : Prop :=
(∃ I2 : Nat → Int → Prop, (∃ m0, I2 m0 0) ∧ ∀ m2 v, I2 m2 v → 
((v < ((l.length : Nat) : Int) →
((0 ≤ v ∧ v < ((l.length : Nat) : Int)) ∧
pf_chips_Check (gx l v.toNat) (((gx l v.toNat).length : Nat) : Int) (fun r =>
((r = 0 →
(In64 (v + 1) ∧
∃ m3, m3 < m2 ∧ I2 m3 (v + 1))) ∧
(¬ (r = 0) →
R r))))) ∧
(¬ (v < ((l.length : Nat) : Int)) →
(∃ I3 : Nat → Int → Prop, (∃ m0, I3 m0 0) ∧ ∀ m4 v2, I3 m4 v2 → 
((v2 < ((l.length : Nat) : Int) →
((0 ≤ v2 ∧ v2 < ((l.length : Nat) : Int)) ∧
((0 ≤ (0 : Int) ∧ (0 : Int) < ((l.length : Nat) : Int)) ∧
(((((gx l v2.toNat).length : Nat) : Int) = (((gx l (0 : Int).toNat).length : Nat) : Int) →
(In64 (v2 + 1) ∧
∃ m5, m5 < m4 ∧ I3 m5 (v2 + 1))) ∧
(¬ ((((gx l v2.toNat).length : Nat) : Int) = (((gx l (0 : Int).toNat).length : Nat) : Int)) →
R 8))))) ∧
(¬ (v2 < ((l.length : Nat) : Int)) →
R 0))))))
theorem pok_chips_own {O : Nat → Prop} {w : World} {l Al ll cl} {R : Int → Prop} (h : pf_chips_own l R) (hO : ∀ k, O k → k < w.heap.size) (hA0 : (FP.sl (cL cI) Al ll cl l).P O w) :
    Calls Try.prog 94 #[(.slice Al ll cl)] w fun e w' => ∃ r2, e = .returned (.int .i64 r2) ∧ Sep w no O w' (rl []) ∧ R r2 := by
  unfold pf_chips_own at h; have hS : Sep w no O w (rl [Res.ro (FP.sl (cL cI) Al ll cl l)]) := Sep.startl hO [(FP.sl (cL cI) Al ll cl l)] ⟨hA0, trivial⟩; refine calls_sh (l := [(.slice Al ll cl)]) Try.func94 rfl Try.ntmps94 (Nat.le_of_ble_eq_true rfl) (wt_seq (wl_region wd_wide (zq (za (.int .i64 0)) (rl_end (wt_seq (wt_seq (wl_region wd_wide (zq (zm (.slice Al ll cl)) (zq (v_lenx (n := l.length) rfl Try.underlying97 (rd_len (hS.rdr 0 rfl))) (zq (zm (.int .i64 0)) (rl_end (wt_block ?_)))))))))))); obtain ⟨I2, ⟨m0, h0⟩, hr⟩ := h; refine wt_loop (fun m E ds w' => ∃ v, I2 m v ∧ ds = [] ∧ E 0 = (Value.slice Al ll cl) ∧ E 8 = (Value.slice Al ll cl) ∧ E 9 = (Value.int .i64 ((l.length : Nat) : Int)) ∧ E 10 = (Value.int .i64 v) ∧ Sep w no O w' (rl [Res.ro (FP.sl (cL cI) Al ll cl l)])) m0 ⟨_, h0, rfl, rfl, rfl, rfl, rfl, (hS.sel [0] (by decide))⟩ ?_; clear h0 hS; rintro m2 E ds w2 ⟨v, h, rfl, hE0, hE8, hE9, hE10, hS⟩ again; replace h := hr m2 v h; clear hr; refine wt_seq (wl_region wd_wide (zq (v_lss hE10 hE9) (rl_end (wt_seq ?_)))); by_cases hp : v < ((l.length : Nat) : Int)
  · replace h := h.1 hp; refine zc hp (wt_skip (wt_seq (wt_block (wt_seq (wl_region wd_wide ?_))))); obtain ⟨hx, h⟩ := h; refine zq (v_iaddr hE8 hE10 Try.underlying97 info_26 (rd_ix (hS.rdr 0 rfl) hx)) ?_; obtain ⟨A, l2, c, hc, hq⟩ := hS.el 0 rfl hx 1 2 rfl rfl (by decide); replace hS := hq; clear hq; refine zq (v_load (v := (.slice A l2 c)) rfl Try.underlying26 rfl (hS.clr 2 rfl)) (zq (za (.slice A l2 c)) (rl_end (wt_seq (wl_region wd_wide (zq (zm (.slice A l2 c)) (zq (zm (.slice A l2 c)) (zq (v_lenx (n := (gx l v.toNat).length) rfl Try.underlying26 (rd_len (hS.rdr 1 rfl))) (zn (n_call0 rfl (am2 rfl rfl) enter_57 ((pok_chips_Check h (no_lt _) (hS.rdr 1 rfl)).mono ?_)))))))))); rintro _ w3 ⟨r, rfl, hC, h⟩; replace hS := hS.pur hC.pure; clear hC; refine ⟨_, rfl, ?_⟩; refine ⟨Stb.none _, zq (za (.int .i64 r)) (rl_end (wt_seq (wl_region wd_wide (zq (zm (.int .i64 r)) (zq (v_neq rfl rfl) (rl_end ?_))))))⟩; by_cases hp2 : r = 0
    · replace h := h.1 hp2; refine ze hp2 (wt_skip (wt_inBlock (wl_region wd_wide ?_))); obtain ⟨hi, h⟩ := h; refine zq (v_add hE10 rfl hi) (zq (zm (.int .i64 (v + 1))) (rl_end ?_)); obtain ⟨mq, hlt, h⟩ := h; exact again mq _ _ _ ⟨_, h, rfl, hE0, hE8, hE9, rfl, (hS.sel [0] (by decide))⟩ hlt
    · replace h := h.2 hp2; exact zf hp2 (wt_seq (wl_region wd_wide (zq (zm (.int .i64 r)) (zq (za (.int .i64 r)) (rl_end (wt_ret1 rfl rfl ⟨_, rfl, (hS.sel [] (by decide)), h⟩))))))
  · replace h := h.2 hp; refine zd hp (wt_exit rfl (wt_seq (wt_seq (wl_region wd_wide (zq (v_move hE0) (zq (v_lenx (n := l.length) rfl Try.underlying97 (rd_len (hS.rdr 0 rfl))) (zq (zm (.int .i64 0)) (rl_end (wt_block ?_))))))))); obtain ⟨I3, ⟨m0, h0⟩, hr⟩ := h; refine wt_loop (fun m E ds w' => ∃ v2, I3 m v2 ∧ ds = [] ∧ E 0 = (Value.slice Al ll cl) ∧ E 22 = (Value.slice Al ll cl) ∧ E 23 = (Value.int .i64 ((l.length : Nat) : Int)) ∧ E 24 = (Value.int .i64 v2) ∧ Sep w no O w' (rl [Res.ro (FP.sl (cL cI) Al ll cl l)])) m0 ⟨_, h0, rfl, hE0, rfl, rfl, rfl, (hS.sel [0] (by decide))⟩ ?_; clear h0 hS; rintro m4 E ds w4 ⟨v2, h, rfl, hE0, hE22, hE23, hE24, hS⟩ again2; replace h := hr m4 v2 h; clear hr; refine wt_seq (wl_region wd_wide (zq (v_lss hE24 hE23) (rl_end (wt_seq ?_)))); by_cases hp3 : v2 < ((l.length : Nat) : Int)
    · replace h := h.1 hp3; refine zc hp3 (wt_skip (wt_seq (wt_block (wt_seq (wl_region wd_wide ?_))))); obtain ⟨hx2, h⟩ := h; refine zq (v_iaddr hE22 hE24 Try.underlying97 info_26 (rd_ix (hS.rdr 0 rfl) hx2)) ?_; obtain ⟨A2, l3, c2, hc2, hq⟩ := hS.el 0 rfl hx2 1 2 rfl rfl (by decide); replace hS := hq; clear hq; refine zq (v_load (v := (.slice A2 l3 c2)) rfl Try.underlying26 rfl (hS.clr 2 rfl)) (zq (za (.slice A2 l3 c2)) (rl_end (wt_seq (wl_region wd_wide (zq (zm (.slice A2 l3 c2)) (zq (v_lenx (n := (gx l v2.toNat).length) rfl Try.underlying26 (rd_len (hS.rdr 1 rfl))) (zq (v_move hE0) ?_))))))); obtain ⟨hx3, h⟩ := h; refine zq (v_iaddr rfl rfl Try.underlying97 info_26 (rd_ix (hS.rdr 0 rfl) hx3)) ?_; obtain ⟨A3, l4, c3, hc3, hq⟩ := hS.el 0 rfl hx3 3 4 rfl rfl (by decide); replace hS := hq; clear hq; refine zq (v_load (v := (.slice A3 l4 c3)) rfl Try.underlying26 rfl (hS.clr 4 rfl)) (zq (v_lenx (n := (gx l (0 : Int).toNat).length) rfl Try.underlying26 (rd_len (hS.rdr 3 rfl))) (zq (v_neq rfl rfl) (rl_end ?_)))
      by_cases hp4 : (((gx l v2.toNat).length : Nat) : Int) = (((gx l (0 : Int).toNat).length : Nat) : Int)
      · replace h := h.1 hp4; refine ze hp4 (wt_skip (wt_inBlock (wl_region wd_wide ?_))); obtain ⟨hi2, h⟩ := h; refine zq (v_add hE24 rfl hi2) (zq (zm (.int .i64 (v2 + 1))) (rl_end ?_)); obtain ⟨mq, hlt, h⟩ := h; exact again2 mq _ _ _ ⟨_, h, rfl, hE0, hE22, hE23, rfl, (hS.sel [0] (by decide))⟩ hlt
      · replace h := h.2 hp4; exact zf hp4 (wt_seq (wl_region wd_wide (zq (za (.int .i64 8)) (rl_end (wt_ret1 rfl rfl ⟨_, rfl, (hS.sel [] (by decide)), h⟩)))))
    · replace h := h.2 hp3; exact zd hp3 (wt_exit rfl (wt_seq (wl_region wd_wide (zq (za (.int .i64 0)) (rl_end (wt_ret1 rfl rfl ⟨_, rfl, (hS.sel [] (by decide)), h⟩))))))

/-- sandpile/chips.Degree: what it computes. -/
def pf_chips_Degree (d : List Int) (R : Int → Int → Prop) : Prop :=
pf_chips_own ([d]) (fun r =>
((r = 0 →
(∃ I2 : Nat → Int → Int → Prop, (∃ m0, I2 m0 0 0) ∧ ∀ m2 sum v, I2 m2 sum v → 
((v < ((d.length : Nat) : Int) →
((0 ≤ v ∧ v < ((d.length : Nat) : Int)) ∧
(In64 (sum + (gi d v.toNat)) ∧
(In64 (v + 1) ∧
∃ m3, m3 < m2 ∧ I2 m3 (sum + (gi d v.toNat)) (v + 1))))) ∧
(¬ (v < ((d.length : Nat) : Int)) →
R sum 0)))) ∧
(¬ (r = 0) →
R 0 r)))
theorem pok_chips_Degree {O : Nat → Prop} {w : World} {d Ad ld cd} {R : Int → Int → Prop} (h : pf_chips_Degree d R) (hO : ∀ k, O k → k < w.heap.size) (hA0 : (FP.sl cI Ad ld cd d).P O w) :
    Calls Try.prog 87 #[(.slice Ad ld cd)] w fun e w' => ∃ r2 r3, e = .returned (.tuple #[(.int .i64 r2), (.int .i64 r3)]) ∧ Sep w no O w' (rl []) ∧ R r2 r3 := by
  unfold pf_chips_Degree at h; have hS : Sep w no O w (rl [Res.ro (FP.sl cI Ad ld cd d)]) := Sep.startl hO [(FP.sl cI Ad ld cd d)] ⟨hA0, trivial⟩; refine calls_sh (l := [(.slice Ad ld cd)]) Try.func87 rfl Try.ntmps87 (Nat.le_of_ble_eq_true rfl) (wt_seq (wl_region wd_wide (zq (za (.int .i64 0)) (zq (za (.int .i64 0)) (rl_end (wt_seq (wt_seq (wl_region wd_wide (zq (zm (.slice Ad ld cd)) (zn (n_bslice (l := [(0, (.slice Ad ld cd))]) (cells := [(.slice Ad ld cd)]) (bp1 rfl) Try.underlying97 info_26 rfl rfl ?_))))))))))); intro g w2 hN; replace hS := hS.lit (n := 1) (c := (cL cI)) 1 rfl hN ([d] : List (List Int)) rfl (by decide) ⟨[(.slice Ad ld cd)], _, rfl, (ro_R (hS.ro 0 rfl)), rfl⟩; clear hN; refine ⟨Stb.none _, zn (n_call0 rfl (am1 rfl) enter_94 ((pok_chips_own h (no_lt _) (hS.rdo 1 rfl)).mono ?_))⟩; rintro _ w3 ⟨r, rfl, hC, h⟩; replace hS := hS.pur hC.pure; clear hC; refine ⟨_, rfl, ?_⟩; refine ⟨Stb.none _, zq (za (.int .i64 r)) (rl_end (wt_seq (wl_region wd_wide (zq (zm (.int .i64 r)) (zq (v_neq rfl rfl) (rl_end ?_))))))⟩; by_cases hp : r = 0
  · replace h := h.1 hp; refine ze hp (wt_skip (wt_seq (wl_region wd_wide (zq (za (.int .i64 0)) (rl_end (wt_seq (wt_seq (wl_region wd_wide (zq (zm (.slice Ad ld cd)) (zq (v_lenx (n := d.length) rfl Try.underlying26 (rd_len (hS.rdr 0 rfl))) (zq (zm (.int .i64 0)) (rl_end (wt_block ?_))))))))))))); obtain ⟨I2, ⟨m0, h0⟩, hr⟩ := h; refine wt_loop (fun m E ds w' => ∃ sum v, I2 m sum v ∧ ds = [] ∧ E 5 = (Value.int .i64 sum) ∧ E 14 = (Value.slice Ad ld cd) ∧ E 15 = (Value.int .i64 ((d.length : Nat) : Int)) ∧ E 16 = (Value.int .i64 v) ∧ Sep w no O w' (rl [Res.ro (FP.sl cI Ad ld cd d)])) m0 ⟨_, _, h0, rfl, rfl, rfl, rfl, rfl, (hS.sel [0] (by decide))⟩ ?_; clear h0 hS; rintro m2 E ds w4 ⟨sum, v, h, rfl, hE5, hE14, hE15, hE16, hS⟩ again; replace h := hr m2 sum v h; clear hr; refine wt_seq (wl_region wd_wide (zq (v_lss hE16 hE15) (rl_end (wt_seq ?_)))); by_cases hp2 : v < ((d.length : Nat) : Int)
    · replace h := h.1 hp2; refine zc hp2 (wt_skip (wt_seq (wt_block (wt_seq (wl_region wd_wide ?_))))); obtain ⟨hx, h⟩ := h; refine zq (v_iaddr hE14 hE16 Try.underlying26 info_3 (rd_ix (hS.rdr 0 rfl) hx)) (zq (v_load (v := (.int .i64 (gi d v.toNat))) rfl Try.underlying3 rfl (rd_1 (hS.rdr 0 rfl) hx (fun q => gi_some q) rfl)) ?_); refine zq (za (.int .i64 (gi d v.toNat))) (rl_end (wl_region wd_wide (zq (v_move hE5) (zq (zm (.int .i64 (gi d v.toNat))) ?_)))); obtain ⟨hi, h⟩ := h; refine zq (v_add rfl rfl hi) (zq (za (.int .i64 (sum + (gi d v.toNat)))) (rl_end (wt_inBlock (wl_region wd_wide ?_)))); obtain ⟨hi2, h⟩ := h; refine zq (v_add hE16 rfl hi2) (zq (zm (.int .i64 (v + 1))) (rl_end ?_)); obtain ⟨mq, hlt, h⟩ := h; exact again mq _ _ _ ⟨_, _, h, rfl, rfl, hE14, hE15, rfl, (hS.sel [0] (by decide))⟩ hlt
    · replace h := h.2 hp2; exact zd hp2 (wt_exit rfl (wt_seq (wl_region wd_wide (zq (v_move hE5) (zq (za (.int .i64 sum)) (zq (za (.int .i64 0)) (rl_end (wt_ret2 rfl rfl rfl ⟨_, _, rfl, (hS.sel [] (by decide)), h⟩))))))))
  · replace h := h.2 hp; exact zf hp (wt_seq (wl_region wd_wide (zq (zm (.int .i64 r)) (zq (za (.int .i64 0)) (zq (za (.int .i64 r)) (rl_end (wt_ret2 rfl rfl rfl ⟨_, _, rfl, (hS.sel [] (by decide)), h⟩)))))))

/-- sandpile/sandpileref08.FewRanks: what it computes. -/
def pf_r08_FewRanks (g : Int) (g2 : List E3) (R : Bool → Prop) : Prop :=
pf_r08_small g g2 5 7 (fun r =>
R r)
theorem pok_r08_FewRanks {O : Nat → Prop} {w : World} {g g2 Ag lg cg} {R : Bool → Prop} (h : pf_r08_FewRanks g g2 R) (hO : ∀ k, O k → k < w.heap.size) (hA0 : (FP.sl c3 Ag lg cg g2).P O w) :
    Calls Try.prog 36 #[(.agg #[(.int .i64 g), (.slice Ag lg cg)])] w fun e w' => ∃ r2, e = .returned (.bool (r2)) ∧ Sep w no O w' (rl []) ∧ R r2 := by
  unfold pf_r08_FewRanks at h; have hS : Sep w no O w (rl [Res.ro (FP.sl c3 Ag lg cg g2)]) := Sep.startl hO [(FP.sl c3 Ag lg cg g2)] ⟨hA0, trivial⟩; refine calls_sh (l := [(.agg #[(.int .i64 g), (.slice Ag lg cg)])]) Try.func36 rfl Try.ntmps36 (Nat.le_of_ble_eq_true rfl) (wt_seq (wl_region wd_wide (zn (n_box (v := (.agg #[(.int .i64 g), (.slice Ag lg cg)])) rfl ?_)))); intro g3 w2 hN; replace hS : Sep w no O w2 (stl _ 1 (Res.box 24 g3 [(.int .i64 g), (.slice Ag lg cg)])) := hS.new 1 rfl hN; clear hN; refine ⟨Stb.none _, zq (za (.bool (false))) (rl_end (wt_seq (wl_region wd_wide (zq (v_loadn (vs := [(.int .i64 g), (.slice Ag lg cg)]) rfl Try.underlying24 rfl info_24 ⟨Row.cell (hS.bx 1 rfl) (i := 0) rfl, Row.cell (hS.bx 1 rfl) (i := 1) rfl, trivial⟩) (zn (n_call0 rfl (am3 rfl rfl rfl) enter_76 ((pok_r08_small h (no_lt _) (hS.rdr 0 rfl)).mono ?_)))))))⟩; rintro _ w3 ⟨r, rfl, hC, h⟩; replace hS := hS.pur hC.pure; clear hC; refine ⟨_, rfl, ?_⟩; exact ⟨Stb.none _, zq (za (.bool (r))) (rl_end (wt_ret1 rfl rfl ⟨_, rfl, (hS.sel [] (by decide)), h⟩))⟩
end Go.Proofs.Ytmeoemmemjipdaa
