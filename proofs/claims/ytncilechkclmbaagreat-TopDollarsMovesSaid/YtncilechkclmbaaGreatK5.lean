/- Texts laid together: Pa, SpA, Bor, Gen, Pb, Pt, Pe, Pg, PEa, SpB, SpC, SpT, SpE, SpG, L34, SpW, SpP, PEb, SpF, L36, SpN, RkM, Sys, Cmp, Pd. -/
import Derived.Test.YtncilechkclmbaaGreatK4
/- Pure forms of functions, made by program (pf.py), each with the proof that the code does so. -/
namespace Go.Proofs.YtncilechkclmbaaGreat
open Go Go.RowKit Go.Shelf Go.Proofs.Tryz
set_option linter.unusedVariables false
set_option maxRecDepth 100000
set_option maxHeartbeats 1000000
def yeO (k : Int) (R : Bool → Prop) : Prop :=
(((-1048576) ≤ k →
R (decide (k ≤ 1048576))) ∧
(¬ ((-1048576) ≤ k) →
R false))
theorem pok_r17_In {O : Nat → Prop} {w : World} {k} {R : Bool → Prop} (h : yeO k R) (hO : ∀ k, O k → k < w.heap.size) :
    Calls Tryz.prog 127 #[(ii k)] w fun e w' => ∃ r, e = .returned (.bool (r)) ∧ Sep w no O w' (rl []) ∧ R r := by
  unfold yeO at h; have hS : Sep w no O w (rl []) := Sep.start w hO; refine yan (l := [(ii k)]) func127 rfl ntmps127 (Nat.le_of_ble_eq_true rfl) (zs (zq (za (.bool (false))) (yaa (zs (zq (zm (ii k)) (zq (yiO rfl rfl) (zq (zm (.bool (decide ((-1048576) ≤ k)))) ?_))))))); by_cases hp : (-1048576) ≤ k
  · replace h := h.1 hp; exact rl_q (yad rfl (yac rfl (congrArg Value.bool (decide_eq_true hp)))) rfl rfl (zm (ii k)) (rl_q (yad rfl (yac rfl (congrArg Value.bool (decide_eq_true hp)))) rfl rfl (v_leq rfl rfl) (zq (yao (v := (.bool (decide (k ≤ 1048576)))) (congrArg Value.bool (decide_eq_true hp)) rfl) (zq (za (.bool (decide (k ≤ 1048576)))) (yaa (yah rfl rfl ⟨_, rfl, (hS.sel [] (by decide)), h⟩)))))
  · replace h := h.2 hp; exact rl_p (yab rfl (yac rfl (congrArg Value.bool (decide_eq_false hp))) rfl) rfl (rl_p (yab rfl (yac rfl (congrArg Value.bool (decide_eq_false hp))) rfl) rfl (zq (yap (v := (.bool (false))) (congrArg Value.bool (decide_eq_false hp)) rfl) (zq (za (.bool (false))) (yaa (yah rfl rfl ⟨_, rfl, (hS.sel [] (by decide)), h⟩)))))
def ycb (d : List Int) (n : Int) (R : Int → Prop) : Prop :=
(∃ J2 : Prop, (J2 → ((((d.length : Nat) : Int) = n →
(∃ I2 : Nat → Int → Prop, (∃ m0, I2 m0 0) ∧ ∀ m2 v, I2 m2 v → 
((v < n →
((0 ≤ v ∧ v < ((d.length : Nat) : Int)) ∧
yeO (gi d v.toNat) (fun r =>
((r = true →
(In64 (v + 1) ∧
∃ m3, m3 < m2 ∧ I2 m3 (v + 1))) ∧
(¬ (r = true) →
R 2))))) ∧
(¬ (v < n) →
R 0)))) ∧
(¬ (((d.length : Nat) : Int) = n) →
R 8))) ∧
((n < 1 →
R 2) ∧
(¬ (n < 1) →
((12 < n →
R 2) ∧
(¬ (12 < n) →
J2)))))
theorem yeh {O : Nat → Prop} {w : World} {d n Ad ld cd} {R : Int → Prop} (h : ycb d n R) (hO : ∀ k, O k → k < w.heap.size) (hA0 : (FP.sl cI Ad ld cd d).P O w) :
    Calls Tryz.prog 59 #[(.slice Ad ld cd), (ii n)] w fun e w' => ∃ r2, e = .returned (ii r2) ∧ Sep w no O w' (rl []) ∧ R r2 := by
  unfold ycb at h; have hS : Sep w no O w (rl [Res.ro (FP.sl cI Ad ld cd d)]) := Sep.startl hO [(FP.sl cI Ad ld cd d)] ⟨hA0, trivial⟩; refine yan (l := [(.slice Ad ld cd), (ii n)]) func59 rfl ntmps59 (Nat.le_of_ble_eq_true rfl) (zs (zq (za (ii 0)) (yaa (yaf (yaf ?_))))); obtain ⟨J2, hJ, h⟩ := h; refine ycZ (fun E ds w' => J2 ∧ ds = [] ∧ E 0 = (Value.slice Ad ld cd) ∧ E 1 = (ii n) ∧ Sep w no O w' (rl [Res.ro (FP.sl cI Ad ld cd d)])) ?_ ?_
  · clear h hS; rintro E ds w2 ⟨h, rfl, hE0, hE1, hS⟩; replace h := hJ h; refine yaf (zs (zq (yae hE0) (zq (ybc (n := d.length) rfl underlying26 (ya2 (hS.rdr 0 rfl))) (zq (yae hE1) (zq zN (yaa ?_)))))); by_cases hp : ((d.length : Nat) : Int) = n
    · replace h := h.1 hp; refine ze hp (yag (yaf (zs (zq (za (ii 0)) (yaa (yak ?_)))))); obtain ⟨I2, ⟨m0, h0⟩, hr⟩ := h; refine yaO (fun m E ds w' => ∃ v, I2 m v ∧ ds = [] ∧ E 0 = (Value.slice Ad ld cd) ∧ E 1 = (ii n) ∧ E 5 = (ii v) ∧ Sep w no O w' (rl [Res.ro (FP.sl cI Ad ld cd d)])) m0 ⟨_, h0, rfl, hE0, hE1, rfl, (hS.sel [0] (by decide))⟩ ?_; clear h0 hS; rintro m2 E ds w3 ⟨v, h, rfl, hE0, hE1, hE5, hS⟩ again; replace h := hr m2 v h; clear hr; refine yaf (zs (zq (yae hE5) (zq (yae hE1) (zq zL (yaa ?_))))); by_cases hp2 : v < n
      · replace h := h.1 hp2; refine zc hp2 (yag (yaf (yak (zs (zq (yae hE0) (zq (yae hE5) ?_)))))); obtain ⟨hx, h⟩ := h; refine zq (zi underlying26 yaj (ybh (hS.rdr 0 rfl) hx)) (zq (yaA (v := (ii (gi d v.toNat))) rfl underlying3 rfl (rd_1 (hS.rdr 0 rfl) hx (fun q => ybs q) rfl)) ?_); refine zn (yal rfl (am1 rfl) enter_127 ((pok_r17_In h (yaN _)).mono ?_)); rintro _ w4 ⟨r, rfl, hC, h⟩; replace hS := hS.pur hC.pure; clear hC; refine ⟨_, rfl, ?_⟩; refine zb (zq (ydn rfl) (yaa ?_)); by_cases hp3 : r = true
        · replace h := h.1 hp3; refine yax (congrArg Value.bool (congrArg Bool.not hp3)) (yag (yai (zr (zq (yae hE5) ?_)))); obtain ⟨hi, h⟩ := h; refine zq (zA hi) (zq (za (ii (v + 1))) (yaa ?_)); obtain ⟨mq, hlt, h⟩ := h; exact again mq _ _ _ ⟨_, h, rfl, hE0, hE1, rfl, (hS.sel [0] (by decide))⟩ hlt
        · replace h := h.2 hp3; exact yaq (congrArg Value.bool (congrArg Bool.not (Bool.eq_false_iff.2 hp3))) (zs (zq (za (ii 2)) (yaa (yah rfl rfl ⟨_, rfl, (hS.sel [] (by decide)), h⟩))))
      · replace h := h.2 hp2; exact zd hp2 (yaH rfl (zs (zq (za (ii 0)) (yaa (yah rfl rfl ⟨_, rfl, (hS.sel [] (by decide)), h⟩)))))
    · replace h := h.2 hp; exact zf hp (zs (zq (za (ii 8)) (yaa (yah rfl rfl ⟨_, rfl, (hS.sel [] (by decide)), h⟩))))
  clear hJ; intro j; refine zr (zq (zm (ii n)) (zq zL (zq (zm (.bool (decide (n < 1)))) ?_))); by_cases hp4 : n < 1
  · replace h := h.1 hp4; exact rl_p (yab rfl (yac rfl (congrArg Value.bool (decide_eq_true hp4))) rfl) rfl (rl_p (yab rfl (yac rfl (congrArg Value.bool (decide_eq_true hp4))) rfl) rfl (zq (yao (v := (.bool (true))) (congrArg Value.bool (decide_eq_true hp4)) rfl) (yaa (yaq rfl (zs (zq (za (ii 2)) (yaa (yah rfl rfl ⟨_, rfl, (hS.sel [] (by decide)), h⟩))))))))
  · replace h := h.2 hp4; refine rl_q (yad rfl (yac rfl (congrArg Value.bool (decide_eq_false hp4)))) rfl rfl (zm (ii n)) (rl_q (yad rfl (yac rfl (congrArg Value.bool (decide_eq_false hp4)))) rfl rfl zG (zq (yap (v := (.bool (decide (12 < n)))) (congrArg Value.bool (decide_eq_false hp4)) rfl) (yaa ?_))); by_cases hp5 : 12 < n
    · replace h := h.1 hp5; exact zc hp5 (zs (zq (za (ii 2)) (yaa (yah rfl rfl ⟨_, rfl, (hS.sel [] (by decide)), h⟩))))
    · replace h := h.2 hp5; exact zd hp5 (yag (j _ _ _ ⟨h, rfl, rfl, rfl, (hS.sel [0] (by decide))⟩))
def yih (d : List Int) (R : Bool → Prop) : Prop :=
(∃ I2 : Nat → Int → Prop, (∃ m0, I2 m0 0) ∧ ∀ m2 v, I2 m2 v → 
((v < ((d.length : Nat) : Int) →
((0 ≤ v ∧ v < ((d.length : Nat) : Int)) ∧
(((gi d v.toNat) < 0 →
R false) ∧
(¬ ((gi d v.toNat) < 0) →
(In64 (v + 1) ∧
∃ m3, m3 < m2 ∧ I2 m3 (v + 1)))))) ∧
(¬ (v < ((d.length : Nat) : Int)) →
R true)))
theorem pok_r17_Paid {O : Nat → Prop} {w : World} {d Ad ld cd} {R : Bool → Prop} (h : yih d R) (hO : ∀ k, O k → k < w.heap.size) (hA0 : (FP.sl cI Ad ld cd d).P O w) :
    Calls Tryz.prog 34 #[(.slice Ad ld cd)] w fun e w' => ∃ r, e = .returned (.bool (r)) ∧ Sep w no O w' (rl []) ∧ R r := by
  unfold yih at h; have hS : Sep w no O w (rl [Res.ro (FP.sl cI Ad ld cd d)]) := Sep.startl hO [(FP.sl cI Ad ld cd d)] ⟨hA0, trivial⟩; refine yan (l := [(.slice Ad ld cd)]) func34 rfl ntmps34 (Nat.le_of_ble_eq_true rfl) (zs (zq (za (.bool (false))) (yaa (yaf (zs (zq (za (ii 0)) (yaa (yak ?_)))))))); obtain ⟨I2, ⟨m0, h0⟩, hr⟩ := h; refine yaO (fun m E ds w' => ∃ v, I2 m v ∧ ds = [] ∧ E 0 = (Value.slice Ad ld cd) ∧ E 3 = (ii v) ∧ Sep w no O w' (rl [Res.ro (FP.sl cI Ad ld cd d)])) m0 ⟨_, h0, rfl, rfl, rfl, (hS.sel [0] (by decide))⟩ ?_; clear h0 hS; rintro m2 E ds w2 ⟨v, h, rfl, hE0, hE3, hS⟩ again; replace h := hr m2 v h; clear hr; refine yaf (zs (zq (yae hE3) (zq (yae hE0) (zq (ybc (n := d.length) rfl underlying26 (ya2 (hS.rdr 0 rfl))) (zq zL (yaa ?_)))))); by_cases hp : v < ((d.length : Nat) : Int)
  · replace h := h.1 hp; refine zc hp (yag (yaf (yak (zs (zq (yae hE0) (zq (yae hE3) ?_)))))); obtain ⟨hx, h⟩ := h; refine zq (zi underlying26 yaj (ybh (hS.rdr 0 rfl) hx)) (zq (yaA (v := (ii (gi d v.toNat))) rfl underlying3 rfl (rd_1 (hS.rdr 0 rfl) hx (fun q => ybs q) rfl)) ?_); refine zq zL (yaa ?_); by_cases hp2 : (gi d v.toNat) < 0
    · replace h := h.1 hp2; exact zc hp2 (zs (zq (za (.bool (false))) (yaa (yah rfl rfl ⟨_, rfl, (hS.sel [] (by decide)), h⟩))))
    · replace h := h.2 hp2; refine zd hp2 (yag (yai (zr (zq (yae hE3) ?_)))); obtain ⟨hi, h⟩ := h; refine zq (zA hi) (zq (za (ii (v + 1))) (yaa ?_)); obtain ⟨mq, hlt, h⟩ := h; exact again mq _ _ _ ⟨_, h, rfl, hE0, rfl, (hS.sel [0] (by decide))⟩ hlt
  · replace h := h.2 hp; exact zd hp (yaH rfl (zs (zq (za (.bool (true))) (yaa (yah rfl rfl ⟨_, rfl, (hS.sel [] (by decide)), h⟩)))))
def ych (g : Int) (g2 : List E3) (v : Int) (R : Bool → Prop) : Prop :=
((0 ≤ v →
R (decide (v < g))) ∧
(¬ (0 ≤ v) →
R false))
theorem ye8 {O : Nat → Prop} {w : World} {g g2 v Ag lg cg} {R : Bool → Prop} (h : ych g g2 v R) (hO : ∀ k, O k → k < w.heap.size) (hA0 : (FP.sl c3 Ag lg cg g2).P O w) :
    Calls Tryz.prog 211 #[(.agg #[(ii g), (.slice Ag lg cg)]), (ii v)] w fun e w' => ∃ r, e = .returned (.bool (r)) ∧ Sep w no O w' (rl []) ∧ R r := by
  unfold ych at h; have hS : Sep w no O w (rl [Res.ro (FP.sl c3 Ag lg cg g2)]) := Sep.startl hO [(FP.sl c3 Ag lg cg g2)] ⟨hA0, trivial⟩; refine yan (l := [(.agg #[(ii g), (.slice Ag lg cg)]), (ii v)]) func211 rfl ntmps211 (Nat.le_of_ble_eq_true rfl) (zs (zn (yb6 (v := (.agg #[(ii g), (.slice Ag lg cg)])) rfl ?_))); intro g3 w2 hN; replace hS : Sep w no O w2 (stl _ 1 (Res.box 24 g3 [(ii g), (.slice Ag lg cg)])) := hS.new 1 rfl hN; clear hN; refine zb (zq (za (.bool (false))) (yaa (zs (zq (zm (ii v)) (zq (yiO rfl rfl) (zq (zm (.bool (decide (0 ≤ v)))) ?_)))))); by_cases hp : 0 ≤ v
  · replace h := h.1 hp; exact rl_q (yad rfl (yac rfl (congrArg Value.bool (decide_eq_true hp)))) rfl rfl (zm (ii v)) (rl_q (yad rfl (yac rfl (congrArg Value.bool (decide_eq_true hp)))) rfl rfl (yam rfl underlying24 rfl yaj) (rl_q (yad rfl (yac rfl (congrArg Value.bool (decide_eq_true hp)))) rfl rfl (zl underlying3 (Row.cell (hS.bx 1 rfl) (i := 0) rfl)) (rl_q (yad rfl (yac rfl (congrArg Value.bool (decide_eq_true hp)))) rfl rfl zL (zq (yao (v := (.bool (decide (v < g)))) (congrArg Value.bool (decide_eq_true hp)) rfl) (zq (za (.bool (decide (v < g)))) (yaa (yah rfl rfl ⟨_, rfl, (hS.sel [] (by decide)), h⟩)))))))
  · replace h := h.2 hp; exact rl_p (yab rfl (yac rfl (congrArg Value.bool (decide_eq_false hp))) rfl) rfl (rl_p (yab rfl (yac rfl (congrArg Value.bool (decide_eq_false hp))) rfl) rfl (rl_p (yab rfl (yac rfl (congrArg Value.bool (decide_eq_false hp))) rfl) rfl (rl_p (yab rfl (yac rfl (congrArg Value.bool (decide_eq_false hp))) rfl) rfl (zq (yap (v := (.bool (false))) (congrArg Value.bool (decide_eq_false hp)) rfl) (zq (za (.bool (false))) (yaa (yah rfl rfl ⟨_, rfl, (hS.sel [] (by decide)), h⟩)))))))
def yb1 (g : Int) (g2 : List E3) (a : Int) (b : Int) (R : Int → Prop) : Prop :=
(∃ I2 : Nat → Int → Prop, (∃ m0, I2 m0 0) ∧ ∀ m2 i, I2 m2 i → 
((i < ((g2.length : Nat) : Int) →
((0 ≤ i ∧ i < ((g2.length : Nat) : Int)) ∧
((((ge g2 i.toNat).1) = (mnF a b) →
((((ge g2 i.toNat).2.1) = (mxF a b) →
R ((ge g2 i.toNat).2.2)) ∧
(¬ (((ge g2 i.toNat).2.1) = (mxF a b)) →
(In64 (i + 1) ∧
∃ m3, m3 < m2 ∧ I2 m3 (i + 1))))) ∧
(¬ (((ge g2 i.toNat).1) = (mnF a b)) →
(In64 (i + 1) ∧
∃ m4, m4 < m2 ∧ I2 m4 (i + 1)))))) ∧
(¬ (i < ((g2.length : Nat) : Int)) →
R 0)))
theorem yg1 {O : Nat → Prop} {w : World} {g g2 a b Ag lg cg} {R : Int → Prop} (h : yb1 g g2 a b R) (hO : ∀ k, O k → k < w.heap.size) (hA0 : (FP.sl c3 Ag lg cg g2).P O w) :
    Calls Tryz.prog 241 #[(.agg #[(ii g), (.slice Ag lg cg)]), (ii a), (ii b)] w fun e w' => ∃ r, e = .returned (ii r) ∧ Sep w no O w' (rl []) ∧ R r := by
  unfold yb1 at h; have hS : Sep w no O w (rl [Res.ro (FP.sl c3 Ag lg cg g2)]) := Sep.startl hO [(FP.sl c3 Ag lg cg g2)] ⟨hA0, trivial⟩; refine yan (l := [(.agg #[(ii g), (.slice Ag lg cg)]), (ii a), (ii b)]) func241 rfl ntmps241 (Nat.le_of_ble_eq_true rfl) (zs (zn (yb6 (v := (.agg #[(ii g), (.slice Ag lg cg)])) rfl ?_))); intro g3 w2 hN; replace hS : Sep w no O w2 (stl _ 1 (Res.box 24 g3 [(ii g), (.slice Ag lg cg)])) := hS.new 1 rfl hN; clear hN; refine zb (zq (za (ii 0)) (yaa (yaf (zs (zq (za (ii 0)) (yaa (yak ?_))))))); obtain ⟨I2, ⟨m0, h0⟩, hr⟩ := h; refine yaO (fun m E ds w' => ∃ i, I2 m i ∧ ds = [] ∧ E 1 = (ii a) ∧ E 2 = (ii b) ∧ E 3 = (Value.pointer (some (⟨g3, 0, none⟩ : Addr))) ∧ E 7 = (ii i) ∧ Sep w no O w' (rl [Res.box 24 g3 [(ii g), (.slice Ag lg cg)], Res.ro (FP.sl c3 Ag lg cg g2)])) m0 ⟨_, h0, rfl, rfl, rfl, rfl, rfl, (hS.sel [1, 0] (by decide))⟩ ?_; clear h0 hS; rintro m2 E ds w3 ⟨i, h, rfl, hE1, hE2, hE3, hE7, hS⟩ again; replace h := hr m2 i h; clear hr; refine yaf (zs (zq (yae hE7) (zq (yam hE3 underlying24 rfl ydy) (zq (zl underlying22 (Row.cell (hS.bx 0 rfl) (i := 1) rfl)) (zq (ybc (n := g2.length) rfl underlying22 (ya2 (hS.rdr 1 rfl))) (zq zL (yaa ?_))))))); by_cases hp : i < ((g2.length : Nat) : Int)
  · replace h := h.1 hp; refine zc hp (yag (yaf (yak (zs (zq (yam hE3 underlying24 rfl ydy) (zq (zl underlying22 (Row.cell (hS.bx 0 rfl) (i := 1) rfl)) (zq (yae hE7) ?_))))))); obtain ⟨hx, h⟩ := h; refine zq (zi underlying22 ybf (ybh (hS.rdr 1 rfl) hx)) (zq (yav (vs := [(ii ((ge g2 i.toNat).1)), (ii ((ge g2 i.toNat).2.1)), (ii ((ge g2 i.toNat).2.2))]) rfl underlying95 rfl ybf (yn2 (hS.rdr 1 rfl) hx (fun q => yd6 q))) ?_); refine zn (ybJ ybf ?_); intro g4 w4 hN; replace hS : Sep w no O w4 (stl _ 2 (Res.box 95 g4 [(ii 0), (ii 0), (ii 0)])) := hS.new 2 rfl hN; clear hN; refine zb (zo (yeb (b := g4) (o := 0) (cells := #[(ii ((ge g2 i.toNat).1)), (ii ((ge g2 i.toNat).2.1)), (ii ((ge g2 i.toNat).2.2))]) rfl rfl ybf rfl rfl (yc7 (hS.bx 2 rfl) (Nat.le_of_ble_eq_true rfl)) ?_)); intro w5 e1; replace hS := hS.bstn 2 rfl 0 [(ii ((ge g2 i.toNat).1)), (ii ((ge g2 i.toNat).2.1)), (ii ((ge g2 i.toNat).2.2))] e1; clear e1; refine zb (yaa (zs (zq (yam rfl underlying95 rfl yaj) (zq (zl underlying3 (Row.cell (hS.bx 2 rfl) (i := 0) rfl)) (zq (yae hE1) (zq (yae hE2) (zq (yne rfl rfl) (zq zE (zq (zm (.bool (decide (((ge g2 i.toNat).1) = (mnF a b))))) ?_))))))))); by_cases hp2 : ((ge g2 i.toNat).1) = (mnF a b)
    · replace h := h.1 hp2; refine rl_q (yad rfl (yac rfl (congrArg Value.bool (decide_eq_true hp2)))) rfl rfl (yam rfl underlying95 rfl yaj) (rl_q (yad rfl (yac rfl (congrArg Value.bool (decide_eq_true hp2)))) rfl rfl (zl underlying3 (Row.cell (hS.bx 2 rfl) (i := 1) rfl)) (rl_q (yad rfl (yac rfl (congrArg Value.bool (decide_eq_true hp2)))) rfl rfl (yae hE1) (rl_q (yad rfl (yac rfl (congrArg Value.bool (decide_eq_true hp2)))) rfl rfl (yae hE2) (rl_q (yad rfl (yac rfl (congrArg Value.bool (decide_eq_true hp2)))) rfl rfl (yn0 rfl rfl) (rl_q (yad rfl (yac rfl (congrArg Value.bool (decide_eq_true hp2)))) rfl rfl zE (zq (yao (v := (.bool (decide (((ge g2 i.toNat).2.1) = (mxF a b))))) (congrArg Value.bool (decide_eq_true hp2)) rfl) (yaa ?_))))))); by_cases hp3 : ((ge g2 i.toNat).2.1) = (mxF a b)
      · replace h := h.1 hp3; exact zc hp3 (zs (zq (yam rfl underlying95 rfl yaj) (zq (zl underlying3 (Row.cell (hS.bx 2 rfl) (i := 2) rfl)) (zq (za (ii ((ge g2 i.toNat).2.2))) (yaa (yah rfl rfl ⟨_, rfl, (hS.sel [] (by decide)), h⟩))))))
      · replace h := h.2 hp3; refine zd hp3 (yag (yai (zr (zq (yae hE7) ?_)))); obtain ⟨hi, h⟩ := h; refine zq (zA hi) (zq (za (ii (i + 1))) (yaa ?_)); obtain ⟨mq, hlt, h⟩ := h; exact again mq _ _ _ ⟨_, h, rfl, hE1, hE2, hE3, rfl, (hS.sel [0, 1] (by decide))⟩ hlt
    · replace h := h.2 hp2; refine rl_p (yab rfl (yac rfl (congrArg Value.bool (decide_eq_false hp2))) rfl) rfl (rl_p (yab rfl (yac rfl (congrArg Value.bool (decide_eq_false hp2))) rfl) rfl (rl_p (yab rfl (yac rfl (congrArg Value.bool (decide_eq_false hp2))) rfl) rfl (rl_p (yab rfl (yac rfl (congrArg Value.bool (decide_eq_false hp2))) rfl) rfl (rl_p (yab rfl (yac rfl (congrArg Value.bool (decide_eq_false hp2))) rfl) rfl (rl_p (yab rfl (yac rfl (congrArg Value.bool (decide_eq_false hp2))) rfl) rfl (zq (yap (v := (.bool (false))) (congrArg Value.bool (decide_eq_false hp2)) rfl) (yaa (yax rfl (yag (yai (zr (zq (yae hE7) ?_)))))))))))); obtain ⟨hi2, h⟩ := h; refine zq (zA hi2) (zq (za (ii (i + 1))) (yaa ?_)); obtain ⟨mq, hlt, h⟩ := h; exact again mq _ _ _ ⟨_, h, rfl, hE1, hE2, hE3, rfl, (hS.sel [0, 1] (by decide))⟩ hlt
  · replace h := h.2 hp; exact zd hp (yaH rfl (zs (zq (za (ii 0)) (yaa (yah rfl rfl ⟨_, rfl, (hS.sel [] (by decide)), h⟩)))))
def ycy (d : Int) (d2 : List E3) (i : Int) (R : Int → Prop) : Prop :=
((0 ≤ i ∧ i < ((d2.length : Nat) : Int)) ∧
(∃ J2 : Prop, (J2 → ((((ge d2 i.toNat).2.1) < ((ge d2 i.toNat).1) →
R 9) ∧
(¬ (((ge d2 i.toNat).2.1) < ((ge d2 i.toNat).1)) →
((0 < i →
(In64 (i - 1) ∧
((0 ≤ (i - 1) ∧ (i - 1) < ((d2.length : Nat) : Int)) ∧
((((ge d2 i.toNat).1) < ((ge d2 (i - 1).toNat).1) →
R 9) ∧
(¬ (((ge d2 i.toNat).1) < ((ge d2 (i - 1).toNat).1)) →
((((ge d2 i.toNat).1) = ((ge d2 (i - 1).toNat).1) →
((((ge d2 i.toNat).2.1) ≤ ((ge d2 (i - 1).toNat).2.1) →
R 9) ∧
(¬ (((ge d2 i.toNat).2.1) ≤ ((ge d2 (i - 1).toNat).2.1)) →
R 0))) ∧
(¬ (((ge d2 i.toNat).1) = ((ge d2 (i - 1).toNat).1)) →
R 0))))))) ∧
(¬ (0 < i) →
R 0))))) ∧
ych d d2 ((ge d2 i.toNat).1) (fun r =>
((r = true →
ych d d2 ((ge d2 i.toNat).2.1) (fun r2 =>
((r2 = true →
((((ge d2 i.toNat).2.2) < 1 →
R 2) ∧
(¬ (((ge d2 i.toNat).2.2) < 1) →
((50 < ((ge d2 i.toNat).2.2) →
R 2) ∧
(¬ (50 < ((ge d2 i.toNat).2.2)) →
J2))))) ∧
(¬ (r2 = true) →
R 2)))) ∧
(¬ (r = true) →
R 2)))))
theorem pok_r08_edge {O : Nat → Prop} {w : World} {d d2 i Ad ld cd} {R : Int → Prop} (h : ycy d d2 i R) (hO : ∀ k, O k → k < w.heap.size) (hA0 : (FP.sl c3 Ad ld cd d2).P O w) :
    Calls Tryz.prog 173 #[(.agg #[(ii d), (.slice Ad ld cd)]), (ii i)] w fun e w' => ∃ r3, e = .returned (ii r3) ∧ Sep w no O w' (rl []) ∧ R r3 := by
  unfold ycy at h; have hS : Sep w no O w (rl [Res.ro (FP.sl c3 Ad ld cd d2)]) := Sep.startl hO [(FP.sl c3 Ad ld cd d2)] ⟨hA0, trivial⟩; refine yan (l := [(.agg #[(ii d), (.slice Ad ld cd)]), (ii i)]) func173 rfl ntmps173 (Nat.le_of_ble_eq_true rfl) (zs (zn (yb6 (v := (.agg #[(ii d), (.slice Ad ld cd)])) rfl ?_))); intro g w2 hN; replace hS : Sep w no O w2 (stl _ 1 (Res.box 24 g [(ii d), (.slice Ad ld cd)])) := hS.new 1 rfl hN; clear hN; refine zb (zq (za (ii 0)) (yaa (zs (zq (yam rfl underlying24 rfl ydy) (zq (zl underlying22 (Row.cell (hS.bx 1 rfl) (i := 1) rfl)) (zq (zm (ii i)) ?_)))))); obtain ⟨hx, h⟩ := h; refine zq (zi underlying22 ybf (ybh (hS.rdr 0 rfl) hx)) (zq (yav (vs := [(ii ((ge d2 i.toNat).1)), (ii ((ge d2 i.toNat).2.1)), (ii ((ge d2 i.toNat).2.2))]) rfl underlying95 rfl ybf (yn2 (hS.rdr 0 rfl) hx (fun q => yd6 q))) ?_); refine zn (ybJ ybf ?_); intro g2 w3 hN; replace hS : Sep w no O w3 (stl _ 2 (Res.box 95 g2 [(ii 0), (ii 0), (ii 0)])) := hS.new 2 rfl hN; clear hN; refine zb (zo (yeb (b := g2) (o := 0) (cells := #[(ii ((ge d2 i.toNat).1)), (ii ((ge d2 i.toNat).2.1)), (ii ((ge d2 i.toNat).2.2))]) rfl rfl ybf rfl rfl (yc7 (hS.bx 2 rfl) (Nat.le_of_ble_eq_true rfl)) ?_)); intro w4 e1; replace hS := hS.bstn 2 rfl 0 [(ii ((ge d2 i.toNat).1)), (ii ((ge d2 i.toNat).2.1)), (ii ((ge d2 i.toNat).2.2))] e1; clear e1; refine zb (yaa (yaf (yaf ?_))); obtain ⟨J2, hJ, h⟩ := h; refine ycZ (fun E ds w' => J2 ∧ ds = [] ∧ E 1 = (ii i) ∧ E 2 = (Value.pointer (some (⟨g, 0, none⟩ : Addr))) ∧ E 5 = (Value.pointer (some (⟨g2, 0, none⟩ : Addr))) ∧ Sep w no O w' (rl [Res.box 24 g [(ii d), (.slice Ad ld cd)], Res.ro (FP.sl c3 Ad ld cd d2), Res.box 95 g2 [(ii ((ge d2 i.toNat).1)), (ii ((ge d2 i.toNat).2.1)), (ii ((ge d2 i.toNat).2.2))]])) ?_ ?_
  · clear h hS; rintro E ds w5 ⟨h, rfl, hE1, hE2, hE5, hS⟩; replace h := hJ h; refine yaf (zs (zq (yam hE5 underlying95 rfl yaj) (zq (zl underlying3 (Row.cell (hS.bx 2 rfl) (i := 0) rfl)) (zq (yam hE5 underlying95 rfl yaj) (zq (zl underlying3 (Row.cell (hS.bx 2 rfl) (i := 1) rfl)) (zq zG (yaa ?_))))))); by_cases hp : ((ge d2 i.toNat).2.1) < ((ge d2 i.toNat).1)
    · replace h := h.1 hp; exact zc hp (zs (zq (za (ii 9)) (yaa (yah rfl rfl ⟨_, rfl, (hS.sel [] (by decide)), h⟩))))
    · replace h := h.2 hp; refine zd hp (yag (yaf (zs (zq (yae hE1) (zq zG (yaa ?_)))))); by_cases hp2 : 0 < i
      · replace h := h.1 hp2; refine zc hp2 (zs (zq (yam hE2 underlying24 rfl ydy) (zq (zl underlying22 (Row.cell (hS.bx 0 rfl) (i := 1) rfl)) (zq (yae hE1) ?_)))); obtain ⟨hi, h⟩ := h; refine zq (zS hi) ?_; obtain ⟨hx2, h⟩ := h; refine zq (zi underlying22 ybf (ybh (hS.rdr 1 rfl) hx2)) (zq (yav (vs := [(ii ((ge d2 (i - 1).toNat).1)), (ii ((ge d2 (i - 1).toNat).2.1)), (ii ((ge d2 (i - 1).toNat).2.2))]) rfl underlying95 rfl ybf (yn2 (hS.rdr 1 rfl) hx2 (fun q => yd6 q))) ?_); refine zn (ybJ ybf ?_); intro g3 w6 hN; replace hS : Sep w no O w6 (stl _ 3 (Res.box 95 g3 [(ii 0), (ii 0), (ii 0)])) := hS.new 3 rfl hN; clear hN; refine zb (zo (yeb (b := g3) (o := 0) (cells := #[(ii ((ge d2 (i - 1).toNat).1)), (ii ((ge d2 (i - 1).toNat).2.1)), (ii ((ge d2 (i - 1).toNat).2.2))]) rfl rfl ybf rfl rfl (yc7 (hS.bx 3 rfl) (Nat.le_of_ble_eq_true rfl)) ?_)); intro w7 e1; replace hS := hS.bstn 3 rfl 0 [(ii ((ge d2 (i - 1).toNat).1)), (ii ((ge d2 (i - 1).toNat).2.1)), (ii ((ge d2 (i - 1).toNat).2.2))] e1; clear e1; refine zb (yaa (zs (zq (yam hE5 underlying95 rfl yaj) (zq (zl underlying3 (Row.cell (hS.bx 2 rfl) (i := 0) rfl)) (zq (yam rfl underlying95 rfl yaj) (zq (zl underlying3 (Row.cell (hS.bx 3 rfl) (i := 0) rfl)) (zq zL (zq (zm (.bool (decide (((ge d2 i.toNat).1) < ((ge d2 (i - 1).toNat).1))))) ?_)))))))); by_cases hp3 : ((ge d2 i.toNat).1) < ((ge d2 (i - 1).toNat).1)
        · replace h := h.1 hp3; exact rl_p (yab rfl (yac rfl (congrArg Value.bool (decide_eq_true hp3))) rfl) rfl (rl_p (yab rfl (yac rfl (congrArg Value.bool (decide_eq_true hp3))) rfl) rfl (rl_p (yab rfl (yac rfl (congrArg Value.bool (decide_eq_true hp3))) rfl) rfl (rl_p (yab rfl (yac rfl (congrArg Value.bool (decide_eq_true hp3))) rfl) rfl (rl_p (yab rfl (yac rfl (congrArg Value.bool (decide_eq_true hp3))) rfl) rfl (rl_p (yab rfl (yac rfl (congrArg Value.bool (decide_eq_true hp3))) rfl) rfl (rl_p (yaB rfl rfl) rfl (rl_p (yaB rfl rfl) rfl (rl_p (yaB rfl rfl) rfl (rl_p (yaB rfl rfl) rfl (rl_p (yaB rfl rfl) rfl (rl_p (yab rfl (yac rfl (congrArg Value.bool (decide_eq_true hp3))) rfl) rfl (zq (yao (v := (.bool (true))) (congrArg Value.bool (decide_eq_true hp3)) rfl) (yaa (yaq rfl (zs (zq (za (ii 9)) (yaa (yah rfl rfl ⟨_, rfl, (hS.sel [] (by decide)), h⟩))))))))))))))))))
        · replace h := h.2 hp3; refine rl_q (yad rfl (yac rfl (congrArg Value.bool (decide_eq_false hp3)))) rfl rfl (yam hE5 underlying95 rfl yaj) (rl_q (yad rfl (yac rfl (congrArg Value.bool (decide_eq_false hp3)))) rfl rfl (zl underlying3 (Row.cell (hS.bx 2 rfl) (i := 0) rfl)) (rl_q (yad rfl (yac rfl (congrArg Value.bool (decide_eq_false hp3)))) rfl rfl (yam rfl underlying95 rfl yaj) (rl_q (yad rfl (yac rfl (congrArg Value.bool (decide_eq_false hp3)))) rfl rfl (zl underlying3 (Row.cell (hS.bx 3 rfl) (i := 0) rfl)) (rl_q (yad rfl (yac rfl (congrArg Value.bool (decide_eq_false hp3)))) rfl rfl zE (rl_q (yad rfl (yac rfl (congrArg Value.bool (decide_eq_false hp3)))) rfl rfl (zm (.bool (decide (((ge d2 i.toNat).1) = ((ge d2 (i - 1).toNat).1))))) ?_))))); by_cases hp4 : ((ge d2 i.toNat).1) = ((ge d2 (i - 1).toNat).1)
          · replace h := h.1 hp4; refine rl_q (yad rfl (yac rfl (congrArg Value.bool (decide_eq_true hp4)))) rfl rfl (yam hE5 underlying95 rfl yaj) (rl_q (yad rfl (yac rfl (congrArg Value.bool (decide_eq_true hp4)))) rfl rfl (zl underlying3 (Row.cell (hS.bx 2 rfl) (i := 1) rfl)) (rl_q (yad rfl (yac rfl (congrArg Value.bool (decide_eq_true hp4)))) rfl rfl (yam rfl underlying95 rfl yaj) (rl_q (yad rfl (yac rfl (congrArg Value.bool (decide_eq_true hp4)))) rfl rfl (zl underlying3 (Row.cell (hS.bx 3 rfl) (i := 1) rfl)) (rl_q (yad rfl (yac rfl (congrArg Value.bool (decide_eq_true hp4)))) rfl rfl (v_leq rfl rfl) (rl_q (yad rfl (yac rfl (congrArg Value.bool (decide_eq_false hp3)))) rfl rfl (yao (v := (.bool (decide (((ge d2 i.toNat).2.1) ≤ ((ge d2 (i - 1).toNat).2.1))))) (congrArg Value.bool (decide_eq_true hp4)) rfl) (zq (yap (v := (.bool (decide (((ge d2 i.toNat).2.1) ≤ ((ge d2 (i - 1).toNat).2.1))))) (congrArg Value.bool (decide_eq_false hp3)) rfl) (yaa ?_))))))); by_cases hp5 : ((ge d2 i.toNat).2.1) ≤ ((ge d2 (i - 1).toNat).2.1)
            · replace h := h.1 hp5; exact zc hp5 (zs (zq (za (ii 9)) (yaa (yah rfl rfl ⟨_, rfl, (hS.sel [] (by decide)), h⟩))))
            · replace h := h.2 hp5; exact zd hp5 (yag (zs (zq (za (ii 0)) (yaa (yah rfl rfl ⟨_, rfl, (hS.sel [] (by decide)), h⟩)))))
          · replace h := h.2 hp4; exact rl_p (yab rfl (yac rfl (congrArg Value.bool (decide_eq_false hp4))) rfl) rfl (rl_p (yab rfl (yac rfl (congrArg Value.bool (decide_eq_false hp4))) rfl) rfl (rl_p (yab rfl (yac rfl (congrArg Value.bool (decide_eq_false hp4))) rfl) rfl (rl_p (yab rfl (yac rfl (congrArg Value.bool (decide_eq_false hp4))) rfl) rfl (rl_p (yab rfl (yac rfl (congrArg Value.bool (decide_eq_false hp4))) rfl) rfl (rl_q (yad rfl (yac rfl (congrArg Value.bool (decide_eq_false hp3)))) rfl rfl (yap (v := (.bool (false))) (congrArg Value.bool (decide_eq_false hp4)) rfl) (zq (yap (v := (.bool (false))) (congrArg Value.bool (decide_eq_false hp3)) rfl) (yaa (yax rfl (yag (zs (zq (za (ii 0)) (yaa (yah rfl rfl ⟨_, rfl, (hS.sel [] (by decide)), h⟩)))))))))))))
      · replace h := h.2 hp2; exact zd hp2 (yag (zs (zq (za (ii 0)) (yaa (yah rfl rfl ⟨_, rfl, (hS.sel [] (by decide)), h⟩)))))
  clear hJ; intro j; refine zr (zq (yav (vs := [(ii d), (.slice Ad ld cd)]) rfl underlying24 rfl yas ⟨Row.cell (hS.bx 1 rfl) (i := 0) rfl, Row.cell (hS.bx 1 rfl) (i := 1) rfl, trivial⟩) (zq (yam rfl underlying95 rfl yaj) (zq (zl underlying3 (Row.cell (hS.bx 2 rfl) (i := 0) rfl)) (zn (yal rfl (am2 rfl rfl) enter_211 ((ye8 h (yaN _) (hS.rdr 0 rfl)).mono ?_)))))); rintro _ w8 ⟨r, rfl, hC, h⟩; replace hS := hS.pur hC.pure; clear hC; refine ⟨_, rfl, ?_⟩; refine zb (zq (ydn rfl) (zq (zm (.bool (!(r)))) ?_)); by_cases hp6 : r = true
  · replace h := h.1 hp6; refine rl_q (yad rfl (yac rfl (congrArg Value.bool (congrArg Bool.not hp6)))) rfl rfl (yav (vs := [(ii d), (.slice Ad ld cd)]) rfl underlying24 rfl yas ⟨Row.cell (hS.bx 1 rfl) (i := 0) rfl, Row.cell (hS.bx 1 rfl) (i := 1) rfl, trivial⟩) (rl_q (yad rfl (yac rfl (congrArg Value.bool (congrArg Bool.not hp6)))) rfl rfl (yam rfl underlying95 rfl yaj) (rl_q (yad rfl (yac rfl (congrArg Value.bool (congrArg Bool.not hp6)))) rfl rfl (zl underlying3 (Row.cell (hS.bx 2 rfl) (i := 1) rfl)) (rl_n (yad rfl (yac rfl (congrArg Value.bool (congrArg Bool.not hp6)))) rfl rfl rfl (yal rfl (am2 rfl rfl) enter_211 ((ye8 h (yaN _) (hS.rdr 0 rfl)).mono ?_))))); rintro _ w9 ⟨r2, rfl, hC, h⟩; replace hS := hS.pur hC.pure; clear hC; refine ⟨_, rfl, ?_⟩; refine zb (rl_q (yad rfl (yac rfl (congrArg Value.bool (congrArg Bool.not hp6)))) rfl rfl (ydn rfl) (zq (yap (v := (.bool (!(r2)))) (congrArg Value.bool (congrArg Bool.not hp6)) rfl) (zq (zm (.bool (!(r2)))) ?_))); by_cases hp7 : r2 = true
    · replace h := h.1 hp7; refine rl_q (yad rfl (yac rfl (congrArg Value.bool (congrArg Bool.not hp7)))) rfl rfl (yam rfl underlying95 rfl yaj) (rl_q (yad rfl (yac rfl (congrArg Value.bool (congrArg Bool.not hp7)))) rfl rfl (zl underlying3 (Row.cell (hS.bx 2 rfl) (i := 2) rfl)) (rl_q (yad rfl (yac rfl (congrArg Value.bool (congrArg Bool.not hp7)))) rfl rfl zL (zq (yap (v := (.bool (decide (((ge d2 i.toNat).2.2) < 1)))) (congrArg Value.bool (congrArg Bool.not hp7)) rfl) (zq (zm (.bool (decide (((ge d2 i.toNat).2.2) < 1)))) ?_)))); by_cases hp8 : ((ge d2 i.toNat).2.2) < 1
      · replace h := h.1 hp8; exact rl_p (yab rfl (yac rfl (congrArg Value.bool (decide_eq_true hp8))) rfl) rfl (rl_p (yab rfl (yac rfl (congrArg Value.bool (decide_eq_true hp8))) rfl) rfl (rl_p (yab rfl (yac rfl (congrArg Value.bool (decide_eq_true hp8))) rfl) rfl (zq (yao (v := (.bool (true))) (congrArg Value.bool (decide_eq_true hp8)) rfl) (yaa (yaq rfl (zs (zq (za (ii 2)) (yaa (yah rfl rfl ⟨_, rfl, (hS.sel [] (by decide)), h⟩)))))))))
      · replace h := h.2 hp8; refine rl_q (yad rfl (yac rfl (congrArg Value.bool (decide_eq_false hp8)))) rfl rfl (yam rfl underlying95 rfl yaj) (rl_q (yad rfl (yac rfl (congrArg Value.bool (decide_eq_false hp8)))) rfl rfl (zl underlying3 (Row.cell (hS.bx 2 rfl) (i := 2) rfl)) (rl_q (yad rfl (yac rfl (congrArg Value.bool (decide_eq_false hp8)))) rfl rfl zG (zq (yap (v := (.bool (decide (50 < ((ge d2 i.toNat).2.2))))) (congrArg Value.bool (decide_eq_false hp8)) rfl) (yaa ?_)))); by_cases hp9 : 50 < ((ge d2 i.toNat).2.2)
        · replace h := h.1 hp9; exact zc hp9 (zs (zq (za (ii 2)) (yaa (yah rfl rfl ⟨_, rfl, (hS.sel [] (by decide)), h⟩))))
        · replace h := h.2 hp9; exact zd hp9 (yag (j _ _ _ ⟨h, rfl, rfl, rfl, rfl, (hS.sel [1, 0, 2] (by decide))⟩))
    · replace h := h.2 hp7; exact rl_p (yab rfl (yac rfl (congrArg Value.bool (congrArg Bool.not (Bool.eq_false_iff.2 hp7)))) rfl) rfl (rl_p (yab rfl (yac rfl (congrArg Value.bool (congrArg Bool.not (Bool.eq_false_iff.2 hp7)))) rfl) rfl (rl_p (yab rfl (yac rfl (congrArg Value.bool (congrArg Bool.not (Bool.eq_false_iff.2 hp7)))) rfl) rfl (zq (yao (v := (.bool (true))) (congrArg Value.bool (congrArg Bool.not (Bool.eq_false_iff.2 hp7))) rfl) (zq (zm (.bool (true))) (rl_p (yab rfl (yac rfl rfl) rfl) rfl (rl_p (yab rfl (yac rfl rfl) rfl) rfl (rl_p (yab rfl (yac rfl rfl) rfl) rfl (zq (yao (v := (.bool (true))) rfl rfl) (yaa (yaq rfl (zs (zq (za (ii 2)) (yaa (yah rfl rfl ⟨_, rfl, (hS.sel [] (by decide)), h⟩))))))))))))))
  · replace h := h.2 hp6; exact rl_p (yab rfl (yac rfl (congrArg Value.bool (congrArg Bool.not (Bool.eq_false_iff.2 hp6)))) rfl) rfl (rl_p (yab rfl (yac rfl (congrArg Value.bool (congrArg Bool.not (Bool.eq_false_iff.2 hp6)))) rfl) rfl (rl_p (yab rfl (yac rfl (congrArg Value.bool (congrArg Bool.not (Bool.eq_false_iff.2 hp6)))) rfl) rfl (rl_p (yab rfl (yac rfl (congrArg Value.bool (congrArg Bool.not (Bool.eq_false_iff.2 hp6)))) rfl) rfl (rl_p (yab rfl (yac rfl (congrArg Value.bool (congrArg Bool.not (Bool.eq_false_iff.2 hp6)))) rfl) rfl (zq (yao (v := (.bool (true))) (congrArg Value.bool (congrArg Bool.not (Bool.eq_false_iff.2 hp6))) rfl) (zq (zm (.bool (true))) (rl_p (yab rfl (yac rfl rfl) rfl) rfl (rl_p (yab rfl (yac rfl rfl) rfl) rfl (rl_p (yab rfl (yac rfl rfl) rfl) rfl (zq (yao (v := (.bool (true))) rfl rfl) (zq (zm (.bool (true))) (rl_p (yab rfl (yac rfl rfl) rfl) rfl (rl_p (yab rfl (yac rfl rfl) rfl) rfl (rl_p (yab rfl (yac rfl rfl) rfl) rfl (zq (yao (v := (.bool (true))) rfl rfl) (yaa (yaq rfl (zs (zq (za (ii 2)) (yaa (yah rfl rfl ⟨_, rfl, (hS.sel [] (by decide)), h⟩)))))))))))))))))))))
def ybO (g : Int) (g2 : List E3) (R : Int → Prop) : Prop :=
(∃ J2 : Prop, (J2 → (∃ I2 : Nat → Int → Prop, (∃ m0, I2 m0 0) ∧ ∀ m2 i, I2 m2 i → 
((i < ((g2.length : Nat) : Int) →
ycy g g2 i (fun r =>
((r = 0 →
(In64 (i + 1) ∧
∃ m3, m3 < m2 ∧ I2 m3 (i + 1))) ∧
(¬ (r = 0) →
R r)))) ∧
(¬ (i < ((g2.length : Nat) : Int)) →
R 0)))) ∧
((g < 1 →
R 2) ∧
(¬ (g < 1) →
((12 < g →
R 2) ∧
(¬ (12 < g) →
J2)))))
theorem yfw {O : Nat → Prop} {w : World} {g g2 Ag lg cg} {R : Int → Prop} (h : ybO g g2 R) (hO : ∀ k, O k → k < w.heap.size) (hA0 : (FP.sl c3 Ag lg cg g2).P O w) :
    Calls Tryz.prog 115 #[(.agg #[(ii g), (.slice Ag lg cg)])] w fun e w' => ∃ r2, e = .returned (ii r2) ∧ Sep w no O w' (rl []) ∧ R r2 := by
  unfold ybO at h; have hS : Sep w no O w (rl [Res.ro (FP.sl c3 Ag lg cg g2)]) := Sep.startl hO [(FP.sl c3 Ag lg cg g2)] ⟨hA0, trivial⟩; refine yan (l := [(.agg #[(ii g), (.slice Ag lg cg)])]) func115 rfl ntmps115 (Nat.le_of_ble_eq_true rfl) (zs (zn (yb6 (v := (.agg #[(ii g), (.slice Ag lg cg)])) rfl ?_))); intro g3 w2 hN; replace hS : Sep w no O w2 (stl _ 1 (Res.box 24 g3 [(ii g), (.slice Ag lg cg)])) := hS.new 1 rfl hN; clear hN; refine zb (zq (za (ii 0)) (yaa (yaf (yaf ?_)))); obtain ⟨J2, hJ, h⟩ := h; refine ycZ (fun E ds w' => J2 ∧ ds = [] ∧ E 1 = (Value.pointer (some (⟨g3, 0, none⟩ : Addr))) ∧ Sep w no O w' (rl [Res.box 24 g3 [(ii g), (.slice Ag lg cg)], Res.ro (FP.sl c3 Ag lg cg g2)])) ?_ ?_
  · clear h hS; rintro E ds w3 ⟨h, rfl, hE1, hS⟩; replace h := hJ h; refine yaf (zs (zq (za (ii 0)) (yaa (yak ?_)))); obtain ⟨I2, ⟨m0, h0⟩, hr⟩ := h; refine yaO (fun m E ds w' => ∃ i, I2 m i ∧ ds = [] ∧ E 1 = (Value.pointer (some (⟨g3, 0, none⟩ : Addr))) ∧ E 3 = (ii i) ∧ Sep w no O w' (rl [Res.box 24 g3 [(ii g), (.slice Ag lg cg)], Res.ro (FP.sl c3 Ag lg cg g2)])) m0 ⟨_, h0, rfl, hE1, rfl, (hS.sel [0, 1] (by decide))⟩ ?_; clear h0 hS; rintro m2 E ds w4 ⟨i, h, rfl, hE1, hE3, hS⟩ again; replace h := hr m2 i h; clear hr; refine yaf (zs (zq (yae hE3) (zq (yam hE1 underlying24 rfl ydy) (zq (zl underlying22 (Row.cell (hS.bx 0 rfl) (i := 1) rfl)) (zq (ybc (n := g2.length) rfl underlying22 (ya2 (hS.rdr 1 rfl))) (zq zL (yaa ?_))))))); by_cases hp : i < ((g2.length : Nat) : Int)
    · replace h := h.1 hp; refine zc hp (yag (yaf (yak (zs (zq (yav (vs := [(ii g), (.slice Ag lg cg)]) hE1 underlying24 rfl yas ⟨Row.cell (hS.bx 0 rfl) (i := 0) rfl, Row.cell (hS.bx 0 rfl) (i := 1) rfl, trivial⟩) (zq (yae hE3) (zn (yal rfl (am2 rfl rfl) enter_173 ((pok_r08_edge h (yaN _) (hS.rdr 1 rfl)).mono ?_))))))))); rintro _ w5 ⟨r, rfl, hC, h⟩; replace hS := hS.pur hC.pure; clear hC; refine ⟨_, rfl, ?_⟩; refine zb (zq (za (ii r)) (yaa (zs (zq (zm (ii r)) (zq zN (yaa ?_)))))); by_cases hp2 : r = 0
      · replace h := h.1 hp2; refine ze hp2 (yag (yai (zr (zq (yae hE3) ?_)))); obtain ⟨hi, h⟩ := h; refine zq (zA hi) (zq (za (ii (i + 1))) (yaa ?_)); obtain ⟨mq, hlt, h⟩ := h; exact again mq _ _ _ ⟨_, h, rfl, hE1, rfl, (hS.sel [0, 1] (by decide))⟩ hlt
      · replace h := h.2 hp2; exact zf hp2 (zs (zq (zm (ii r)) (zq (za (ii r)) (yaa (yah rfl rfl ⟨_, rfl, (hS.sel [] (by decide)), h⟩)))))
    · replace h := h.2 hp; exact zd hp (yaH rfl (zs (zq (za (ii 0)) (yaa (yah rfl rfl ⟨_, rfl, (hS.sel [] (by decide)), h⟩)))))
  clear hJ; intro j; refine zr (zq (yam rfl underlying24 rfl yaj) (zq (zl underlying3 (Row.cell (hS.bx 1 rfl) (i := 0) rfl)) (zq zL (zq (zm (.bool (decide (g < 1)))) ?_)))); by_cases hp3 : g < 1
  · replace h := h.1 hp3; exact rl_p (yab rfl (yac rfl (congrArg Value.bool (decide_eq_true hp3))) rfl) rfl (rl_p (yab rfl (yac rfl (congrArg Value.bool (decide_eq_true hp3))) rfl) rfl (rl_p (yab rfl (yac rfl (congrArg Value.bool (decide_eq_true hp3))) rfl) rfl (zq (yao (v := (.bool (true))) (congrArg Value.bool (decide_eq_true hp3)) rfl) (yaa (yaq rfl (zs (zq (za (ii 2)) (yaa (yah rfl rfl ⟨_, rfl, (hS.sel [] (by decide)), h⟩)))))))))
  · replace h := h.2 hp3; refine rl_q (yad rfl (yac rfl (congrArg Value.bool (decide_eq_false hp3)))) rfl rfl (yam rfl underlying24 rfl yaj) (rl_q (yad rfl (yac rfl (congrArg Value.bool (decide_eq_false hp3)))) rfl rfl (zl underlying3 (Row.cell (hS.bx 1 rfl) (i := 0) rfl)) (rl_q (yad rfl (yac rfl (congrArg Value.bool (decide_eq_false hp3)))) rfl rfl zG (zq (yap (v := (.bool (decide (12 < g)))) (congrArg Value.bool (decide_eq_false hp3)) rfl) (yaa ?_)))); by_cases hp4 : 12 < g
    · replace h := h.1 hp4; exact zc hp4 (zs (zq (za (ii 2)) (yaa (yah rfl rfl ⟨_, rfl, (hS.sel [] (by decide)), h⟩))))
    · replace h := h.2 hp4; exact zd hp4 (yag (j _ _ _ ⟨h, rfl, rfl, (hS.sel [1, 0] (by decide))⟩))
def ydu (g : Int) (g2 : List E3) (R : (List (Int × Int)) → Prop) : Prop :=
(∃ I2 : Nat → (List (Int × Int)) → Int → Prop, (∃ m0, I2 m0 ([]) 0) ∧ ∀ m2 out i, I2 m2 out i → 
((i < ((g2.length : Nat) : Int) →
(∃ I3 : Nat → (List (Int × Int)) → Int → Prop, (∃ m0, I3 m0 out 0) ∧ ∀ m3 out2 k, I3 m3 out2 k → 
((0 ≤ i ∧ i < ((g2.length : Nat) : Int)) ∧
((k < ((ge g2 i.toNat).2.2) →
(out2.length + 1 ≤ 1000000000 ∧
(In64 (k + 1) ∧
∃ m4, m4 < m3 ∧ I3 m4 (out2 ++ [((ge g2 i.toNat).1, (ge g2 i.toNat).2.1)]) (k + 1)))) ∧
(¬ (k < ((ge g2 i.toNat).2.2)) →
(In64 (i + 1) ∧
∃ m5, m5 < m2 ∧ I2 m5 out2 (i + 1))))))) ∧
(¬ (i < ((g2.length : Nat) : Int)) →
R out)))
theorem pok_r08_Ends {O : Nat → Prop} {w : World} {g g2 Ag lg cg} {R : (List (Int × Int)) → Prop} (h : ydu g g2 R) (hO : ∀ k, O k → k < w.heap.size) (hA0 : (FP.sl c3 Ag lg cg g2).P O w) :
    Calls Tryz.prog 213 #[(.agg #[(ii g), (.slice Ag lg cg)])] w fun e w' => ∃ r Ar lr cr, e = .returned (.slice Ar lr cr) ∧ Sep w no O w' (rl [Res.own c2 190 Ar lr cr r]) ∧ R r := by
  unfold ydu at h; have hS : Sep w no O w (rl [Res.ro (FP.sl c3 Ag lg cg g2)]) := Sep.startl hO [(FP.sl c3 Ag lg cg g2)] ⟨hA0, trivial⟩; refine yan (l := [(.agg #[(ii g), (.slice Ag lg cg)])]) func213 rfl ntmps213 (Nat.le_of_ble_eq_true rfl) (zs (zn (yb6 (v := (.agg #[(ii g), (.slice Ag lg cg)])) rfl ?_))); intro g3 w2 hN; replace hS : Sep w no O w2 (stl _ 1 (Res.box 24 g3 [(ii g), (.slice Ag lg cg)])) := hS.new 1 rfl hN; clear hN; refine zb (zq (za (.slice none 0 0)) (yaa (zs (zq (za (.slice none 0 0)) (yaa (yaf (zs (zq (za (ii 0)) (yaa (yak ?_)))))))))); replace hS := hS.nil 2 rfl c2 190; obtain ⟨I2, ⟨m0, h0⟩, hr⟩ := h; refine yaO (fun m E ds w' => ∃ out i Aout lout cout, I2 m out i ∧ ds = [] ∧ E 1 = (Value.pointer (some (⟨g3, 0, none⟩ : Addr))) ∧ E 3 = (Value.slice Aout lout cout) ∧ E 4 = (ii i) ∧ Sep w no O w' (rl [Res.own c2 190 Aout lout cout out, Res.box 24 g3 [(ii g), (.slice Ag lg cg)], Res.ro (FP.sl c3 Ag lg cg g2)])) m0 ⟨_, _, _, _, _, h0, rfl, rfl, rfl, rfl, (hS.sel [2, 1, 0] (by decide))⟩ ?_; clear h0 hS; rintro m2 E ds w3 ⟨out, i, Aout, lout, cout, h, rfl, hE1, hE3, hE4, hS⟩ again; replace h := hr m2 out i h; clear hr; refine yaf (zs (zq (yae hE4) (zq (yam hE1 underlying24 rfl ydy) (zq (zl underlying22 (Row.cell (hS.bx 1 rfl) (i := 1) rfl)) (zq (ybc (n := g2.length) rfl underlying22 (ya2 (hS.rdr 2 rfl))) (zq zL (yaa ?_))))))); by_cases hp : i < ((g2.length : Nat) : Int)
  · replace h := h.1 hp; refine zc hp (yag (yaf (yak (zs (zq (za (ii 0)) (yaa (yak ?_))))))); obtain ⟨I3, ⟨m0, h0⟩, hr⟩ := h; refine yaO (fun m E ds w' => ∃ out2 k Aout2 lout2 cout2, I3 m out2 k ∧ ds = [] ∧ E 1 = (Value.pointer (some (⟨g3, 0, none⟩ : Addr))) ∧ E 3 = (Value.slice Aout2 lout2 cout2) ∧ E 4 = (ii i) ∧ E 5 = (ii k) ∧ Sep w no O w' (rl [Res.own c2 190 Aout2 lout2 cout2 out2, Res.box 24 g3 [(ii g), (.slice Ag lg cg)], Res.ro (FP.sl c3 Ag lg cg g2)])) m0 ⟨_, _, _, _, _, h0, rfl, hE1, hE3, hE4, rfl, (hS.sel [0, 1, 2] (by decide))⟩ ?_; clear h0 hS; rintro m3 E ds w4 ⟨out2, k, Aout2, lout2, cout2, h, rfl, hE1, hE3, hE4, hE5, hS⟩ again2; replace h := hr m3 out2 k h; clear hr; refine yaf (zs (zq (yae hE5) (zq (yam hE1 underlying24 rfl ydy) (zq (zl underlying22 (Row.cell (hS.bx 1 rfl) (i := 1) rfl)) (zq (yae hE4) ?_))))); obtain ⟨hx, h⟩ := h; refine zq (zi underlying22 ybf (ybh (hS.rdr 2 rfl) hx)) (zq (yam rfl underlying95 rfl yaj) (zq (yaA (v := (ii ((ge g2 i.toNat).2.2))) rfl underlying3 rfl (rd_f (hS.rdr 2 rfl) hx (fun q => yd6 q) 2 rfl)) ?_)); refine zq zL (yaa ?_); by_cases hp2 : k < ((ge g2 i.toNat).2.2)
    · replace h := h.1 hp2; refine zc hp2 (yag (yaf (yak (ybt [0, 1, 2, 3, 4, 5, 6, 7, 8, 9, 10, 11, 12, 13, 14, 15, 16] (fun i => match i with | 13 => [0] | 14 => [0] | _ => []) yaQ (by kernel_rfl) (by kernel_rfl) ?_)))); replace hS := hS.drew; refine zp (yae hE3) (zp (yam hE1 underlying24 rfl ydy) (zp (zl underlying22 (Row.cell (hS.bx 1 rfl) (i := 1) rfl)) (zp (yae hE4) (zp (zi underlying22 ybf (ybh (hS.rdr 2 rfl) hx)) (zp (yam rfl underlying95 rfl yaj) (zp (yaA (v := (ii ((ge g2 i.toNat).1))) rfl underlying3 rfl (rd_f (hS.rdr 2 rfl) hx (fun q => yd6 q) 0 rfl)) ?_)))))); refine zp (yam hE1 underlying24 rfl ydy) (zp (zl underlying22 (Row.cell (hS.bx 1 rfl) (i := 1) rfl)) (zp (yae hE4) (zp (zi underlying22 ybf (ybh (hS.rdr 2 rfl) hx)) (zp (yam rfl underlying95 rfl yaj) (zp (yaA (v := (ii ((ge g2 i.toNat).2.1))) rfl underlying3 rfl (rd_f (hS.rdr 2 rfl) hx (fun q => yd6 q) 1 rfl)) ?_))))); refine rp_n rfl rfl rfl rfl (n_builda (l := [(0, (ii ((ge g2 i.toNat).1))), (1, (ii ((ge g2 i.toNat).2.1)))]) (cells := [(ii ((ge g2 i.toNat).1)), (ii ((ge g2 i.toNat).2.1))]) (bp2 rfl rfl) underlying190 ym6 yaj rfl ?_); refine ⟨⟨fun hh => Bool.noConfusion (show false = true from hh), ⟨fun hh => Bool.noConfusion (show false = true from hh), ⟨fun hh => Bool.noConfusion (show false = true from hh), ⟨fun hh => Bool.noConfusion (show false = true from hh), ⟨fun hh => Bool.noConfusion (show false = true from hh), ⟨fun hh => Bool.noConfusion (show false = true from hh), ⟨fun hh => Bool.noConfusion (show false = true from hh), ⟨fun hh => Bool.noConfusion (show false = true from hh), ⟨fun hh => Bool.noConfusion (show false = true from hh), ⟨fun hh => Bool.noConfusion (show false = true from hh), ⟨fun hh => Bool.noConfusion (show false = true from hh), ⟨fun hh => Bool.noConfusion (show false = true from hh), ⟨fun _ => (yae hE3), trivial⟩⟩⟩⟩⟩⟩⟩⟩⟩⟩⟩⟩⟩, ?_⟩; refine rp_n rfl rfl rfl rfl (yaR (l := [(0, (.agg #[(ii ((ge g2 i.toNat).1)), (ii ((ge g2 i.toNat).2.1))]))]) (cells := [(ii ((ge g2 i.toNat).1)), (ii ((ge g2 i.toNat).2.1))]) (bp1 rfl) underlying219 ym6 rfl rfl ?_); intro g4 w5 hN; replace hS := hS.litf (n := 1) 3 rfl (fP (fI .i64) (fI .i64)) hN ([((ge g2 i.toNat).1, (ge g2 i.toNat).2.1)] : List (Int × Int)) rfl (by decide) rfl; clear hN; refine ⟨⟨fun hh => Bool.noConfusion (show false = true from hh), ⟨fun hh => Bool.noConfusion (show false = true from hh), ⟨fun hh => Bool.noConfusion (show false = true from hh), ⟨fun hh => Bool.noConfusion (show false = true from hh), ⟨fun hh => Bool.noConfusion (show false = true from hh), ⟨fun hh => Bool.noConfusion (show false = true from hh), ⟨fun hh => Bool.noConfusion (show false = true from hh), ⟨fun hh => Bool.noConfusion (show false = true from hh), ⟨fun hh => Bool.noConfusion (show false = true from hh), ⟨fun hh => Bool.noConfusion (show false = true from hh), ⟨fun hh => Bool.noConfusion (show false = true from hh), ⟨fun hh => Bool.noConfusion (show false = true from hh), ⟨fun _ => (yae hE3), trivial⟩⟩⟩⟩⟩⟩⟩⟩⟩⟩⟩⟩⟩, ?_⟩; obtain ⟨hx2, h⟩ := h; refine rp_n rfl rfl rfl rfl (n_app (c := c2) rfl rfl underlying219 underlying219 ym6 rfl rfl (by decide) hS 0 rfl (hS.yo 3 rfl) hx2 ?_); clear hS; intro A c w6 hS; refine zb (zp (za (.slice A (lout2 + 1) c)) (yb4 (yai (zr (zq (yae hE5) ?_))))); obtain ⟨hi, h⟩ := h; refine zq (zA hi) (zq (za (ii (k + 1))) (yaa ?_)); obtain ⟨mq, hlt, h⟩ := h; exact again2 mq _ _ _ ⟨_, _, _, _, _, h, rfl, hE1, rfl, hE4, rfl, (hS.sel [0, 1, 2] (by decide))⟩ hlt
    · replace h := h.2 hp2; refine zd hp2 (yaH rfl (yai (zr (zq (yae hE4) ?_)))); obtain ⟨hi2, h⟩ := h; refine zq (zA hi2) (zq (za (ii (i + 1))) (yaa ?_)); obtain ⟨mq, hlt, h⟩ := h; exact again mq _ _ _ ⟨_, _, _, _, _, h, rfl, hE1, hE3, rfl, (hS.sel [0, 1, 2] (by decide))⟩ hlt
  · replace h := h.2 hp; exact zd hp (yaH rfl (zs (zq (yae hE3) (zq (za (.slice Aout lout cout)) (yaa (yah rfl rfl ⟨_, _, _, _, rfl, (hS.sel [0] (by decide)), h⟩))))))
def yed (g : Int) (g2 : List E3) (R : Int → Prop) : Prop :=
ydu g g2 (fun r =>
R ((r.length : Nat) : Int))
theorem pok_r08_Size {O : Nat → Prop} {w : World} {g g2 Ag lg cg} {R : Int → Prop} (h : yed g g2 R) (hO : ∀ k, O k → k < w.heap.size) (hA0 : (FP.sl c3 Ag lg cg g2).P O w) :
    Calls Tryz.prog 175 #[(.agg #[(ii g), (.slice Ag lg cg)])] w fun e w' => ∃ r2, e = .returned (ii r2) ∧ Sep w no O w' (rl []) ∧ R r2 := by
  unfold yed at h; have hS : Sep w no O w (rl [Res.ro (FP.sl c3 Ag lg cg g2)]) := Sep.startl hO [(FP.sl c3 Ag lg cg g2)] ⟨hA0, trivial⟩; refine yan (l := [(.agg #[(ii g), (.slice Ag lg cg)])]) func175 rfl ntmps175 (Nat.le_of_ble_eq_true rfl) (zs (zn (yb6 (v := (.agg #[(ii g), (.slice Ag lg cg)])) rfl ?_))); intro g3 w2 hN; replace hS : Sep w no O w2 (stl _ 1 (Res.box 24 g3 [(ii g), (.slice Ag lg cg)])) := hS.new 1 rfl hN; clear hN; refine zb (zq (za (ii 0)) (yaa (zs (zq (yav (vs := [(ii g), (.slice Ag lg cg)]) rfl underlying24 rfl yas ⟨Row.cell (hS.bx 1 rfl) (i := 0) rfl, Row.cell (hS.bx 1 rfl) (i := 1) rfl, trivial⟩) (zn (yal rfl (am1 rfl) enter_213 ((pok_r08_Ends h (yaN _) (hS.rdr 0 rfl)).mono ?_))))))); rintro _ w3 ⟨r, Ar, lr, cr, rfl, hC, h⟩; replace hS := hS.call1 (hC.widen (yea (ybl (fP (fI .i64) (fI .i64)) _ _ _ _ _) ye0) hS.blt) 2 0 rfl; clear hC; refine ⟨_, rfl, ?_⟩; exact zb (zq (ybc (n := r.length) rfl underlying219 (ya2 (hS.rdo 2 rfl))) (zq (za (ii ((r.length : Nat) : Int))) (yaa (yah rfl rfl ⟨_, rfl, (hS.sel [] (by decide)), h⟩))))
def yc4 (g : Int) (g2 : List E3) (vertices : Int) (single : Int) (R : Bool → Prop) : Prop :=
((40 < ((g2.length : Nat) : Int) →
R false) ∧
(¬ (40 < ((g2.length : Nat) : Int)) →
ybO g g2 (fun r =>
((r = 0 →
((g ≤ vertices →
yed g g2 (fun r2 =>
R (decide (r2 ≤ single)))) ∧
(¬ (g ≤ vertices) →
R false))) ∧
(¬ (r = 0) →
R true)))))
theorem pok_r08_small {O : Nat → Prop} {w : World} {g g2 vertices single Ag lg cg} {R : Bool → Prop} (h : yc4 g g2 vertices single R) (hO : ∀ k, O k → k < w.heap.size) (hA0 : (FP.sl c3 Ag lg cg g2).P O w) :
    Calls Tryz.prog 117 #[(.agg #[(ii g), (.slice Ag lg cg)]), (ii vertices), (ii single)] w fun e w' => ∃ r3, e = .returned (.bool (r3)) ∧ Sep w no O w' (rl []) ∧ R r3 := by
  unfold yc4 at h; have hS : Sep w no O w (rl [Res.ro (FP.sl c3 Ag lg cg g2)]) := Sep.startl hO [(FP.sl c3 Ag lg cg g2)] ⟨hA0, trivial⟩; refine yan (l := [(.agg #[(ii g), (.slice Ag lg cg)]), (ii vertices), (ii single)]) func117 rfl ntmps117 (Nat.le_of_ble_eq_true rfl) (zs (zn (yb6 (v := (.agg #[(ii g), (.slice Ag lg cg)])) rfl ?_))); intro g3 w2 hN; replace hS : Sep w no O w2 (stl _ 1 (Res.box 24 g3 [(ii g), (.slice Ag lg cg)])) := hS.new 1 rfl hN; clear hN; refine zb (zq (za (.bool (false))) (yaa (yaf (zs (zq (yam rfl underlying24 rfl ydy) (zq (zl underlying22 (Row.cell (hS.bx 1 rfl) (i := 1) rfl)) (zq (ybc (n := g2.length) rfl underlying22 (ya2 (hS.rdr 0 rfl))) (zq zG (yaa ?_))))))))); by_cases hp : 40 < ((g2.length : Nat) : Int)
  · replace h := h.1 hp; exact zc hp (zs (zq (za (.bool (false))) (yaa (yah rfl rfl ⟨_, rfl, (hS.sel [] (by decide)), h⟩))))
  · replace h := h.2 hp; refine zd hp (yag (yaf (zs (zq (yav (vs := [(ii g), (.slice Ag lg cg)]) rfl underlying24 rfl yas ⟨Row.cell (hS.bx 1 rfl) (i := 0) rfl, Row.cell (hS.bx 1 rfl) (i := 1) rfl, trivial⟩) (zn (yal rfl (am1 rfl) enter_115 ((yfw h (yaN _) (hS.rdr 0 rfl)).mono ?_))))))); rintro _ w3 ⟨r, rfl, hC, h⟩; replace hS := hS.pur hC.pure; clear hC; refine ⟨_, rfl, ?_⟩; refine zb (zq zN (yaa ?_)); by_cases hp2 : r = 0
    · replace h := h.1 hp2; refine ze hp2 (yag (zs (zq (yam rfl underlying24 rfl yaj) (zq (zl underlying3 (Row.cell (hS.bx 1 rfl) (i := 0) rfl)) (zq (zm (ii vertices)) (zq (v_leq rfl rfl) (zq (zm (.bool (decide (g ≤ vertices)))) ?_))))))); by_cases hp3 : g ≤ vertices
      · replace h := h.1 hp3; refine rl_q (yad rfl (yac rfl (congrArg Value.bool (decide_eq_true hp3)))) rfl rfl (yav (vs := [(ii g), (.slice Ag lg cg)]) rfl underlying24 rfl yas ⟨Row.cell (hS.bx 1 rfl) (i := 0) rfl, Row.cell (hS.bx 1 rfl) (i := 1) rfl, trivial⟩) (rl_n (yad rfl (yac rfl (congrArg Value.bool (decide_eq_true hp3)))) rfl rfl rfl (yal rfl (am1 rfl) enter_175 ((pok_r08_Size h (yaN _) (hS.rdr 0 rfl)).mono ?_))); rintro _ w4 ⟨r2, rfl, hC, h⟩; replace hS := hS.pur hC.pure; clear hC; refine ⟨_, rfl, ?_⟩; exact zb (rl_q (yad rfl (yac rfl (congrArg Value.bool (decide_eq_true hp3)))) rfl rfl (zm (ii single)) (rl_q (yad rfl (yac rfl (congrArg Value.bool (decide_eq_true hp3)))) rfl rfl (v_leq rfl rfl) (zq (yao (v := (.bool (decide (r2 ≤ single)))) (congrArg Value.bool (decide_eq_true hp3)) rfl) (zq (za (.bool (decide (r2 ≤ single)))) (yaa (yah rfl rfl ⟨_, rfl, (hS.sel [] (by decide)), h⟩))))))
      · replace h := h.2 hp3; exact rl_p (yab rfl (yac rfl (congrArg Value.bool (decide_eq_false hp3))) rfl) rfl (rl_p (yab rfl (yac rfl (congrArg Value.bool (decide_eq_false hp3))) rfl) rfl (rl_p (yab rfl (yac rfl (congrArg Value.bool (decide_eq_false hp3))) rfl) rfl (rl_p (yab rfl (yac rfl (congrArg Value.bool (decide_eq_false hp3))) rfl) rfl (zq (yap (v := (.bool (false))) (congrArg Value.bool (decide_eq_false hp3)) rfl) (zq (za (.bool (false))) (yaa (yah rfl rfl ⟨_, rfl, (hS.sel [] (by decide)), h⟩)))))))
    · replace h := h.2 hp2; exact zf hp2 (zs (zq (za (.bool (true))) (yaa (yah rfl rfl ⟨_, rfl, (hS.sel [] (by decide)), h⟩))))
def ycq (g : Int) (g2 : List E3) (v : Int) (R : (List Bool) → Prop) : Prop :=
((0 ≤ g ∧ g ≤ 1000000) ∧
((0 ≤ v ∧ v < (((List.replicate g.toNat false).length : Nat) : Int)) ∧
(∃ I2 : Nat → Int → (List Bool) → Prop, (∃ m0, I2 m0 0 ((List.replicate g.toNat false).set v.toNat true)) ∧ ∀ m2 round out, I2 m2 round out → 
((round < g →
(∃ I3 : Nat → Int → (List Bool) → Prop, (∃ m0, I3 m0 0 out) ∧ ∀ m3 a out2, I3 m3 a out2 → 
((a < g →
(∃ I4 : Nat → Int → (List Bool) → Prop, (∃ m0, I4 m0 0 out2) ∧ ∀ m4 b out3, I4 m4 b out3 → 
((b < g →
((0 ≤ a ∧ a < ((out3.length : Nat) : Int)) ∧
((gb out3 a.toNat = true →
yb1 g g2 a b (fun r =>
((0 < r →
((0 ≤ b ∧ b < ((out3.length : Nat) : Int)) ∧
(In64 (b + 1) ∧
∃ m5, m5 < m4 ∧ I4 m5 (b + 1) (out3.set b.toNat true)))) ∧
(¬ (0 < r) →
(In64 (b + 1) ∧
∃ m6, m6 < m4 ∧ I4 m6 (b + 1) out3))))) ∧
(¬ (gb out3 a.toNat = true) →
(In64 (b + 1) ∧
∃ m7, m7 < m4 ∧ I4 m7 (b + 1) out3))))) ∧
(¬ (b < g) →
(In64 (a + 1) ∧
∃ m8, m8 < m3 ∧ I3 m8 (a + 1) out3))))) ∧
(¬ (a < g) →
(In64 (round + 1) ∧
∃ m9, m9 < m2 ∧ I2 m9 (round + 1) out2))))) ∧
(¬ (round < g) →
R out)))))
theorem ygG {O : Nat → Prop} {w : World} {g g2 v Ag lg cg} {R : (List Bool) → Prop} (h : ycq g g2 v R) (hO : ∀ k, O k → k < w.heap.size) (hA0 : (FP.sl c3 Ag lg cg g2).P O w) :
    Calls Tryz.prog 212 #[(.agg #[(ii g), (.slice Ag lg cg)]), (ii v)] w fun e w' => ∃ r2 Ar lr cr, e = .returned (.slice Ar lr cr) ∧ Sep w no O w' (rl [Res.own cB 4 Ar lr cr r2]) ∧ R r2 := by
  unfold ycq at h; have hS : Sep w no O w (rl [Res.ro (FP.sl c3 Ag lg cg g2)]) := Sep.startl hO [(FP.sl c3 Ag lg cg g2)] ⟨hA0, trivial⟩; refine yan (l := [(.agg #[(ii g), (.slice Ag lg cg)]), (ii v)]) func212 rfl ntmps212 (Nat.le_of_ble_eq_true rfl) (zs (zn (yb6 (v := (.agg #[(ii g), (.slice Ag lg cg)])) rfl ?_))); intro g3 w2 hN; replace hS : Sep w no O w2 (stl _ 1 (Res.box 24 g3 [(ii g), (.slice Ag lg cg)])) := hS.new 1 rfl hN; clear hN; refine zb (zq (za (.slice none 0 0)) (yaa (zs (zq (yam rfl underlying24 rfl yaj) (zq (zl underlying3 (Row.cell (hS.bx 1 rfl) (i := 0) rfl)) ?_))))); obtain ⟨hx, h⟩ := h; refine zn (yky rfl rfl underlying170 ycm (by decide) rfl hx ?_); intro g4 w3 hN; replace hS := hS.made 2 rfl cB (.bool (false)) false (fun _ _ => rfl) hN (by omega); clear hN; refine zb (zq (za (.slice (some ⟨g4, 0, none⟩) g.toNat g.toNat)) (yaa (zs (zq (zm (.slice (some ⟨g4, 0, none⟩) g.toNat g.toNat)) (zq (zm (ii v)) ?_))))); obtain ⟨hx2, h⟩ := h; refine zq (zi underlying170 ycm (ybh (hS.rdo 2 rfl) hx2)) (zo (zt (.bool (true)) ycm (hS.wr 2 rfl rfl hx2) ?_)); intro w4 e1; replace hS := hS.st 2 rfl rfl hx2 (x := true) rfl e1; clear e1; refine zb (yaa (yaf (zs (zq (za (ii 0)) (yaa (yak ?_)))))); obtain ⟨I2, ⟨m0, h0⟩, hr⟩ := h; refine yaO (fun m E ds w' => ∃ round out Aout lout cout, I2 m round out ∧ ds = [] ∧ E 2 = (Value.pointer (some (⟨g3, 0, none⟩ : Addr))) ∧ E 5 = (Value.slice Aout lout cout) ∧ E 6 = (ii round) ∧ Sep w no O w' (rl [Res.box 24 g3 [(ii g), (.slice Ag lg cg)], Res.ro (FP.sl c3 Ag lg cg g2), Res.own cB 4 Aout lout cout out])) m0 ⟨_, _, _, _, _, h0, rfl, rfl, rfl, rfl, (hS.sel [1, 0, 2] (by decide))⟩ ?_; clear h0 hS; rintro m2 E ds w5 ⟨round, out, Aout, lout, cout, h, rfl, hE2, hE5, hE6, hS⟩ again; replace h := hr m2 round out h; clear hr; refine yaf (zs (zq (yae hE6) (zq (yam hE2 underlying24 rfl yaj) (zq (zl underlying3 (Row.cell (hS.bx 0 rfl) (i := 0) rfl)) (zq zL (yaa ?_)))))); by_cases hp : round < g
  · replace h := h.1 hp; refine zc hp (yag (yaf (yak (zs (zq (za (ii 0)) (yaa (yak ?_))))))); obtain ⟨I3, ⟨m0, h0⟩, hr⟩ := h; refine yaO (fun m E ds w' => ∃ a out2 Aout2 lout2 cout2, I3 m a out2 ∧ ds = [] ∧ E 2 = (Value.pointer (some (⟨g3, 0, none⟩ : Addr))) ∧ E 5 = (Value.slice Aout2 lout2 cout2) ∧ E 6 = (ii round) ∧ E 7 = (ii a) ∧ Sep w no O w' (rl [Res.box 24 g3 [(ii g), (.slice Ag lg cg)], Res.ro (FP.sl c3 Ag lg cg g2), Res.own cB 4 Aout2 lout2 cout2 out2])) m0 ⟨_, _, _, _, _, h0, rfl, hE2, hE5, hE6, rfl, (hS.sel [0, 1, 2] (by decide))⟩ ?_; clear h0 hS; rintro m3 E ds w6 ⟨a, out2, Aout2, lout2, cout2, h, rfl, hE2, hE5, hE6, hE7, hS⟩ again2; replace h := hr m3 a out2 h; clear hr; refine yaf (zs (zq (yae hE7) (zq (yam hE2 underlying24 rfl yaj) (zq (zl underlying3 (Row.cell (hS.bx 0 rfl) (i := 0) rfl)) (zq zL (yaa ?_)))))); by_cases hp2 : a < g
    · replace h := h.1 hp2; refine zc hp2 (yag (yaf (yak (zs (zq (za (ii 0)) (yaa (yak ?_))))))); obtain ⟨I4, ⟨m0, h0⟩, hr⟩ := h; refine yaO (fun m E ds w' => ∃ b out3 Aout3 lout3 cout3, I4 m b out3 ∧ ds = [] ∧ E 2 = (Value.pointer (some (⟨g3, 0, none⟩ : Addr))) ∧ E 5 = (Value.slice Aout3 lout3 cout3) ∧ E 6 = (ii round) ∧ E 7 = (ii a) ∧ E 8 = (ii b) ∧ Sep w no O w' (rl [Res.box 24 g3 [(ii g), (.slice Ag lg cg)], Res.ro (FP.sl c3 Ag lg cg g2), Res.own cB 4 Aout3 lout3 cout3 out3])) m0 ⟨_, _, _, _, _, h0, rfl, hE2, hE5, hE6, hE7, rfl, (hS.sel [0, 1, 2] (by decide))⟩ ?_; clear h0 hS; rintro m4 E ds w7 ⟨b, out3, Aout3, lout3, cout3, h, rfl, hE2, hE5, hE6, hE7, hE8, hS⟩ again3; replace h := hr m4 b out3 h; clear hr; refine yaf (zs (zq (yae hE8) (zq (yam hE2 underlying24 rfl yaj) (zq (zl underlying3 (Row.cell (hS.bx 0 rfl) (i := 0) rfl)) (zq zL (yaa ?_)))))); by_cases hp3 : b < g
      · replace h := h.1 hp3; refine zc hp3 (yag (yaf (yak (zs (zq (yae hE5) (zq (yae hE7) ?_)))))); obtain ⟨hx3, h⟩ := h; refine zq (zi underlying170 ycm (ybh (hS.rdo 2 rfl) hx3)) (zq (yaA (v := (.bool (gb out3 a.toNat))) rfl underlying4 rfl (rd_1 (hS.rdo 2 rfl) hx3 (fun q => gb_some q) rfl)) ?_); refine zq (zm (.bool (gb out3 a.toNat))) ?_; by_cases hp4 : gb out3 a.toNat = true
        · replace h := h.1 hp4; refine rl_q (yad rfl (yac rfl (congrArg Value.bool hp4))) rfl rfl (yav (vs := [(ii g), (.slice Ag lg cg)]) hE2 underlying24 rfl yas ⟨Row.cell (hS.bx 0 rfl) (i := 0) rfl, Row.cell (hS.bx 0 rfl) (i := 1) rfl, trivial⟩) (rl_q (yad rfl (yac rfl (congrArg Value.bool hp4))) rfl rfl (yae hE7) (rl_q (yad rfl (yac rfl (congrArg Value.bool hp4))) rfl rfl (yae hE8) (rl_n (yad rfl (yac rfl (congrArg Value.bool hp4))) rfl rfl rfl (yal rfl (am3 rfl rfl rfl) enter_241 ((yg1 h (yaN _) (hS.rdr 1 rfl)).mono ?_))))); rintro _ w8 ⟨r, rfl, hC, h⟩; replace hS := hS.pur hC.pure; clear hC; refine ⟨_, rfl, ?_⟩; refine zb (rl_q (yad rfl (yac rfl (congrArg Value.bool hp4))) rfl rfl zG (zq (yao (v := (.bool (decide (0 < r)))) (congrArg Value.bool hp4) rfl) (yaa ?_))); by_cases hp5 : 0 < r
          · replace h := h.1 hp5; refine zc hp5 (zr (zq (yae hE5) (zq (yae hE8) ?_))); obtain ⟨hx4, h⟩ := h; refine zq (zi underlying170 ycm (ybh (hS.rdo 2 rfl) hx4)) (zo (zt (.bool (true)) ycm (hS.wr 2 rfl rfl hx4) ?_)); intro w9 e1; replace hS := hS.st 2 rfl rfl hx4 (x := true) rfl e1; clear e1; refine zb (yaa (yai (zr (zq (yae hE8) ?_)))); obtain ⟨hi, h⟩ := h; refine zq (zA hi) (zq (za (ii (b + 1))) (yaa ?_)); obtain ⟨mq, hlt, h⟩ := h; exact again3 mq _ _ _ ⟨_, _, _, _, _, h, rfl, hE2, hE5, hE6, hE7, rfl, (hS.sel [0, 1, 2] (by decide))⟩ hlt
          · replace h := h.2 hp5; refine zd hp5 (yag (yai (zr (zq (yae hE8) ?_)))); obtain ⟨hi2, h⟩ := h; refine zq (zA hi2) (zq (za (ii (b + 1))) (yaa ?_)); obtain ⟨mq, hlt, h⟩ := h; exact again3 mq _ _ _ ⟨_, _, _, _, _, h, rfl, hE2, hE5, hE6, hE7, rfl, (hS.sel [0, 1, 2] (by decide))⟩ hlt
        · replace h := h.2 hp4; refine rl_p (yab rfl (yac rfl (congrArg Value.bool (Bool.eq_false_iff.2 hp4))) rfl) rfl (rl_p (yab rfl (yac rfl (congrArg Value.bool (Bool.eq_false_iff.2 hp4))) rfl) rfl (rl_p (yab rfl (yac rfl (congrArg Value.bool (Bool.eq_false_iff.2 hp4))) rfl) rfl (rl_p (yab rfl (yac rfl (congrArg Value.bool (Bool.eq_false_iff.2 hp4))) rfl) rfl (rl_p (yab rfl (yac rfl (congrArg Value.bool (Bool.eq_false_iff.2 hp4))) rfl) rfl (zq (yap (v := (.bool (false))) (congrArg Value.bool (Bool.eq_false_iff.2 hp4)) rfl) (yaa (yax rfl (yag (yai (zr (zq (yae hE8) ?_))))))))))); obtain ⟨hi3, h⟩ := h; refine zq (zA hi3) (zq (za (ii (b + 1))) (yaa ?_)); obtain ⟨mq, hlt, h⟩ := h; exact again3 mq _ _ _ ⟨_, _, _, _, _, h, rfl, hE2, hE5, hE6, hE7, rfl, (hS.sel [0, 1, 2] (by decide))⟩ hlt
      · replace h := h.2 hp3; refine zd hp3 (yaH rfl (yai (zr (zq (yae hE7) ?_)))); obtain ⟨hi4, h⟩ := h; refine zq (zA hi4) (zq (za (ii (a + 1))) (yaa ?_)); obtain ⟨mq, hlt, h⟩ := h; exact again2 mq _ _ _ ⟨_, _, _, _, _, h, rfl, hE2, hE5, hE6, rfl, (hS.sel [0, 1, 2] (by decide))⟩ hlt
    · replace h := h.2 hp2; refine zd hp2 (yaH rfl (yai (zr (zq (yae hE6) ?_)))); obtain ⟨hi5, h⟩ := h; refine zq (zA hi5) (zq (za (ii (round + 1))) (yaa ?_)); obtain ⟨mq, hlt, h⟩ := h; exact again mq _ _ _ ⟨_, _, _, _, _, h, rfl, hE2, hE5, rfl, (hS.sel [0, 1, 2] (by decide))⟩ hlt
  · replace h := h.2 hp; exact zd hp (yaH rfl (zs (zq (yae hE5) (zq (za (.slice Aout lout cout)) (yaa (yah rfl rfl ⟨_, _, _, _, rfl, (hS.sel [2] (by decide)), h⟩))))))
def ydc (g : Int) (g2 : List E3) (R : Int → Prop) : Prop :=
((0 ≤ g ∧ g ≤ 1000000) ∧
(∃ I2 : Nat → Int → Int → (List Bool) → Prop, (∃ m0, I2 m0 0 0 (List.replicate g.toNat false)) ∧ ∀ m2 n v seen, I2 m2 n v seen → 
((v < g →
((0 ≤ v ∧ v < ((seen.length : Nat) : Int)) ∧
((gb seen v.toNat = true →
(In64 (v + 1) ∧
∃ m3, m3 < m2 ∧ I2 m3 n (v + 1) seen)) ∧
(¬ (gb seen v.toNat = true) →
(In64 (n + 1) ∧
ycq g g2 v (fun r =>
(∃ I3 : Nat → Int → (List Bool) → Prop, (∃ m0, I3 m0 0 seen) ∧ ∀ m4 u seen2, I3 m4 u seen2 → 
((u < g →
((0 ≤ u ∧ u < ((seen2.length : Nat) : Int)) ∧
((gb seen2 u.toNat = true →
(In64 (u + 1) ∧
∃ m5, m5 < m4 ∧ I3 m5 (u + 1) (seen2.set u.toNat true))) ∧
(¬ (gb seen2 u.toNat = true) →
((0 ≤ u ∧ u < ((r.length : Nat) : Int)) ∧
(In64 (u + 1) ∧
∃ m6, m6 < m4 ∧ I3 m6 (u + 1) (seen2.set u.toNat (gb r u.toNat)))))))) ∧
(¬ (u < g) →
(In64 (v + 1) ∧
∃ m7, m7 < m2 ∧ I2 m7 (n + 1) (v + 1) seen2)))))))))) ∧
(¬ (v < g) →
R n))))
theorem pok_r08_Parts {O : Nat → Prop} {w : World} {g g2 Ag lg cg} {R : Int → Prop} (h : ydc g g2 R) (hO : ∀ k, O k → k < w.heap.size) (hA0 : (FP.sl c3 Ag lg cg g2).P O w) :
    Calls Tryz.prog 174 #[(.agg #[(ii g), (.slice Ag lg cg)])] w fun e w' => ∃ r2, e = .returned (ii r2) ∧ Sep w no O w' (rl []) ∧ R r2 := by
  unfold ydc at h; have hS : Sep w no O w (rl [Res.ro (FP.sl c3 Ag lg cg g2)]) := Sep.startl hO [(FP.sl c3 Ag lg cg g2)] ⟨hA0, trivial⟩; refine yan (l := [(.agg #[(ii g), (.slice Ag lg cg)])]) func174 rfl ntmps174 (Nat.le_of_ble_eq_true rfl) (zs (zn (yb6 (v := (.agg #[(ii g), (.slice Ag lg cg)])) rfl ?_))); intro g3 w2 hN; replace hS : Sep w no O w2 (stl _ 1 (Res.box 24 g3 [(ii g), (.slice Ag lg cg)])) := hS.new 1 rfl hN; clear hN; refine zb (zq (za (ii 0)) (yaa (zs (zq (za (ii 0)) (yaa (zs (zq (yam rfl underlying24 rfl yaj) (zq (zl underlying3 (Row.cell (hS.bx 1 rfl) (i := 0) rfl)) ?_)))))))); obtain ⟨hx, h⟩ := h; refine zn (yky rfl rfl underlying170 ycm (by decide) rfl hx ?_); intro g4 w3 hN; replace hS := hS.made 2 rfl cB (.bool (false)) false (fun _ _ => rfl) hN (by omega); clear hN; refine zb (zq (za (.slice (some ⟨g4, 0, none⟩) g.toNat g.toNat)) (yaa (yaf (zs (zq (za (ii 0)) (yaa (yak ?_))))))); obtain ⟨I2, ⟨m0, h0⟩, hr⟩ := h; refine yaO (fun m E ds w' => ∃ n v seen Aseen lseen cseen, I2 m n v seen ∧ ds = [] ∧ E 1 = (Value.pointer (some (⟨g3, 0, none⟩ : Addr))) ∧ E 3 = (ii n) ∧ E 4 = (Value.slice Aseen lseen cseen) ∧ E 5 = (ii v) ∧ Sep w no O w' (rl [Res.box 24 g3 [(ii g), (.slice Ag lg cg)], Res.ro (FP.sl c3 Ag lg cg g2), Res.own cB 4 Aseen lseen cseen seen])) m0 ⟨_, _, _, _, _, _, h0, rfl, rfl, rfl, rfl, rfl, (hS.sel [1, 0, 2] (by decide))⟩ ?_; clear h0 hS; rintro m2 E ds w4 ⟨n, v, seen, Aseen, lseen, cseen, h, rfl, hE1, hE3, hE4, hE5, hS⟩ again; replace h := hr m2 n v seen h; clear hr; refine yaf (zs (zq (yae hE5) (zq (yam hE1 underlying24 rfl yaj) (zq (zl underlying3 (Row.cell (hS.bx 0 rfl) (i := 0) rfl)) (zq zL (yaa ?_)))))); by_cases hp : v < g
  · replace h := h.1 hp; refine zc hp (yag (yaf (yak (yaf (zs (zq (yae hE4) (zq (yae hE5) ?_))))))); obtain ⟨hx2, h⟩ := h; refine zq (zi underlying170 ycm (ybh (hS.rdo 2 rfl) hx2)) (zq (yaA (v := (.bool (gb seen v.toNat))) rfl underlying4 rfl (rd_1 (hS.rdo 2 rfl) hx2 (fun q => gb_some q) rfl)) ?_); refine yaa ?_; by_cases hp2 : gb seen v.toNat = true
    · replace h := h.1 hp2; refine yaq (congrArg Value.bool hp2) (yaH rfl (zr (zq (yae hE5) ?_))); obtain ⟨hi, h⟩ := h; refine zq (zA hi) (zq (za (ii (v + 1))) (yaa ?_)); obtain ⟨mq, hlt, h⟩ := h; exact again mq _ _ _ ⟨_, _, _, _, _, _, h, rfl, hE1, hE3, hE4, rfl, (hS.sel [0, 1, 2] (by decide))⟩ hlt
    · replace h := h.2 hp2; refine yax (congrArg Value.bool (Bool.eq_false_iff.2 hp2)) (yag (zs (zq (yae hE3) ?_))); obtain ⟨hi2, h⟩ := h; refine zq (zA hi2) (zq (za (ii (n + 1))) (yaa (zs (zq (yav (vs := [(ii g), (.slice Ag lg cg)]) hE1 underlying24 rfl yas ⟨Row.cell (hS.bx 0 rfl) (i := 0) rfl, Row.cell (hS.bx 0 rfl) (i := 1) rfl, trivial⟩) (zq (yae hE5) (zn (yal rfl (am2 rfl rfl) enter_212 ((ygG h (yaN _) (hS.rdr 1 rfl)).mono ?_)))))))); rintro _ w5 ⟨r, Ar, lr, cr, rfl, hC, h⟩; replace hS := hS.call1 (hC.widen (yea (ybl fB _ _ _ _ _) ye0) hS.blt) 3 0 rfl; clear hC; refine ⟨_, rfl, ?_⟩; refine zb (zq (za (.slice Ar lr cr)) (yaa (zs (zq (za (ii 0)) (yaa (yak ?_)))))); obtain ⟨I3, ⟨m0, h0⟩, hr⟩ := h; refine yaO (fun m E ds w' => ∃ u seen2 Aseen2 lseen2 cseen2, I3 m u seen2 ∧ ds = [] ∧ E 1 = (Value.pointer (some (⟨g3, 0, none⟩ : Addr))) ∧ E 3 = (ii (n + 1)) ∧ E 4 = (Value.slice Aseen2 lseen2 cseen2) ∧ E 5 = (ii v) ∧ E 6 = (Value.slice Ar lr cr) ∧ E 7 = (ii u) ∧ Sep w no O w' (rl [Res.box 24 g3 [(ii g), (.slice Ag lg cg)], Res.ro (FP.sl c3 Ag lg cg g2), Res.own cB 4 Aseen2 lseen2 cseen2 seen2, Res.own cB 4 Ar lr cr r])) m0 ⟨_, _, _, _, _, h0, rfl, hE1, rfl, hE4, hE5, rfl, rfl, (hS.sel [0, 1, 2, 3] (by decide))⟩ ?_; clear h0 hS; rintro m4 E ds w6 ⟨u, seen2, Aseen2, lseen2, cseen2, h, rfl, hE1, hE3, hE4, hE5, hE6, hE7, hS⟩ again2; replace h := hr m4 u seen2 h; clear hr; refine yaf (zs (zq (yae hE7) (zq (yam hE1 underlying24 rfl yaj) (zq (zl underlying3 (Row.cell (hS.bx 0 rfl) (i := 0) rfl)) (zq zL (yaa ?_)))))); by_cases hp3 : u < g
      · replace h := h.1 hp3; refine zc hp3 (yag (yaf (yak (zr (zq (yae hE4) (zq (yae hE7) (zq (yae hE4) (zq (yae hE7) ?_)))))))); obtain ⟨hx3, h⟩ := h; refine zq (zi underlying170 ycm (ybh (hS.rdo 2 rfl) hx3)) (zq (yaA (v := (.bool (gb seen2 u.toNat))) rfl underlying4 rfl (rd_1 (hS.rdo 2 rfl) hx3 (fun q => gb_some q) rfl)) ?_); refine zq (zm (.bool (gb seen2 u.toNat))) ?_; by_cases hp4 : gb seen2 u.toNat = true
        · replace h := h.1 hp4; refine rl_p (yab rfl (yac rfl (congrArg Value.bool hp4)) rfl) rfl (rl_p (yab rfl (yac rfl (congrArg Value.bool hp4)) rfl) rfl (rl_p (yab rfl (yac rfl (congrArg Value.bool hp4)) rfl) rfl (rl_p (yab rfl (yac rfl (congrArg Value.bool hp4)) rfl) rfl (zq (yao (v := (.bool (true))) (congrArg Value.bool hp4) rfl) (zq (zi underlying170 ycm (ybh (hS.rdo 2 rfl) hx3)) (zo (zt (.bool (true)) ycm (hS.wr 2 rfl rfl hx3) ?_))))))); intro w7 e1; replace hS := hS.st 2 rfl rfl hx3 (x := true) rfl e1; clear e1; refine zb (yaa (yai (zr (zq (yae hE7) ?_)))); obtain ⟨hi3, h⟩ := h; refine zq (zA hi3) (zq (za (ii (u + 1))) (yaa ?_)); obtain ⟨mq, hlt, h⟩ := h; exact again2 mq _ _ _ ⟨_, _, _, _, _, h, rfl, hE1, hE3, hE4, hE5, hE6, rfl, (hS.sel [0, 1, 2, 3] (by decide))⟩ hlt
        · replace h := h.2 hp4; refine rl_q (yad rfl (yac rfl (congrArg Value.bool (Bool.eq_false_iff.2 hp4)))) rfl rfl (yae hE6) (rl_q (yad rfl (yac rfl (congrArg Value.bool (Bool.eq_false_iff.2 hp4)))) rfl rfl (yae hE7) ?_); obtain ⟨hx4, h⟩ := h; refine rl_q (yad rfl (yac rfl (congrArg Value.bool (Bool.eq_false_iff.2 hp4)))) rfl rfl (zi underlying170 ycm (ybh (hS.rdo 3 rfl) hx4)) (rl_q (yad rfl (yac rfl (congrArg Value.bool (Bool.eq_false_iff.2 hp4)))) rfl rfl (yaA (v := (.bool (gb r u.toNat))) rfl underlying4 rfl (rd_1 (hS.rdo 3 rfl) hx4 (fun q => gb_some q) rfl)) ?_); refine zq (yap (v := (.bool (gb r u.toNat))) (congrArg Value.bool (Bool.eq_false_iff.2 hp4)) rfl) (zq (zi underlying170 ycm (ybh (hS.rdo 2 rfl) hx3)) (zo (zt (.bool (gb r u.toNat)) ycm (hS.wr 2 rfl rfl hx3) ?_))); intro w8 e1; replace hS := hS.st 2 rfl rfl hx3 (x := gb r u.toNat) rfl e1; clear e1; refine zb (yaa (yai (zr (zq (yae hE7) ?_)))); obtain ⟨hi4, h⟩ := h; refine zq (zA hi4) (zq (za (ii (u + 1))) (yaa ?_)); obtain ⟨mq, hlt, h⟩ := h; exact again2 mq _ _ _ ⟨_, _, _, _, _, h, rfl, hE1, hE3, hE4, hE5, hE6, rfl, (hS.sel [0, 1, 2, 3] (by decide))⟩ hlt
      · replace h := h.2 hp3; refine zd hp3 (yaH rfl (yai (zr (zq (yae hE5) ?_)))); obtain ⟨hi5, h⟩ := h; refine zq (zA hi5) (zq (za (ii (v + 1))) (yaa ?_)); obtain ⟨mq, hlt, h⟩ := h; exact again mq _ _ _ ⟨_, _, _, _, _, _, h, rfl, hE1, hE3, hE4, rfl, (hS.sel [0, 1, 2] (by decide))⟩ hlt
  · replace h := h.2 hp; exact zd hp (yaH rfl (zs (zq (yae hE3) (zq (za (ii n)) (yaa (yah rfl rfl ⟨_, rfl, (hS.sel [] (by decide)), h⟩))))))
def ycr (g : Int) (g2 : List E3) (R : Bool → Prop) : Prop :=
ydc g g2 (fun r =>
R (decide (r = 1)))
theorem yfR {O : Nat → Prop} {w : World} {g g2 Ag lg cg} {R : Bool → Prop} (h : ycr g g2 R) (hO : ∀ k, O k → k < w.heap.size) (hA0 : (FP.sl c3 Ag lg cg g2).P O w) :
    Calls Tryz.prog 116 #[(.agg #[(ii g), (.slice Ag lg cg)])] w fun e w' => ∃ r2, e = .returned (.bool (r2)) ∧ Sep w no O w' (rl []) ∧ R r2 := by
  unfold ycr at h; have hS : Sep w no O w (rl [Res.ro (FP.sl c3 Ag lg cg g2)]) := Sep.startl hO [(FP.sl c3 Ag lg cg g2)] ⟨hA0, trivial⟩; refine yan (l := [(.agg #[(ii g), (.slice Ag lg cg)])]) func116 rfl ntmps116 (Nat.le_of_ble_eq_true rfl) (zs (zn (yb6 (v := (.agg #[(ii g), (.slice Ag lg cg)])) rfl ?_))); intro g3 w2 hN; replace hS : Sep w no O w2 (stl _ 1 (Res.box 24 g3 [(ii g), (.slice Ag lg cg)])) := hS.new 1 rfl hN; clear hN; refine zb (zq (za (.bool (false))) (yaa (zs (zq (yav (vs := [(ii g), (.slice Ag lg cg)]) rfl underlying24 rfl yas ⟨Row.cell (hS.bx 1 rfl) (i := 0) rfl, Row.cell (hS.bx 1 rfl) (i := 1) rfl, trivial⟩) (zn (yal rfl (am1 rfl) enter_174 ((pok_r08_Parts h (yaN _) (hS.rdr 0 rfl)).mono ?_))))))); rintro _ w3 ⟨r, rfl, hC, h⟩; replace hS := hS.pur hC.pure; clear hC; refine ⟨_, rfl, ?_⟩; exact zb (zq zE (zq (za (.bool (decide (r = 1)))) (yaa (yah rfl rfl ⟨_, rfl, (hS.sel [] (by decide)), h⟩))))
end Go.Proofs.YtncilechkclmbaaGreat

/- What the references' pure forms come to: graphs and divisors. -/
namespace Go.Proofs.YtncilechkclmbaaGreat
open Go Go.Proofs.Tryz
set_option linter.unusedVariables false
set_option linter.unusedSimpArgs false
theorem p_r17_In {k : Int} {R : Bool → Prop} (h : R (inF k)) : yeO k R := by
  unfold yeO
  refine ⟨fun h1 => ?_, fun h1 => ?_⟩
  · have e : decide (k ≤ 1048576) = inF k := by unfold inF; simp [h1]
    rw [e]; exact h
  · have e : false = inF k := by unfold inF; simp [h1]
    rw [e]; exact h
theorem ydE {n v : Int} {es : List E3} {R : Bool → Prop} (h : R (decide (0 ≤ v ∧ v < n))) : ych n es v R := by
  unfold ych
  refine ⟨fun h1 => ?_, fun h1 => ?_⟩
  · have e : decide (v < n) = decide (0 ≤ v ∧ v < n) := by simp [h1]
    rw [e]; exact h
  · have e : false = decide (0 ≤ v ∧ v < n) := by simp [h1]
    rw [e]; exact h
theorem yft {d : List Int} {n : Int} {R : Int → Prop} (h : R (yaJ d n)) : ycb d n R := by
  unfold ycb
  have hout : ¬ (1 ≤ n ∧ n ≤ 12) → R 2 := fun q => by
    have : yaJ d n = 2 := by unfold yaJ yeM; rw [if_neg q, if_neg (by omega)]
    rwa [this] at h
  refine ⟨1 ≤ n ∧ n ≤ 12, fun hn => ?_, fun q => hout (by omega), fun q => ⟨fun q2 => hout (by omega), fun q2 => ⟨by omega, by omega⟩⟩⟩
  have hc : yaJ d n = if (d.length : Int) = n then (if d.all inF then 0 else 2) else 8 := by unfold yaJ; rw [if_pos (by unfold yeM; rw [if_pos hn])]
  rw [hc] at h
  refine ⟨fun hln => ?_, fun hln => by rwa [if_neg hln] at h⟩
  rw [if_pos hln] at h
  refine ⟨Cnt d.length (fun k => ∀ j, j < k → inF (gi d j) = true), Cnt.start (fun j hj => absurd hj (by omega)), ?_⟩
  rintro m _ ⟨k, rfl, rfl, hk, hinv⟩
  refine ⟨fun hlt => ⟨by omega, p_r17_In ⟨fun h1 => Cnt.next (by omega) (by omega) fun j hj => ?_, fun h1 => ?_⟩⟩, fun hge => ?_⟩
  · by_cases e : j = k
    · subst e; simpa using h1
    · exact hinv j (by omega)
  · rw [if_neg (fun hall => h1 ((ycA inF d).1 hall _ (by omega)))] at h; exact h
  · rw [if_pos ((ycA inF d).2 fun j hj => hinv j (by omega))] at h; exact h
def paidF (d : List Int) : Bool := (List.range d.length).all fun v => decide (0 ≤ gi d v)
theorem yiS {d : List Int} : paidF d = true ↔ ∀ v, v < d.length → 0 ≤ gi d v := by simp [paidF]
theorem p_r17_Paid {d : List Int} {R : Bool → Prop} (hl : d.length ≤ 1000000000) (h : R (paidF d)) : yih d R := by
  unfold yih
  refine ⟨Cnt d.length (fun k => ∀ j, j < k → 0 ≤ gi d j), Cnt.start (fun j hj => absurd hj (by omega)), ?_⟩
  rintro m _ ⟨k, rfl, rfl, hk, hinv⟩
  refine ⟨fun hlt => ⟨by omega, fun h1 => ?_, fun h1 => Cnt.next (by omega) (by omega) fun j hj => ?_⟩, fun hge => ?_⟩
  · have e : false = paidF d := by
      symm; rw [Bool.eq_false_iff]; intro q
      have := yiS.1 q k (by omega)
      simp only [Int.toNat_natCast] at h1; omega
    rw [e]; exact h
  · by_cases e : j = k
    · subst e; simp only [Int.toNat_natCast] at h1; omega
    · exact hinv j (by omega)
  · have e : true = paidF d := by symm; rw [yiS]; intro v hv; exact hinv v (by omega)
    rw [e]; exact h
theorem p_r08_edge {n : Int} {es : List E3} {k : Nat} {R : Int → Prop} (hk : k < es.length) (hl : es.length ≤ 1000000000) (h : R (yfq n (pre es k).1 (pre es k).2 (ge es k))) : ycy n es (k : Int) R := by
  unfold ycy
  simp only [Int.toNat_natCast]
  generalize hx : ge es k = x at h ⊢
  refine ⟨by omega, (0 ≤ x.1 ∧ x.1 < n) ∧ (0 ≤ x.2.1 ∧ x.2.1 < n) ∧ 1 ≤ x.2.2 ∧ x.2.2 ≤ 50, fun hJ => ?_, ?_⟩
  · have hed : ∀ a b, yfq n a b x = if x.1 ≤ x.2.1 ∧ yiU a b x.1 x.2.1 < 0 then 0 else 9 := fun a b => by unfold yfq; rw [if_pos hJ]
    rw [hed] at h
    refine ⟨fun q => by rw [if_neg (by omega)] at h; exact h, fun q => ⟨fun h0 => ?_, fun h0 => ?_⟩⟩
    · have e1 : ((k : Int) - 1).toNat = k - 1 := by omega
      rw [e1]
      have hp : pre es k = ((ge es (k - 1)).1, (ge es (k - 1)).2.1) := by unfold pre; rw [if_neg (by omega)]
      rw [hp] at h
      have hc := yfo (ge es (k - 1)).1 (ge es (k - 1)).2.1 x.1 x.2.1
      refine ⟨i64 (by omega), by omega, fun q1 => ?_, fun q1 => ⟨fun q2 => ⟨fun q3 => ?_, fun q3 => ?_⟩, fun q2 => ?_⟩⟩
      · rw [if_neg (fun h => by have := hc.1 h.2; omega)] at h; exact h
      · rw [if_neg (fun h => by have := hc.1 h.2; omega)] at h; exact h
      · rw [if_pos ⟨by omega, hc.2 (by omega)⟩] at h; exact h
      · rw [if_pos ⟨by omega, hc.2 (by omega)⟩] at h; exact h
    · have hp : pre es k = (-1, -1) := by unfold pre; rw [if_pos (by omega)]
      rw [hp, if_pos ⟨by omega, (yfo _ _ _ _).2 (.inl (by omega))⟩] at h
      exact h
  · have hed : ¬ ((0 ≤ x.1 ∧ x.1 < n) ∧ (0 ≤ x.2.1 ∧ x.2.1 < n) ∧ 1 ≤ x.2.2 ∧ x.2.2 ≤ 50) → R 2 := fun q => by unfold yfq at h; rwa [if_neg q] at h
    refine ydE ⟨fun h1 => ydE ⟨fun h2 => ⟨fun h3 => hed (by omega), fun h3 => ⟨fun h4 => hed (by omega), fun h4 => ?_⟩⟩, fun h2 => hed (by simp at h2; omega)⟩, fun h1 => hed (by simp at h1; omega)⟩
    simp only [decide_eq_true_eq] at h1 h2
    exact ⟨h1, h2, by omega, by omega⟩
theorem ygA {n : Int} {es : List E3} {R : Int → Prop} (hl : es.length ≤ 1000000000) (h : R (yat n es)) : ybO n es R := by
  unfold ybO
  have hout : ¬ (1 ≤ n ∧ n ≤ 12) → R 2 := fun q => by unfold yat at h; rwa [if_neg q] at h
  refine ⟨1 ≤ n ∧ n ≤ 12, fun hn => ?_, fun q => hout (by omega), fun q => ⟨fun q2 => hout (by omega), fun q2 => ⟨by omega, by omega⟩⟩⟩
  have hg : yat n es = gchk n (-1) (-1) es := by unfold yat; rw [if_pos hn]
  rw [hg] at h
  refine ⟨Cnt es.length (fun k => gchk n (-1) (-1) es = gchk n (pre es k).1 (pre es k).2 (es.drop k)), Cnt.start rfl, ?_⟩
  rintro m _ ⟨k, rfl, rfl, hk, hinv⟩
  refine ⟨fun hlt => p_r08_edge (by omega) hl ⟨fun h0 => Cnt.next (by omega) (by omega) ?_, fun h0 => ?_⟩, fun hge => ?_⟩
  · rw [yfk (by omega), ydU, if_pos h0] at hinv
    rw [hinv]; simp [pre]
  · rw [yfk (by omega), ydU, if_neg h0] at hinv
    rwa [hinv] at h
  · have hk2 : k = es.length := by omega
    rw [hinv, hk2, List.drop_length] at h
    exact h
theorem p_r08_Between' {n : Int} {es : List E3} {a b : Int} {R : Int → Prop} (hl : es.length ≤ 1000000000) (h : R (((es.find? fun x => decide (x.1 = mnF a b ∧ x.2.1 = mxF a b)).map (·.2.2)).getD 0)) : yb1 n es a b R := by
  unfold yb1
  refine ⟨Cnt es.length (fun k => es.find? (fun x => decide (x.1 = mnF a b ∧ x.2.1 = mxF a b)) = (es.drop k).find? (fun x => decide (x.1 = mnF a b ∧ x.2.1 = mxF a b))), Cnt.start rfl, ?_⟩
  rintro m _ ⟨k, rfl, rfl, hk, hinv⟩
  refine ⟨fun hlt => ?_, fun hge => ?_⟩
  · have hlt : k < es.length := by omega
    rw [yfk hlt, List.find?_cons] at hinv
    simp only [Int.toNat_natCast]
    refine ⟨by omega, fun h1 => ⟨fun h2 => ?_, fun h2 => Cnt.next hlt (by omega) ?_⟩, fun h1 => Cnt.next hlt (by omega) ?_⟩
    · rw [hinv] at h; simpa [h1, h2] using h
    · rw [hinv]; simp [h2]
    · rw [hinv]; simp [h1]
  · have hk2 : k = es.length := by omega
    rw [hinv, hk2, List.drop_length] at h
    exact h
theorem W_le50 {n : Int} {es : List E3} (hg : yat n es = 0) (u v : Nat) : 0 ≤ W es u v ∧ W es u v ≤ 50 := by
  by_cases e : u = v
  · subst e; rw [ymP]; omega
  · have hok := gchk_ok es _ _ (ygD hg)
    rw [← yiT u v e es (-1) (-1) (ygD hg)]
    cases hf : es.find? fun x => decide (x.1 = mnF (u : Int) v ∧ x.2.1 = mxF (u : Int) v) with
    | none => simp
    | some x => have := hok x (List.mem_of_find?_eq_some hf); simp; omega
theorem p_r08_Between {n : Int} {es : List E3} {u v : Nat} {R : Int → Prop} (hl : es.length ≤ 1000000000) (hg : yat n es = 0) (huv : u ≠ v) (h : R (W es u v)) : yb1 n es (u : Int) (v : Int) R :=
  p_r08_Between' hl (by rw [yiT u v huv es (-1) (-1) (ygD hg)]; exact h)
theorem ymS {n : Int} {es : List E3} (hg : yat n es = 0) (k v : Nat) : 0 ≤ sm k (fun u => W es v u) ∧ sm k (fun u => W es v u) ≤ k * 50 :=
  ⟨ya6 fun i _ => (W_le50 hg v i).1, (yhw (f := fun u => W es v u) (B := 50) (by omega) fun i _ => by have := W_le50 hg v i; omega).2⟩
def ygh (es : List E3) : List (Int × Int) := es.flatMap fun x => List.replicate x.2.2.toNat (x.1, x.2.1)
theorem endsF_take {es : List E3} {k : Nat} (hk : k < es.length) : ygh (es.take (k + 1)) = ygh (es.take k) ++ List.replicate (ge es k).2.2.toNat ((ge es k).1, (ge es k).2.1) := by
  unfold ygh
  rw [List.take_add_one, List.getElem?_eq_getElem hk, ydL hk, List.flatMap_append]
  simp
theorem yga (es : List E3) (hE : ∀ x ∈ es, 1 ≤ x.2.2 ∧ x.2.2 ≤ 50) : ((ygh es).length : Int) = (es.map (·.2.2)).sum ∧ (ygh es).length ≤ 50 * es.length := by
  induction es with
  | nil => simp [ygh]
  | cons x t ih =>
    have hx := hE x (by simp)
    have := ih fun y hy => hE y (by simp [hy])
    unfold ygh at this ⊢
    rw [List.flatMap_cons, List.length_append, List.length_replicate, List.map_cons, List.sum_cons, List.length_cons]
    omega
theorem p_r08_Ends {n : Int} {es : List E3} {R : List (Int × Int) → Prop} (hl : es.length ≤ 1000) (hE : ∀ x ∈ es, 1 ≤ x.2.2 ∧ x.2.2 ≤ 50) (h : R (ygh es)) : ydu n es R := by
  unfold ydu
  have hlen : ∀ k, (ygh (es.take k)).length ≤ 50 * k := fun k => by
    have := (yga (es.take k) fun x hx => hE x (List.mem_of_mem_take hx)).2
    rw [List.length_take] at this
    omega
  refine ⟨fun m out i => Cnt es.length (fun k => out = ygh (es.take k)) m i, Cnt.start (by simp [ygh]), ?_⟩
  rintro m out _ ⟨k, rfl, rfl, hk, rfl⟩
  refine ⟨fun hlt => ?_, fun hge => ?_⟩
  · have hlt : k < es.length := by omega
    have hmk := hE _ (yiJ hlt)
    have hl2 := hlen k
    simp only [Int.toNat_natCast]
    refine ⟨fun m2 out2 j => Cnt (ge es k).2.2.toNat (fun i => out2 = ygh (es.take k) ++ List.replicate i ((ge es k).1, (ge es k).2.1)) m2 j, Cnt.start (by simp), ?_⟩
    rintro m2 out2 _ ⟨j, rfl, rfl, hj, rfl⟩
    refine ⟨by omega, fun h1 => ⟨?_, Cnt.next (by omega) (by omega) ?_⟩, fun h1 => Cnt.next hlt (by omega) ?_⟩
    · rw [List.length_append, List.length_replicate]; omega
    · rw [List.append_assoc, List.replicate_succ']
    · have : j = (ge es k).2.2.toNat := by omega
      rw [endsF_take hlt, this]
  · have hk2 : k = es.length := by omega
    rw [hk2, List.take_length]; exact h
theorem p_r08_Size {n : Int} {es : List E3} {R : Int → Prop} (hl : es.length ≤ 1000) (hE : ∀ x ∈ es, 1 ≤ x.2.2 ∧ x.2.2 ≤ 50) (h : R ((es.map (·.2.2)).sum)) : yed n es R :=
  p_r08_Ends hl hE (by rw [(yga es hE).1]; exact h)
theorem p_r08_small {n a b : Int} {es : List E3} {R : Bool → Prop} (h : R (ynl n es a b)) : yc4 n es a b R := by
  unfold yc4
  unfold ynl at h
  refine ⟨fun h1 => ?_, fun h1 => ygA (by omega) ⟨fun h2 => ⟨fun h3 => ?_, fun h3 => ?_⟩, fun h2 => ?_⟩⟩
  · rwa [decide_eq_false (by omega)] at h
  · have hE := gchk_ok es _ _ (ygD h2)
    refine p_r08_Size (by omega) (fun x hx => (hE x hx).2.2.2.2) ?_
    have e : decide ((es.map (·.2.2)).sum ≤ b) = decide (es.length ≤ 40 ∧ (yat n es = 0 → n ≤ a ∧ (es.map (·.2.2)).sum ≤ b)) := by
      rw [decide_eq_decide]; constructor
      · intro q; exact ⟨by omega, fun _ => ⟨h3, q⟩⟩
      · intro q; exact (q.2 h2).2
    rw [e]; exact h
  · rwa [decide_eq_false (fun q => h3 (q.2 h2).1)] at h
  · rwa [decide_eq_true ⟨by omega, fun q => absurd q h2⟩] at h
end Go.Proofs.YtncilechkclmbaaGreat

/- Borrowing: a vertex in debt borrows from its neighbours, until there is no debt, or each vertex has borrowed. No program in sight. -/
namespace Go.Proofs.YtncilechkclmbaaGreat
open Go Go.Proofs.Tryz
set_option linter.unusedVariables false
set_option linter.unusedSectionVars false
set_option linter.unusedSimpArgs false
theorem Lp_few {n : Nat} {es : List E3} (hg : yat n es = 0) {s : Nat → Int} {B : Int} (hB : 0 ≤ B) (hs : ∀ j, j < n → -B ≤ s j ∧ s j ≤ B) {v : Nat} (hv : v < n) : -(1200 * B) ≤ Lp n es s v ∧ Lp n es s v ≤ 1200 * B := by
  obtain ⟨hE, hn1, hn12⟩ := yc9 hg
  have h := yhw (f := fun u => W es v u * (s v - s u)) (B := 100 * B) (by omega) (n := n) fun u hu => by
    have h1 := W_le50 hg v u
    have h2 := hs v hv
    have h3 := hs u hu
    have hx : -(2 * B) ≤ s v - s u ∧ s v - s u ≤ 2 * B := by omega
    show -(100 * B) ≤ W es v u * (s v - s u) ∧ W es v u * (s v - s u) ≤ 100 * B
    generalize W es v u = w at h1 ⊢
    generalize s v - s u = x at hx ⊢
    have h4 : w * x ≤ w * (2 * B) := Int.mul_le_mul_of_nonneg_left hx.2 h1.1
    have h5 : w * -(2 * B) ≤ w * x := Int.mul_le_mul_of_nonneg_left hx.1 h1.1
    have h6 : w * (2 * B) ≤ 50 * (2 * B) := Int.mul_le_mul_of_nonneg_right h1.2 (by omega)
    rw [Int.mul_neg] at h5
    omega
  have h2 : (n : Int) * (100 * B) ≤ 12 * (100 * B) := Int.mul_le_mul_of_nonneg_right (by omega) (by omega)
  unfold Lp
  omega
def Win (n : Nat) (es : List E3) (d : List Int) : Prop := ∃ s : Nat → Int, ∀ v, v < n → 0 ≤ gi d v - Lp n es s v
theorem Lp_unit {n : Nat} {es : List E3} {v : Nat} (hv : v < n) (i : Nat) : Lp n es (fun j => if j = v then 1 else 0) i = if i = v then deg n es v else - W es i v := by
  rw [Lp_ind]
  have h1 : sm n (fun u => (if u = v then (1 : Int) else 0) * W es u i) = W es v i := by
    rw [← yeI (W es v i) hv]
    refine yau fun u hu => ?_
    show (if u = v then (1 : Int) else 0) * W es u i = if u = v then W es v i else 0
    split
    · rename_i e; rw [e]; omega
    · omega
  rw [h1]
  by_cases e : i = v
  · subst e; rw [if_pos rfl, if_pos rfl, ymP]; omega
  · rw [if_neg e, if_neg e, yfK]; omega
structure Bor (n : Nat) (es : List E3) (d : List Int) (c : Nat → Int) (x : List Int) (b : List Bool) : Prop where
  xl : x.length = n
  bl : b.length = n
  val : ∀ v, v < n → gi x v = gi d v + Lp n es c v
  c0 : ∀ v, v < n → 0 ≤ c v
  bo : ∀ v, v < n → (gb b v = true ↔ 0 < c v)
  up : ∀ v, v < n → gi x v ≤ 1000
  least : ∀ t : Nat → Int, (∀ v, v < n → 0 ≤ t v) → (∀ v, v < n → 0 ≤ gi d v + Lp n es t v) → ∀ v, v < n → c v ≤ t v
section
variable {n : Nat} {es : List E3} {d : List Int}
theorem bor_start (hd : d.length = n) (hb : ∀ v, v < n → gi d v ≤ 1000) : Bor n es d (fun _ => 0) d (List.replicate n false) :=
  ⟨hd, by simp, fun v hv => by rw [yeW]; omega, fun v hv => Int.le_refl _, fun v hv => by rw [gb_rep]; simp, hb, fun t ht _ v hv => ht v hv⟩
theorem deg_le {m : Int} (hg : yat m es = 0) (hn : n ≤ 12) (v : Nat) : 0 ≤ deg n es v ∧ deg n es v ≤ 600 := by
  have := ymS hg n v
  unfold deg
  omega
theorem bor_step {m : Int} (hg : yat m es = 0) (hE : EOk n es) (hn : n ≤ 12) {c : Nat → Int} {x : List Int} {b : List Bool} (h : Bor n es d c x b) {v : Nat} (hv : v < n) (hneg : gi x v < 0) {y : List Int} (hyl : y.length = n)
    (hy : ∀ i, i < n → gi y i = if i = v then gi x v + deg n es v else gi x i - W es i v) : Bor n es d (fun j => c j + if j = v then 1 else 0) y (b.set v true) := by
  refine ⟨hyl, by rw [List.length_set, h.bl], fun i hi => ?_, fun i hi => ?_, fun i hi => ?_, fun i hi => ?_, fun t ht0 ht i hi => ?_⟩
  · rw [hy i hi, yfM c (fun j => if j = v then 1 else 0), Lp_unit hv, h.val i hi]
    by_cases e : i = v
    · subst e; rw [if_pos rfl, if_pos rfl, h.val i hi]; omega
    · rw [if_neg e, if_neg e]; omega
  · have := h.c0 i hi
    show 0 ≤ c i + if i = v then 1 else 0
    split <;> omega
  · rw [ydG (by rw [h.bl]; exact hv)]
    have := h.c0 i hi
    show _ ↔ 0 < c i + if i = v then 1 else 0
    by_cases e : i = v
    · rw [if_pos e, if_pos e]; simp; omega
    · rw [if_neg e, if_neg e, h.bo i hi]; simp
  · rw [hy i hi]
    have h1 := deg_le hg hn (n := n) v
    have h2 := h.up i hi
    have h3 := ybq hE i v
    split <;> omega
  · have h1 := h.least t ht0 ht i hi
    show c i + (if i = v then 1 else 0) ≤ t i
    by_cases e : i = v
    · subst e
      rw [if_pos rfl]
      apply Int.not_lt.1
      intro hlt
      have e2 : t i = c i := by omega
      have h3 : Lp n es t i ≤ Lp n es c i := by
        unfold Lp
        refine yer fun u hu => ?_
        show W es i u * (t i - t u) ≤ W es i u * (c i - c u)
        exact Int.mul_le_mul_of_nonneg_left (by have := h.least t ht0 ht u hu; omega) (ybq hE i u)
      have := ht i hi
      have := h.val i hi
      omega
    · rw [if_neg e]; omega
theorem bor_few (hE : EOk n es) (hC : ∀ q, q < n → Conn n es q) (hn : n ≤ 12) (hdb : ∀ v, v < n → -1000 ≤ gi d v) {c : Nat → Int} {x : List Int} {b : List Bool} (h : Bor n es d c x b) {w : Nat} (hw : w < n) (h0 : gb b w ≠ true) : ∀ v, v < n → c v ≤ 288000 := by
  have cw : c w = 0 := by
    have h1 := h.c0 w hw
    have h2 := (h.bo w hw)
    have : ¬ 0 < c w := fun h3 => h0 (h2.2 h3)
    omega
  intro v hv
  have h1 := climb hE (hC w hw) hw (f := c) (G := 24000) (by omega) (fun S hS => ?_) v hv
  · have h2 := low_le (f := c) hv
    have h3 : low n c (c v) * 24000 ≤ 12 * 24000 := Int.mul_le_mul_of_nonneg_right (by omega) (by omega)
    omega
  · have h4 : sm n (fun v => if S v = true then Lp n es c v else 0) ≤ sm n (fun _ => 2000) := yer fun u hu => by
      show (if S u = true then Lp n es c u else 0) ≤ 2000
      have h5 := h.val u hu
      have h6 := h.up u hu
      have h7 := hdb u hu
      split <;> omega
    rw [yeY] at h4
    omega
theorem bor_total (hn : n ≤ 12) {c : Nat → Int} (hc : ∀ v, v < n → c v ≤ 288000) : sm n c ≤ 3456000 := by
  have h := yer (f := c) (g := fun _ => 288000) (n := n) hc
  rw [yeY] at h
  omega
theorem bor_count {c : Nat → Int} {v : Nat} (hv : v < n) : sm n (fun j => c j + if j = v then 1 else 0) = sm n c + 1 := by
  rw [ycF c (fun j => if j = v then 1 else 0), yeI 1 hv]
theorem bor_win {c : Nat → Int} {x : List Int} {b : List Bool} (h : Bor n es d c x b) (hx : ∀ v, v < n → 0 ≤ gi x v) : Win n es d := by
  refine ⟨fun i => (-1) * c i, fun v hv => ?_⟩
  rw [ygS]
  have := hx v hv
  rw [h.val v hv] at this
  omega
theorem max_at (s : Nat → Int) : ∀ n : Nat, 1 ≤ n → ∃ w, w < n ∧ ∀ v, v < n → s v ≤ s w
  | 0, h => absurd h (by omega)
  | 1, _ => ⟨0, by omega, fun v hv => by rw [show v = 0 by omega]; omega⟩
  | n + 2, _ => by
    obtain ⟨w, hw, h⟩ := max_at s (n + 1) (by omega)
    by_cases c : s (n + 1) ≤ s w
    · refine ⟨w, by omega, fun v hv => ?_⟩
      by_cases e : v = n + 1
      · rw [e]; exact c
      · exact h v (by omega)
    · refine ⟨n + 1, by omega, fun v hv => ?_⟩
      by_cases e : v = n + 1
      · rw [e]; omega
      · have := h v (by omega); omega
theorem yll {q : Nat} {r : List Int} {s : Nat → Int} (hE : EOk n es) (hq : q < n) (hr : Red n es q r) (hl : ∀ v, v < n → gi r v = gi d v - Lp n es s v) : Win n es d ↔ 0 ≤ gi r q := by
  constructor
  · rintro ⟨t, ht⟩
    -- the end of t is the form behind a firing
    have h1 := yfP hE hq hr (d' := tab (fun v => gi d v - Lp n es t v) n) (fun v hv _ => by rw [yf5 _ hv]; exact ht v hv) (f := fun i => t i + (-1) * s i) fun v hv => by
      rw [yf5 _ hv, yfM t (fun i => (-1) * s i), ygS, hl v hv]; omega
    have h2 : 0 ≤ Lp n es (fun i => t i + (-1) * s i) q := by
      unfold Lp
      refine ya6 fun u hu => ?_
      exact Int.mul_nonneg (ybq hE q u) (by have := h1 u hu; show 0 ≤ t q + -1 * s q - (t u + -1 * s u); omega)
    have h3 := ht q hq
    rw [yfM t (fun i => (-1) * s i), ygS] at h2
    rw [hl q hq]; omega
  · intro h0
    refine ⟨s, fun v hv => ?_⟩
    rw [← hl v hv]
    by_cases e : v = q
    · rw [e]; exact h0
    · exact hr.pos v hv e
end
end Go.Proofs.YtncilechkclmbaaGreat

/- The genus: how many single edges there are, and how many chips a reduced divisor has. No program in sight. -/
namespace Go.Proofs.YtncilechkclmbaaGreat
open Go Go.Proofs.Tryz
set_option linter.unusedVariables false
set_option linter.unusedSimpArgs false
def yje (es : List E3) : Int := (es.map fun x => if x.1 = x.2.1 then 0 else x.2.2).sum
theorem yj5 {n : Nat} : ∀ {es : List E3}, EOk n es → tot n es = 2 * yje es
  | [], _ => by
    unfold tot yje
    rw [yau (g := fun _ => 0) (fun v _ => by rw [yau (g := fun _ => 0) (fun u _ => W_nil v u), ycf]), ycf]
    simp
  | x :: es, hE => by
    have ih := yj5 (es := es) (fun y hy => hE y (by simp [hy]))
    have hx := hE x (by simp)
    have h1 : tot n (x :: es) = sm n (fun v => sm n (fun u => w1 x v u)) + tot n es := by
      unfold tot
      rw [← ycF]
      refine yau fun v _ => ?_
      rw [← ycF]
      exact yau fun u _ => yfb x es v u
    have hp : yje (x :: es) = (if x.1 = x.2.1 then 0 else x.2.2) + yje es := by simp [yje]
    rw [h1, hp, ih]
    by_cases e : x.1 = x.2.1
    · rw [if_pos e]
      have h2 : sm n (fun v => sm n (fun u => w1 x v u)) = 0 := by
        rw [yau (g := fun _ => 0) (fun v _ => by rw [yau (g := fun _ => 0) (fun u _ => by unfold w1; rw [if_neg (fun h => h.1 e)]), ycf]), ycf]
      omega
    · rw [if_neg e]
      have h2 : sm n (fun v => sm n (fun u => w1 x v u)) = sm n (fun v => sm n (fun u => (if v = x.1.toNat then (if u = x.2.1.toNat then x.2.2 else 0) else 0) + (if v = x.2.1.toNat then (if u = x.1.toNat then x.2.2 else 0) else 0))) :=
        yau fun v _ => yau fun u _ => by
          show w1 x v u = ite _ _ _ + ite _ _ _
          unfold w1
          by_cases a1 : v = x.1.toNat
          · by_cases a2 : u = x.2.1.toNat
            · rw [if_pos ⟨e, .inl ⟨by omega, by omega⟩⟩, if_pos a1, if_pos a2, if_neg (by omega)]; omega
            · rw [if_neg (fun h => by omega), if_pos a1, if_neg a2, if_neg (by omega)]; omega
          · rw [if_neg a1]
            by_cases b1 : v = x.2.1.toNat
            · rw [if_pos b1]
              by_cases b2 : u = x.1.toNat
              · rw [if_pos ⟨e, .inr ⟨by omega, by omega⟩⟩, if_pos b2]; omega
              · rw [if_neg (fun h => by omega), if_neg b2]; omega
            · rw [if_neg (fun h => by omega), if_neg b1]; omega
      have h3 : ∀ a b : Nat, a < n → b < n → sm n (fun v => sm n (fun u => if v = a then (if u = b then x.2.2 else 0) else 0)) = x.2.2 := fun a b ha hb => by
        rw [yau (g := fun v => if v = a then x.2.2 else 0) (fun v _ => by
          by_cases e : v = a
          · simp only [if_pos e]; exact yeI _ hb
          · simp only [if_neg e]; exact ycf n)]
        exact yeI _ ha
      have h4 : sm n (fun v => sm n (fun u => (if v = x.1.toNat then (if u = x.2.1.toNat then x.2.2 else 0) else 0) + (if v = x.2.1.toNat then (if u = x.1.toNat then x.2.2 else 0) else 0))) = x.2.2 + x.2.2 := by
        have e : ∀ A B : Nat → Nat → Int, sm n (fun v => sm n (fun u => A v u + B v u)) = sm n (fun v => sm n (A v)) + sm n (fun v => sm n (B v)) := fun A B => by
          rw [← ycF]
          exact yau fun v _ => by rw [← ycF]
        refine (e (fun v u => if v = x.1.toNat then (if u = x.2.1.toNat then x.2.2 else 0) else 0) (fun v u => if v = x.2.1.toNat then (if u = x.1.toNat then x.2.2 else 0) else 0)).trans ?_
        rw [h3 x.1.toNat x.2.1.toNat (by omega) (by omega), h3 x.2.1.toNat x.1.toNat (by omega) (by omega)]
      omega
end Go.Proofs.YtncilechkclmbaaGreat

/- Pure forms of functions, made by program (pf.py), each with the proof that the code does so. -/
namespace Go.Proofs.YtncilechkclmbaaGreat
open Go Go.RowKit Go.Shelf Go.Proofs.Tryz
set_option linter.unusedVariables false
set_option maxRecDepth 100000
set_option maxHeartbeats 1000000
def yaM (s : List Int) (R : (List Int) → Prop) : Prop :=
(∀ nil : Bool, (nil = true → s = []) →
((nil = true →
R ([])) ∧
(¬ (nil = true) →
(0 + s.length ≤ 1000000000 ∧
R ([] ++ s)))))
theorem ycB {O : Nat → Prop} {w : World} {s As ls cs} {R : (List Int) → Prop} (h : yaM s R) (hO : ∀ k, O k → k < w.heap.size) (hA0 : (FP.sl cI As ls cs s).P O w) :
    Calls Tryz.prog 17 #[(.slice As ls cs)] w fun e w' => ∃ r Ar lr cr, e = .returned (.slice Ar lr cr) ∧ Sep w no O w' (rl [Res.own cI 3 Ar lr cr r]) ∧ R r := by
  unfold yaM at h; have hS : Sep w no O w (rl [Res.ro (FP.sl cI As ls cs s)]) := Sep.startl hO [(FP.sl cI As ls cs s)] ⟨hA0, trivial⟩; refine yan (l := [(.slice As ls cs)]) func17 rfl ntmps17 (Nat.le_of_ble_eq_true rfl) (zs (zq (za (.slice none 0 0)) (yaa (yaf (zs (zq (zm (.slice As ls cs)) ?_)))))); obtain ⟨nil, hn⟩ : ∃ b, Option.isNone As = b := ⟨_, rfl⟩; replace h := h nil (by rw [← hn]; exact rd_nil (hS.rdr 0 rfl)); refine zq (v_seqlx rfl rfl underlying26 hn) (yaa ?_); by_cases hp : nil = true
  · replace h := h.1 hp; refine yaq (congrArg Value.bool hp) (zs (zq (za (.slice none 0 0)) (yaa ?_))); replace hS := hS.nil 1 rfl cI 3; exact yah rfl rfl ⟨_, _, _, _, rfl, (hS.sel [1] (by decide)), h⟩
  · replace h := h.2 hp; refine yax (congrArg Value.bool (Bool.eq_false_iff.2 hp)) (yag (zs (zn (yaR (l := []) (cells := []) (bp0) underlying26 yaj rfl rfl ?_)))); intro g w2 hN; replace hS := hS.litf (n := 0) 1 rfl (fI .i64) hN ([] : List Int) rfl (by decide) rfl; clear hN; refine zb (zq (zm (.slice As ls cs)) ?_); obtain ⟨hx, h⟩ := h; refine zn (n_app (c := cI) rfl rfl underlying26 underlying26 yaj rfl rfl (by decide) hS 1 rfl (hS.yr 0 rfl) hx ?_); clear hS; intro A c w3 hS; exact zb (zq (za (.slice A (0 + ls) c)) (yaa (yah rfl rfl ⟨_, _, _, _, rfl, (hS.sel [1] (by decide)), h⟩)))
end Go.Proofs.YtncilechkclmbaaGreat

/- Pure forms of functions, made by program (pf.py), each with the proof that the code does so. -/
namespace Go.Proofs.YtncilechkclmbaaGreat
open Go Go.RowKit Go.Shelf Go.Proofs.Tryz
set_option linter.unusedVariables false
set_option maxRecDepth 100000
set_option maxHeartbeats 1000000
end Go.Proofs.YtncilechkclmbaaGreat

/- Pure forms of functions, made by program (pf.py), each with the proof that the code does so. -/
namespace Go.Proofs.YtncilechkclmbaaGreat
open Go Go.RowKit Go.Shelf Go.Proofs.Tryz
set_option linter.unusedVariables false
set_option maxRecDepth 100000
set_option maxHeartbeats 1000000
def yhH (s : List Int) (Ff : Int → (Bool → Prop) → Prop) (R : Int → Prop) : Prop :=
(∃ I2 : Nat → Int → Prop, (∃ m0, I2 m0 0) ∧ ∀ m2 v, I2 m2 v → 
((v < ((s.length : Nat) : Int) →
((0 ≤ v ∧ v < ((s.length : Nat) : Int)) ∧
Ff (gi s v.toNat) (fun (r : Bool) =>
((r = true →
R v) ∧
(¬ (r = true) →
(In64 (v + 1) ∧
∃ m3, m3 < m2 ∧ I2 m3 (v + 1))))))) ∧
(¬ (v < ((s.length : Nat) : Int)) →
R (-1))))
theorem yif {O : Nat → Prop} {w : World} {s : List Int} {Ff : Int → (Bool → Prop) → Prop} {As : Option Addr} {ls : Nat} {cs : Nat} {f : Value} {R : Int → Prop} (h : yhH s Ff R) (hO : ∀ k, O k → k < w.heap.size) (hA0 : (FP.sl cI As ls cs s).P O w) (hA1 : (FP.st fun w' => ∃ (fid : Nat) (us : Array Value), f = Value.func (.func fid) #[] us ∧ Enters Tryz.prog fid ∧ ∀ (x0 : Int) (R : Bool → Prop), Ff x0 R → Calls Tryz.prog fid (#[(Value.int .i64 x0)] ++ us) w' fun e w'' => ∃ r0 : Bool, e = .returned (Value.bool (r0)) ∧ Sep w' no no w'' (rl []) ∧ R r0).P O w) :
    Calls Tryz.prog 202 #[(.slice As ls cs), f] w fun e w' => ∃ r2, e = .returned (ii r2) ∧ Sep w no O w' (rl []) ∧ R r2 := by
  unfold yhH at h; have hS : Sep w no O w (rl [Res.ro (FP.sl cI As ls cs s), Res.ro (FP.st fun w' => ∃ (fid : Nat) (us : Array Value), f = Value.func (.func fid) #[] us ∧ Enters Tryz.prog fid ∧ ∀ (x0 : Int) (R : Bool → Prop), Ff x0 R → Calls Tryz.prog fid (#[(Value.int .i64 x0)] ++ us) w' fun e w'' => ∃ r0 : Bool, e = .returned (Value.bool (r0)) ∧ Sep w' no no w'' (rl []) ∧ R r0)]) := Sep.startl hO [(FP.sl cI As ls cs s), (FP.st fun w' => ∃ (fid : Nat) (us : Array Value), f = Value.func (.func fid) #[] us ∧ Enters Tryz.prog fid ∧ ∀ (x0 : Int) (R : Bool → Prop), Ff x0 R → Calls Tryz.prog fid (#[(Value.int .i64 x0)] ++ us) w' fun e w'' => ∃ r0 : Bool, e = .returned (Value.bool (r0)) ∧ Sep w' no no w'' (rl []) ∧ R r0)] ⟨hA0, hA1, trivial⟩; refine yan (l := [(Value.slice As ls cs), f]) func202 rfl ntmps202 (Nat.le_of_ble_eq_true rfl) ?_; refine yaf ?_; refine ya5 yaQ ?_; refine rl_q rfl rfl rfl (ydi (v := (.int .i64 0)) rfl) ?_; refine yaa ?_; refine yaf ?_; refine yaf ?_; refine ya5 yaQ ?_; refine rl_q rfl rfl rfl (yae (v := (.slice As ls cs)) rfl) ?_; refine rl_q rfl rfl rfl (ybc (n := s.length) rfl underlying26 (ya2 (hS.rdr 0 rfl))) ?_; refine rl_q rfl rfl rfl (yae (v := (.int .i64 0)) rfl) ?_; refine yaa ?_; refine yak ?_; obtain ⟨I2, ⟨m0, h0⟩, hr⟩ := h; refine yaO (fun m E ds w' => ∃ v : Int, I2 m v ∧ ds = [] ∧ E 0 = (Value.slice As ls cs) ∧ E 1 = f ∧ E 7 = (Value.int .i64 ((s.length : Nat) : Int)) ∧ E 8 = (Value.int .i64 v) ∧ Sep w no O w' (rl [Res.ro (FP.sl cI As ls cs s), Res.ro (FP.st fun w' => ∃ (fid : Nat) (us : Array Value), f = Value.func (.func fid) #[] us ∧ Enters Tryz.prog fid ∧ ∀ (x0 : Int) (R : Bool → Prop), Ff x0 R → Calls Tryz.prog fid (#[(Value.int .i64 x0)] ++ us) w' fun e w'' => ∃ r0 : Bool, e = .returned (Value.bool (r0)) ∧ Sep w' no no w'' (rl []) ∧ R r0)])) m0 ⟨_, h0, rfl, rfl, rfl, rfl, rfl, (hS.sel [0, 1] (by decide))⟩ ?_; clear h0 hS; rintro m2 E ds w2 ⟨v, h, rfl, hE0, hE1, hE7, hE8, hS⟩ again; replace h := hr m2 v h; clear hr; refine yaf ?_; refine ya5 yaQ ?_; refine rl_q rfl rfl rfl (yd4 hE8 hE7) ?_; refine yaa ?_; refine yaf ?_; by_cases hp : v < ((s.length : Nat) : Int)
  · replace h := h.1 hp; refine zc hp (yag (yaf (yak (zs (zq (yae hE8) (zq (za (ii v)) (yaa (zs (zq (yae hE1) (zq (yae hE0) (zq (zm (ii v)) ?_))))))))))); obtain ⟨hx, h⟩ := h; refine zq (zi underlying26 yaj (ybh (hS.rdr 0 rfl) hx)) (zq (yaA (v := (ii (gi s v.toNat))) rfl underlying3 rfl (rd_1 (hS.rdr 0 rfl) hx (fun q => ybs q) rfl)) ?_); obtain ⟨fid, us, hf, he, hcl⟩ := hS.ro 1 rfl _ (Keeps.refl _ _); replace h := hcl _ _ h; clear hcl; refine zn (yeH (hf) (am1 rfl) he (h.mono ?_)); clear hf he; rintro _ w3 ⟨r, rfl, hC, h⟩; replace hS := hS.pur hC.pure; clear hC; refine ⟨_, rfl, ?_⟩; refine zb (yaa ?_); by_cases hp2 : r = true
    · replace h := h.1 hp2; exact yaq (congrArg Value.bool hp2) (zs (zq (zm (ii v)) (zq (za (ii v)) (yaa (yah rfl rfl ⟨_, rfl, (hS.sel [] (by decide)), h⟩)))))
    · replace h := h.2 hp2; refine yax (congrArg Value.bool (Bool.eq_false_iff.2 hp2)) (yag (yai (zr ?_))); obtain ⟨hi, h⟩ := h; refine zq (ycv hE8 rfl hi) (zq (zm (ii (v + 1))) (yaa ?_)); obtain ⟨mq, hlt, h⟩ := h; exact again mq _ _ _ ⟨_, h, rfl, hE0, hE1, hE7, rfl, (hS.sel [0, 1] (by decide))⟩ hlt
  · replace h := h.2 hp; exact zd hp (yaH rfl (zs (zq (za (ii (-1))) (yaa (yah rfl rfl ⟨_, rfl, (hS.sel [] (by decide)), h⟩)))))
def yhD (s : List Int) (Ff : Int → (Bool → Prop) → Prop) (R : Bool → Prop) : Prop :=
yhH s Ff (fun r =>
R (decide (0 ≤ r)))
theorem yh8 {O : Nat → Prop} {w : World} {s : List Int} {Ff : Int → (Bool → Prop) → Prop} {As : Option Addr} {ls : Nat} {cs : Nat} {f : Value} {R : Bool → Prop} (h : yhD s Ff R) (hO : ∀ k, O k → k < w.heap.size) (hA0 : (FP.sl cI As ls cs s).P O w) (hA1 : (FP.st fun w' => ∃ (fid : Nat) (us : Array Value), f = Value.func (.func fid) #[] us ∧ Enters Tryz.prog fid ∧ ∀ (x0 : Int) (R : Bool → Prop), Ff x0 R → Calls Tryz.prog fid (#[(Value.int .i64 x0)] ++ us) w' fun e w'' => ∃ r0 : Bool, e = .returned (Value.bool (r0)) ∧ Sep w' no no w'' (rl []) ∧ R r0).P O w) :
    Calls Tryz.prog 151 #[(.slice As ls cs), f] w fun e w' => ∃ r2, e = .returned (.bool (r2)) ∧ Sep w no O w' (rl []) ∧ R r2 := by
  unfold yhD at h; have hS : Sep w no O w (rl [Res.ro (FP.sl cI As ls cs s), Res.ro (FP.st fun w' => ∃ (fid : Nat) (us : Array Value), f = Value.func (.func fid) #[] us ∧ Enters Tryz.prog fid ∧ ∀ (x0 : Int) (R : Bool → Prop), Ff x0 R → Calls Tryz.prog fid (#[(Value.int .i64 x0)] ++ us) w' fun e w'' => ∃ r0 : Bool, e = .returned (Value.bool (r0)) ∧ Sep w' no no w'' (rl []) ∧ R r0)]) := Sep.startl hO [(FP.sl cI As ls cs s), (FP.st fun w' => ∃ (fid : Nat) (us : Array Value), f = Value.func (.func fid) #[] us ∧ Enters Tryz.prog fid ∧ ∀ (x0 : Int) (R : Bool → Prop), Ff x0 R → Calls Tryz.prog fid (#[(Value.int .i64 x0)] ++ us) w' fun e w'' => ∃ r0 : Bool, e = .returned (Value.bool (r0)) ∧ Sep w' no no w'' (rl []) ∧ R r0)] ⟨hA0, hA1, trivial⟩; refine yan (l := [(Value.slice As ls cs), f]) func151 rfl ntmps151 (Nat.le_of_ble_eq_true rfl) ?_; refine yaf ?_; refine ya5 yaQ ?_; refine rl_q rfl rfl rfl (ydi (v := (.bool (false))) rfl) ?_; refine yaa ?_; refine yaf ?_; refine ya5 yaQ ?_; refine rl_q rfl rfl rfl (yae (v := (.slice As ls cs)) rfl) ?_; refine rl_q rfl rfl rfl (yae (v := f) rfl) ?_; refine rl_n rfl rfl rfl rfl (yal rfl (am2 rfl rfl) enter_202 ((yif h (yaN _) (hS.rdr 0 rfl) (FP.sub _ (hS.ro 1 rfl) (fun _ _ h => h.elim) : FP.P _ no _)).mono ?_)); rintro _ w2 ⟨r, rfl, hC, h⟩; replace hS := hS.pur hC.pure; clear hC; refine ⟨_, rfl, ?_⟩; refine ⟨Stb.none _, ?_⟩; refine rl_q rfl rfl rfl (yiO rfl rfl) ?_; refine rl_q rfl rfl rfl (ydi (v := (.bool (decide (0 ≤ r)))) rfl) ?_; refine yaa ?_; exact yah rfl rfl ⟨_, rfl, (hS.sel [] (by decide)), h⟩
def yhZ (x : Int) (R : Bool → Prop) : Prop :=
R (!(decide (x = x)))
theorem yio {O : Nat → Prop} {w : World} {x} {R : Bool → Prop} (h : yhZ x R) (hO : ∀ k, O k → k < w.heap.size) :
    Calls Tryz.prog 156 #[(ii x)] w fun e w' => ∃ r, e = .returned (.bool (r)) ∧ Sep w no O w' (rl []) ∧ R r := by
  unfold yhZ at h; have hS : Sep w no O w (rl []) := Sep.start w hO; exact yan (l := [(ii x)]) func156 rfl ntmps156 (Nat.le_of_ble_eq_true rfl) (zs (zq (za (.bool (false))) (yaa (zs (zq (zm (ii x)) (zq (zm (ii x)) (zq zN (zq (za (.bool (!(decide (x = x))))) (yaa (yah rfl rfl ⟨_, rfl, (hS.sel [] (by decide)), h⟩))))))))))
def ybb (x : List Int) (R : Int → Prop) : Prop :=
(∃ J2 : Prop, (J2 → ((0 ≤ (0 : Int) ∧ (0 : Int) < ((x.length : Nat) : Int)) ∧
(∃ I2 : Nat → Int → Int → Prop, (∃ m0, I2 m0 (gi x (0 : Int).toNat) 1) ∧ ∀ m2 m3 i, I2 m2 m3 i → 
((i < ((x.length : Nat) : Int) →
((0 ≤ i ∧ i < ((x.length : Nat) : Int)) ∧
(In64 (i + 1) ∧
∃ m4, m4 < m2 ∧ I2 m4 (mnF m3 (gi x i.toNat)) (i + 1)))) ∧
(¬ (i < ((x.length : Nat) : Int)) →
R m3))))) ∧
((((x.length : Nat) : Int) < 1 →
False) ∧
(¬ (((x.length : Nat) : Int) < 1) →
J2)))
theorem yen {O : Nat → Prop} {w : World} {x Ax lx cx} {R : Int → Prop} (h : ybb x R) (hO : ∀ k, O k → k < w.heap.size) (hA0 : (FP.sl cI Ax lx cx x).P O w) :
    Calls Tryz.prog 141 #[(.slice Ax lx cx)] w fun e w' => ∃ r, e = .returned (ii r) ∧ Sep w no O w' (rl []) ∧ R r := by
  unfold ybb at h; have hS : Sep w no O w (rl [Res.ro (FP.sl cI Ax lx cx x)]) := Sep.startl hO [(FP.sl cI Ax lx cx x)] ⟨hA0, trivial⟩; refine yan (l := [(.slice Ax lx cx)]) func141 rfl ntmps141 (Nat.le_of_ble_eq_true rfl) (zs (zq (za (ii 0)) (yaa (yaf (zs (zq (zm (.slice Ax lx cx)) (zq (ybc (n := x.length) rfl underlying26 (ya2 (hS.rdr 0 rfl))) (zq zL (yaa ?_))))))))); obtain ⟨J2, hJ, h⟩ := h; refine yiR (fun E ds w' => J2 ∧ ds = [] ∧ E 0 = (Value.slice Ax lx cx) ∧ Sep w no O w' (rl [Res.ro (FP.sl cI Ax lx cx x)])) ?_ ?_
  · clear h hS; rintro E ds w2 ⟨h, rfl, hE0, hS⟩; replace h := hJ h; refine zs (zq (yae hE0) ?_); obtain ⟨hx, h⟩ := h; refine zq (zi underlying26 yaj (ybh (hS.rdr 0 rfl) hx)) (zq (yaA (v := (ii (gi x (0 : Int).toNat))) rfl underlying3 rfl (rd_1 (hS.rdr 0 rfl) hx (fun q => ybs q) rfl)) ?_); refine zq (za (ii (gi x (0 : Int).toNat))) (yaa (yaf (zs (zq (za (ii 1)) (yaa (yak ?_)))))); obtain ⟨I2, ⟨m0, h0⟩, hr⟩ := h; refine yaO (fun m E ds w' => ∃ m3 i, I2 m m3 i ∧ ds = [] ∧ E 0 = (Value.slice Ax lx cx) ∧ E 3 = (ii m3) ∧ E 4 = (ii i) ∧ Sep w no O w' (rl [Res.ro (FP.sl cI Ax lx cx x)])) m0 ⟨_, _, h0, rfl, hE0, rfl, rfl, (hS.sel [0] (by decide))⟩ ?_; clear h0 hS; rintro m2 E ds w3 ⟨m3, i, h, rfl, hE0, hE3, hE4, hS⟩ again; replace h := hr m2 m3 i h; clear hr; refine yaf (zs (zq (yae hE4) (zq (yae hE0) (zq (ybc (n := x.length) rfl underlying26 (ya2 (hS.rdr 0 rfl))) (zq zL (yaa ?_)))))); by_cases hp : i < ((x.length : Nat) : Int)
    · replace h := h.1 hp; refine zc hp (yag (yaf (yak (zr (zq (yae hE3) (zq (yae hE0) (zq (yae hE4) ?_))))))); obtain ⟨hx2, h⟩ := h; refine zq (zi underlying26 yaj (ybh (hS.rdr 0 rfl) hx2)) (zq (yaA (v := (ii (gi x i.toNat))) rfl underlying3 rfl (rd_1 (hS.rdr 0 rfl) hx2 (fun q => ybs q) rfl)) ?_); refine zq (yne rfl rfl) (zq (za (ii (mnF m3 (gi x i.toNat)))) (yaa (yai (zr (zq (yae hE4) ?_))))); obtain ⟨hi, h⟩ := h; refine zq (zA hi) (zq (za (ii (i + 1))) (yaa ?_)); obtain ⟨mq, hlt, h⟩ := h; exact again mq _ _ _ ⟨_, _, h, rfl, hE0, rfl, rfl, (hS.sel [0] (by decide))⟩ hlt
    · replace h := h.2 hp; exact zd hp (yaH rfl (zs (zq (yae hE3) (zq (za (ii m3)) (yaa (yah rfl rfl ⟨_, rfl, (hS.sel [] (by decide)), h⟩))))))
  clear hJ; intro j; by_cases hp2 : ((x.length : Nat) : Int) < 1
  · replace h := h.1 hp2; exact zc hp2 (zr h.elim)
  · replace h := h.2 hp2; exact zd hp2 (yag (j _ _ _ ⟨h, rfl, rfl, (hS.sel [0] (by decide))⟩))
end Go.Proofs.YtncilechkclmbaaGreat

/- Pure forms of functions, made by program (pf.py), each with the proof that the code does so. -/
namespace Go.Proofs.YtncilechkclmbaaGreat
open Go Go.RowKit Go.Shelf Go.Proofs.Tryz
set_option linter.unusedVariables false
set_option maxRecDepth 100000
set_option maxHeartbeats 1000000
def yb9 (k : Int) (R : Bool → Prop) : Prop :=
(((-1048576) ≤ k →
R (decide (k ≤ 1048576))) ∧
(¬ ((-1048576) ≤ k) →
R false))
theorem ygi {O : Nat → Prop} {w : World} {k} {R : Bool → Prop} (h : yb9 k R) (hO : ∀ k, O k → k < w.heap.size) :
    Calls Tryz.prog 146 #[(ii k)] w fun e w' => ∃ r, e = .returned (.bool (r)) ∧ Sep w no O w' (rl []) ∧ R r := by
  unfold yb9 at h; have hS : Sep w no O w (rl []) := Sep.start w hO; refine yan (l := [(ii k)]) func146 rfl ntmps146 (Nat.le_of_ble_eq_true rfl) (zs (zq (za (.bool (false))) (yaa (zs (zq (zm (ii k)) (zq (yiO rfl rfl) (zq (zm (.bool (decide ((-1048576) ≤ k)))) ?_))))))); by_cases hp : (-1048576) ≤ k
  · replace h := h.1 hp; exact rl_q (yad rfl (yac rfl (congrArg Value.bool (decide_eq_true hp)))) rfl rfl (zm (ii k)) (rl_q (yad rfl (yac rfl (congrArg Value.bool (decide_eq_true hp)))) rfl rfl (v_leq rfl rfl) (zq (yao (v := (.bool (decide (k ≤ 1048576)))) (congrArg Value.bool (decide_eq_true hp)) rfl) (zq (za (.bool (decide (k ≤ 1048576)))) (yaa (yah rfl rfl ⟨_, rfl, (hS.sel [] (by decide)), h⟩)))))
  · replace h := h.2 hp; exact rl_p (yab rfl (yac rfl (congrArg Value.bool (decide_eq_false hp))) rfl) rfl (rl_p (yab rfl (yac rfl (congrArg Value.bool (decide_eq_false hp))) rfl) rfl (zq (yap (v := (.bool (false))) (congrArg Value.bool (decide_eq_false hp)) rfl) (zq (za (.bool (false))) (yaa (yah rfl rfl ⟨_, rfl, (hS.sel [] (by decide)), h⟩)))))
def yci (n : Int) (R : Int → Prop) : Prop :=
((n < 1 →
R 2) ∧
(¬ (n < 1) →
((12 < n →
R 2) ∧
(¬ (12 < n) →
R 0))))
theorem yfC {O : Nat → Prop} {w : World} {n} {R : Int → Prop} (h : yci n R) (hO : ∀ k, O k → k < w.heap.size) :
    Calls Tryz.prog 100 #[(ii n)] w fun e w' => ∃ r, e = .returned (ii r) ∧ Sep w no O w' (rl []) ∧ R r := by
  unfold yci at h; have hS : Sep w no O w (rl []) := Sep.start w hO; refine yan (l := [(ii n)]) func100 rfl ntmps100 (Nat.le_of_ble_eq_true rfl) (zs (zq (za (ii 0)) (yaa (yaf (zs (zq (zm (ii n)) (zq zL (zq (zm (.bool (decide (n < 1)))) ?_)))))))); by_cases hp : n < 1
  · replace h := h.1 hp; exact rl_p (yab rfl (yac rfl (congrArg Value.bool (decide_eq_true hp))) rfl) rfl (rl_p (yab rfl (yac rfl (congrArg Value.bool (decide_eq_true hp))) rfl) rfl (zq (yao (v := (.bool (true))) (congrArg Value.bool (decide_eq_true hp)) rfl) (yaa (yaq rfl (zs (zq (za (ii 2)) (yaa (yah rfl rfl ⟨_, rfl, (hS.sel [] (by decide)), h⟩))))))))
  · replace h := h.2 hp; refine rl_q (yad rfl (yac rfl (congrArg Value.bool (decide_eq_false hp)))) rfl rfl (zm (ii n)) (rl_q (yad rfl (yac rfl (congrArg Value.bool (decide_eq_false hp)))) rfl rfl zG (zq (yap (v := (.bool (decide (12 < n)))) (congrArg Value.bool (decide_eq_false hp)) rfl) (yaa ?_))); by_cases hp2 : 12 < n
    · replace h := h.1 hp2; exact zc hp2 (zs (zq (za (ii 2)) (yaa (yah rfl rfl ⟨_, rfl, (hS.sel [] (by decide)), h⟩))))
    · replace h := h.2 hp2; exact zd hp2 (yag (zs (zq (za (ii 0)) (yaa (yah rfl rfl ⟨_, rfl, (hS.sel [] (by decide)), h⟩)))))
def ybZ (d : List Int) (n : Int) (R : Int → Prop) : Prop :=
yci n (fun r =>
((r = 0 →
((((d.length : Nat) : Int) = n →
(∃ I2 : Nat → Int → Prop, (∃ m0, I2 m0 0) ∧ ∀ m2 v, I2 m2 v → 
((v < ((d.length : Nat) : Int) →
((0 ≤ v ∧ v < ((d.length : Nat) : Int)) ∧
yb9 (gi d v.toNat) (fun r2 =>
((r2 = true →
(In64 (v + 1) ∧
∃ m3, m3 < m2 ∧ I2 m3 (v + 1))) ∧
(¬ (r2 = true) →
R 2))))) ∧
(¬ (v < ((d.length : Nat) : Int)) →
R 0)))) ∧
(¬ (((d.length : Nat) : Int) = n) →
R 8))) ∧
(¬ (r = 0) →
R r)))
theorem yeP {O : Nat → Prop} {w : World} {d n Ad ld cd} {R : Int → Prop} (h : ybZ d n R) (hO : ∀ k, O k → k < w.heap.size) (hA0 : (FP.sl cI Ad ld cd d).P O w) :
    Calls Tryz.prog 120 #[(.slice Ad ld cd), (ii n)] w fun e w' => ∃ r3, e = .returned (ii r3) ∧ Sep w no O w' (rl []) ∧ R r3 := by
  unfold ybZ at h; have hS : Sep w no O w (rl [Res.ro (FP.sl cI Ad ld cd d)]) := Sep.startl hO [(FP.sl cI Ad ld cd d)] ⟨hA0, trivial⟩; refine yan (l := [(.slice Ad ld cd), (ii n)]) func120 rfl ntmps120 (Nat.le_of_ble_eq_true rfl) (zs (zq (za (ii 0)) (yaa (yaf (zs (zq (zm (ii n)) (zn (yal rfl (am1 rfl) enter_100 ((yfC h (yaN _)).mono ?_))))))))); rintro _ w2 ⟨r, rfl, hC, h⟩; replace hS := hS.pur hC.pure; clear hC; refine ⟨_, rfl, ?_⟩; refine zb (zq (za (ii r)) (yaa (zs (zq (zm (ii r)) (zq zN (yaa ?_)))))); by_cases hp : r = 0
  · replace h := h.1 hp; refine ze hp (yag (yaf (zs (zq (zm (.slice Ad ld cd)) (zq (ybc (n := d.length) rfl underlying26 (ya2 (hS.rdr 0 rfl))) (zq (zm (ii n)) (zq zN (yaa ?_)))))))); by_cases hp2 : ((d.length : Nat) : Int) = n
    · replace h := h.1 hp2; refine ze hp2 (yag (yaf (zs (zq (zm (.slice Ad ld cd)) (zq (ybc (n := d.length) rfl underlying26 (ya2 (hS.rdr 0 rfl))) (zq (zm (ii 0)) (yaa (yak ?_)))))))); obtain ⟨I2, ⟨m0, h0⟩, hr⟩ := h; refine yaO (fun m E ds w' => ∃ v, I2 m v ∧ ds = [] ∧ E 17 = (Value.slice Ad ld cd) ∧ E 18 = (ii ((d.length : Nat) : Int)) ∧ E 19 = (ii v) ∧ Sep w no O w' (rl [Res.ro (FP.sl cI Ad ld cd d)])) m0 ⟨_, h0, rfl, rfl, rfl, rfl, (hS.sel [0] (by decide))⟩ ?_; clear h0 hS; rintro m2 E ds w3 ⟨v, h, rfl, hE17, hE18, hE19, hS⟩ again; replace h := hr m2 v h; clear hr; refine zs (zq (yd4 hE19 hE18) (yaa (yaf ?_))); by_cases hp3 : v < ((d.length : Nat) : Int)
      · replace h := h.1 hp3; refine zc hp3 (yag (yaf (yak (zs ?_)))); obtain ⟨hx, h⟩ := h; refine zq (yeK hE17 hE19 underlying26 yaj (ybh (hS.rdr 0 rfl) hx)) (zq (yaA (v := (ii (gi d v.toNat))) rfl underlying3 rfl (rd_1 (hS.rdr 0 rfl) hx (fun q => ybs q) rfl)) ?_); refine zq (za (ii (gi d v.toNat))) (yaa (zs (zq (zm (ii (gi d v.toNat))) (zn (yal rfl (am1 rfl) enter_146 ((ygi h (yaN _)).mono ?_)))))); rintro _ w4 ⟨r2, rfl, hC, h⟩; replace hS := hS.pur hC.pure; clear hC; refine ⟨_, rfl, ?_⟩; refine zb (zq (ydn rfl) (yaa ?_)); by_cases hp4 : r2 = true
        · replace h := h.1 hp4; refine yax (congrArg Value.bool (congrArg Bool.not hp4)) (yag (yai (zr ?_))); obtain ⟨hi, h⟩ := h; refine zq (ycv hE19 rfl hi) (zq (zm (ii (v + 1))) (yaa ?_)); obtain ⟨mq, hlt, h⟩ := h; exact again mq _ _ _ ⟨_, h, rfl, hE17, hE18, rfl, (hS.sel [0] (by decide))⟩ hlt
        · replace h := h.2 hp4; exact yaq (congrArg Value.bool (congrArg Bool.not (Bool.eq_false_iff.2 hp4))) (zs (zq (za (ii 2)) (yaa (yah rfl rfl ⟨_, rfl, (hS.sel [] (by decide)), h⟩))))
      · replace h := h.2 hp3; exact zd hp3 (yaH rfl (zs (zq (za (ii 0)) (yaa (yah rfl rfl ⟨_, rfl, (hS.sel [] (by decide)), h⟩)))))
    · replace h := h.2 hp2; exact zf hp2 (zs (zq (za (ii 8)) (yaa (yah rfl rfl ⟨_, rfl, (hS.sel [] (by decide)), h⟩))))
  · replace h := h.2 hp; exact zf hp (zs (zq (zm (ii r)) (zq (za (ii r)) (yaa (yah rfl rfl ⟨_, rfl, (hS.sel [] (by decide)), h⟩)))))
def yhU (n : Int) (v : Int) (R : Bool → Prop) : Prop :=
((0 ≤ v →
R (decide (v < n))) ∧
(¬ (0 ≤ v) →
R false))
theorem yis {O : Nat → Prop} {w : World} {n v} {R : Bool → Prop} (h : yhU n v R) (hO : ∀ k, O k → k < w.heap.size) :
    Calls Tryz.prog 200 #[(ii n), (ii v)] w fun e w' => ∃ r, e = .returned (.bool (r)) ∧ Sep w no O w' (rl []) ∧ R r := by
  unfold yhU at h; have hS : Sep w no O w (rl []) := Sep.start w hO; refine yan (l := [(ii n), (ii v)]) func200 rfl ntmps200 (Nat.le_of_ble_eq_true rfl) (zs (zq (za (.bool (false))) (yaa (zs (zq (zm (ii v)) (zq (yiO rfl rfl) (zq (zm (.bool (decide (0 ≤ v)))) ?_))))))); by_cases hp : 0 ≤ v
  · replace h := h.1 hp; exact rl_q (yad rfl (yac rfl (congrArg Value.bool (decide_eq_true hp)))) rfl rfl (zm (ii v)) (rl_q (yad rfl (yac rfl (congrArg Value.bool (decide_eq_true hp)))) rfl rfl (zm (ii n)) (rl_q (yad rfl (yac rfl (congrArg Value.bool (decide_eq_true hp)))) rfl rfl zL (zq (yao (v := (.bool (decide (v < n)))) (congrArg Value.bool (decide_eq_true hp)) rfl) (zq (za (.bool (decide (v < n)))) (yaa (yah rfl rfl ⟨_, rfl, (hS.sel [] (by decide)), h⟩))))))
  · replace h := h.2 hp; exact rl_p (yab rfl (yac rfl (congrArg Value.bool (decide_eq_false hp))) rfl) rfl (rl_p (yab rfl (yac rfl (congrArg Value.bool (decide_eq_false hp))) rfl) rfl (rl_p (yab rfl (yac rfl (congrArg Value.bool (decide_eq_false hp))) rfl) rfl (zq (yap (v := (.bool (false))) (congrArg Value.bool (decide_eq_false hp)) rfl) (zq (za (.bool (false))) (yaa (yah rfl rfl ⟨_, rfl, (hS.sel [] (by decide)), h⟩))))))
def yhL (x : Int) (y : Int) (R : Int → Prop) : Prop :=
yhZ x (fun r =>
yhZ y (fun r2 =>
((r = true →
((r2 = true →
R 0) ∧
(¬ (r2 = true) →
R (-1)))) ∧
(¬ (r = true) →
((r2 = true →
R 1) ∧
(¬ (r2 = true) →
((x < y →
R (-1)) ∧
(¬ (x < y) →
((y < x →
R 1) ∧
(¬ (y < x) →
R 0))))))))))
theorem yh5 {O : Nat → Prop} {w : World} {x y} {R : Int → Prop} (h : yhL x y R) (hO : ∀ k, O k → k < w.heap.size) :
    Calls Tryz.prog 94 #[(ii x), (ii y)] w fun e w' => ∃ r3, e = .returned (ii r3) ∧ Sep w no O w' (rl []) ∧ R r3 := by
  unfold yhL at h; have hS : Sep w no O w (rl []) := Sep.start w hO; refine yan (l := [(ii x), (ii y)]) func94 rfl ntmps94 (Nat.le_of_ble_eq_true rfl) (zs (zq (za (ii 0)) (yaa (zs (zq (zm (ii x)) (zn (yal rfl (am1 rfl) enter_156 ((yio h (yaN _)).mono ?_)))))))); rintro _ w2 ⟨r, rfl, hC, h⟩; replace hS := hS.pur hC.pure; clear hC; refine ⟨_, rfl, ?_⟩; refine zb (zq (za (.bool (r))) (yaa (zs (zq (zm (ii y)) (zn (yal rfl (am1 rfl) enter_156 ((yio h (yaN _)).mono ?_))))))); rintro _ w3 ⟨r2, rfl, hC, h⟩; replace hS := hS.pur hC.pure; clear hC; refine ⟨_, rfl, ?_⟩; refine zb (zq (za (.bool (r2))) (yaa (yaf (zs (zq (zm (.bool (r))) (yaa ?_)))))); by_cases hp : r = true
  · replace h := h.1 hp; refine yaq (congrArg Value.bool hp) (yaf (zs (zq (zm (.bool (r2))) (yaa ?_)))); by_cases hp2 : r2 = true
    · replace h := h.1 hp2; exact yaq (congrArg Value.bool hp2) (zs (zq (za (ii 0)) (yaa (yah rfl rfl ⟨_, rfl, (hS.sel [] (by decide)), h⟩))))
    · replace h := h.2 hp2; exact yax (congrArg Value.bool (Bool.eq_false_iff.2 hp2)) (yag (zs (zq (za (ii (-1))) (yaa (yah rfl rfl ⟨_, rfl, (hS.sel [] (by decide)), h⟩)))))
  · replace h := h.2 hp; refine yax (congrArg Value.bool (Bool.eq_false_iff.2 hp)) (yag (yaf (zs (zq (zm (.bool (r2))) (yaa ?_))))); by_cases hp3 : r2 = true
    · replace h := h.1 hp3; exact yaq (congrArg Value.bool hp3) (zs (zq (za (ii 1)) (yaa (yah rfl rfl ⟨_, rfl, (hS.sel [] (by decide)), h⟩))))
    · replace h := h.2 hp3; refine yax (congrArg Value.bool (Bool.eq_false_iff.2 hp3)) (yag (yaf (zs (zq (zm (ii x)) (zq (zm (ii y)) (zq zL (yaa ?_))))))); by_cases hp4 : x < y
      · replace h := h.1 hp4; exact zc hp4 (zs (zq (za (ii (-1))) (yaa (yah rfl rfl ⟨_, rfl, (hS.sel [] (by decide)), h⟩))))
      · replace h := h.2 hp4; refine zd hp4 (yag (yaf (zs (zq (zm (ii x)) (zq (zm (ii y)) (zq zG (yaa ?_))))))); by_cases hp5 : y < x
        · replace h := h.1 hp5; exact zc hp5 (zs (zq (za (ii 1)) (yaa (yah rfl rfl ⟨_, rfl, (hS.sel [] (by decide)), h⟩))))
        · replace h := h.2 hp5; exact zd hp5 (yag (zs (zq (za (ii 0)) (yaa (yah rfl rfl ⟨_, rfl, (hS.sel [] (by decide)), h⟩)))))
def yh6 (vals : List Int) (R : Int → Prop) : Prop :=
(∃ I2 : Nat → Int → Prop, (∃ m0, I2 m0 0) ∧ ∀ m2 v, I2 m2 v → 
((v < ((vals.length : Nat) : Int) →
((0 ≤ v ∧ v < ((vals.length : Nat) : Int)) ∧
(((gi vals v.toNat) = 0 →
(In64 (v + 1) ∧
∃ m3, m3 < m2 ∧ I2 m3 (v + 1))) ∧
(¬ ((gi vals v.toNat) = 0) →
R (gi vals v.toNat))))) ∧
(¬ (v < ((vals.length : Nat) : Int)) →
R 0)))
theorem pok_cmp_Or_int {O : Nat → Prop} {w : World} {vals Avals lvals cvals} {R : Int → Prop} (h : yh6 vals R) (hO : ∀ k, O k → k < w.heap.size) (hA0 : (FP.sl cI Avals lvals cvals vals).P O w) :
    Calls Tryz.prog 236 #[(.slice Avals lvals cvals)] w fun e w' => ∃ r, e = .returned (ii r) ∧ Sep w no O w' (rl []) ∧ R r := by
  unfold yh6 at h; have hS : Sep w no O w (rl [Res.ro (FP.sl cI Avals lvals cvals vals)]) := Sep.startl hO [(FP.sl cI Avals lvals cvals vals)] ⟨hA0, trivial⟩; refine yan (l := [(.slice Avals lvals cvals)]) func236 rfl ntmps236 (Nat.le_of_ble_eq_true rfl) (zs (zq (za (ii 0)) (yaa (zs (zq (za (ii 0)) (yaa (yaf (zs (zq (zm (.slice Avals lvals cvals)) (zq (ybc (n := vals.length) rfl underlying25 (ya2 (hS.rdr 0 rfl))) (zq (zm (ii 0)) (yaa (yak ?_))))))))))))); obtain ⟨I2, ⟨m0, h0⟩, hr⟩ := h; refine yaO (fun m E ds w' => ∃ v, I2 m v ∧ ds = [] ∧ E 3 = (ii 0) ∧ E 6 = (Value.slice Avals lvals cvals) ∧ E 7 = (ii ((vals.length : Nat) : Int)) ∧ E 8 = (ii v) ∧ Sep w no O w' (rl [Res.ro (FP.sl cI Avals lvals cvals vals)])) m0 ⟨_, h0, rfl, rfl, rfl, rfl, rfl, (hS.sel [0] (by decide))⟩ ?_; clear h0 hS; rintro m2 E ds w2 ⟨v, h, rfl, hE3, hE6, hE7, hE8, hS⟩ again; replace h := hr m2 v h; clear hr; refine zs (zq (yd4 hE8 hE7) (yaa (yaf ?_))); by_cases hp : v < ((vals.length : Nat) : Int)
  · replace h := h.1 hp; refine zc hp (yag (yaf (yak (zs ?_)))); obtain ⟨hx, h⟩ := h; refine zq (yeK hE6 hE8 underlying25 yaj (ybh (hS.rdr 0 rfl) hx)) (zq (yaA (v := (ii (gi vals v.toNat))) rfl underlying3 rfl (rd_1 (hS.rdr 0 rfl) hx (fun q => ybs q) rfl)) ?_); refine zq (za (ii (gi vals v.toNat))) (yaa (zs (zq (zm (ii (gi vals v.toNat))) (zq (yae hE3) (zq zN (yaa ?_)))))); by_cases hp2 : (gi vals v.toNat) = 0
    · replace h := h.1 hp2; refine ze hp2 (yag (yai (zr ?_))); obtain ⟨hi, h⟩ := h; refine zq (ycv hE8 rfl hi) (zq (zm (ii (v + 1))) (yaa ?_)); obtain ⟨mq, hlt, h⟩ := h; exact again mq _ _ _ ⟨_, h, rfl, hE3, hE6, hE7, rfl, (hS.sel [0] (by decide))⟩ hlt
    · replace h := h.2 hp2; exact zf hp2 (zs (zq (zm (ii (gi vals v.toNat))) (zq (za (ii (gi vals v.toNat))) (yaa (yah rfl rfl ⟨_, rfl, (hS.sel [] (by decide)), h⟩)))))
  · replace h := h.2 hp; exact zd hp (yaH rfl (zs (zq (yae hE3) (zq (za (ii 0)) (yaa (yah rfl rfl ⟨_, rfl, (hS.sel [] (by decide)), h⟩))))))
def yhR (p : Int) (p2 : Int) (q : Int) (q2 : Int) (R : Int → Prop) : Prop :=
yhL p q (fun r =>
yhL p2 q2 (fun r2 =>
yh6 ([r, r2]) (fun r3 =>
R r3)))
theorem yiw {O : Nat → Prop} {w : World} {p p2 q q2} {R : Int → Prop} (h : yhR p p2 q q2 R) (hO : ∀ k, O k → k < w.heap.size) :
    Calls Tryz.prog 201 #[(.agg #[(ii p), (ii p2)]), (.agg #[(ii q), (ii q2)])] w fun e w' => ∃ r4, e = .returned (ii r4) ∧ Sep w no O w' (rl []) ∧ R r4 := by
  unfold yhR at h; have hS : Sep w no O w (rl []) := Sep.start w hO; refine yan (l := [(.agg #[(ii p), (ii p2)]), (.agg #[(ii q), (ii q2)])]) func201 rfl ntmps201 (Nat.le_of_ble_eq_true rfl) (zs (zn (yb6 (v := (.agg #[(ii p), (ii p2)])) rfl ?_))); intro g w2 hN; replace hS : Sep w no O w2 (stl _ 0 (Res.box 202 g [(ii p), (ii p2)])) := hS.new 0 rfl hN; clear hN; refine zb (zn (yb6 (v := (.agg #[(ii q), (ii q2)])) rfl ?_)); intro g2 w3 hN; replace hS : Sep w no O w3 (stl _ 1 (Res.box 202 g2 [(ii q), (ii q2)])) := hS.new 1 rfl hN; clear hN; refine zb (zq (za (ii 0)) (yaa (yaf (ybt [0, 1, 2, 3, 5, 6, 7, 8, 4, 9, 10, 11, 12] (fun i => match i with | 4 => [5, 6, 7, 8] | _ => []) yaQ (by kernel_rfl) (by kernel_rfl) ?_)))); replace hS := hS.drew; refine zp (yam rfl underlying202 rfl yaj) (zp (zl underlying3 (Row.cell (hS.bx 0 rfl) (i := 0) rfl)) (zp (yam rfl underlying202 rfl yaj) (zp (zl underlying3 (Row.cell (hS.bx 1 rfl) (i := 0) rfl)) (zp (yam rfl underlying202 rfl yaj) (zp (zl underlying3 (Row.cell (hS.bx 0 rfl) (i := 1) rfl)) (zp (yam rfl underlying202 rfl yaj) (zp (zl underlying3 (Row.cell (hS.bx 1 rfl) (i := 1) rfl)) (rp_n rfl rfl rfl rfl (yal rfl (am2 rfl rfl) enter_94 ((yh5 h (yaN _)).mono ?_)))))))))); rintro _ w4 ⟨r, rfl, hC, h⟩; replace hS := hS.pur hC.pure; clear hC; refine ⟨_, rfl, ?_⟩; refine ⟨⟨fun _ => (zl underlying3 (Row.cell (hS.bx 1 rfl) (i := 1) rfl)), ⟨fun _ => (yam rfl underlying202 rfl yaj), ⟨fun _ => (zl underlying3 (Row.cell (hS.bx 0 rfl) (i := 1) rfl)), ⟨fun _ => (yam rfl underlying202 rfl yaj), ⟨fun hh => Bool.noConfusion (show false = true from hh), ⟨fun hh => Bool.noConfusion (show false = true from hh), ⟨fun hh => Bool.noConfusion (show false = true from hh), ⟨fun hh => Bool.noConfusion (show false = true from hh), trivial⟩⟩⟩⟩⟩⟩⟩⟩, ?_⟩; refine rp_n rfl rfl rfl rfl (yal rfl (am2 rfl rfl) enter_94 ((yh5 h (yaN _)).mono ?_)); rintro _ w5 ⟨r2, rfl, hC, h⟩; replace hS := hS.pur hC.pure; clear hC; refine ⟨_, rfl, ?_⟩; refine zb (rp_n rfl rfl rfl rfl (yaR (l := [(0, (ii r)), (1, (ii r2))]) (cells := [(ii r), (ii r2)]) (bp2 rfl rfl) underlying25 yaj rfl rfl ?_)); intro g3 w6 hN; replace hS := hS.litf (n := 2) 2 rfl (fI .i64) hN ([r, r2] : List Int) rfl (by decide) rfl; clear hN; refine zb (rp_n rfl rfl rfl rfl (yal rfl (am1 rfl) enter_236 ((pok_cmp_Or_int h (yaN _) (hS.rdo 2 rfl)).mono ?_))); rintro _ w7 ⟨r3, rfl, hC, h⟩; replace hS := hS.pur hC.pure; clear hC; refine ⟨_, rfl, ?_⟩; exact zb (zp (za (ii r3)) (yb4 (yah rfl rfl ⟨_, rfl, (hS.sel [] (by decide)), h⟩)))
def yh4 (d : Int) (d2 : List E3) (R : Int → Prop) : Prop :=
(∃ J2 : Prop, (J2 → (∃ I2 : Nat → Int → Int → Int → Prop, (∃ m0, I2 m0 0 (-1) (-1)) ∧ ∀ m2 v v2 v3, I2 m2 v v2 v3 → 
((v < ((d2.length : Nat) : Int) →
((0 ≤ v ∧ v < ((d2.length : Nat) : Int)) ∧
(∃ J3 : Prop, (J3 → ((((ge d2 v.toNat).2.1) < ((ge d2 v.toNat).1) →
R 9) ∧
(¬ (((ge d2 v.toNat).2.1) < ((ge d2 v.toNat).1)) →
yhR v2 v3 ((ge d2 v.toNat).1) ((ge d2 v.toNat).2.1) (fun r =>
((0 ≤ r →
R 9) ∧
(¬ (0 ≤ r) →
(In64 (v + 1) ∧
∃ m3, m3 < m2 ∧ I2 m3 (v + 1) ((ge d2 v.toNat).1) ((ge d2 v.toNat).2.1)))))))) ∧
yhU d ((ge d2 v.toNat).1) (fun r2 =>
((r2 = true →
yhU d ((ge d2 v.toNat).2.1) (fun r3 =>
((r3 = true →
((((ge d2 v.toNat).2.2) < 1 →
R 2) ∧
(¬ (((ge d2 v.toNat).2.2) < 1) →
((50 < ((ge d2 v.toNat).2.2) →
R 2) ∧
(¬ (50 < ((ge d2 v.toNat).2.2)) →
J3))))) ∧
(¬ (r3 = true) →
R 2)))) ∧
(¬ (r2 = true) →
R 2)))))) ∧
(¬ (v < ((d2.length : Nat) : Int)) →
R 0)))) ∧
((d < 1 →
R 2) ∧
(¬ (d < 1) →
((12 < d →
R 2) ∧
(¬ (12 < d) →
J2)))))
theorem yiV {O : Nat → Prop} {w : World} {d d2 Ad ld cd} {R : Int → Prop} (h : yh4 d d2 R) (hO : ∀ k, O k → k < w.heap.size) (hA0 : (FP.sl c3 Ad ld cd d2).P O w) :
    Calls Tryz.prog 150 #[(.agg #[(ii d), (.slice Ad ld cd)])] w fun e w' => ∃ r4, e = .returned (ii r4) ∧ Sep w no O w' (rl []) ∧ R r4 := by
  unfold yh4 at h; have hS : Sep w no O w (rl [Res.ro (FP.sl c3 Ad ld cd d2)]) := Sep.startl hO [(FP.sl c3 Ad ld cd d2)] ⟨hA0, trivial⟩; refine yan (l := [(.agg #[(ii d), (.slice Ad ld cd)])]) func150 rfl ntmps150 (Nat.le_of_ble_eq_true rfl) (zs (zn (yb6 (v := (.agg #[(ii d), (.slice Ad ld cd)])) rfl ?_))); intro g w2 hN; replace hS : Sep w no O w2 (stl _ 1 (Res.box 24 g [(ii d), (.slice Ad ld cd)])) := hS.new 1 rfl hN; clear hN; refine zb (zq (za (ii 0)) (yaa (yaf (yaf ?_)))); obtain ⟨J2, hJ, h⟩ := h; refine ycZ (fun E ds w' => J2 ∧ ds = [] ∧ E 1 = (Value.pointer (some (⟨g, 0, none⟩ : Addr))) ∧ Sep w no O w' (rl [Res.box 24 g [(ii d), (.slice Ad ld cd)], Res.ro (FP.sl c3 Ad ld cd d2)])) ?_ ?_
  · clear h hS; rintro E ds w3 ⟨h, rfl, hE1, hS⟩; replace h := hJ h; refine zs (zn (yfr (l := [(0, (ii (-1))), (1, (ii (-1)))]) (cells := [(ii (-1)), (ii (-1))]) (places := [(0, 1), (1, 1)]) (bp2 rfl rfl) underlying202 yia (by kernel_rfl) rfl ?_)); refine zb (zn (ybJ yia ?_)); intro g2 w4 hN; replace hS : Sep w no O w4 (stl _ 2 (Res.box 202 g2 [(ii 0), (ii 0)])) := hS.new 2 rfl hN; clear hN; refine zb (zo (yeb (b := g2) (o := 0) (cells := #[(ii (-1)), (ii (-1))]) rfl rfl yia rfl rfl (yc7 (hS.bx 2 rfl) (Nat.le_of_ble_eq_true rfl)) ?_)); intro w5 e1; replace hS := hS.bstn 2 rfl 0 [(ii (-1)), (ii (-1))] e1; clear e1; refine zb (yaa (yaf (zs (zq (yam hE1 underlying24 rfl ydy) (zq (zl underlying22 (Row.cell (hS.bx 0 rfl) (i := 1) rfl)) (zq (ybc (n := d2.length) rfl underlying22 (ya2 (hS.rdr 1 rfl))) (zq (zm (ii 0)) (yaa (yak ?_))))))))); obtain ⟨I2, ⟨m0, h0⟩, hr⟩ := h; refine yaO (fun m E ds w' => ∃ v v2 v3, I2 m v v2 v3 ∧ ds = [] ∧ E 1 = (Value.pointer (some (⟨g, 0, none⟩ : Addr))) ∧ E 3 = (Value.pointer (some (⟨g2, 0, none⟩ : Addr))) ∧ E 17 = (Value.slice Ad ld cd) ∧ E 18 = (ii ((d2.length : Nat) : Int)) ∧ E 19 = (ii v) ∧ Sep w no O w' (rl [Res.box 24 g [(ii d), (.slice Ad ld cd)], Res.ro (FP.sl c3 Ad ld cd d2), Res.box 202 g2 [(ii v2), (ii v3)]])) m0 ⟨_, _, _, h0, rfl, hE1, rfl, rfl, rfl, rfl, (hS.sel [0, 1, 2] (by decide))⟩ ?_; clear h0 hS; rintro m2 E ds w6 ⟨v, v2, v3, h, rfl, hE1, hE3, hE17, hE18, hE19, hS⟩ again; replace h := hr m2 v v2 v3 h; clear hr; refine zs (zq (yd4 hE19 hE18) (yaa (yaf ?_))); by_cases hp : v < ((d2.length : Nat) : Int)
    · replace h := h.1 hp; refine zc hp (yag (yaf (yak (zs ?_)))); obtain ⟨hx, h⟩ := h; refine zq (yeK hE17 hE19 underlying22 ybf (ybh (hS.rdr 1 rfl) hx)) (zq (yav (vs := [(ii ((ge d2 v.toNat).1)), (ii ((ge d2 v.toNat).2.1)), (ii ((ge d2 v.toNat).2.2))]) rfl underlying95 rfl ybf (yn2 (hS.rdr 1 rfl) hx (fun q => yd6 q))) ?_); refine zn (ybJ ybf ?_); intro g3 w7 hN; replace hS : Sep w no O w7 (stl _ 3 (Res.box 95 g3 [(ii 0), (ii 0), (ii 0)])) := hS.new 3 rfl hN; clear hN; refine zb (zo (yeb (b := g3) (o := 0) (cells := #[(ii ((ge d2 v.toNat).1)), (ii ((ge d2 v.toNat).2.1)), (ii ((ge d2 v.toNat).2.2))]) rfl rfl ybf rfl rfl (yc7 (hS.bx 3 rfl) (Nat.le_of_ble_eq_true rfl)) ?_)); intro w8 e1; replace hS := hS.bstn 3 rfl 0 [(ii ((ge d2 v.toNat).1)), (ii ((ge d2 v.toNat).2.1)), (ii ((ge d2 v.toNat).2.2))] e1; clear e1; refine zb (yaa (zs (zq (yam rfl underlying95 rfl yaj) (zq (zl underlying3 (Row.cell (hS.bx 3 rfl) (i := 0) rfl)) (zq (yam rfl underlying95 rfl yaj) (zq (zl underlying3 (Row.cell (hS.bx 3 rfl) (i := 1) rfl)) (zn (yfr (l := [(0, (ii ((ge d2 v.toNat).1))), (1, (ii ((ge d2 v.toNat).2.1)))]) (cells := [(ii ((ge d2 v.toNat).1)), (ii ((ge d2 v.toNat).2.1))]) (places := [(0, 1), (1, 1)]) (bp2 rfl rfl) underlying202 yia (by kernel_rfl) rfl ?_)))))))); refine zb (zn (ybJ yia ?_)); intro g4 w9 hN; replace hS : Sep w no O w9 (stl _ 4 (Res.box 202 g4 [(ii 0), (ii 0)])) := hS.new 4 rfl hN; clear hN; refine zb (zo (yeb (b := g4) (o := 0) (cells := #[(ii ((ge d2 v.toNat).1)), (ii ((ge d2 v.toNat).2.1))]) rfl rfl yia rfl rfl (yc7 (hS.bx 4 rfl) (Nat.le_of_ble_eq_true rfl)) ?_)); intro w10 e1; replace hS := hS.bstn 4 rfl 0 [(ii ((ge d2 v.toNat).1)), (ii ((ge d2 v.toNat).2.1))] e1; clear e1; refine zb (yaa (yaf (yak (yaf ?_)))); obtain ⟨J3, hJ, h⟩ := h; refine wt_cutB1 (fun E ds w' => J3 ∧ ds = [] ∧ E 1 = (Value.pointer (some (⟨g, 0, none⟩ : Addr))) ∧ E 3 = (Value.pointer (some (⟨g2, 0, none⟩ : Addr))) ∧ E 5 = (Value.pointer (some (⟨g3, 0, none⟩ : Addr))) ∧ E 6 = (Value.pointer (some (⟨g4, 0, none⟩ : Addr))) ∧ E 17 = (Value.slice Ad ld cd) ∧ E 18 = (ii ((d2.length : Nat) : Int)) ∧ E 19 = (ii v) ∧ Sep w no O w' (rl [Res.box 24 g [(ii d), (.slice Ad ld cd)], Res.ro (FP.sl c3 Ad ld cd d2), Res.box 202 g2 [(ii v2), (ii v3)], Res.box 95 g3 [(ii ((ge d2 v.toNat).1)), (ii ((ge d2 v.toNat).2.1)), (ii ((ge d2 v.toNat).2.2))], Res.box 202 g4 [(ii ((ge d2 v.toNat).1)), (ii ((ge d2 v.toNat).2.1))]])) ?_ ?_
      · clear h hS; rintro E ds w11 ⟨h, rfl, hE1, hE3, hE5, hE6, hE17, hE18, hE19, hS⟩; replace h := hJ h; refine zs (zq (yam hE5 underlying95 rfl yaj) (zq (zl underlying3 (Row.cell (hS.bx 3 rfl) (i := 0) rfl)) (zq (yam hE5 underlying95 rfl yaj) (zq (zl underlying3 (Row.cell (hS.bx 3 rfl) (i := 1) rfl)) (zq zG (zq (zm (.bool (decide (((ge d2 v.toNat).2.1) < ((ge d2 v.toNat).1))))) ?_)))))); by_cases hp2 : ((ge d2 v.toNat).2.1) < ((ge d2 v.toNat).1)
        · replace h := h.1 hp2; exact rl_p (yab rfl (yac rfl (congrArg Value.bool (decide_eq_true hp2))) rfl) rfl (rl_p (yab rfl (yac rfl (congrArg Value.bool (decide_eq_true hp2))) rfl) rfl (rl_p (yab rfl (yac rfl (congrArg Value.bool (decide_eq_true hp2))) rfl) rfl (rl_p (yab rfl (yac rfl (congrArg Value.bool (decide_eq_true hp2))) rfl) rfl (zq (yao (v := (.bool (true))) (congrArg Value.bool (decide_eq_true hp2)) rfl) (zq (za (.bool (true))) (yaa (yaq rfl (zs (zq (za (ii 9)) (yaa (yah rfl rfl ⟨_, rfl, (hS.sel [] (by decide)), h⟩)))))))))))
        · replace h := h.2 hp2; refine rl_q (yad rfl (yac rfl (congrArg Value.bool (decide_eq_false hp2)))) rfl rfl (yav (vs := [(ii v2), (ii v3)]) hE3 underlying202 rfl yia ⟨Row.cell (hS.bx 2 rfl) (i := 0) rfl, Row.cell (hS.bx 2 rfl) (i := 1) rfl, trivial⟩) (rl_q (yad rfl (yac rfl (congrArg Value.bool (decide_eq_false hp2)))) rfl rfl (yav (vs := [(ii ((ge d2 v.toNat).1)), (ii ((ge d2 v.toNat).2.1))]) hE6 underlying202 rfl yia ⟨Row.cell (hS.bx 4 rfl) (i := 0) rfl, Row.cell (hS.bx 4 rfl) (i := 1) rfl, trivial⟩) (rl_n (yad rfl (yac rfl (congrArg Value.bool (decide_eq_false hp2)))) rfl rfl rfl (yal rfl (am2 rfl rfl) enter_201 ((yiw h (yaN _)).mono ?_)))); rintro _ w12 ⟨r, rfl, hC, h⟩; replace hS := hS.pur hC.pure; clear hC; refine ⟨_, rfl, ?_⟩; refine zb (rl_q (yad rfl (yac rfl (congrArg Value.bool (decide_eq_false hp2)))) rfl rfl (yiO rfl rfl) (zq (yap (v := (.bool (decide (0 ≤ r)))) (congrArg Value.bool (decide_eq_false hp2)) rfl) (zq (za (.bool (decide (0 ≤ r)))) (yaa ?_)))); by_cases hp3 : 0 ≤ r
          · replace h := h.1 hp3; exact zc hp3 (zs (zq (za (ii 9)) (yaa (yah rfl rfl ⟨_, rfl, (hS.sel [] (by decide)), h⟩))))
          · replace h := h.2 hp3; refine zd hp3 (yag (yai (zr (zq (yav (vs := [(ii ((ge d2 v.toNat).1)), (ii ((ge d2 v.toNat).2.1))]) hE6 underlying202 rfl yia ⟨Row.cell (hS.bx 4 rfl) (i := 0) rfl, Row.cell (hS.bx 4 rfl) (i := 1) rfl, trivial⟩) (zo (yeb (b := g2) (o := 0) (cells := #[(ii ((ge d2 v.toNat).1)), (ii ((ge d2 v.toNat).2.1))]) hE3 rfl yia rfl rfl (yc7 (hS.bx 2 rfl) (Nat.le_of_ble_eq_true rfl)) ?_)))))); intro w13 e1; replace hS := hS.bstn 2 rfl 0 [(ii ((ge d2 v.toNat).1)), (ii ((ge d2 v.toNat).2.1))] e1; clear e1; refine zb (yaa (yai (zr ?_))); obtain ⟨hi, h⟩ := h; refine zq (ycv hE19 rfl hi) (zq (zm (ii (v + 1))) (yaa ?_)); obtain ⟨mq, hlt, h⟩ := h; exact again mq _ _ _ ⟨_, _, _, h, rfl, hE1, hE3, hE17, hE18, rfl, (hS.sel [0, 1, 2] (by decide))⟩ hlt
      clear hJ; intro j2; refine zr (zq (yam hE1 underlying24 rfl yaj) (zq (zl underlying3 (Row.cell (hS.bx 0 rfl) (i := 0) rfl)) (zq (yam rfl underlying95 rfl yaj) (zq (zl underlying3 (Row.cell (hS.bx 3 rfl) (i := 0) rfl)) (zn (yal rfl (am2 rfl rfl) ync ((yis h (yaN _)).mono ?_))))))); rintro _ w14 ⟨r2, rfl, hC, h⟩; replace hS := hS.pur hC.pure; clear hC; refine ⟨_, rfl, ?_⟩; refine zb (zq (ydn rfl) (zq (zm (.bool (!(r2)))) ?_)); by_cases hp4 : r2 = true
      · replace h := h.1 hp4; refine rl_q (yad rfl (yac rfl (congrArg Value.bool (congrArg Bool.not hp4)))) rfl rfl (yam hE1 underlying24 rfl yaj) (rl_q (yad rfl (yac rfl (congrArg Value.bool (congrArg Bool.not hp4)))) rfl rfl (zl underlying3 (Row.cell (hS.bx 0 rfl) (i := 0) rfl)) (rl_q (yad rfl (yac rfl (congrArg Value.bool (congrArg Bool.not hp4)))) rfl rfl (yam rfl underlying95 rfl yaj) (rl_q (yad rfl (yac rfl (congrArg Value.bool (congrArg Bool.not hp4)))) rfl rfl (zl underlying3 (Row.cell (hS.bx 3 rfl) (i := 1) rfl)) (rl_n (yad rfl (yac rfl (congrArg Value.bool (congrArg Bool.not hp4)))) rfl rfl rfl (yal rfl (am2 rfl rfl) ync ((yis h (yaN _)).mono ?_)))))); rintro _ w15 ⟨r3, rfl, hC, h⟩; replace hS := hS.pur hC.pure; clear hC; refine ⟨_, rfl, ?_⟩; refine zb (rl_q (yad rfl (yac rfl (congrArg Value.bool (congrArg Bool.not hp4)))) rfl rfl (ydn rfl) (zq (yap (v := (.bool (!(r3)))) (congrArg Value.bool (congrArg Bool.not hp4)) rfl) (zq (zm (.bool (!(r3)))) ?_))); by_cases hp5 : r3 = true
        · replace h := h.1 hp5; refine rl_q (yad rfl (yac rfl (congrArg Value.bool (congrArg Bool.not hp5)))) rfl rfl (yam rfl underlying95 rfl yaj) (rl_q (yad rfl (yac rfl (congrArg Value.bool (congrArg Bool.not hp5)))) rfl rfl (zl underlying3 (Row.cell (hS.bx 3 rfl) (i := 2) rfl)) (rl_q (yad rfl (yac rfl (congrArg Value.bool (congrArg Bool.not hp5)))) rfl rfl zL (zq (yap (v := (.bool (decide (((ge d2 v.toNat).2.2) < 1)))) (congrArg Value.bool (congrArg Bool.not hp5)) rfl) (zq (zm (.bool (decide (((ge d2 v.toNat).2.2) < 1)))) ?_)))); by_cases hp6 : ((ge d2 v.toNat).2.2) < 1
          · replace h := h.1 hp6; exact rl_p (yab rfl (yac rfl (congrArg Value.bool (decide_eq_true hp6))) rfl) rfl (rl_p (yab rfl (yac rfl (congrArg Value.bool (decide_eq_true hp6))) rfl) rfl (rl_p (yab rfl (yac rfl (congrArg Value.bool (decide_eq_true hp6))) rfl) rfl (zq (yao (v := (.bool (true))) (congrArg Value.bool (decide_eq_true hp6)) rfl) (zq (za (.bool (true))) (yaa (yaq rfl (zs (zq (za (ii 2)) (yaa (yah rfl rfl ⟨_, rfl, (hS.sel [] (by decide)), h⟩))))))))))
          · replace h := h.2 hp6; refine rl_q (yad rfl (yac rfl (congrArg Value.bool (decide_eq_false hp6)))) rfl rfl (yam rfl underlying95 rfl yaj) (rl_q (yad rfl (yac rfl (congrArg Value.bool (decide_eq_false hp6)))) rfl rfl (zl underlying3 (Row.cell (hS.bx 3 rfl) (i := 2) rfl)) (rl_q (yad rfl (yac rfl (congrArg Value.bool (decide_eq_false hp6)))) rfl rfl zG (zq (yap (v := (.bool (decide (50 < ((ge d2 v.toNat).2.2))))) (congrArg Value.bool (decide_eq_false hp6)) rfl) (zq (za (.bool (decide (50 < ((ge d2 v.toNat).2.2))))) (yaa ?_))))); by_cases hp7 : 50 < ((ge d2 v.toNat).2.2)
            · replace h := h.1 hp7; exact zc hp7 (zs (zq (za (ii 2)) (yaa (yah rfl rfl ⟨_, rfl, (hS.sel [] (by decide)), h⟩))))
            · replace h := h.2 hp7; exact zd hp7 (j2 _ _ _ ⟨h, rfl, hE1, hE3, rfl, rfl, hE17, hE18, hE19, (hS.sel [0, 1, 2, 3, 4] (by decide))⟩)
        · replace h := h.2 hp5; exact rl_p (yab rfl (yac rfl (congrArg Value.bool (congrArg Bool.not (Bool.eq_false_iff.2 hp5)))) rfl) rfl (rl_p (yab rfl (yac rfl (congrArg Value.bool (congrArg Bool.not (Bool.eq_false_iff.2 hp5)))) rfl) rfl (rl_p (yab rfl (yac rfl (congrArg Value.bool (congrArg Bool.not (Bool.eq_false_iff.2 hp5)))) rfl) rfl (zq (yao (v := (.bool (true))) (congrArg Value.bool (congrArg Bool.not (Bool.eq_false_iff.2 hp5))) rfl) (zq (zm (.bool (true))) (rl_p (yab rfl (yac rfl rfl) rfl) rfl (rl_p (yab rfl (yac rfl rfl) rfl) rfl (rl_p (yab rfl (yac rfl rfl) rfl) rfl (zq (yao (v := (.bool (true))) rfl rfl) (zq (za (.bool (true))) (yaa (yaq rfl (zs (zq (za (ii 2)) (yaa (yah rfl rfl ⟨_, rfl, (hS.sel [] (by decide)), h⟩)))))))))))))))
      · replace h := h.2 hp4; exact rl_p (yab rfl (yac rfl (congrArg Value.bool (congrArg Bool.not (Bool.eq_false_iff.2 hp4)))) rfl) rfl (rl_p (yab rfl (yac rfl (congrArg Value.bool (congrArg Bool.not (Bool.eq_false_iff.2 hp4)))) rfl) rfl (rl_p (yab rfl (yac rfl (congrArg Value.bool (congrArg Bool.not (Bool.eq_false_iff.2 hp4)))) rfl) rfl (rl_p (yab rfl (yac rfl (congrArg Value.bool (congrArg Bool.not (Bool.eq_false_iff.2 hp4)))) rfl) rfl (rl_p (yab rfl (yac rfl (congrArg Value.bool (congrArg Bool.not (Bool.eq_false_iff.2 hp4)))) rfl) rfl (rl_p (yab rfl (yac rfl (congrArg Value.bool (congrArg Bool.not (Bool.eq_false_iff.2 hp4)))) rfl) rfl (zq (yao (v := (.bool (true))) (congrArg Value.bool (congrArg Bool.not (Bool.eq_false_iff.2 hp4))) rfl) (zq (zm (.bool (true))) (rl_p (yab rfl (yac rfl rfl) rfl) rfl (rl_p (yab rfl (yac rfl rfl) rfl) rfl (rl_p (yab rfl (yac rfl rfl) rfl) rfl (zq (yao (v := (.bool (true))) rfl rfl) (zq (zm (.bool (true))) (rl_p (yab rfl (yac rfl rfl) rfl) rfl (rl_p (yab rfl (yac rfl rfl) rfl) rfl (rl_p (yab rfl (yac rfl rfl) rfl) rfl (zq (yao (v := (.bool (true))) rfl rfl) (zq (za (.bool (true))) (yaa (yaq rfl (zs (zq (za (ii 2)) (yaa (yah rfl rfl ⟨_, rfl, (hS.sel [] (by decide)), h⟩)))))))))))))))))))))))
    · replace h := h.2 hp; exact zd hp (yaH rfl (zs (zq (za (ii 0)) (yaa (yah rfl rfl ⟨_, rfl, (hS.sel [] (by decide)), h⟩)))))
  clear hJ; intro j; refine zr (zq (yam rfl underlying24 rfl yaj) (zq (zl underlying3 (Row.cell (hS.bx 1 rfl) (i := 0) rfl)) (zq zL (zq (zm (.bool (decide (d < 1)))) ?_)))); by_cases hp8 : d < 1
  · replace h := h.1 hp8; exact rl_p (yab rfl (yac rfl (congrArg Value.bool (decide_eq_true hp8))) rfl) rfl (rl_p (yab rfl (yac rfl (congrArg Value.bool (decide_eq_true hp8))) rfl) rfl (rl_p (yab rfl (yac rfl (congrArg Value.bool (decide_eq_true hp8))) rfl) rfl (zq (yao (v := (.bool (true))) (congrArg Value.bool (decide_eq_true hp8)) rfl) (yaa (yaq rfl (zs (zq (za (ii 2)) (yaa (yah rfl rfl ⟨_, rfl, (hS.sel [] (by decide)), h⟩)))))))))
  · replace h := h.2 hp8; refine rl_q (yad rfl (yac rfl (congrArg Value.bool (decide_eq_false hp8)))) rfl rfl (yam rfl underlying24 rfl yaj) (rl_q (yad rfl (yac rfl (congrArg Value.bool (decide_eq_false hp8)))) rfl rfl (zl underlying3 (Row.cell (hS.bx 1 rfl) (i := 0) rfl)) (rl_q (yad rfl (yac rfl (congrArg Value.bool (decide_eq_false hp8)))) rfl rfl zG (zq (yap (v := (.bool (decide (12 < d)))) (congrArg Value.bool (decide_eq_false hp8)) rfl) (yaa ?_)))); by_cases hp9 : 12 < d
    · replace h := h.1 hp9; exact zc hp9 (zs (zq (za (ii 2)) (yaa (yah rfl rfl ⟨_, rfl, (hS.sel [] (by decide)), h⟩))))
    · replace h := h.2 hp9; exact zd hp9 (yag (j _ _ _ ⟨h, rfl, rfl, (hS.sel [1, 0] (by decide))⟩))
def yhV (g : Int) (g2 : List E3) (d : List Int) (R : Int → Prop) : Prop :=
yh4 g g2 (fun r =>
((r = 0 →
ybZ d g (fun r2 =>
R r2)) ∧
(¬ (r = 0) →
R r)))
theorem yit {O : Nat → Prop} {w : World} {g g2 d Ag lg cg Ad ld cd} {R : Int → Prop} (h : yhV g g2 d R) (hO : ∀ k, O k → k < w.heap.size) (hA0 : (FP.sl c3 Ag lg cg g2).P O w) (hA1 : (FP.sl cI Ad ld cd d).P O w) :
    Calls Tryz.prog 86 #[(.agg #[(ii g), (.slice Ag lg cg)]), (.slice Ad ld cd)] w fun e w' => ∃ r3, e = .returned (ii r3) ∧ Sep w no O w' (rl []) ∧ R r3 := by
  unfold yhV at h; have hS : Sep w no O w (rl [Res.ro (FP.sl c3 Ag lg cg g2), Res.ro (FP.sl cI Ad ld cd d)]) := Sep.startl hO [(FP.sl c3 Ag lg cg g2), (FP.sl cI Ad ld cd d)] ⟨hA0, hA1, trivial⟩; refine yan (l := [(.agg #[(ii g), (.slice Ag lg cg)]), (.slice Ad ld cd)]) func86 rfl ntmps86 (Nat.le_of_ble_eq_true rfl) (zs (zn (yb6 (v := (.agg #[(ii g), (.slice Ag lg cg)])) rfl ?_))); intro g3 w2 hN; replace hS : Sep w no O w2 (stl _ 2 (Res.box 24 g3 [(ii g), (.slice Ag lg cg)])) := hS.new 2 rfl hN; clear hN; refine zb (zq (za (ii 0)) (yaa (yaf (zs (zq (yav (vs := [(ii g), (.slice Ag lg cg)]) rfl underlying24 rfl yas ⟨Row.cell (hS.bx 2 rfl) (i := 0) rfl, Row.cell (hS.bx 2 rfl) (i := 1) rfl, trivial⟩) (zn (yal rfl (am1 rfl) ynf ((yiV h (yaN _) (hS.rdr 0 rfl)).mono ?_)))))))); rintro _ w3 ⟨r, rfl, hC, h⟩; replace hS := hS.pur hC.pure; clear hC; refine ⟨_, rfl, ?_⟩; refine zb (zq (za (ii r)) (yaa (zs (zq (zm (ii r)) (zq zN (yaa ?_)))))); by_cases hp : r = 0
  · replace h := h.1 hp; refine ze hp (yag (zs (zq (zm (.slice Ad ld cd)) (zq (yam rfl underlying24 rfl yaj) (zq (zl underlying3 (Row.cell (hS.bx 2 rfl) (i := 0) rfl)) (zn (yal rfl (am2 rfl rfl) yfB ((yeP h (yaN _) (hS.rdr 1 rfl)).mono ?_)))))))); rintro _ w4 ⟨r2, rfl, hC, h⟩; replace hS := hS.pur hC.pure; clear hC; refine ⟨_, rfl, ?_⟩; exact zb (zq (za (ii r2)) (yaa (yah rfl rfl ⟨_, rfl, (hS.sel [] (by decide)), h⟩)))
  · replace h := h.2 hp; exact zf hp (zs (zq (zm (ii r)) (zq (za (ii r)) (yaa (yah rfl rfl ⟨_, rfl, (hS.sel [] (by decide)), h⟩)))))
def yh7 (g : Int) (g2 : List E3) (s : List Int) (R : Int → Prop) : Prop :=
yhV g g2 s (fun r =>
R r)
theorem yiP {O : Nat → Prop} {w : World} {g g2 s Ag lg cg As ls cs} {R : Int → Prop} (h : yh7 g g2 s R) (hO : ∀ k, O k → k < w.heap.size) (hA0 : (FP.sl c3 Ag lg cg g2).P O w) (hA1 : (FP.sl cI As ls cs s).P O w) :
    Calls Tryz.prog 87 #[(.agg #[(ii g), (.slice Ag lg cg)]), (.slice As ls cs)] w fun e w' => ∃ r2, e = .returned (ii r2) ∧ Sep w no O w' (rl []) ∧ R r2 := by
  unfold yh7 at h; have hS : Sep w no O w (rl [Res.ro (FP.sl c3 Ag lg cg g2), Res.ro (FP.sl cI As ls cs s)]) := Sep.startl hO [(FP.sl c3 Ag lg cg g2), (FP.sl cI As ls cs s)] ⟨hA0, hA1, trivial⟩; refine yan (l := [(.agg #[(ii g), (.slice Ag lg cg)]), (.slice As ls cs)]) func87 rfl ntmps87 (Nat.le_of_ble_eq_true rfl) (zs (zn (yb6 (v := (.agg #[(ii g), (.slice Ag lg cg)])) rfl ?_))); intro g3 w2 hN; replace hS : Sep w no O w2 (stl _ 2 (Res.box 24 g3 [(ii g), (.slice Ag lg cg)])) := hS.new 2 rfl hN; clear hN; refine zb (zq (za (ii 0)) (yaa (zs (zq (yav (vs := [(ii g), (.slice Ag lg cg)]) rfl underlying24 rfl yas ⟨Row.cell (hS.bx 2 rfl) (i := 0) rfl, Row.cell (hS.bx 2 rfl) (i := 1) rfl, trivial⟩) (zq (zm (.slice As ls cs)) (zn (yal rfl (am2 rfl rfl) enter_86 ((yit h (yaN _) (hS.rdr 0 rfl) (hS.rdr 1 rfl)).mono ?_)))))))); rintro _ w3 ⟨r, rfl, hC, h⟩; replace hS := hS.pur hC.pure; clear hC; refine ⟨_, rfl, ?_⟩; exact zb (zq (za (ii r)) (yaa (yah rfl rfl ⟨_, rfl, (hS.sel [] (by decide)), h⟩)))
def yhY (k : Int) (R : Bool → Prop) : Prop :=
((k < (-1048576) →
R true) ∧
(¬ (k < (-1048576)) →
R (decide (1048576 < k))))
theorem yiB {O : Nat → Prop} {w : World} {k} {R : Bool → Prop} (h : yhY k R) (hO : ∀ k, O k → k < w.heap.size) :
    Calls Tryz.prog 152 #[(ii k)] w fun e w' => ∃ r, e = .returned (.bool (r)) ∧ Sep w no O w' (rl []) ∧ R r := by
  unfold yhY at h; have hS : Sep w no O w (rl []) := Sep.start w hO; refine yan (l := [(ii k)]) func152 rfl ntmps152 (Nat.le_of_ble_eq_true rfl) (zs (zq (za (.bool (false))) (yaa (zs (zq (zm (ii k)) (zq zL (zq (zm (.bool (decide (k < (-1048576))))) ?_))))))); by_cases hp : k < (-1048576)
  · replace h := h.1 hp; exact rl_p (yab rfl (yac rfl (congrArg Value.bool (decide_eq_true hp))) rfl) rfl (rl_p (yab rfl (yac rfl (congrArg Value.bool (decide_eq_true hp))) rfl) rfl (zq (yao (v := (.bool (true))) (congrArg Value.bool (decide_eq_true hp)) rfl) (zq (za (.bool (true))) (yaa (yah rfl rfl ⟨_, rfl, (hS.sel [] (by decide)), h⟩)))))
  · replace h := h.2 hp; exact rl_q (yad rfl (yac rfl (congrArg Value.bool (decide_eq_false hp)))) rfl rfl (zm (ii k)) (rl_q (yad rfl (yac rfl (congrArg Value.bool (decide_eq_false hp)))) rfl rfl zG (zq (yap (v := (.bool (decide (1048576 < k)))) (congrArg Value.bool (decide_eq_false hp)) rfl) (zq (za (.bool (decide (1048576 < k)))) (yaa (yah rfl rfl ⟨_, rfl, (hS.sel [] (by decide)), h⟩)))))
def yhW (d : List Int) (R : (List Int) → Int → Prop) : Prop :=
yhD d (fun x R => yhY x R) (fun r =>
((r = true →
R ([]) 11) ∧
(¬ (r = true) →
R d 0)))
theorem yiI {O : Nat → Prop} {w : World} {d Ad ld cd} {R : (List Int) → Int → Prop} (h : yhW d R) (hO : ∀ k, O k → k < w.heap.size) (hA0 : (FP.sl cI Ad ld cd d).P O w) :
    Calls Tryz.prog 88 #[(.slice Ad ld cd)] w fun e w' => ∃ r2 r3 Ar lr cr, e = .returned (.tuple #[(.slice Ar lr cr), (ii r3)]) ∧ Sep w no O w' (rl [Res.ro (FP.sl cI Ar lr cr r2)]) ∧ R r2 r3 := by
  unfold yhW at h; have hS : Sep w no O w (rl [Res.ro (FP.sl cI Ad ld cd d)]) := Sep.startl hO [(FP.sl cI Ad ld cd d)] ⟨hA0, trivial⟩; refine yan (l := [(.slice Ad ld cd)]) func88 rfl ntmps88 (Nat.le_of_ble_eq_true rfl) (zs (zq (za (.slice none 0 0)) (zq (za (ii 0)) (yaa (yaf (zs (zq (zm (.slice Ad ld cd)) (zn (yal rfl (am2 rfl rfl) enter_151 ((yh8 h (yaN _) (hS.rdr 0 rfl) (fun w' hk => ⟨152, #[], rfl, enter_152, fun x R hF => ybp (by simp) (yiB hF (yaN _))⟩)).mono ?_)))))))))); rintro _ w2 ⟨r, rfl, hC, h⟩; replace hS := hS.pur hC.pure; clear hC; refine ⟨_, rfl, ?_⟩; refine zb (yaa ?_); by_cases hp : r = true
  · replace h := h.1 hp; refine yaq (congrArg Value.bool hp) (zs (zq (za (.slice none 0 0)) (zq (za (ii 11)) (yaa ?_)))); replace hS := hS.addro 1 rfl _ (yhk cI _ _); exact ybF rfl rfl rfl ⟨_, _, _, _, _, rfl, (hS.sel [1] (by decide)), h⟩
  · replace h := h.2 hp; exact yax (congrArg Value.bool (Bool.eq_false_iff.2 hp)) (yag (zs (zq (zm (.slice Ad ld cd)) (zq (za (.slice Ad ld cd)) (zq (za (ii 0)) (yaa (ybF rfl rfl rfl ⟨_, _, _, _, _, rfl, (hS.sel [0] (by decide)), h⟩)))))))
def yhT (x : Int) (x2 : Int) (x3 : Int) (cap : List Int) (cap2 : List Int) (R : (List Int) → Prop) : Prop :=
((0 ≤ x ∧ x < ((cap.length : Nat) : Int)) ∧
((0 ≤ x2 ∧ x2 < ((cap.length : Nat) : Int)) ∧
(In64 ((gi cap x.toNat) - (gi cap x2.toNat)) ∧
(In64 (x3 * ((gi cap x.toNat) - (gi cap x2.toNat))) ∧
((0 ≤ x ∧ x < ((cap2.length : Nat) : Int)) ∧
(In64 ((gi cap2 x.toNat) - (x3 * ((gi cap x.toNat) - (gi cap x2.toNat)))) ∧
((0 ≤ x2 ∧ x2 < (((cap2.set x.toNat ((gi cap2 x.toNat) - (x3 * ((gi cap x.toNat) - (gi cap x2.toNat))))).length : Nat) : Int)) ∧
(In64 ((gi (cap2.set x.toNat ((gi cap2 x.toNat) - (x3 * ((gi cap x.toNat) - (gi cap x2.toNat))))) x2.toNat) + (x3 * ((gi cap x.toNat) - (gi cap x2.toNat)))) ∧
R ((cap2.set x.toNat ((gi cap2 x.toNat) - (x3 * ((gi cap x.toNat) - (gi cap x2.toNat))))).set x2.toNat ((gi (cap2.set x.toNat ((gi cap2 x.toNat) - (x3 * ((gi cap x.toNat) - (gi cap x2.toNat))))) x2.toNat) + (x3 * ((gi cap x.toNat) - (gi cap x2.toNat)))))))))))))
theorem yiA {S O : Nat → Prop} {w : World} {x x2 x3 cap cap2 gc Acap lcap ccap gc2 Acap2 lcap2 ccap2} {R : (List Int) → Prop} (h : yhT x x2 x3 cap cap2 R) (hS : Sep w S O w (rl [Res.box 36 gc [(Value.slice Acap lcap ccap)], Res.ro (FP.sl cI Acap lcap ccap cap), Res.box 26 gc2 [(Value.slice Acap2 lcap2 ccap2)], Res.own cI 3 Acap2 lcap2 ccap2 cap2])) :
    Calls Tryz.prog 153 #[(.agg #[(ii x), (ii x2), (ii x3)]), (.pointer (some (⟨gc, 0, none⟩ : Addr))), (.pointer (some (⟨gc2, 0, none⟩ : Addr)))] w fun e w' => ∃ z, e = .returned (.tuple #[]) ∧ Sep w S O w' (rl [Res.box 36 gc [(.slice Acap lcap ccap)], Res.box 26 gc2 [(.slice Acap2 lcap2 ccap2)], Res.own cI 3 Acap2 lcap2 ccap2 z]) ∧ R z := by
  unfold yhT at h; refine yan (l := [(.agg #[(ii x), (ii x2), (ii x3)]), (.pointer (some (⟨gc, 0, none⟩ : Addr))), (.pointer (some (⟨gc2, 0, none⟩ : Addr)))]) func153 rfl ntmps153 (Nat.le_of_ble_eq_true rfl) (zs (zn (yb6 (v := (.agg #[(ii x), (ii x2), (ii x3)])) rfl ?_))); intro g w2 hN; replace hS : Sep w S O w2 (stl _ 4 (Res.box 95 g [(ii x), (ii x2), (ii x3)])) := hS.new 4 rfl hN; clear hN; refine zb (yaa (yaf (ybt [0, 1, 2, 3, 4, 5, 6, 7, 8, 9, 10, 11, 12, 13, 14] st0 yaQ (by kernel_rfl) (by kernel_rfl) ?_))); replace hS := hS.drew; refine zp (yam rfl underlying95 rfl yaj) (zp (zl underlying3 (Row.cell (hS.bx 4 rfl) (i := 2) rfl)) (zp (zl underlying36 (Row.cell (hS.bx 0 rfl) (i := 0) rfl)) (zp (yam rfl underlying95 rfl yaj) (zp (zl underlying3 (Row.cell (hS.bx 4 rfl) (i := 0) rfl)) ?_)))); obtain ⟨hx, h⟩ := h; refine zp (zi underlying36 yaj (ybh (hS.rdr 1 rfl) hx)) (zp (yaA (v := (ii (gi cap x.toNat))) rfl underlying3 rfl (rd_1 (hS.rdr 1 rfl) hx (fun q => ybs q) rfl)) ?_); refine zp (zl underlying36 (Row.cell (hS.bx 0 rfl) (i := 0) rfl)) (zp (yam rfl underlying95 rfl yaj) (zp (zl underlying3 (Row.cell (hS.bx 4 rfl) (i := 1) rfl)) ?_)); obtain ⟨hx2, h⟩ := h; refine zp (zi underlying36 yaj (ybh (hS.rdr 1 rfl) hx2)) (zp (yaA (v := (ii (gi cap x2.toNat))) rfl underlying3 rfl (rd_1 (hS.rdr 1 rfl) hx2 (fun q => ybs q) rfl)) ?_); obtain ⟨hi, h⟩ := h; refine zp (zS hi) ?_; obtain ⟨hi2, h⟩ := h; refine zp (v_mul rfl rfl hi2) (zp (za (ii (x3 * ((gi cap x.toNat) - (gi cap x2.toNat))))) (yb4 (zs (zq (zl underlying26 (Row.cell (hS.bx 2 rfl) (i := 0) rfl)) (zq (yam rfl underlying95 rfl yaj) (zq (zl underlying3 (Row.cell (hS.bx 4 rfl) (i := 0) rfl)) ?_)))))); obtain ⟨hx3, h⟩ := h; refine zq (zi underlying26 yaj (ybh (hS.rdo 3 rfl) hx3)) (zq (yaA (v := (ii (gi cap2 x.toNat))) rfl underlying3 rfl (rd_1 (hS.rdo 3 rfl) hx3 (fun q => ybs q) rfl)) ?_); refine zq (zm (ii (x3 * ((gi cap x.toNat) - (gi cap x2.toNat))))) ?_; obtain ⟨hi3, h⟩ := h; refine zq (zS hi3) (zq (zi underlying26 yaj (ybh (hS.rdo 3 rfl) hx3)) (zo (zt (ii ((gi cap2 x.toNat) - (x3 * ((gi cap x.toNat) - (gi cap x2.toNat))))) yaj (hS.wr 3 rfl rfl hx3) ?_))); intro w3 e1; replace hS := hS.st 3 rfl rfl hx3 (x := (gi cap2 x.toNat) - (x3 * ((gi cap x.toNat) - (gi cap x2.toNat)))) rfl e1; clear e1; refine zb (yaa (zr (zq (zl underlying26 (Row.cell (hS.bx 2 rfl) (i := 0) rfl)) (zq (yam rfl underlying95 rfl yaj) (zq (zl underlying3 (Row.cell (hS.bx 4 rfl) (i := 1) rfl)) ?_))))); obtain ⟨hx4, h⟩ := h; refine zq (zi underlying26 yaj (ybh (hS.rdo 3 rfl) hx4)) (zq (yaA (v := (ii (gi (cap2.set x.toNat ((gi cap2 x.toNat) - (x3 * ((gi cap x.toNat) - (gi cap x2.toNat))))) x2.toNat))) rfl underlying3 rfl (rd_1 (hS.rdo 3 rfl) hx4 (fun q => ybs q) rfl)) ?_); refine zq (zm (ii (x3 * ((gi cap x.toNat) - (gi cap x2.toNat))))) ?_; obtain ⟨hi4, h⟩ := h; refine zq (zA hi4) (zq (zi underlying26 yaj (ybh (hS.rdo 3 rfl) hx4)) (zo (zt (ii ((gi (cap2.set x.toNat ((gi cap2 x.toNat) - (x3 * ((gi cap x.toNat) - (gi cap x2.toNat))))) x2.toNat) + (x3 * ((gi cap x.toNat) - (gi cap x2.toNat))))) yaj (hS.wr 3 rfl rfl hx4) ?_))); intro w4 e1; replace hS := hS.st 3 rfl rfl hx4 (x := (gi (cap2.set x.toNat ((gi cap2 x.toNat) - (x3 * ((gi cap x.toNat) - (gi cap x2.toNat))))) x2.toNat) + (x3 * ((gi cap x.toNat) - (gi cap x2.toNat)))) rfl e1; clear e1; exact zb (yaa (yew rfl ⟨_, rfl, (hS.sel [0, 2, 3] (by decide)), h⟩))
def yh3 (g : Int) (g2 : List E3) (d : List Int) (s : List Int) (R : (List Int) → Prop) : Prop :=
yaM d (fun r =>
(∃ I2 : Nat → Int → (List Int) → Prop, (∃ m0, I2 m0 0 r) ∧ ∀ m2 v out, I2 m2 v out → 
((v < ((g2.length : Nat) : Int) →
((0 ≤ v ∧ v < ((g2.length : Nat) : Int)) ∧
yhT ((ge g2 v.toNat).1) ((ge g2 v.toNat).2.1) ((ge g2 v.toNat).2.2) s out (fun y =>
(In64 (v + 1) ∧
∃ m3, m3 < m2 ∧ I2 m3 (v + 1) y)))) ∧
(¬ (v < ((g2.length : Nat) : Int)) →
R out))))
theorem yiL {O : Nat → Prop} {w : World} {g g2 d s Ag lg cg Ad ld cd As ls cs} {R : (List Int) → Prop} (h : yh3 g g2 d s R) (hO : ∀ k, O k → k < w.heap.size) (hA0 : (FP.sl c3 Ag lg cg g2).P O w) (hA1 : (FP.sl cI Ad ld cd d).P O w) (hA2 : (FP.sl cI As ls cs s).P O w) :
    Calls Tryz.prog 89 #[(.agg #[(ii g), (.slice Ag lg cg)]), (.slice Ad ld cd), (.slice As ls cs)] w fun e w' => ∃ r2 Ar2 lr2 cr2, e = .returned (.slice Ar2 lr2 cr2) ∧ Sep w no O w' (rl [Res.own cI 3 Ar2 lr2 cr2 r2]) ∧ R r2 := by
  unfold yh3 at h; have hS : Sep w no O w (rl [Res.ro (FP.sl c3 Ag lg cg g2), Res.ro (FP.sl cI Ad ld cd d), Res.ro (FP.sl cI As ls cs s)]) := Sep.startl hO [(FP.sl c3 Ag lg cg g2), (FP.sl cI Ad ld cd d), (FP.sl cI As ls cs s)] ⟨hA0, hA1, hA2, trivial⟩; refine yan (l := [(.agg #[(ii g), (.slice Ag lg cg)]), (.slice Ad ld cd), (.slice As ls cs)]) func89 rfl ntmps89 (Nat.le_of_ble_eq_true rfl) (zs (zn (yb6 (v := (.agg #[(ii g), (.slice Ag lg cg)])) rfl ?_))); intro g3 w2 hN; replace hS : Sep w no O w2 (stl _ 3 (Res.box 24 g3 [(ii g), (.slice Ag lg cg)])) := hS.new 3 rfl hN; clear hN; refine zb (zn (yb6 (v := (.slice As ls cs)) rfl ?_)); intro g4 w3 hN; replace hS : Sep w no O w3 (stl _ 4 (Res.box 36 g4 [(.slice As ls cs)])) := hS.new 4 rfl hN; clear hN; refine zb (zq (za (.slice none 0 0)) (yaa (zs (zq (zm (.slice Ad ld cd)) (zn (yal rfl (am1 rfl) ynY ((ycB h (yaN _) (hS.rdr 1 rfl)).mono ?_))))))); rintro _ w4 ⟨r, Ar, lr, cr, rfl, hC, h⟩; replace hS := hS.call1 (hC.widen (yea (ybl (fI .i64) _ _ _ _ _) ye0) hS.blt) 5 0 rfl; clear hC; refine ⟨_, rfl, ?_⟩; refine zb (zn (ybJ ya0 ?_)); intro g5 w5 hN; replace hS : Sep w no O w5 (stl _ 6 (Res.box 26 g5 [(.slice none 0 0)])) := hS.new 6 rfl hN; clear hN; refine zb (zo (zt (.slice Ar lr cr) ya0 (hS.bwr 6 rfl (j := 0) rfl) ?_)); intro w6 e1; replace hS := hS.bst 6 rfl 0 (.slice Ar lr cr) e1; clear e1; refine zb (yaa (zs (zq (yfd (am0) (am2 rfl rfl)) (zq (za (.func (Fn.func 153) #[] #[(.pointer (some (⟨g4, 0, none⟩ : Addr))), (.pointer (some (⟨g5, 0, none⟩ : Addr)))])) (yaa (yaf (zs (zq (yam rfl underlying24 rfl ydy) (zq (zl underlying22 (Row.cell (hS.bx 3 rfl) (i := 1) rfl)) (zq (ybc (n := g2.length) rfl underlying22 (ya2 (hS.rdr 0 rfl))) (zq (zm (ii 0)) (yaa (yak ?_))))))))))))); obtain ⟨I2, ⟨m0, h0⟩, hr⟩ := h; refine yaO (fun m E ds w' => ∃ v out Aout lout cout, I2 m v out ∧ ds = [] ∧ E 7 = (Value.pointer (some (⟨g5, 0, none⟩ : Addr))) ∧ E 8 = (Value.func (Fn.func 153) #[] #[(.pointer (some (⟨g4, 0, none⟩ : Addr))), (.pointer (some (⟨g5, 0, none⟩ : Addr)))]) ∧ E 15 = (Value.slice Ag lg cg) ∧ E 16 = (ii ((g2.length : Nat) : Int)) ∧ E 17 = (ii v) ∧ Sep w no O w' (rl [Res.box 26 g5 [(.slice Aout lout cout)], Res.own cI 3 Aout lout cout out, Res.box 36 g4 [(.slice As ls cs)], Res.ro (FP.sl cI As ls cs s), Res.ro (FP.sl c3 Ag lg cg g2)])) m0 ⟨_, _, _, _, _, h0, rfl, rfl, rfl, rfl, rfl, rfl, (hS.sel [6, 5, 4, 2, 0] (by decide))⟩ ?_; clear h0 hS; rintro m2 E ds w7 ⟨v, out, Aout, lout, cout, h, rfl, hE7, hE8, hE15, hE16, hE17, hS⟩ again; replace h := hr m2 v out h; clear hr; refine zs (zq (yd4 hE17 hE16) (yaa (yaf ?_))); by_cases hp : v < ((g2.length : Nat) : Int)
  · replace h := h.1 hp; refine zc hp (yag (yaf (yak (zs ?_)))); obtain ⟨hx, h⟩ := h; refine zq (yeK hE15 hE17 underlying22 ybf (ybh (hS.rdr 4 rfl) hx)) (zq (yav (vs := [(ii ((ge g2 v.toNat).1)), (ii ((ge g2 v.toNat).2.1)), (ii ((ge g2 v.toNat).2.2))]) rfl underlying95 rfl ybf (yn2 (hS.rdr 4 rfl) hx (fun q => yd6 q))) ?_); refine zn (ybJ ybf ?_); intro g6 w8 hN; replace hS : Sep w no O w8 (stl _ 5 (Res.box 95 g6 [(ii 0), (ii 0), (ii 0)])) := hS.new 5 rfl hN; clear hN; refine zb (zo (yeb (b := g6) (o := 0) (cells := #[(ii ((ge g2 v.toNat).1)), (ii ((ge g2 v.toNat).2.1)), (ii ((ge g2 v.toNat).2.2))]) rfl rfl ybf rfl rfl (yc7 (hS.bx 5 rfl) (Nat.le_of_ble_eq_true rfl)) ?_)); intro w9 e1; replace hS := hS.bstn 5 rfl 0 [(ii ((ge g2 v.toNat).1)), (ii ((ge g2 v.toNat).2.1)), (ii ((ge g2 v.toNat).2.2))] e1; clear e1; refine zb (yaa (zr (zq (yae (v := (Value.func (Fn.func 153) #[] #[(.pointer (some (⟨g4, 0, none⟩ : Addr))), (.pointer (some (⟨g5, 0, none⟩ : Addr)))])) hE8) (zq (yav (vs := [(ii ((ge g2 v.toNat).1)), (ii ((ge g2 v.toNat).2.1)), (ii ((ge g2 v.toNat).2.2))]) rfl underlying95 rfl ybf ⟨Row.cell (hS.bx 5 rfl) (i := 0) rfl, Row.cell (hS.bx 5 rfl) (i := 1) rfl, Row.cell (hS.bx 5 rfl) (i := 2) rfl, trivial⟩) ?_)))); have hB := hS.lend (asc [(2, 0), (0, 1), (1, 2)]) [2, 3, 0, 1] (by decide) ⟨.inl (ycu rfl), .inr rfl, .inl (ycu rfl), .inl (ycu rfl), trivial⟩; refine zn (yeH (vs := #[(.agg #[(ii ((ge g2 v.toNat).1)), (ii ((ge g2 v.toNat).2.1)), (ii ((ge g2 v.toNat).2.2))])]) (us := #[(.pointer (some (⟨g4, 0, none⟩ : Addr))), (.pointer (some (⟨g5, 0, none⟩ : Addr)))]) rfl (am1 rfl) enter_153 ((ybp (by simp) (yiA h hB)).mono ?_)); rintro _ w10 ⟨y, rfl, hC, h⟩; replace hS := hS.back (asc [(2, 0), (0, 1), (1, 2)]) (yfu (by decide)) hC; clear hC hB; refine ⟨_, rfl, ?_⟩; refine zb (yaa (yai (zr ?_))); obtain ⟨hi, h⟩ := h; refine zq (ycv hE17 rfl hi) (zq (zm (ii (v + 1))) (yaa ?_)); obtain ⟨mq, hlt, h⟩ := h; exact again mq _ _ _ ⟨_, _, _, _, _, h, rfl, hE7, hE8, hE15, hE16, rfl, (hS.sel [0, 1, 2, 3, 4] (by decide))⟩ hlt
  · replace h := h.2 hp; exact zd hp (yaH rfl (zs (zq (yaA hE7 underlying26 rfl (Row.cell (hS.bx 0 rfl) (i := 0) rfl)) (zq (za (.slice Aout lout cout)) (yaa (yah rfl rfl ⟨_, _, _, _, rfl, (hS.sel [1] (by decide)), h⟩))))))
def yh1 (g : Int) (g2 : List E3) (d : List Int) (s : List Int) (R : (List Int) → Int → Prop) : Prop :=
yhV g g2 d (fun r =>
((r = 0 →
yh7 g g2 s (fun r2 =>
((r2 = 0 →
yh3 g g2 d s (fun r3 =>
yhW r3 (fun r4 r5 =>
R r4 r5))) ∧
(¬ (r2 = 0) →
R ([]) r2)))) ∧
(¬ (r = 0) →
R ([]) r)))
theorem yiK {O : Nat → Prop} {w : World} {g g2 d s Ag lg cg Ad ld cd As ls cs} {R : (List Int) → Int → Prop} (h : yh1 g g2 d s R) (hO : ∀ k, O k → k < w.heap.size) (hA0 : (FP.sl c3 Ag lg cg g2).P O w) (hA1 : (FP.sl cI Ad ld cd d).P O w) (hA2 : (FP.sl cI As ls cs s).P O w) :
    Calls Tryz.prog 30 #[(.agg #[(ii g), (.slice Ag lg cg)]), (.slice Ad ld cd), (.slice As ls cs)] w fun e w' => ∃ r6 r7 Ar3 lr3 cr3, e = .returned (.tuple #[(.slice Ar3 lr3 cr3), (ii r7)]) ∧ Sep w no O w' (rl [Res.ro (FP.sl cI Ar3 lr3 cr3 r6)]) ∧ R r6 r7 := by
  unfold yh1 at h; have hS : Sep w no O w (rl [Res.ro (FP.sl c3 Ag lg cg g2), Res.ro (FP.sl cI Ad ld cd d), Res.ro (FP.sl cI As ls cs s)]) := Sep.startl hO [(FP.sl c3 Ag lg cg g2), (FP.sl cI Ad ld cd d), (FP.sl cI As ls cs s)] ⟨hA0, hA1, hA2, trivial⟩; refine yan (l := [(.agg #[(ii g), (.slice Ag lg cg)]), (.slice Ad ld cd), (.slice As ls cs)]) func30 rfl ntmps30 (Nat.le_of_ble_eq_true rfl) (zs (zn (yb6 (v := (.agg #[(ii g), (.slice Ag lg cg)])) rfl ?_))); intro g3 w2 hN; replace hS : Sep w no O w2 (stl _ 3 (Res.box 24 g3 [(ii g), (.slice Ag lg cg)])) := hS.new 3 rfl hN; clear hN; refine zb (zq (za (.slice none 0 0)) (zq (za (ii 0)) (yaa (yaf (zs (zq (yav (vs := [(ii g), (.slice Ag lg cg)]) rfl underlying24 rfl yas ⟨Row.cell (hS.bx 3 rfl) (i := 0) rfl, Row.cell (hS.bx 3 rfl) (i := 1) rfl, trivial⟩) (zq (zm (.slice Ad ld cd)) (zn (yal rfl (am2 rfl rfl) enter_86 ((yit h (yaN _) (hS.rdr 0 rfl) (hS.rdr 1 rfl)).mono ?_)))))))))); rintro _ w3 ⟨r, rfl, hC, h⟩; replace hS := hS.pur hC.pure; clear hC; refine ⟨_, rfl, ?_⟩; refine zb (zq (za (ii r)) (yaa (zs (zq (zm (ii r)) (zq zN (yaa ?_)))))); by_cases hp : r = 0
  · replace h := h.1 hp; refine ze hp (yag (yaf (zs (zq (yav (vs := [(ii g), (.slice Ag lg cg)]) rfl underlying24 rfl yas ⟨Row.cell (hS.bx 3 rfl) (i := 0) rfl, Row.cell (hS.bx 3 rfl) (i := 1) rfl, trivial⟩) (zq (zm (.slice As ls cs)) (zn (yal rfl (am2 rfl rfl) enter_87 ((yiP h (yaN _) (hS.rdr 0 rfl) (hS.rdr 2 rfl)).mono ?_)))))))); rintro _ w4 ⟨r2, rfl, hC, h⟩; replace hS := hS.pur hC.pure; clear hC; refine ⟨_, rfl, ?_⟩; refine zb (zq (za (ii r2)) (yaa (zs (zq (zm (ii r2)) (zq zN (yaa ?_)))))); by_cases hp2 : r2 = 0
    · replace h := h.1 hp2; refine ze hp2 (yag (zs (zq (yav (vs := [(ii g), (.slice Ag lg cg)]) rfl underlying24 rfl yas ⟨Row.cell (hS.bx 3 rfl) (i := 0) rfl, Row.cell (hS.bx 3 rfl) (i := 1) rfl, trivial⟩) (zq (zm (.slice Ad ld cd)) (zq (zm (.slice As ls cs)) (zn (yal rfl (am3 rfl rfl rfl) enter_89 ((yiL h (yaN _) (hS.rdr 0 rfl) (hS.rdr 1 rfl) (hS.rdr 2 rfl)).mono ?_)))))))); rintro _ w5 ⟨r3, Ar, lr, cr, rfl, hC, h⟩; replace hS := hS.call1 (hC.widen (yea (ybl (fI .i64) _ _ _ _ _) ye0) hS.blt) 4 0 rfl; clear hC; refine ⟨_, rfl, ?_⟩; refine zb ?_; replace hS := hS.frz 4 rfl; refine zn (yal rfl (am1 rfl) enter_88 ((yiI h hS.blt (hS.ro 4 rfl)).mono ?_)); rintro _ w6 ⟨r4, r5, Ar2, lr2, cr2, rfl, hC, h⟩; replace hS := hS.call1 hC 5 0 rfl; clear hC; refine ⟨_, rfl, ?_⟩; exact zb (zq (zx (.slice Ar2 lr2 cr2)) (zq (zx (ii r5)) (zq (za (.slice Ar2 lr2 cr2)) (zq (za (ii r5)) (yaa (ybF rfl rfl rfl ⟨_, _, _, _, _, rfl, (hS.sel [5] (by decide)), h⟩))))))
    · replace h := h.2 hp2; refine zf hp2 (zs (zq (zm (ii r2)) (zq (za (.slice none 0 0)) (zq (za (ii r2)) (yaa ?_))))); replace hS := hS.addro 4 rfl _ (yhk cI _ _); exact ybF rfl rfl rfl ⟨_, _, _, _, _, rfl, (hS.sel [4] (by decide)), h⟩
  · replace h := h.2 hp; refine zf hp (zs (zq (zm (ii r)) (zq (za (.slice none 0 0)) (zq (za (ii r)) (yaa ?_))))); replace hS := hS.addro 4 rfl _ (yhk cI _ _); exact ybF rfl rfl rfl ⟨_, _, _, _, _, rfl, (hS.sel [4] (by decide)), h⟩
end Go.Proofs.YtncilechkclmbaaGreat

/- Pure forms of functions, made by program (pf.py), each with the proof that the code does so. -/
namespace Go.Proofs.YtncilechkclmbaaGreat
open Go Go.RowKit Go.Shelf Go.Proofs.Tryz
set_option linter.unusedVariables false
set_option maxRecDepth 100000
set_option maxHeartbeats 1000000
def yaW (g : Int) (g2 : List E3) (d : List Int) (R : Bool → (List Int) → (List Int) → Int → Prop) : Prop :=
ycV g g2 0 d (fun r r2 r3 =>
((r3 = 0 →
((0 ≤ (0 : Int) ∧ (0 : Int) < ((r.length : Nat) : Int)) ∧
R (decide (0 ≤ (gi r (0 : Int).toNat))) r r2 0)) ∧
(¬ (r3 = 0) →
R false ([]) ([]) r3)))
theorem yep {O : Nat → Prop} {w : World} {g g2 d Ag lg cg Ad ld cd} {R : Bool → (List Int) → (List Int) → Int → Prop} (h : yaW g g2 d R) (hO : ∀ k, O k → k < w.heap.size) (hA0 : (FP.sl c3 Ag lg cg g2).P O w) (hA1 : (FP.sl cI Ad ld cd d).P O w) :
    Calls Tryz.prog 19 #[(.agg #[(ii g), (.slice Ag lg cg)]), (.slice Ad ld cd)] w fun e w' => ∃ r4 r5 r6 r7 Ar3 lr3 cr3 Ar4 lr4 cr4, e = .returned (.tuple #[(.bool (r4)), (.slice Ar3 lr3 cr3), (.slice Ar4 lr4 cr4), (ii r7)]) ∧ Sep w no O w' (rl [Res.own cI 3 Ar3 lr3 cr3 r5, Res.own cI 3 Ar4 lr4 cr4 r6]) ∧ R r4 r5 r6 r7 := by
  unfold yaW at h; have hS : Sep w no O w (rl [Res.ro (FP.sl c3 Ag lg cg g2), Res.ro (FP.sl cI Ad ld cd d)]) := Sep.startl hO [(FP.sl c3 Ag lg cg g2), (FP.sl cI Ad ld cd d)] ⟨hA0, hA1, trivial⟩; refine yan (l := [(.agg #[(ii g), (.slice Ag lg cg)]), (.slice Ad ld cd)]) func19 rfl ntmps19 (Nat.le_of_ble_eq_true rfl) (zs (zn (yb6 (v := (.agg #[(ii g), (.slice Ag lg cg)])) rfl ?_))); intro g3 w2 hN; replace hS : Sep w no O w2 (stl _ 2 (Res.box 24 g3 [(ii g), (.slice Ag lg cg)])) := hS.new 2 rfl hN; clear hN; refine zb (zq (za (.bool (false))) (zq (za (.slice none 0 0)) (zq (za (.slice none 0 0)) (zq (za (ii 0)) (yaa (zs (zq (yav (vs := [(ii g), (.slice Ag lg cg)]) rfl underlying24 rfl yas ⟨Row.cell (hS.bx 2 rfl) (i := 0) rfl, Row.cell (hS.bx 2 rfl) (i := 1) rfl, trivial⟩) (zq (zm (.slice Ad ld cd)) (zn (yal rfl (am3 rfl rfl rfl) yiQ ((ydC h (yaN _) (hS.rdr 0 rfl) (hS.rdr 1 rfl)).mono ?_))))))))))); rintro _ w3 ⟨r, r2, r3, Ar, lr, cr, Ar2, lr2, cr2, rfl, hC, h⟩; replace hS := hS.call2 (hC.widen (yea (ybl (fI .i64) _ _ _ _ _) (yea (ybl (fI .i64) _ _ _ _ _) ye0)) hS.blt) 3 0 4 1 rfl rfl (by decide) (by decide); clear hC; refine ⟨_, rfl, ?_⟩; refine zb (zq (zm (.tuple #[(.slice Ar lr cr), (.slice Ar2 lr2 cr2), (ii r3)])) (zq (zx (.slice Ar lr cr)) (zq (zx (.slice Ar2 lr2 cr2)) (zq (zx (ii r3)) (zq (za (.slice Ar lr cr)) (zq (za (.slice Ar2 lr2 cr2)) (zq (za (ii r3)) (yaa (yaf (zs (zq (zm (ii r3)) (zq zN (yaa ?_))))))))))))); by_cases hp : r3 = 0
  · replace h := h.1 hp; refine ze hp (yag (zs (zq (zm (.slice Ar lr cr)) ?_))); obtain ⟨hx, h⟩ := h; refine zq (zi underlying26 yaj (ybh (hS.rdo 3 rfl) hx)) (zq (yaA (v := (ii (gi r (0 : Int).toNat))) rfl underlying3 rfl (rd_1 (hS.rdo 3 rfl) hx (fun q => ybs q) rfl)) ?_); exact zq (yiO rfl rfl) (zq (zm (.slice Ar lr cr)) (zq (zm (.slice Ar2 lr2 cr2)) (zq (za (.bool (decide (0 ≤ (gi r (0 : Int).toNat))))) (zq (za (.slice Ar lr cr)) (zq (za (.slice Ar2 lr2 cr2)) (zq (za (ii 0)) (yaa (wt_ret4 rfl rfl rfl rfl rfl ⟨_, _, _, _, _, _, _, _, _, _, rfl, (hS.sel [3, 4] (by decide)), h⟩))))))))
  · replace h := h.2 hp; refine zf hp (zs (zq (zm (ii r3)) (zq (za (.bool (false))) (zq (za (.slice none 0 0)) (zq (za (.slice none 0 0)) (zq (za (ii r3)) (yaa ?_))))))); replace hS := hS.nil 5 rfl cI 3; replace hS := hS.nil 6 rfl cI 3; exact wt_ret4 rfl rfl rfl rfl rfl ⟨_, _, _, _, _, _, _, _, _, _, rfl, (hS.sel [5, 6] (by decide)), h⟩
end Go.Proofs.YtncilechkclmbaaGreat

/- What the references' pure forms come to: connectedness, errors, scripts. -/
namespace Go.Proofs.YtncilechkclmbaaGreat
open Go Go.Proofs.Tryz
set_option linter.unusedVariables false
set_option linter.unusedSimpArgs false
section
variable {n : Nat} {es : List E3}
theorem p_r08_Reached {v : Nat} {R : List Bool → Prop} (hl : es.length ≤ 1000000000) (hg : yat n es = 0) (hv : v < n) (h : ∀ o : List Bool, o.length = n → (∀ u, u < n → gb o u = decide (root (yay es) u = root (yay es) v)) → R o) : ycq (n : Int) es (v : Int) R := by
  obtain ⟨hE, hn1, hn12⟩ := yc9 hg
  unfold ycq
  simp only [Int.toNat_natCast]
  refine ⟨by omega, by simp; omega, ?_⟩
  let Q : List Bool → Prop := fun o => o.length = n ∧ gb o v = true ∧ ∀ u, u < n → gb o u = true → root (yay es) u = root (yay es) v
  let Z : List Bool → List Bool → Prop := fun o0 o => (Cl n es o0 → o = o0) ∧ (o = o0 ∨ cf o < cf o0) ∧ ∀ a, gb o0 a = true → gb o a = true
  have hq4 : Q ((List.replicate n false).set v true) := by
    refine ⟨by simp, by rw [ydG (by simpa using hv), if_pos rfl], fun u hu h => ?_⟩
    rw [ydG (by simpa using hv)] at h
    split at h
    · rename_i e; rw [e]
    · rw [gb_rep] at h; cases h
  have hcf0 : cf ((List.replicate n false).set v true) + 1 = n := by
    rw [cf_set (by simpa using hv) (gb_rep n v)]
    unfold cf
    rw [List.filter_eq_self.2 (fun x hx => by rw [(List.mem_replicate.1 hx).2]; rfl)]
    simp
  have hsetQ : ∀ {o : List Bool} {b : Nat}, Q o → b < n → root (yay es) b = root (yay es) v → Q (o.set b true) := by
    rintro o b ⟨q1, q4, q5⟩ hb hr
    have hbl : b < o.length := by omega
    refine ⟨by simpa using q1, ?_, fun u hu h => ?_⟩
    · rw [ydG hbl]; split <;> first | rfl | exact q4
    · rw [ydG hbl] at h
      split at h
      · rename_i e; rw [e]; exact hr
      · exact q5 u hu h
  refine ⟨fun m i o => Cnt n (fun k => Q o ∧ (Cl n es o ∨ cf o + k + 1 ≤ n)) m i, Cnt.start ⟨hq4, .inr (by omega)⟩, ?_⟩
  rintro m _ o0 ⟨k, rfl, rfl, hk, hq5, hpr⟩
  refine ⟨fun hlt => ?_, fun hge => ?_⟩
  · refine ⟨fun m i o => Cnt n (fun a => Q o ∧ Z o0 o ∧ ∀ a', a' < a → gb o0 a' = true → ∀ b, b < n → 0 < W es a' b → gb o b = true) m i, Cnt.start ⟨hq5, ⟨fun _ => rfl, .inl rfl, fun _ h => h⟩, fun a' h => absurd h (by omega)⟩, ?_⟩
    rintro m _ o ⟨a, rfl, rfl, ha, hq6, hz, hdone⟩
    refine ⟨fun hlta => ?_, fun hgea => ?_⟩
    · refine ⟨fun m i o => Cnt n (fun b => Q o ∧ Z o0 o ∧ (∀ a', a' < a → gb o0 a' = true → ∀ b, b < n → 0 < W es a' b → gb o b = true) ∧ (gb o0 a = true → ∀ b', b' < b → 0 < W es a b' → gb o b' = true)) m i, Cnt.start ⟨hq6, hz, hdone, fun _ b' h => absurd h (by omega)⟩, ?_⟩
      clear hq6 hz hdone hq5
      rintro m _ o ⟨b, rfl, rfl, hb, hq7, hz, hdone, hnow⟩
      have hol := hq7.1
      refine ⟨fun hltb => ⟨by omega, fun hx => ?_, fun hx => Cnt.next (by omega) (by omega) ⟨hq7, hz, hdone, fun h => absurd (hz.2.2 a h) (by simpa using hx)⟩⟩, fun hgeb => ?_⟩
      · simp only [Int.toNat_natCast] at hx ⊢
        have hstep : (a ≠ b → 0 < W es a b) → Q (o.set b true) ∧ Z o0 (o.set b true) ∧ (∀ a', a' < a → gb o0 a' = true → ∀ b', b' < n → 0 < W es a' b' → gb (o.set b true) b' = true) ∧ (gb o0 a = true → ∀ b', b' < b + 1 → 0 < W es a b' → gb (o.set b true) b' = true) := by
          intro hW
          have hbl : b < o.length := by omega
          have hup : ∀ x, gb o x = true → gb (o.set b true) x = true := fun x h => by rw [ydG hbl]; split <;> first | rfl | exact h
          have hrb : root (yay es) b = root (yay es) v := by
            have h1 := hq7.2.2 a (by omega) hx
            by_cases eab : a = b
            · rw [← eab]; exact h1
            · rw [← root_W hE hn1 hn12 (hW eab)]; exact h1
          refine ⟨hsetQ hq7 (by omega) hrb, ⟨fun hcl => ?_, ?_, fun x h => hup x (hz.2.2 x h)⟩, fun a' h1 h2 b' h3 h4 => hup _ (hdone a' h1 h2 b' h3 h4), fun h1 b' h2 h3 => ?_⟩
          · have e0 := hz.1 hcl
            subst e0
            refine set_same ?_
            by_cases eab : a = b
            · rw [← eab]; exact hx
            · exact hcl a b (by omega) (by omega) hx (hW eab)
          · cases hob : gb o b with
            | true => rw [set_same hob]; exact hz.2.1
            | false =>
              have := cf_set hbl hob
              rcases hz.2.1 with h | h
              · right; rw [← h]; omega
              · right; omega
          · by_cases e2 : b' = b
            · subst e2; rw [ydG hbl, if_pos rfl]
            · exact hup _ (hnow h1 b' (by omega) h3)
        have hpass : ¬ 0 < W es a b → (gb o0 a = true → ∀ b', b' < b + 1 → 0 < W es a b' → gb o b' = true) := fun h h1 b' h2 h3 => by
          by_cases e2 : b' = b
          · subst e2; exact absurd h3 h
          · exact hnow h1 b' (by omega) h3
        by_cases eab : a = b
        · subst eab
          refine p_r08_Between' hl ⟨fun h => ⟨by omega, Cnt.next (by omega) (by omega) (hstep fun h => absurd rfl h)⟩, fun h => Cnt.next (by omega) (by omega) ⟨hq7, hz, hdone, hpass (by rw [show W es a a = 0 from ymP es a]; omega)⟩⟩
        · refine p_r08_Between hl hg eab ⟨fun h => ⟨by omega, Cnt.next (by omega) (by omega) (hstep fun _ => h)⟩, fun h => Cnt.next (by omega) (by omega) ⟨hq7, hz, hdone, hpass h⟩⟩
      · have hbn : b = n := by omega
        subst hbn
        refine Cnt.next (by omega) (by omega) ⟨hq7, hz, fun a' h1 h2 b' h3 h4 => ?_⟩
        by_cases e2 : a' = a
        · subst e2; exact hnow h2 b' h3 h4
        · exact hdone a' (by omega) h2 b' h3 h4
    · have han : a = n := by omega
      subst han
      refine Cnt.next (by omega) (by omega) ⟨hq6, ?_⟩
      by_cases hcl : Cl a es o0
      · rw [hz.1 hcl]; exact .inl hcl
      · rcases hz.2.1 with h | h
        · exfalso
          subst h
          exact hcl fun x y hx hy h1 h2 => hdone x hx h1 y hy h2
        · rcases hpr with h2 | h2
          · exact absurd h2 hcl
          · right; omega
  · have hkn : k = n := by omega
    subst hkn
    rcases hpr with q | q
    · exact h o0 hq5.1 (cl_root hE hn1 hn12 q hv hq5.2.1 hq5.2.2)
    · omega
theorem p_r08_Parts {R : Int → Prop} (hl : es.length ≤ 1000000000) (hg : yat n es = 0) (h : ∀ k : Int, (k = 1 ↔ yde n es = true) → R k) : ydc (n : Int) es R := by
  obtain ⟨hE, hn1, hn12⟩ := yc9 hg
  have hcr := conn_root hE hn1 hn12
  unfold ydc
  simp only [Int.toNat_natCast]
  refine ⟨by omega, ?_⟩
  refine ⟨fun m k i o => Cnt n (fun v => 0 ≤ k ∧ k ≤ v ∧ (v = 0 → k = 0) ∧ (0 < v → 1 ≤ k ∧ (k = 1 ↔ ∀ x, x < v → root (yay es) x = root (yay es) 0)) ∧ o.length = n ∧ (∀ u, u < n → (gb o u = true ↔ ∃ x, x < v ∧ root (yay es) u = root (yay es) x))) m i,
    Cnt.start ⟨by omega, by omega, fun _ => rfl, fun h => absurd h (by omega), by simp, fun u _ => by rw [gb_rep]; simp⟩, ?_⟩
  rintro m k _ o ⟨v, rfl, rfl, hv, k0, k1, k2, k3, hol, hseen⟩
  refine ⟨fun hlt => ?_, fun hge => ?_⟩
  · have hlt : v < n := by omega
    simp only [Int.toNat_natCast]
    refine ⟨by omega, fun hx => ?_, fun hx => ⟨i64 (by omega), p_r08_Reached hl hg hlt fun ro hrl hro => ?_⟩⟩
    · obtain ⟨x, hxv, hxr⟩ := (hseen v hlt).1 hx
      refine Cnt.next hlt (by omega) ⟨k0, by omega, fun h => absurd h (by omega), fun _ => ?_, hol, fun u hu => ?_⟩
      · have h3 := k3 (by omega)
        refine ⟨h3.1, ?_⟩
        rw [h3.2]
        constructor
        · intro h y hy
          by_cases e : y = v
          · subst e; rw [hxr]; exact h x hxv
          · exact h y (by omega)
        · intro h y hy; exact h y (by omega)
      · rw [hseen u hu]
        constructor
        · rintro ⟨y, hy, hyr⟩; exact ⟨y, by omega, hyr⟩
        · rintro ⟨y, hy, hyr⟩
          by_cases e : y = v
          · subst e; exact ⟨x, hxv, hyr.trans hxr⟩
          · exact ⟨y, by omega, hyr⟩
    · refine ⟨fun m i o' => Cnt n (fun u => o'.length = n ∧ (∀ x, x < n → (gb o' x = true ↔ (gb o x = true ∨ (x < u ∧ gb ro x = true))))) m i, Cnt.start ⟨hol, fun x _ => by simp⟩, ?_⟩
      rintro m _ o' ⟨u, rfl, rfl, hu, hol', hor⟩
      refine ⟨fun hltu => ?_, fun hgeu => ?_⟩
      · have hltu : u < n := by omega
        simp only [Int.toNat_natCast]
        have hou := hor u hltu
        have st : ∀ b : Bool, (b = true ↔ (gb o u = true ∨ gb ro u = true)) → (o'.set u b).length = n ∧ (∀ x, x < n → (gb (o'.set u b) x = true ↔ (gb o x = true ∨ (x < u + 1 ∧ gb ro x = true)))) := fun b hbb => by
          refine ⟨by simpa using hol', fun x hx => ?_⟩
          rw [ydG (by omega)]
          by_cases e : x = u
          · subst e
            rw [if_pos rfl, hbb]
            constructor
            · rintro (h | h)
              · exact .inl h
              · exact .inr ⟨by omega, h⟩
            · rintro (h | h)
              · exact .inl h
              · exact .inr h.2
          · rw [if_neg e, hor x hx]
            constructor
            · rintro (h | h)
              · exact .inl h
              · exact .inr ⟨by omega, h.2⟩
            · rintro (h | h)
              · exact .inl h
              · exact .inr ⟨by omega, h.2⟩
        refine ⟨by omega, fun hx2 => Cnt.next hltu (by omega) (st true ?_), fun hx2 => ⟨by omega, Cnt.next hltu (by omega) (st _ ?_)⟩⟩
        · have := hou.1 hx2
          constructor
          · intro _; rcases this with h | h
            · exact .inl h
            · exact .inr h.2
          · intro _; rfl
        · constructor
          · intro h; exact .inr h
          · rintro (h | h)
            · exact absurd (hou.2 (.inl h)) hx2
            · exact h
      · have hun : u = n := by omega
        subst hun
        have hnew : ¬ ∃ x, x < v ∧ root (yay es) v = root (yay es) x := fun h => hx ((hseen v hlt).2 h)
        refine Cnt.next (by omega) (by omega) ⟨by omega, by omega, fun h => absurd h (by omega), fun _ => ⟨by omega, ?_⟩, hol', fun x hxn => ?_⟩
        · by_cases e0 : v = 0
          · subst e0
            have := k2 rfl
            subst this
            constructor
            · intro _ y hy; rw [show y = 0 by omega]
            · intro _; rfl
          · have h3 := k3 (by omega)
            constructor
            · intro h; omega
            · intro h; exact absurd ⟨0, by omega, h v (by omega)⟩ hnew
        · rw [hor x hxn, hseen x hxn, hro x hxn, decide_eq_true_eq]
          constructor
          · rintro (⟨y, hy, hyr⟩ | h)
            · exact ⟨y, by omega, hyr⟩
            · exact ⟨v, by omega, h.2⟩
          · rintro ⟨y, hy, hyr⟩
            by_cases e : y = v
            · subst e; exact .inr ⟨hxn, hyr⟩
            · exact .inl ⟨y, by omega, hyr⟩
  · have hvn : v = n := by omega
    subst hvn
    refine h k ?_
    rw [(k3 (by omega)).2, hcr]
theorem yey {R : Bool → Prop} (hl : es.length ≤ 1000000000) (hg : yat n es = 0) (h : R (yde n es)) : ycr (n : Int) es R :=
  p_r08_Parts hl hg fun k hk => by
    have e : decide (k = 1) = yde n es := by rw [Bool.eq_iff_iff, decide_eq_true_eq]; exact hk
    rw [e]; exact h
end
section
variable {n q : Int} {es : List E3} {d s : List Int}
def lowF (n : Int) (d : List Int) : Bool := decide (d.length ≤ 100 ∧ (yaJ d n = 0 → ∀ j, j < d.length → -100 ≤ gi d j ∧ gi d j ≤ 100))
theorem Lp_row {n : Nat} {es : List E3} (s : List Int) {v : Nat} (hv : v < n) : sm n (fun k => (if v = k then deg n es v else - W es v k) * gi s k) = Lp n es (gi s) v := by
  have e : (fun k => (if v = k then deg n es v else - W es v k) * gi s k) = (fun k => (if k = v then gi s v * deg n es v else 0) - gi s k * W es v k) := by
    funext k
    by_cases e : v = k
    · subst e; rw [if_pos rfl, if_pos rfl, ymP, Int.mul_comm]; omega
    · rw [if_neg e, if_neg (fun q => e q.symm), Int.mul_comm]; simp only [Int.mul_neg]; omega
  rw [Lp_ind, e, yjJ, yeI _ hv]
  exact congrArg _ (yau fun k _ => by rw [yfK es v k])
theorem row_bound {n : Nat} {es : List E3} (hg : yat n es = 0) {s : List Int} (hs : ∀ j, j < n → -2000000000 ≤ gi s j ∧ gi s j ≤ 2000000000) (i k : Nat) (hk : k < n) : -1200000000000 ≤ (if i = k then deg n es i else - W es i k) * gi s k ∧ (if i = k then deg n es i else - W es i k) * gi s k ≤ 1200000000000 := by
  obtain ⟨hE, hn1, hn12⟩ := yc9 hg
  have h1 := ymS hg n i
  have h2 := W_le50 hg i k
  have h3 := hs k hk
  have hb : -600 ≤ (if i = k then deg n es i else - W es i k) ∧ (if i = k then deg n es i else - W es i k) ≤ 600 := by
    unfold deg
    split <;> omega
  generalize (if i = k then deg n es i else - W es i k) = c at hb ⊢
  generalize gi s k = x at h3 ⊢
  have := Int.natAbs_mul c x
  have h4 : c.natAbs ≤ 600 := by omega
  have h5 : x.natAbs ≤ 2000000000 := by omega
  have := Nat.mul_le_mul h4 h5
  omega
theorem Lp_bound {n : Nat} {es : List E3} (hg : yat n es = 0) {s : List Int} (hs : ∀ j, j < n → -2000000000 ≤ gi s j ∧ gi s j ≤ 2000000000) {v : Nat} (hv : v < n) : -20000000000000 ≤ Lp n es (gi s) v ∧ Lp n es (gi s) v ≤ 20000000000000 := by
  obtain ⟨hE, hn1, hn12⟩ := yc9 hg
  rw [← Lp_row s hv]
  have hb := yhw (f := fun k => (if v = k then deg n es v else - W es v k) * gi s k) (B := 1200000000000) (by omega) (n := n) fun j hj => row_bound hg hs v j hj
  have : (n : Int) * 1200000000000 ≤ 12 * 1200000000000 := by omega
  omega
def appF (n : Nat) (es : List E3) (d s : List Int) : List Int := tab (fun v => gi d v - Lp n es (gi s) v) n
theorem yh9 {n : Nat} {es : List E3} {d s : List Int} : (appF n es d s).length = n := ydW _ _
end
end Go.Proofs.YtncilechkclmbaaGreat

/- What the pure forms of the program's and the library's small functions come to. -/
namespace Go.Proofs.YtncilechkclmbaaGreat
open Go Go.Proofs.Tryz
set_option linter.unusedVariables false
set_option linter.unusedSimpArgs false
theorem ycN {s : List Int} {R : List Int → Prop} (hl : s.length ≤ 1000000000) (h : R s) : yaM s R := by
  unfold yaM
  exact fun nil hn => ⟨fun q => by rw [hn q] at h; exact h, fun q => ⟨by omega, h⟩⟩
end Go.Proofs.YtncilechkclmbaaGreat

/- What the references' pure forms on sets come to. -/
namespace Go.Proofs.YtncilechkclmbaaGreat
open Go Go.Proofs.Tryz
set_option linter.unusedVariables false
set_option linter.unusedSimpArgs false
section
variable {n : Nat} {es : List E3} {d : List Int}
end
end Go.Proofs.YtncilechkclmbaaGreat

/- What the library's pure forms come to: search, minimum, order. -/
namespace Go.Proofs.YtncilechkclmbaaGreat
open Go Go.Proofs.Tryz
set_option linter.unusedVariables false
set_option linter.unusedSimpArgs false
theorem any_gi {p : Int → Bool} {s : List Int} : s.any p = true ↔ ∃ k, k < s.length ∧ p (gi s k) = true := by
  rw [List.any_eq_true]
  constructor
  · rintro ⟨x, hx, hp⟩
    obtain ⟨k, hk, rfl⟩ := List.getElem_of_mem hx
    exact ⟨k, hk, by rw [yaY hk]; exact hp⟩
  · rintro ⟨k, hk, hp⟩
    exact ⟨_, gi_mem hk, hp⟩
theorem yij {s : List Int} {F : Int → (Bool → Prop) → Prop} {p : Int → Bool} {R : Int → Prop} (hl : s.length ≤ 1000000000) (hF : ∀ x (R' : Bool → Prop), R' (p x) → F x R') (h1 : ∀ k : Nat, k < s.length → p (gi s k) = true → R (k : Int)) (h2 : (∀ k, k < s.length → p (gi s k) = false) → R (-1)) : yhH s F R := by
  unfold yhH
  refine ⟨Cnt s.length (fun k => ∀ j, j < k → p (gi s j) = false), Cnt.start (fun j hj => absurd hj (by omega)), ?_⟩
  rintro m _ ⟨k, rfl, rfl, hk, hinv⟩
  simp only [Int.toNat_natCast]
  refine ⟨fun hlt => ⟨by omega, hF _ _ ⟨fun h => h1 k (by omega) h, fun h => Cnt.next (by omega) (by omega) fun j hj => ?_⟩⟩, fun hge => h2 fun j hj => hinv j (by omega)⟩
  by_cases e : j = k
  · subst e; simpa using h
  · exact hinv j (by omega)
theorem yid {s : List Int} {F : Int → (Bool → Prop) → Prop} {p : Int → Bool} {R : Bool → Prop} (hl : s.length ≤ 1000000000) (hF : ∀ x (R' : Bool → Prop), R' (p x) → F x R') (h : R (s.any p)) : yhD s F R := by
  unfold yhD
  refine yij hl hF (fun k hk hp => ?_) (fun hn => ?_)
  · rw [any_gi.2 ⟨k, hk, hp⟩] at h
    have e : decide (0 ≤ (k : Int)) = true := by simp
    rw [e]; exact h
  · have e : s.any p = false := by
      rw [Bool.eq_false_iff]
      intro q
      obtain ⟨k, hk, hp⟩ := any_gi.1 q
      rw [hn k hk] at hp; cases hp
    rw [e] at h; exact h
theorem ykh {x : List Int} {R : Int → Prop} (hl : x.length ≤ 1000000000) (h0 : 0 < x.length) (h : ∀ m, (∃ k, k < x.length ∧ gi x k = m) → (∀ k, k < x.length → m ≤ gi x k) → R m) : ybb x R := by
  unfold ybb
  refine ⟨True, fun _ => ⟨by omega, ?_⟩, fun q => by omega, fun _ => trivial⟩
  refine ⟨fun c m i => Cnt x.length (fun k => 1 ≤ k ∧ (∃ j, j < k ∧ gi x j = m) ∧ ∀ j, j < k → m ≤ gi x j) c i, ⟨x.length - 1, 1, rfl, rfl, h0, by omega, ⟨0, by omega, rfl⟩, fun j hj => by rw [show j = 0 by omega]; exact Int.le_refl _⟩, ?_⟩
  rintro c m _ ⟨k, rfl, rfl, hk, h1, ⟨j0, hj0, rfl⟩, hm⟩
  simp only [Int.toNat_natCast]
  refine ⟨fun hlt => ⟨by omega, Cnt.next (by omega) (by omega) ⟨by omega, ?_, fun j hj => ?_⟩⟩, fun hge => ?_⟩
  · by_cases q : gi x k < gi x j0
    · exact ⟨k, by omega, by unfold mnF; rw [if_pos q]⟩
    · exact ⟨j0, by omega, by unfold mnF; rw [if_neg q]⟩
  · rw [ymf]
    by_cases e : j = k
    · subst e; omega
    · have := hm j (by omega); omega
  · have : k = x.length := by omega
    subst this
    exact h _ ⟨j0, hj0, rfl⟩ hm
end Go.Proofs.YtncilechkclmbaaGreat

/- What the pure forms of chips, graph and firing come to. -/
namespace Go.Proofs.YtncilechkclmbaaGreat
open Go Go.Proofs.Tryz
set_option linter.unusedVariables false
set_option linter.unusedSimpArgs false
theorem yhm {k : Int} {R : Bool → Prop} (h : R (inF k)) : yb9 k R := by
  unfold yb9
  refine ⟨fun h1 => ?_, fun h1 => ?_⟩
  · have e : decide (k ≤ 1048576) = inF k := by unfold inF; simp [h1]
    rw [e]; exact h
  · have e : false = inF k := by unfold inF; simp [h1]
    rw [e]; exact h
theorem yhs {d : List Int} {n : Int} {R : Int → Prop} (h : R (yaJ d n)) : ybZ d n R := by
  unfold ybZ yci
  have hout : ¬ (1 ≤ n ∧ n ≤ 12) → R 2 := fun q => by
    have : yaJ d n = 2 := by unfold yaJ yeM; rw [if_neg q, if_neg (by omega)]
    rwa [this] at h
  refine ⟨fun q => ⟨fun q2 => absurd q2 (by omega), fun _ => hout (by omega)⟩, fun q => ⟨fun q2 => ⟨fun q3 => absurd q3 (by omega), fun _ => hout (by omega)⟩, fun q2 => ⟨fun _ => ?_, fun q3 => absurd rfl q3⟩⟩⟩
  have hc : yaJ d n = if (d.length : Int) = n then (if d.all inF then 0 else 2) else 8 := by unfold yaJ; rw [if_pos (by unfold yeM; rw [if_pos (by omega)])]
  rw [hc] at h
  refine ⟨fun hln => ?_, fun hln => by rwa [if_neg hln] at h⟩
  rw [if_pos hln] at h
  refine ⟨Cnt d.length (fun k => ∀ j, j < k → inF (gi d j) = true), Cnt.start (fun j hj => absurd hj (by omega)), ?_⟩
  rintro m _ ⟨k, rfl, rfl, hk, hinv⟩
  refine ⟨fun hlt => ⟨by omega, yhm ⟨fun h1 => Cnt.next (by omega) (by omega) fun j hj => ?_, fun h1 => ?_⟩⟩, fun hge => ?_⟩
  · by_cases e : j = k
    · subst e; simpa using h1
    · exact hinv j (by omega)
  · rw [if_neg (fun hall => h1 ((ycA inF d).1 hall _ (by omega)))] at h; exact h
  · rw [if_pos ((ycA inF d).2 fun j hj => hinv j (by omega))] at h; exact h
theorem yiC {n v : Int} {R : Bool → Prop} (h : R (decide (0 ≤ v ∧ v < n))) : yhU n v R := by
  unfold yhU
  refine ⟨fun h1 => ?_, fun h1 => ?_⟩
  · have e : decide (v < n) = decide (0 ≤ v ∧ v < n) := by simp [h1]
    rw [e]; exact h
  · have e : false = decide (0 ≤ v ∧ v < n) := by simp [h1]
    rw [e]; exact h
theorem yiq {a b : Int} {R : Int → Prop} (h : R (cmpF a b)) : yhL a b R := by
  unfold yhL yhZ
  unfold cmpF at h
  refine ⟨fun q => absurd q (by simp), fun _ => ⟨fun q => absurd q (by simp), fun _ => ⟨fun h1 => by rwa [if_pos h1] at h, fun h1 => ?_⟩⟩⟩
  rw [if_neg h1] at h
  refine ⟨fun h2 => by rwa [if_pos h2] at h, fun h2 => by rwa [if_neg h2] at h⟩
theorem p_cmp_Or2 {x y : Int} {R : Int → Prop} (h : R (orF x y)) : yh6 [x, y] R := by
  unfold yh6
  unfold orF at h
  refine ⟨Cnt 2 (fun k => ∀ j, j < k → gi [x, y] j = 0), Cnt.start (fun j hj => absurd hj (by omega)), ?_⟩
  rintro m _ ⟨k, rfl, rfl, hk, hinv⟩
  simp only [Int.toNat_natCast, List.length_cons, List.length_nil]
  have hk3 : k = 0 ∨ k = 1 ∨ k = 2 := by omega
  have g0 : gi [x, y] 0 = x := rfl
  have g1 : gi [x, y] 1 = y := rfl
  have hnx : gi [x, y] k = 0 → ∀ j, j < k + 1 → gi [x, y] j = 0 := fun q j hj => by
    by_cases e : j = k
    · subst e; exact q
    · exact hinv j (by omega)
  refine ⟨fun hlt => ⟨by omega, fun q => Cnt.next (by omega) (by omega) (hnx q), fun q => ?_⟩, fun hge => ?_⟩
  · rcases hk3 with rfl | rfl | rfl
    · rw [g0] at q ⊢; rwa [if_pos q] at h
    · have h0 := hinv 0 (by omega)
      rw [g0] at h0
      rw [g1]; rwa [if_neg (fun q2 => q2 h0)] at h
    · exact absurd hlt (by omega)
  · have : k = 2 := by omega
    subst this
    have h0 := hinv 0 (by omega)
    have h1 := hinv 1 (by omega)
    rw [g0] at h0
    rw [g1] at h1
    rw [if_neg (fun q2 => q2 h0), h1] at h; exact h
theorem p_pair_compare {a b c d : Int} {R : Int → Prop} (h : R (yiU a b c d)) : yhR a b c d R :=
  yiq (yiq (p_cmp_Or2 h))
theorem yj0 {n : Int} {es : List E3} {R : Int → Prop} (hl : es.length ≤ 1000000000) (h : R (yat n es)) : yh4 n es R := by
  unfold yh4
  have hout : ¬ (1 ≤ n ∧ n ≤ 12) → R 2 := fun q => by unfold yat at h; rwa [if_neg q] at h
  refine ⟨1 ≤ n ∧ n ≤ 12, fun hn => ?_, fun q => hout (by omega), fun q => ⟨fun q2 => hout (by omega), fun q2 => ⟨by omega, by omega⟩⟩⟩
  have hg : yat n es = gchk n (-1) (-1) es := by unfold yat; rw [if_pos hn]
  rw [hg] at h
  refine ⟨fun m i a b => Cnt es.length (fun k => a = (pre es k).1 ∧ b = (pre es k).2 ∧ gchk n (-1) (-1) es = gchk n (pre es k).1 (pre es k).2 (es.drop k)) m i, Cnt.start ⟨rfl, rfl, rfl⟩, ?_⟩
  rintro m _ _ _ ⟨k, rfl, rfl, hk, rfl, rfl, hinv⟩
  simp only [Int.toNat_natCast]
  refine ⟨fun hlt => ⟨by omega, ?_⟩, fun hge => ?_⟩
  · have hlt : k < es.length := by omega
    rw [yfk hlt, ydU] at hinv
    generalize hx : ge es k = x at hinv ⊢
    have hed : R (if yfq n (pre es k).1 (pre es k).2 x = 0 then gchk n x.1 x.2.1 (es.drop (k + 1)) else yfq n (pre es k).1 (pre es k).2 x) := by rw [← hinv]; exact h
    have h2 : ¬ ((0 ≤ x.1 ∧ x.1 < n) ∧ (0 ≤ x.2.1 ∧ x.2.1 < n) ∧ 1 ≤ x.2.2 ∧ x.2.2 ≤ 50) → R 2 := fun q => by
      unfold yfq at hed; rw [if_neg q, if_neg (by omega)] at hed; exact hed
    refine ⟨(0 ≤ x.1 ∧ x.1 < n) ∧ (0 ≤ x.2.1 ∧ x.2.1 < n) ∧ 1 ≤ x.2.2 ∧ x.2.2 ≤ 50, fun hJ => ?_, yiC ⟨fun q1 => yiC ⟨fun q2 => ⟨fun q3 => h2 (by omega), fun q3 => ⟨fun q4 => h2 (by omega), fun q4 => ?_⟩⟩, fun q2 => h2 (by simp at q2; omega)⟩, fun q1 => h2 (by simp at q1; omega)⟩⟩
    · have he : yfq n (pre es k).1 (pre es k).2 x = if x.1 ≤ x.2.1 ∧ yiU (pre es k).1 (pre es k).2 x.1 x.2.1 < 0 then 0 else 9 := by unfold yfq; rw [if_pos hJ]
      rw [he] at hed hinv
      refine ⟨fun q => ?_, fun q => p_pair_compare ⟨fun q2 => ?_, fun q2 => Cnt.next hlt (by omega) ⟨?_, ?_, ?_⟩⟩⟩
      · rw [if_neg (show ¬ (x.1 ≤ x.2.1 ∧ _) by omega), if_neg (by omega)] at hed; exact hed
      · rw [if_neg (show ¬ (x.1 ≤ x.2.1 ∧ _) by omega), if_neg (by omega)] at hed; exact hed
      · simp [pre, hx]
      · simp [pre, hx]
      · have hc : x.1 ≤ x.2.1 ∧ yiU (pre es k).1 (pre es k).2 x.1 x.2.1 < 0 := ⟨by omega, by omega⟩
        rw [if_pos hc, if_pos rfl] at hinv
        rw [hinv]
        simp [pre, hx]
    · simp only [decide_eq_true_eq] at q1 q2
      exact ⟨q1, q2, by omega, by omega⟩
  · have hk2 : k = es.length := by omega
    rw [hinv, hk2, List.drop_length] at h
    exact h
def yiG (n : Int) (es : List E3) (d : List Int) : Int := if yat n es = 0 then yaJ d n else yat n es
theorem yiD {n : Int} {es : List E3} {d : List Int} {R : Int → Prop} (hl : es.length ≤ 1000000000) (h : R (yiG n es d)) : yhV n es d R := by
  unfold yhV
  unfold yiG at h
  exact yj0 hl ⟨fun q => yhs (by rwa [if_pos q] at h), fun q => by rwa [if_neg q] at h⟩
theorem ylc {n : Int} {es : List E3} {d : List Int} {R : Int → Prop} (hl : es.length ≤ 1000000000) (h : R (yiG n es d)) : yh7 n es d R := yiD hl h
theorem W_snoc (x : E3) (v u : Nat) : ∀ l : List E3, W (l ++ [x]) v u = W l v u + w1 x v u
  | [] => by rw [List.nil_append, yfb, W_nil]; omega
  | y :: t => by rw [List.cons_append, yfb, yfb, W_snoc x v u t]; omega
def e1 (x : E3) (s : Nat → Int) (v : Nat) : Int := (if (v : Int) = x.1 then x.2.2 * (s x.1.toNat - s x.2.1.toNat) else 0) - (if (v : Int) = x.2.1 then x.2.2 * (s x.1.toNat - s x.2.1.toNat) else 0)
theorem Lp_snoc {n : Nat} {l : List E3} {x : E3} {s : Nat → Int} {v : Nat} (hx : 0 ≤ x.1 ∧ x.1 < n ∧ 0 ≤ x.2.1 ∧ x.2.1 < n) (hv : v < n) : Lp n (l ++ [x]) s v = Lp n l s v + e1 x s v := by
  have h1 : Lp n (l ++ [x]) s v = Lp n l s v + sm n (fun u => w1 x v u * (s v - s u)) := by
    unfold Lp
    rw [← ycF]
    refine yau fun u _ => ?_
    rw [W_snoc, Int.add_mul]
  rw [h1]
  congr 1
  obtain ⟨a, ha⟩ : ∃ a : Nat, x.1 = a := ⟨x.1.toNat, by omega⟩
  obtain ⟨b, hb⟩ : ∃ b : Nat, x.2.1 = b := ⟨x.2.1.toNat, by omega⟩
  unfold e1
  rw [ha, hb, Int.toNat_natCast, Int.toNat_natCast]
  have ean : a < n := by omega
  have ebn : b < n := by omega
  by_cases hab : a = b
  · subst hab
    rw [show (fun u => w1 x v u * (s v - s u)) = fun _ => 0 from ?_, ycf]
    · omega
    · funext u
      unfold w1
      rw [if_neg (by omega)]; omega
  · by_cases e1 : v = a
    · subst e1
      rw [if_pos rfl, if_neg (by omega), show (fun u => w1 x v u * (s v - s u)) = fun u => if u = b then x.2.2 * (s v - s b) else 0 from ?_, yeI _ ebn]
      · omega
      · funext u
        unfold w1
        by_cases e2 : u = b
        · subst e2; rw [if_pos ⟨by omega, .inl ⟨ha, hb⟩⟩, if_pos rfl]
        · rw [if_neg (by omega), if_neg e2]; omega
    · by_cases e3 : v = b
      · subst e3
        rw [if_neg (by omega), if_pos rfl, show (fun u => w1 x v u * (s v - s u)) = fun u => if u = a then x.2.2 * (s v - s a) else 0 from ?_, yeI _ ean]
        · rw [show s a - s v = -(s v - s a) by omega, Int.mul_neg]; omega
        · funext u
          unfold w1
          by_cases e2 : u = a
          · subst e2; rw [if_pos ⟨by omega, .inr ⟨ha, hb⟩⟩, if_pos rfl]
          · rw [if_neg (by omega), if_neg e2]; omega
      · rw [if_neg (by omega), if_neg (by omega), show (fun u => w1 x v u * (s v - s u)) = fun _ => 0 from ?_, ycf]
        · omega
        · funext u
          unfold w1
          rw [if_neg (by omega)]; omega
theorem ynS {x : E3} {s : Nat → Int} (hm : 1 ≤ x.2.2 ∧ x.2.2 ≤ 50) (ha : -2000000000 ≤ s x.1.toNat ∧ s x.1.toNat ≤ 2000000000) (hb : -2000000000 ≤ s x.2.1.toNat ∧ s x.2.1.toNat ≤ 2000000000) : -200000000000 ≤ x.2.2 * (s x.1.toNat - s x.2.1.toNat) ∧ x.2.2 * (s x.1.toNat - s x.2.1.toNat) ≤ 200000000000 := by
  generalize x.2.2 = m at hm ⊢
  have h : -4000000000 ≤ s x.1.toNat - s x.2.1.toNat ∧ s x.1.toNat - s x.2.1.toNat ≤ 4000000000 := by omega
  generalize s x.1.toNat - s x.2.1.toNat = y at h ⊢
  have := Int.natAbs_mul m y
  have h4 : m.natAbs ≤ 50 := by omega
  have h5 : y.natAbs ≤ 4000000000 := by omega
  have := Nat.mul_le_mul h4 h5
  omega
theorem yiH {n : Nat} {es : List E3} (hE : EOk n es) {s : Nat → Int} (hs : ∀ j, j < n → -2000000000 ≤ s j ∧ s j ≤ 2000000000) {v : Nat} (hv : v < n) : ∀ k, k ≤ es.length → -(400000000000 * (k : Int)) ≤ Lp n (es.take k) s v ∧ Lp n (es.take k) s v ≤ 400000000000 * k
  | 0, _ => by
    have : Lp n [] s v = 0 := by
      unfold Lp
      rw [show (fun u => W [] v u * (s v - s u)) = fun _ => 0 from ?_, ycf]
      funext u; rw [W_nil]; omega
    rw [List.take_zero, this]; omega
  | k + 1, hk => by
    have ih := yiH hE hs hv k (by omega)
    have hx := hE _ (yiJ (show k < es.length by omega))
    have hf := ynS (x := ge es k) (s := s) (by omega) (hs _ (by omega)) (hs _ (by omega))
    have e : es.take (k + 1) = es.take k ++ [ge es k] := by rw [List.take_add_one, List.getElem?_eq_getElem (by omega), ydL (by omega)]; rfl
    rw [e, Lp_snoc (by omega) hv]
    unfold e1
    split <;> split <;> omega
theorem Lp_nil {n : Nat} {s : Nat → Int} {v : Nat} : Lp n [] s v = 0 := by
  unfold Lp
  rw [show (fun u => W [] v u * (s v - s u)) = fun _ => 0 from ?_, ycf]
  funext u; rw [W_nil]; omega
theorem edge_step {n : Nat} {es : List E3} (hE : EOk n es) {d s : List Int} {k : Nat} (hk : k < es.length) :
    ((appF n (es.take k) d s).set (ge es k).1.toNat (gi (appF n (es.take k) d s) (ge es k).1.toNat - (ge es k).2.2 * (gi s (ge es k).1.toNat - gi s (ge es k).2.1.toNat))).set (ge es k).2.1.toNat
      (gi ((appF n (es.take k) d s).set (ge es k).1.toNat (gi (appF n (es.take k) d s) (ge es k).1.toNat - (ge es k).2.2 * (gi s (ge es k).1.toNat - gi s (ge es k).2.1.toNat))) (ge es k).2.1.toNat + (ge es k).2.2 * (gi s (ge es k).1.toNat - gi s (ge es k).2.1.toNat)) = appF n (es.take (k + 1)) d s := by
  have hx := hE _ (yiJ hk)
  have e : es.take (k + 1) = es.take k ++ [ge es k] := by rw [List.take_add_one, List.getElem?_eq_getElem hk, ydL hk]; rfl
  have hal : (appF n (es.take k) d s).length = n := yh9
  refine yfe (by rw [List.length_set, List.length_set, yh9, yh9]) fun i hi => ?_
  rw [List.length_set, List.length_set, hal] at hi
  have h1 : ∀ j, j < n → gi (appF n (es.take k) d s) j = gi d j - Lp n (es.take k) (gi s) j := fun j hj => yf5 _ hj
  have h2 : gi (appF n (es.take (k + 1)) d s) i = gi d i - (Lp n (es.take k) (gi s) i + e1 (ge es k) (gi s) i) := by
    rw [← Lp_snoc (by omega) hi, ← e]; exact yf5 _ hi
  rw [h2, ybV (by rw [List.length_set, hal]; omega), ybV (by rw [hal]; omega), ybV (by rw [hal]; omega)]
  unfold e1
  by_cases q1 : i = (ge es k).2.1.toNat
  · rw [if_pos q1, if_pos (show (i : Int) = (ge es k).2.1 by omega)]
    by_cases q2 : (ge es k).2.1.toNat = (ge es k).1.toNat
    · rw [if_pos q2, if_pos (show (i : Int) = (ge es k).1 by omega), ← q2, ← q1, h1 i hi]; omega
    · rw [if_neg q2, if_neg (show ¬ (i : Int) = (ge es k).1 by omega), ← q1, h1 i hi]; omega
  · rw [if_neg q1, if_neg (show ¬ (i : Int) = (ge es k).2.1 by omega)]
    by_cases q2 : i = (ge es k).1.toNat
    · rw [if_pos q2, if_pos (show (i : Int) = (ge es k).1 by omega), ← q2, h1 i hi]; omega
    · rw [if_neg q2, if_neg (show ¬ (i : Int) = (ge es k).1 by omega), h1 i hi]; omega
section
variable {n : Nat} {es : List E3} {d s : List Int}
theorem app_start (hdl : d.length = n) : d = appF n (es.take 0) d s := by
  refine eq_tab hdl _ fun i _ => ?_
  rw [List.take_zero, Lp_nil]; omega
theorem p_firing_moved {R : List Int → Prop} (hl : es.length ≤ 1000) (hg : yat n es = 0) (hdl : d.length = n) (hd : ∀ j, j < n → -1000000000000000 ≤ gi d j ∧ gi d j ≤ 1000000000000000) (hsl : s.length = n) (hs : ∀ j, j < n → -2000000000 ≤ gi s j ∧ gi s j ≤ 2000000000) (h : R (appF n es d s)) : yh3 (n : Int) es d s R := by
  obtain ⟨hE, hn1, hn12⟩ := yc9 hg
  unfold yh3
  refine ycN (by omega) ?_
  refine ⟨fun m v out => Cnt es.length (fun k => out = appF n (es.take k) d s) m v, Cnt.start (app_start hdl), ?_⟩
  rintro m _ out ⟨k, rfl, rfl, hk, rfl⟩
  simp only [Int.toNat_natCast]
  refine ⟨fun hlt => ⟨by omega, ?_⟩, fun hge => ?_⟩
  · have hlt : k < es.length := by omega
    have hx := hE _ (yiJ hlt)
    have hf := ynS (x := ge es k) (s := gi s) (by omega) (hs _ (by omega)) (hs _ (by omega))
    have ha := hs (ge es k).1.toNat (by omega)
    have hb := hs (ge es k).2.1.toNat (by omega)
    have hal : (appF n (es.take k) d s).length = n := yh9
    have h1 : ∀ j, j < n → gi (appF n (es.take k) d s) j = gi d j - Lp n (es.take k) (gi s) j := fun j hj => yf5 _ hj
    have hbd : ∀ j, j < n → -2000000000000000 ≤ gi (appF n (es.take k) d s) j ∧ gi (appF n (es.take k) d s) j ≤ 2000000000000000 := fun j hj => by
      have := yiH hE hs hj k (by omega)
      have := hd j hj
      rw [h1 j hj]; omega
    have b1 := hbd (ge es k).1.toNat (by omega)
    have b2 := hbd (ge es k).2.1.toNat (by omega)
    unfold yhT
    refine ⟨by omega, by omega, i64 (by omega), i64 (by omega), by omega, i64 (by omega), by rw [List.length_set]; omega, ?_, Cnt.next hlt (by omega) (edge_step hE hlt)⟩
    rw [ybV (by omega)]
    split
    · exact i64 (by omega)
    · exact i64 (by omega)
  · have hk2 : k = es.length := by omega
    rw [hk2, List.take_length]; exact h
theorem yiM {R : List Int → Int → Prop} (hl : d.length ≤ 1000000000) (h1 : d.all inF = true → R d 0) (h2 : d.all inF = false → R [] 11) : yhW d R := by
  unfold yhW
  refine yid (p := fun x => !inF x) hl (fun x R' hR => ?_) ⟨fun q => h2 ?_, fun q => h1 ?_⟩
  · unfold yhY
    unfold inF at hR
    refine ⟨fun q => ?_, fun q => ?_⟩
    · rw [decide_eq_false (by omega)] at hR; exact hR
    · have e : decide (1048576 < x) = !decide (-1048576 ≤ x ∧ x ≤ 1048576) := by
        by_cases c : 1048576 < x
        · rw [decide_eq_true c, decide_eq_false (by omega)]; rfl
        · rw [decide_eq_false c, decide_eq_true (by omega)]; rfl
      rw [e]; exact hR
  · rw [Bool.eq_false_iff]
    intro hall
    obtain ⟨x, hx, hp⟩ := List.any_eq_true.1 q
    rw [List.all_eq_true.1 hall x hx] at hp; cases hp
  · rw [List.all_eq_true]
    intro x hx
    cases hi : inF x with
    | true => rfl
    | false => exact absurd (List.any_eq_true.2 ⟨x, hx, by rw [hi]; rfl⟩) q
theorem p_firing_Apply {R : List Int → Int → Prop} (hl : es.length ≤ 1000) (hg : yat n es = 0) (hd : yaJ d n = 0) (hs : yaJ s n = 0) (h1 : (appF n es d s).all inF = true → R (appF n es d s) 0) (h2 : (appF n es d s).all inF = false → R [] 11) : yh1 (n : Int) es d s R := by
  obtain ⟨hdl, hn1, hn12, hdb⟩ := yev hd
  obtain ⟨hsl, -, -, hsb⟩ := yev hs
  unfold yh1
  have f1 : yiG n es d = 0 := by unfold yiG; rw [if_pos hg, hd]
  have f2 : yiG n es s = 0 := by unfold yiG; rw [if_pos hg, hs]
  refine yiD (by omega) ⟨fun _ => ylc (by omega) ⟨fun _ => ?_, fun q => absurd f2 q⟩, fun q => absurd f1 q⟩
  exact p_firing_moved hl hg hdl (fun j hj => by have := hdb j hj; omega) hsl (fun j hj => by have := hsb j hj; omega) (yiM (by rw [yh9]; omega) h1 h2)
end
end Go.Proofs.YtncilechkclmbaaGreat

/- Words for the laws of layer 34. -/
namespace Go.Proofs.YtncilechkclmbaaGreat
open Go Go.Proofs.Tryz
set_option linter.unusedVariables false
set_option linter.unusedSimpArgs false
structure Right (n : Int) (es : List E3) (d : List Int) : Prop where
  few : ynl n es 6 9 = true
  joined : yb2 n es = 0
  chips : yaJ d n = 0
  low : lowF n d = true
theorem Right.given {n : Int} {es : List E3} {d : List Int} (h : Right n es d) {q : Int} (hq : 0 ≤ q ∧ q < n) : yaD n es q d = 0 := by
  have hj := h.joined
  unfold yb2 at hj
  unfold yaD
  by_cases h1 : yat n es = 0
  · rw [if_pos h1] at hj ⊢
    by_cases h2 : yde n es = true
    · rw [if_pos h2, if_pos hq, h.chips]
    · rw [if_neg h2] at hj; omega
  · rw [if_neg h1] at hj; exact absurd hj h1
end Go.Proofs.YtncilechkclmbaaGreat

/- What the pure forms of 'effective' and of its reference come to. -/
namespace Go.Proofs.YtncilechkclmbaaGreat
open Go Go.Proofs.Tryz
set_option linter.unusedVariables false
set_option linter.unusedSimpArgs false
theorem win_dg {n : Nat} {es : List E3} {d : List Int} (hd : d.length = n) (h : Win n es d) : 0 ≤ dg d := by
  obtain ⟨s, hs⟩ := h
  have h1 : 0 ≤ sm n (fun v => gi d v - Lp n es s v) := ya6 hs
  rw [yjJ, yj6] at h1
  unfold dg
  rw [hd]; omega
theorem conn_all {n : Nat} {es : List E3} (hg : yat n es = 0) (hc : yde n es = true) : ∀ q, q < n → Conn n es q := fun q hq => by
  obtain ⟨hE, hn1, hn12⟩ := yc9 hg
  exact (yko hE hn1 hn12 hq).1 hc
def ycD (d : List Int) (v : Nat) (k : Int) : List Int := d.set v (gi d v + k)
theorem ybP (d : List Int) (v : Nat) (k : Int) : (ycD d v k).length = d.length := by simp [ycD]
theorem yct {d : List Int} {v : Nat} (hv : v < d.length) (k : Int) (i : Nat) : gi (ycD d v k) i = if i = v then gi d v + k else gi d i := by unfold ycD; rw [ybV hv]
theorem ymN {d : List Int} {v : Nat} (hv : v < d.length) (k : Int) : dg (ycD d v k) = dg d + k := by
  unfold dg
  rw [ybP]
  have h2 : sm d.length (gi (ycD d v k)) = sm d.length (fun i => gi d i + if i = v then k else 0) := yau fun i hi => by
    rw [yct hv]
    show _ = gi d i + if i = v then k else 0
    split
    · rename_i e; rw [e]
    · omega
  rw [h2, ycF, yeI k hv]
theorem given0 {n : Int} {es : List E3} {d : List Int} : yaD n es 0 d = if yb2 n es = 0 then yaJ d n else yb2 n es := by
  unfold yaD yb2
  by_cases h1 : yat n es = 0
  · rw [if_pos h1, if_pos h1]
    have hn : 1 ≤ n := by
      unfold yat at h1
      split at h1
      · omega
      · omega
    by_cases h2 : yde n es = true
    · rw [if_pos h2, if_pos h2, if_pos rfl, if_pos (by omega)]
    · rw [if_neg h2, if_neg h2, if_neg (by omega)]
  · rw [if_neg h1, if_neg h1, if_neg h1]
def LossOk (n : Int) (es : List E3) (q : Int) (d s : List Int) (e : Int) : Prop :=
  (yaD n es q d ≠ 0 ∧ e = yaD n es q d) ∨ (yaD n es q d = 0 ∧ yaJ s n ≠ 0 ∧ e = yaJ s n) ∨
  (yaD n es q d = 0 ∧ yaJ s n = 0 ∧ (Red n.toNat es q.toNat (appF n.toNat es d s) ∧ gi (appF n.toNat es d s) q.toNat < 0) ∧ e = 0) ∨
  (yaD n es q d = 0 ∧ yaJ s n = 0 ∧ ¬ (Red n.toNat es q.toNat (appF n.toNat es d s) ∧ gi (appF n.toNat es d s) q.toNat < 0) ∧ e = 16)
theorem LossOk.eq {n : Int} {es : List E3} {q : Int} {d s : List Int} {e e' : Int} (h : LossOk n es q d s e) (h' : LossOk n es q d s e') : e = e' := by
  rcases h with h | h | h | h <;> rcases h' with h' | h' | h' | h' <;> first | (exact absurd h'.2.2.1 h.2.2.1) | (exact absurd h.2.2.1 h'.2.2.1) | (rw [h.2.2.2, h'.2.2.2]; done) | (rw [h.2, h'.2]; done) | (exact absurd h'.1 h.1) | (exact absurd h.1 h'.1) | (rw [h.2.2, h'.2.2]; done) | (exact absurd h'.2.1 h.2.1) | (exact absurd h.2.1 h'.2.1)
end Go.Proofs.YtncilechkclmbaaGreat

/- What Winnable, Price and Needy come to, and their references. -/
namespace Go.Proofs.YtncilechkclmbaaGreat
open Go Go.Proofs.Tryz
set_option linter.unusedVariables false
set_option linter.unusedSimpArgs false
theorem ydT {n : Nat} {es : List E3} {q : Nat} {d : List Int} (h : yaD n es q d = 0) : EOk n es ∧ 1 ≤ n ∧ n ≤ 12 ∧ yat n es = 0 ∧ yde n es = true ∧ q < n ∧ d.length = n ∧ yaJ d n = 0 := by
  obtain ⟨k1, k2, k3, k4, k5⟩ := yb7 h
  obtain ⟨hE, hn1, hn12⟩ := yc9 k1
  exact ⟨hE, hn1, hn12, k1, k2, by omega, (yev k5).1, k5⟩
theorem ye3 {n : Int} {es : List E3} {d : List Int} {R : Bool → List Int → List Int → Int → Prop} (hS : Small n es d ∨ RedIn n es 0 d) (hdl : d.length ≤ 1000000000) (h0 : yaD n es 0 d ≠ 0 → R false [] [] (yaD n es 0 d))
    (h1 : yaD n es 0 d = 0 → ∀ r s, Reduces n.toNat es 0 d r s → ∀ b, (b = true ↔ Win n.toNat es d) → R b r s 0) : yaW n es d R := by
  unfold yaW
  refine ⟨hS, hdl, fun h => ⟨fun q => absurd q h, fun _ => h0 h⟩, fun h r s hr hrl hsl => ?_⟩
  obtain ⟨n, rfl⟩ : ∃ n' : Nat, n = (n' : Int) := ⟨n.toNat, by have := yb7 h; omega⟩
  obtain ⟨hE, hn1, hn12, hg, hc, -, hd, -⟩ := ydT (q := 0) h
  have e0 : (0 : Int).toNat = 0 := rfl
  simp only [Int.toNat_natCast, e0] at hr hrl hsl h1 ⊢
  refine ⟨fun _ => ⟨by omega, h1 h r s hr _ ?_⟩, fun q => absurd trivial q⟩
  rw [decide_eq_true_eq, yll hE (by omega) hr.red hr.lp]
structure PriceOk (n : Nat) (es : List E3) (d : List Int) (v : Nat) (k : Int) : Prop where
  pos : 0 ≤ k
  few : k = 0 ∨ k ≤ 18 - dg d
  iff : ∀ j, 0 ≤ j → (Win n es (ycD d v j) ↔ k ≤ j)
theorem PriceOk.eq {n : Nat} {es : List E3} {d : List Int} {v : Nat} {k k' : Int} (h : PriceOk n es d v k) (h' : PriceOk n es d v k') : k = k' := by
  have h1 := h.pos
  have h2 := h'.pos
  have h3 := (h'.iff k h1).1 ((h.iff k h1).2 (Int.le_refl _))
  have h4 := (h.iff k' h2).1 ((h'.iff k' h2).2 (Int.le_refl _))
  omega
theorem tot_few {n : Nat} {es : List E3} (hE : EOk n es) (hn : 1 ≤ n) (h12 : n ≤ 12) (hs : (es.map (·.2.2)).sum ≤ 9) : tot n es ≤ 18 := by
  have := tot_le hE hn h12; omega
theorem dg_lp {n : Nat} {es : List E3} {x d : List Int} {s : Nat → Int} (hx : x.length = n) (hd : d.length = n) (h : ∀ v, v < n → gi x v = gi d v - Lp n es s v) : dg x = dg d := by
  unfold dg
  rw [hx, hd, yau (g := fun v => gi d v - Lp n es s v) h, yjJ, yj6]; omega
def ymU (l : List Nat) : List Int := l.map fun v : Nat => (v : Int)
def ygF (n : Nat) (es : List E3) (d : List Int) (out : List Int) : Prop := ∃ f : Nat → Bool, (∀ v, v < n → (f v = true ↔ Win n es (ycD d v 1))) ∧ out = ymU ((List.range n).filter f)
theorem ygF.eq {n : Nat} {es : List E3} {d o o' : List Int} (h : ygF n es d o) (h' : ygF n es d o') : o = o' := by
  obtain ⟨f, hf, rfl⟩ := h
  obtain ⟨f', hf', rfl⟩ := h'
  congr 1
  refine List.filter_congr fun v hv => ?_
  rw [List.mem_range] at hv
  rw [Bool.eq_iff_iff, hf v hv, hf' v hv]
theorem filt_yes {f : Nat → Bool} {k : Nat} (h : f k = true) : ymU ((List.range (k + 1)).filter f) = ymU ((List.range k).filter f) ++ [(k : Int)] := by
  unfold ymU; rw [List.range_succ, List.filter_append, List.map_append]; simp [h]
theorem filt_no {f : Nat → Bool} {k : Nat} (h : f k ≠ true) : ymU ((List.range (k + 1)).filter f) = ymU ((List.range k).filter f) := by
  unfold ymU; rw [List.range_succ, List.filter_append, List.map_append]; simp [h]
theorem filt_len (f : Nat → Bool) (k : Nat) : (ymU ((List.range k).filter f)).length ≤ k := by
  unfold ymU
  rw [List.length_map]
  refine Nat.le_trans (List.length_filter_le _ _) ?_
  simp
end Go.Proofs.YtncilechkclmbaaGreat

/- Pure forms of functions, made by program (pf.py), each with the proof that the code does so. -/
namespace Go.Proofs.YtncilechkclmbaaGreat
open Go Go.RowKit Go.Shelf Go.Proofs.Tryz
set_option linter.unusedVariables false
set_option maxRecDepth 100000
set_option maxHeartbeats 1000000
def yhe (l : List (List Int)) (R : Int → Prop) : Prop :=
(∃ I2 : Nat → Int → Prop, (∃ m0, I2 m0 0) ∧ ∀ m2 v, I2 m2 v → 
((v < ((l.length : Nat) : Int) →
((0 ≤ v ∧ v < ((l.length : Nat) : Int)) ∧
ybZ (gx l v.toNat) (((gx l v.toNat).length : Nat) : Int) (fun r =>
((r = 0 →
(In64 (v + 1) ∧
∃ m3, m3 < m2 ∧ I2 m3 (v + 1))) ∧
(¬ (r = 0) →
R r))))) ∧
(¬ (v < ((l.length : Nat) : Int)) →
(∃ I3 : Nat → Int → Prop, (∃ m0, I3 m0 0) ∧ ∀ m4 v2, I3 m4 v2 → 
((v2 < ((l.length : Nat) : Int) →
((0 ≤ v2 ∧ v2 < ((l.length : Nat) : Int)) ∧
((0 ≤ (0 : Int) ∧ (0 : Int) < ((l.length : Nat) : Int)) ∧
(((((gx l v2.toNat).length : Nat) : Int) = (((gx l (0 : Int).toNat).length : Nat) : Int) →
(In64 (v2 + 1) ∧
∃ m5, m5 < m4 ∧ I3 m5 (v2 + 1))) ∧
(¬ ((((gx l v2.toNat).length : Nat) : Int) = (((gx l (0 : Int).toNat).length : Nat) : Int)) →
R 8))))) ∧
(¬ (v2 < ((l.length : Nat) : Int)) →
R 0))))))
theorem ymQ {O : Nat → Prop} {w : World} {l Al ll cl} {R : Int → Prop} (h : yhe l R) (hO : ∀ k, O k → k < w.heap.size) (hA0 : (FP.sl (cL cI) Al ll cl l).P O w) :
    Calls Tryz.prog 140 #[(.slice Al ll cl)] w fun e w' => ∃ r2, e = .returned (ii r2) ∧ Sep w no O w' (rl []) ∧ R r2 := by
  unfold yhe at h; have hS : Sep w no O w (rl [Res.ro (FP.sl (cL cI) Al ll cl l)]) := Sep.startl hO [(FP.sl (cL cI) Al ll cl l)] ⟨hA0, trivial⟩; refine yan (l := [(.slice Al ll cl)]) func140 rfl ntmps140 (Nat.le_of_ble_eq_true rfl) (zs (zq (za (ii 0)) (yaa (yaf (zs (zq (zm (.slice Al ll cl)) (zq (ybc (n := l.length) rfl underlying44 (ya2 (hS.rdr 0 rfl))) (zq (zm (ii 0)) (yaa (yak ?_)))))))))); obtain ⟨I2, ⟨m0, h0⟩, hr⟩ := h; refine yaO (fun m E ds w' => ∃ v, I2 m v ∧ ds = [] ∧ E 0 = (Value.slice Al ll cl) ∧ E 8 = (Value.slice Al ll cl) ∧ E 9 = (ii ((l.length : Nat) : Int)) ∧ E 10 = (ii v) ∧ Sep w no O w' (rl [Res.ro (FP.sl (cL cI) Al ll cl l)])) m0 ⟨_, h0, rfl, rfl, rfl, rfl, rfl, (hS.sel [0] (by decide))⟩ ?_; clear h0 hS; rintro m2 E ds w2 ⟨v, h, rfl, hE0, hE8, hE9, hE10, hS⟩ again; replace h := hr m2 v h; clear hr; refine zs (zq (yd4 hE10 hE9) (yaa (yaf ?_))); by_cases hp : v < ((l.length : Nat) : Int)
  · replace h := h.1 hp; refine zc hp (yag (yaf (yak (zs ?_)))); obtain ⟨hx, h⟩ := h; refine zq (yeK hE8 hE10 underlying44 ya0 (ybh (hS.rdr 0 rfl) hx)) ?_; obtain ⟨A, l2, c, hc, hq⟩ := hS.el 0 rfl hx 1 2 rfl rfl (by decide); replace hS := hq; clear hq; refine zq (yaA (v := (.slice A l2 c)) rfl underlying26 rfl (hS.clr 2 rfl)) (zq (za (.slice A l2 c)) (yaa (zs (zq (zm (.slice A l2 c)) (zq (zm (.slice A l2 c)) (zq (ybc (n := (gx l v.toNat).length) rfl underlying26 (ya2 (hS.rdr 1 rfl))) (zn (yal rfl (am2 rfl rfl) yfB ((yeP h (yaN _) (hS.rdr 1 rfl)).mono ?_))))))))); rintro _ w3 ⟨r, rfl, hC, h⟩; replace hS := hS.pur hC.pure; clear hC; refine ⟨_, rfl, ?_⟩; refine zb (zq (za (ii r)) (yaa (zs (zq (zm (ii r)) (zq zN (yaa ?_)))))); by_cases hp2 : r = 0
    · replace h := h.1 hp2; refine ze hp2 (yag (yai (zr ?_))); obtain ⟨hi, h⟩ := h; refine zq (ycv hE10 rfl hi) (zq (zm (ii (v + 1))) (yaa ?_)); obtain ⟨mq, hlt, h⟩ := h; exact again mq _ _ _ ⟨_, h, rfl, hE0, hE8, hE9, rfl, (hS.sel [0] (by decide))⟩ hlt
    · replace h := h.2 hp2; exact zf hp2 (zs (zq (zm (ii r)) (zq (za (ii r)) (yaa (yah rfl rfl ⟨_, rfl, (hS.sel [] (by decide)), h⟩)))))
  · replace h := h.2 hp; refine zd hp (yaH rfl (yaf (zs (zq (yae hE0) (zq (ybc (n := l.length) rfl underlying44 (ya2 (hS.rdr 0 rfl))) (zq (zm (ii 0)) (yaa (yak ?_)))))))); obtain ⟨I3, ⟨m0, h0⟩, hr⟩ := h; refine yaO (fun m E ds w' => ∃ v2, I3 m v2 ∧ ds = [] ∧ E 0 = (Value.slice Al ll cl) ∧ E 22 = (Value.slice Al ll cl) ∧ E 23 = (ii ((l.length : Nat) : Int)) ∧ E 24 = (ii v2) ∧ Sep w no O w' (rl [Res.ro (FP.sl (cL cI) Al ll cl l)])) m0 ⟨_, h0, rfl, hE0, rfl, rfl, rfl, (hS.sel [0] (by decide))⟩ ?_; clear h0 hS; rintro m4 E ds w4 ⟨v2, h, rfl, hE0, hE22, hE23, hE24, hS⟩ again2; replace h := hr m4 v2 h; clear hr; refine zs (zq (yd4 hE24 hE23) (yaa (yaf ?_))); by_cases hp3 : v2 < ((l.length : Nat) : Int)
    · replace h := h.1 hp3; refine zc hp3 (yag (yaf (yak (zs ?_)))); obtain ⟨hx2, h⟩ := h; refine zq (yeK hE22 hE24 underlying44 ya0 (ybh (hS.rdr 0 rfl) hx2)) ?_; obtain ⟨A2, l3, c2, hc2, hq⟩ := hS.el 0 rfl hx2 1 2 rfl rfl (by decide); replace hS := hq; clear hq; refine zq (yaA (v := (.slice A2 l3 c2)) rfl underlying26 rfl (hS.clr 2 rfl)) (zq (za (.slice A2 l3 c2)) (yaa (zs (zq (zm (.slice A2 l3 c2)) (zq (ybc (n := (gx l v2.toNat).length) rfl underlying26 (ya2 (hS.rdr 1 rfl))) (zq (yae hE0) ?_)))))); obtain ⟨hx3, h⟩ := h; refine zq (zi underlying44 ya0 (ybh (hS.rdr 0 rfl) hx3)) ?_; obtain ⟨A3, l4, c3, hc3, hq⟩ := hS.el 0 rfl hx3 3 4 rfl rfl (by decide); replace hS := hq; clear hq; refine zq (yaA (v := (.slice A3 l4 c3)) rfl underlying26 rfl (hS.clr 4 rfl)) (zq (ybc (n := (gx l (0 : Int).toNat).length) rfl underlying26 (ya2 (hS.rdr 3 rfl))) (zq zN (yaa ?_))); by_cases hp4 : (((gx l v2.toNat).length : Nat) : Int) = (((gx l (0 : Int).toNat).length : Nat) : Int)
      · replace h := h.1 hp4; refine ze hp4 (yag (yai (zr ?_))); obtain ⟨hi2, h⟩ := h; refine zq (ycv hE24 rfl hi2) (zq (zm (ii (v2 + 1))) (yaa ?_)); obtain ⟨mq, hlt, h⟩ := h; exact again2 mq _ _ _ ⟨_, h, rfl, hE0, hE22, hE23, rfl, (hS.sel [0] (by decide))⟩ hlt
      · replace h := h.2 hp4; exact zf hp4 (zs (zq (za (ii 8)) (yaa (yah rfl rfl ⟨_, rfl, (hS.sel [] (by decide)), h⟩))))
    · replace h := h.2 hp3; exact zd hp3 (yaH rfl (zs (zq (za (ii 0)) (yaa (yah rfl rfl ⟨_, rfl, (hS.sel [] (by decide)), h⟩)))))
def yi3 (d : List Int) (R : Int → Int → Prop) : Prop :=
yhe ([d]) (fun r =>
((r = 0 →
(∃ I2 : Nat → Int → Int → Prop, (∃ m0, I2 m0 0 0) ∧ ∀ m2 sum v, I2 m2 sum v → 
((v < ((d.length : Nat) : Int) →
((0 ≤ v ∧ v < ((d.length : Nat) : Int)) ∧
(In64 (sum + (gi d v.toNat)) ∧
(In64 (v + 1) ∧
∃ m3, m3 < m2 ∧ I2 m3 (sum + (gi d v.toNat)) (v + 1))))) ∧
(¬ (v < ((d.length : Nat) : Int)) →
R sum 0)))) ∧
(¬ (r = 0) →
R 0 r)))
theorem yjq {O : Nat → Prop} {w : World} {d Ad ld cd} {R : Int → Int → Prop} (h : yi3 d R) (hO : ∀ k, O k → k < w.heap.size) (hA0 : (FP.sl cI Ad ld cd d).P O w) :
    Calls Tryz.prog 205 #[(.slice Ad ld cd)] w fun e w' => ∃ r2 r3, e = .returned (.tuple #[(ii r2), (ii r3)]) ∧ Sep w no O w' (rl []) ∧ R r2 r3 := by
  unfold yi3 at h; have hS : Sep w no O w (rl [Res.ro (FP.sl cI Ad ld cd d)]) := Sep.startl hO [(FP.sl cI Ad ld cd d)] ⟨hA0, trivial⟩; refine yan (l := [(.slice Ad ld cd)]) func205 rfl ntmps205 (Nat.le_of_ble_eq_true rfl) (zs (zq (za (ii 0)) (zq (za (ii 0)) (yaa (yaf (zs (zq (zm (.slice Ad ld cd)) (zn (yaR (l := [(0, (.slice Ad ld cd))]) (cells := [(.slice Ad ld cd)]) (bp1 rfl) underlying44 ya0 rfl rfl ?_))))))))); intro g w2 hN; replace hS := hS.lit (n := 1) (c := (cL cI)) 1 rfl hN ([d] : List (List Int)) rfl (by decide) ⟨[(.slice Ad ld cd)], _, rfl, (ro_R (hS.ro 0 rfl)), rfl⟩; clear hN; refine zb (zn (yal rfl (am1 rfl) enter_140 ((ymQ h (yaN _) (hS.rdo 1 rfl)).mono ?_))); rintro _ w3 ⟨r, rfl, hC, h⟩; replace hS := hS.pur hC.pure; clear hC; refine ⟨_, rfl, ?_⟩; refine zb (zq (za (ii r)) (yaa (zs (zq (zm (ii r)) (zq zN (yaa ?_)))))); by_cases hp : r = 0
  · replace h := h.1 hp; refine ze hp (yag (zs (zq (za (ii 0)) (yaa (yaf (zs (zq (zm (.slice Ad ld cd)) (zq (ybc (n := d.length) rfl underlying26 (ya2 (hS.rdr 0 rfl))) (zq (zm (ii 0)) (yaa (yak ?_))))))))))); obtain ⟨I2, ⟨m0, h0⟩, hr⟩ := h; refine yaO (fun m E ds w' => ∃ sum v, I2 m sum v ∧ ds = [] ∧ E 5 = (ii sum) ∧ E 14 = (Value.slice Ad ld cd) ∧ E 15 = (ii ((d.length : Nat) : Int)) ∧ E 16 = (ii v) ∧ Sep w no O w' (rl [Res.ro (FP.sl cI Ad ld cd d)])) m0 ⟨_, _, h0, rfl, rfl, rfl, rfl, rfl, (hS.sel [0] (by decide))⟩ ?_; clear h0 hS; rintro m2 E ds w4 ⟨sum, v, h, rfl, hE5, hE14, hE15, hE16, hS⟩ again; replace h := hr m2 sum v h; clear hr; refine zs (zq (yd4 hE16 hE15) (yaa (yaf ?_))); by_cases hp2 : v < ((d.length : Nat) : Int)
    · replace h := h.1 hp2; refine zc hp2 (yag (yaf (yak (zs ?_)))); obtain ⟨hx, h⟩ := h; refine zq (yeK hE14 hE16 underlying26 yaj (ybh (hS.rdr 0 rfl) hx)) (zq (yaA (v := (ii (gi d v.toNat))) rfl underlying3 rfl (rd_1 (hS.rdr 0 rfl) hx (fun q => ybs q) rfl)) ?_); refine zq (za (ii (gi d v.toNat))) (yaa (zr (zq (yae hE5) (zq (zm (ii (gi d v.toNat))) ?_)))); obtain ⟨hi, h⟩ := h; refine zq (zA hi) (zq (za (ii (sum + (gi d v.toNat)))) (yaa (yai (zr ?_)))); obtain ⟨hi2, h⟩ := h; refine zq (ycv hE16 rfl hi2) (zq (zm (ii (v + 1))) (yaa ?_)); obtain ⟨mq, hlt, h⟩ := h; exact again mq _ _ _ ⟨_, _, h, rfl, rfl, hE14, hE15, rfl, (hS.sel [0] (by decide))⟩ hlt
    · replace h := h.2 hp2; exact zd hp2 (yaH rfl (zs (zq (yae hE5) (zq (za (ii sum)) (zq (za (ii 0)) (yaa (ybF rfl rfl rfl ⟨_, _, rfl, (hS.sel [] (by decide)), h⟩)))))))
  · replace h := h.2 hp; exact zf hp (zs (zq (zm (ii r)) (zq (za (ii 0)) (zq (za (ii r)) (yaa (ybF rfl rfl rfl ⟨_, _, rfl, (hS.sel [] (by decide)), h⟩))))))
def ydr (g : Int) (g2 : List E3) (R : Bool → Prop) : Prop :=
yc4 g g2 5 7 (fun r =>
R r)
theorem ygo {O : Nat → Prop} {w : World} {g g2 Ag lg cg} {R : Bool → Prop} (h : ydr g g2 R) (hO : ∀ k, O k → k < w.heap.size) (hA0 : (FP.sl c3 Ag lg cg g2).P O w) :
    Calls Tryz.prog 51 #[(.agg #[(ii g), (.slice Ag lg cg)])] w fun e w' => ∃ r2, e = .returned (.bool (r2)) ∧ Sep w no O w' (rl []) ∧ R r2 := by
  unfold ydr at h; have hS : Sep w no O w (rl [Res.ro (FP.sl c3 Ag lg cg g2)]) := Sep.startl hO [(FP.sl c3 Ag lg cg g2)] ⟨hA0, trivial⟩; refine yan (l := [(.agg #[(ii g), (.slice Ag lg cg)])]) func51 rfl ntmps51 (Nat.le_of_ble_eq_true rfl) (zs (zn (yb6 (v := (.agg #[(ii g), (.slice Ag lg cg)])) rfl ?_))); intro g3 w2 hN; replace hS : Sep w no O w2 (stl _ 1 (Res.box 24 g3 [(ii g), (.slice Ag lg cg)])) := hS.new 1 rfl hN; clear hN; refine zb (zq (za (.bool (false))) (yaa (zs (zq (yav (vs := [(ii g), (.slice Ag lg cg)]) rfl underlying24 rfl yas ⟨Row.cell (hS.bx 1 rfl) (i := 0) rfl, Row.cell (hS.bx 1 rfl) (i := 1) rfl, trivial⟩) (zn (yal rfl (am3 rfl rfl rfl) enter_117 ((pok_r08_small h (yaN _) (hS.rdr 0 rfl)).mono ?_))))))); rintro _ w3 ⟨r, rfl, hC, h⟩; replace hS := hS.pur hC.pure; clear hC; refine ⟨_, rfl, ?_⟩; exact zb (zq (za (.bool (r))) (yaa (yah rfl rfl ⟨_, rfl, (hS.sel [] (by decide)), h⟩)))
end Go.Proofs.YtncilechkclmbaaGreat

/- What firing a set comes to. -/
namespace Go.Proofs.YtncilechkclmbaaGreat
open Go Go.Proofs.Tryz
set_option linter.unusedVariables false
set_option linter.unusedSimpArgs false
section
variable {n : Nat} {es : List E3} {d : List Int} {set : List Int}
end
end Go.Proofs.YtncilechkclmbaaGreat

/- Words for the laws of layer 36: what its small functions come to; the chapter's examples come out right. -/
namespace Go.Proofs.YtncilechkclmbaaGreat
open Go Go.Proofs.Tryz
set_option linter.unusedVariables false
set_option linter.unusedSimpArgs false
theorem red_of_dec {n : Nat} {es : List E3} {q : Nat} {d : List Int} (hq : q < n) (h1 : ∀ v, v < n → v ≠ q → 0 ≤ gi d v) (h2 : ∀ m, m < 2 ^ n → 1 ≤ m → m.testBit q = false → ¬ (∀ v, v < n → m.testBit v = true → outS n es m.testBit v ≤ gi d v)) : Red n es q d :=
  (tight_red hq h1).1 fun m a b c => h2 m b a c
end Go.Proofs.YtncilechkclmbaaGreat

/- What the pure forms of sums, of equivalence and of lists of divisors come to. -/
namespace Go.Proofs.YtncilechkclmbaaGreat
open Go Go.Proofs.Tryz
set_option linter.unusedVariables false
set_option linter.unusedSimpArgs false
theorem ym9 {n : Nat} {l : List (List Int)} {R : Int → Prop} (hl : l.length ≤ 1000) (h0 : 0 < l.length) (hd : ∀ k, k < l.length → (gx l k).length = n ∧ yaJ (gx l k) n = 0) (h : R 0) : yhe l R := by
  unfold yhe
  refine ⟨Cnt l.length (fun _ => True), Cnt.start trivial, ?_⟩
  rintro m _ ⟨k, rfl, rfl, hk, -⟩
  simp only [Int.toNat_natCast]
  refine ⟨fun hlt => ⟨by omega, yhs ⟨fun _ => Cnt.next (by omega) (by omega) trivial, fun q => absurd ?_ q⟩⟩, fun hge => ?_⟩
  · rw [(hd k (by omega)).1]; exact (hd k (by omega)).2
  · refine ⟨Cnt l.length (fun _ => True), Cnt.start trivial, ?_⟩
    rintro m _ ⟨k2, rfl, rfl, hk2, -⟩
    simp only [Int.toNat_natCast, Int.toNat_zero]
    exact ⟨fun hlt => ⟨by omega, by omega, fun _ => Cnt.next (by omega) (by omega) trivial, fun q => absurd (by rw [(hd k2 (by omega)).1, (hd 0 h0).1]) q⟩, fun hge => h⟩
theorem sum_dg : ∀ (d : List Int), d.sum = dg d := by
  have key : ∀ (l : List Int) (n : Nat), n ≤ l.length → sm n (gi l) = (l.take n).sum := fun l n => by
    induction n with
    | zero => intro _; simp [sm]
    | succ n ih =>
      intro h
      rw [sm, ih (by omega), List.take_add_one, List.sum_append, yaY (by omega : n < l.length), List.getElem?_eq_getElem (by omega : n < l.length)]
      simp
  intro d
  unfold dg
  rw [key d d.length (Nat.le_refl _), List.take_length]
theorem gi_drop (d : List Int) (k i : Nat) : gi (d.drop k) i = gi d (k + i) := by unfold gi; simp
theorem dg_entry {d : List Int} (h : ∀ a ∈ d, 0 ≤ a) {j : Nat} (hj : j < d.length) : 0 ≤ gi d j ∧ gi d j ≤ d.sum := by
  have h1 : ∀ i, i < d.length → 0 ≤ gi d i := fun i hi => h _ (gi_mem hi)
  refine ⟨h1 j hj, ?_⟩
  rw [sum_dg]
  exact ygQ h1 j hj
theorem ygf (n k : Nat) : (ydb (n + 1) k).length ≤ (k + 1) ^ n := by
  induction n generalizing k with
  | zero => simp [ydb]
  | succ n ih =>
    show ((List.range (k + 1)).flatMap fun i => (ydb (n + 1) (k - i)).map ((i : Int) :: ·)).length ≤ _
    rw [List.length_flatMap]
    have h : ∀ (L : List Nat), (∀ i ∈ L, i ≤ k) → (L.map fun i => ((ydb (n + 1) (k - i)).map ((i : Int) :: ·)).length).sum ≤ L.length * (k + 1) ^ n := fun L => by
      induction L with
      | nil => simp
      | cons a L ihL =>
        intro hL
        have h1 := ihL fun i hi => hL i (by simp [hi])
        have h2 := ih (k - a)
        have h3 : (k - a + 1) ^ n ≤ (k + 1) ^ n := Nat.pow_le_pow_left (by omega) n
        simp only [List.map_cons, List.sum_cons, List.length_cons, List.length_map] at h1 ⊢
        rw [Nat.add_mul, Nat.one_mul]
        omega
    have := h (List.range (k + 1)) fun i hi => by rw [List.mem_range] at hi; omega
    rw [List.length_range] at this
    rwa [Nat.pow_succ, Nat.mul_comm]
end Go.Proofs.YtncilechkclmbaaGreat

/- Ranks of divisors, plainly: what takes any effective divisor of a degree away. No program in sight. -/
namespace Go.Proofs.YtncilechkclmbaaGreat
open Go Go.Proofs.Tryz
set_option linter.unusedVariables false
set_option linter.unusedSectionVars false
set_option linter.unusedSimpArgs false
theorem dg_n {d : List Int} {n : Nat} (h : d.length = n) : dg d = sm n (gi d) := by unfold dg; rw [h]
theorem yjZ {n : Nat} {es : List E3} {a b : List Int} (h : ∀ v, v < n → gi a v ≤ gi b v) (ha : Win n es a) : Win n es b := by
  obtain ⟨s, hs⟩ := ha
  exact ⟨s, fun v hv => by have := hs v hv; have := h v hv; omega⟩
theorem win_eqv {n : Nat} {es : List E3} {x y : List Int} {s : Nat → Int} (h : ∀ v, v < n → gi y v = gi x v - Lp n es s v) : Win n es x ↔ Win n es y := by
  constructor
  · rintro ⟨t, ht⟩
    refine ⟨fun i => t i + (-1) * s i, fun v hv => ?_⟩
    rw [yfM t (fun i => (-1) * s i), ygS, h v hv]
    have := ht v hv
    omega
  · rintro ⟨t, ht⟩
    refine ⟨fun i => t i + s i, fun v hv => ?_⟩
    rw [yfM t s]
    have := ht v hv
    rw [h v hv] at this
    omega
def half (n : Nat) (es : List E3) (r : Nat → Nat → Bool) : Int := sm n (fun v => sm n (fun u => if r u v = true then W es v u else 0))
theorem ynh {n : Nat} {es : List E3} {r : Nat → Nat → Bool} : half n es r = half n es (fun u v => r v u) := by
  unfold half
  rw [sm_swap (fun v u => if r u v = true then W es v u else 0)]
  refine yau fun v hv => yau fun u hu => ?_
  show (if r v u = true then W es u v else 0) = if r v u = true then W es v u else 0
  rw [yfK]
theorem half_le {n : Nat} {es : List E3} (hE : EOk n es) {r : Nat → Nat → Bool} (h : ∀ u v, r u v = true → r v u = true → False) : 2 * half n es r ≤ tot n es := by
  have h1 : half n es r + half n es r ≤ tot n es := by
    conv => lhs; arg 2; rw [ynh]
    unfold half tot
    rw [← ycF]
    refine yer fun v hv => ?_
    show _ + _ ≤ _
    rw [← ycF]
    refine yer fun u hu => ?_
    show (if r u v = true then W es v u else 0) + (if r v u = true then W es v u else 0) ≤ W es v u
    have := ybq hE v u
    by_cases e1 : r u v = true
    · rw [if_pos e1, if_neg (fun e2 => h u v e1 e2)]; omega
    · rw [if_neg e1]; split <;> omega
  omega
theorem half_ge {n : Nat} {es : List E3} (hE : EOk n es) {r : Nat → Nat → Bool} (h : ∀ u v, u ≠ v → r u v = true ∨ r v u = true) : tot n es ≤ 2 * half n es r := by
  have h1 : tot n es ≤ half n es r + half n es r := by
    conv => rhs; arg 2; rw [ynh]
    unfold half tot
    rw [← ycF]
    refine yer fun v hv => ?_
    show _ ≤ _ + _
    rw [← ycF]
    refine yer fun u hu => ?_
    show W es v u ≤ (if r u v = true then W es v u else 0) + (if r v u = true then W es v u else 0)
    have := ybq hE v u
    by_cases e : u = v
    · subst e; rw [ymP]; split <;> omega
    · rcases h u v e with q | q
      · rw [if_pos q]; split <;> omega
      · rw [if_pos q]; split <;> omega
  omega
def ords (n : Nat) (es : List E3) (b : List Bool) (ρ : Nat → Nat) (v : Nat) : Int := sm n (fun u => if gb b u = true ∧ ¬ ρ u < ρ v then 0 else W es v u)
theorem bor_all {n : Nat} {es : List E3} {d : List Int} (hg : yat n es = 0) (hE : EOk n es) (hC : ∀ q, q < n → Conn n es q) (hn : n ≤ 12) (hdb : ∀ v, v < n → -1000 ≤ gi d v) (hw : ¬ Win n es d) :
    ∀ (N : Nat) (c : Nat → Int) (x : List Int) (b : List Bool) (ρ : Nat → Nat) (K : Nat), 3456001 - sm n c ≤ N → Bor n es d c x b → (∀ u, u < n → ρ u < K) → (∀ v, v < n → gb b v = true → gi x v ≤ ords n es b ρ v - 1) →
      ∃ c x b ρ, Bor n es d c x b ∧ (∀ v, v < n → gb b v = true) ∧ ∀ v, v < n → gi x v ≤ ords n es b ρ v - 1 := by
  intro N
  induction N with
  | zero =>
    intro c x b ρ K hN hB hρ hx
    by_cases hall : ∀ v, v < n → gb b v = true
    · exact ⟨c, x, b, ρ, hB, hall, fun v hv => hx v hv (hall v hv)⟩
    · exfalso
      obtain ⟨w, hw1⟩ := Classical.not_forall.1 hall
      obtain ⟨hw2, hw3⟩ := Classical.not_imp.1 hw1
      have := bor_total hn (bor_few hE hC hn hdb hB hw2 hw3)
      omega
  | succ N ih =>
    intro c x b ρ K hN hB hρ hx
    by_cases hall : ∀ v, v < n → gb b v = true
    · exact ⟨c, x, b, ρ, hB, hall, fun v hv => hx v hv (hall v hv)⟩
    · have hdebt : ¬ ∀ v, v < n → 0 ≤ gi x v := fun q => hw (bor_win hB q)
      obtain ⟨v, hv1⟩ := Classical.not_forall.1 hdebt
      obtain ⟨hv, hv3⟩ := Classical.not_imp.1 hv1
      have hneg : gi x v < 0 := by omega
      have hy : ∀ i, i < n → gi (tab (fun i => if i = v then gi x v + deg n es v else gi x i - W es i v) n) i = if i = v then gi x v + deg n es v else gi x i - W es i v := fun i hi => yf5 _ hi
      have hB2 := bor_step hg hE hn hB hv hneg (ydW _ n) hy
      refine ih _ _ _ (fun u => if u = v then K else ρ u) (K + 1) (by rw [bor_count hv]; omega) hB2 (fun u hu => ?_) fun i hi hbi => ?_
      · show (if u = v then K else ρ u) < K + 1
        have := hρ u hu
        split <;> omega
      · rw [hy i hi]
        have hgb : ∀ u, gb (b.set v true) u = if u = v then true else gb b u := fun u => by
          rw [ydG (by rw [hB.bl]; exact hv)]
        by_cases e : i = v
        · subst e
          rw [if_pos rfl]
          have h1 : ords n es (b.set i true) (fun u => if u = i then K else ρ u) i = deg n es i := by
            unfold ords deg
            refine yau fun u hu => ?_
            show (if gb (b.set i true) u = true ∧ ¬ (if u = i then K else ρ u) < (if i = i then K else ρ i) then 0 else W es i u) = W es i u
            by_cases e : u = i
            · subst e; rw [ymP]; exact ite_self _
            · rw [if_neg]
              rintro ⟨_, h⟩
              rw [if_neg e, if_pos rfl] at h
              exact h (hρ u hu)
          rw [h1]; omega
        · rw [if_neg e]
          rw [hgb, if_neg e] at hbi
          have h0 := hx i hi hbi
          have h1 : ords n es b ρ i ≤ ords n es (b.set v true) (fun u => if u = v then K else ρ u) i + W es i v := by
            have h2 : ords n es (b.set v true) (fun u => if u = v then K else ρ u) i + W es i v = sm n (fun u => (if gb (b.set v true) u = true ∧ ¬ (if u = v then K else ρ u) < (if i = v then K else ρ i) then 0 else W es i u) + if u = v then W es i v else 0) := by
              rw [ycF, yeI _ hv]; rfl
            rw [h2]
            unfold ords
            refine yer fun u hu => ?_
            show (if gb b u = true ∧ ¬ ρ u < ρ i then 0 else W es i u) ≤ (if gb (b.set v true) u = true ∧ ¬ (if u = v then K else ρ u) < (if i = v then K else ρ i) then 0 else W es i u) + if u = v then W es i v else 0
            rw [hgb, if_neg e]
            have := ybq hE i u
            by_cases e2 : u = v
            · subst e2
              rw [if_pos rfl, if_pos rfl, if_pos rfl]
              split <;> split <;> omega
            · rw [if_neg e2, if_neg e2, if_neg e2]; omega
          omega
theorem ym7 {n : Nat} {es : List E3} {d : List Int} (hg : yat n es = 0) (hC : ∀ q, q < n → Conn n es q) (hn : n ≤ 12) (hd : d.length = n) (hdb : ∀ v, v < n → -1000 ≤ gi d v ∧ gi d v ≤ 1000) (h : yje es + 1 - n ≤ dg d) : Win n es d := by
  apply Classical.byContradiction
  intro hw
  have hE := (yc9 hg).1
  obtain ⟨c, x, b, ρ, hB, hall, hx⟩ := bor_all hg hE hC hn (fun v hv => (hdb v hv).1) hw 3456001 (fun _ => 0) d (List.replicate n false) (fun _ => 0) 1 (by rw [ycf]; omega) (bor_start hd fun v hv => (hdb v hv).2) (fun _ _ => by omega) (fun v hv h => by rw [gb_rep] at h; cases h)
  have h1 : dg x = dg d := dg_lp (n := n) (es := es) hB.xl hd (s := fun i => (-1) * c i) fun v hv => by rw [ygS, hB.val v hv]; omega
  have h2 : dg x ≤ half n es (fun u v => decide (ρ u < ρ v)) - n := by
    rw [dg_n hB.xl]
    have h3 : half n es (fun u v => decide (ρ u < ρ v)) - n = sm n (fun v => ords n es b ρ v - 1) := by
      rw [yjJ, yeY]
      have : half n es (fun u v => decide (ρ u < ρ v)) = sm n (fun v => ords n es b ρ v) := by
        unfold half ords
        refine yau fun v hv => yau fun u hu => ?_
        show (if decide (ρ u < ρ v) = true then W es v u else 0) = if gb b u = true ∧ ¬ ρ u < ρ v then 0 else W es v u
        by_cases e : ρ u < ρ v
        · rw [if_pos (by simpa using e), if_neg (fun q => q.2 e)]
        · rw [if_neg (by simpa using e), if_pos ⟨hall u hu, e⟩]
      have e9 : sm n (ords n es b ρ) = sm n (fun v => ords n es b ρ v) := rfl
      rw [this, e9]; omega
    rw [h3]
    exact yer hx
  have h4 := half_le hE (r := fun u v => decide (ρ u < ρ v)) (fun u v a b => by simp at a b; omega)
  rw [yj5 hE] at h4
  omega
def nu (n : Nat) (es : List E3) : List Int := tab (fun v => sm n (fun u => if decide (u < v) = true then W es v u else 0) - 1) n
theorem nu_dg {n : Nat} {es : List E3} (hE : EOk n es) : dg (nu n es) = yje es - n := by
  have h1 : dg (nu n es) = half n es (fun u v => decide (u < v)) - n := by
    rw [dg_n (show (nu n es).length = n from ydW _ n)]
    have : sm n (gi (nu n es)) = sm n (fun v => sm n (fun u => if decide (u < v) = true then W es v u else 0) - 1) := yau fun v hv => yf5 _ hv
    rw [this, yjJ, yeY]
    show _ - _ = half n es (fun u v => decide (u < v)) - n
    have e9 : half n es (fun u v => decide (u < v)) = sm n (fun v => sm n (fun u => if decide (u < v) = true then W es v u else 0)) := rfl
    rw [e9]; omega
  have h2 := half_le hE (r := fun u v => decide (u < v)) (fun u v a b => by simp at a b; omega)
  have h3 := half_ge hE (r := fun u v => decide (u < v)) (fun u v h => by simp; omega)
  rw [yj5 hE] at h2 h3
  omega
theorem least_at (p : Nat → Prop) {n : Nat} (h : ∃ v, v < n ∧ p v) : ∃ v, v < n ∧ p v ∧ ∀ u, u < v → ¬ p u := by
  obtain ⟨v, hv, hp⟩ := h
  have : ∀ v, v < n → p v → ∃ v, v < n ∧ p v ∧ ∀ u, u < v → ¬ p u := by
    intro v
    induction v using Nat.strongRecOn with
    | ind v ih =>
      intro hv hp
      by_cases q : ∃ u, u < v ∧ p u
      · obtain ⟨u, hu, hpu⟩ := q
        exact ih u hu (by omega) hpu
      · exact ⟨v, hv, hp, fun u hu hpu => q ⟨u, hu, hpu⟩⟩
  exact this v hv hp
theorem nu_lose {n : Nat} {es : List E3} (hE : EOk n es) (hn : 1 ≤ n) : ¬ Win n es (nu n es) := by
  rintro ⟨s, hs⟩
  obtain ⟨w, hw, hmax⟩ := max_at s n hn
  obtain ⟨v, hv, hp, hlow⟩ := least_at (fun v => s v = s w) (n := n) ⟨w, hw, rfl⟩
  have h1 := hs v hv
  have h2 : sm n (fun u => if decide (u < v) = true then W es v u else 0) ≤ Lp n es s v := by
    unfold Lp
    refine yer fun u hu => ?_
    show (if decide (u < v) = true then W es v u else 0) ≤ W es v u * (s v - s u)
    have h3 := ybq hE v u
    have h4 := hmax u hu
    by_cases e : u < v
    · rw [if_pos (by simpa using e)]
      have h5 : s u ≠ s w := hlow u e
      have h6 : W es v u * 1 ≤ W es v u * (s v - s u) := Int.mul_le_mul_of_nonneg_left (by omega) h3
      omega
    · rw [if_neg (by simpa using e)]
      exact Int.mul_nonneg h3 (by omega)
  have h3 : gi (nu n es) v = sm n (fun u => if decide (u < v) = true then W es v u else 0) - 1 := yf5 _ hv
  omega
theorem nu_bound {n : Nat} {es : List E3} (hE : EOk n es) {T : Int} (ht : tot n es ≤ T) {v : Nat} (hv : v < n) : -1 ≤ gi (nu n es) v ∧ gi (nu n es) v ≤ T := by
  have h3 : gi (nu n es) v = sm n (fun u => if decide (u < v) = true then W es v u else 0) - 1 := yf5 _ hv
  have h4 : 0 ≤ sm n (fun u => if decide (u < v) = true then W es v u else 0) := ya6 fun u _ => by
    have := ybq hE v u
    show 0 ≤ if decide (u < v) = true then W es v u else 0
    split <;> omega
  have h5 : sm n (fun u => if decide (u < v) = true then W es v u else 0) ≤ deg n es v := yer fun u _ => by
    have := ybq hE v u
    show (if decide (u < v) = true then W es v u else 0) ≤ W es v u
    split <;> omega
  have h6 : deg n es v ≤ tot n es := ygQ (f := fun v => sm n (fun u => W es v u)) (fun i _ => ya6 fun u _ => ybq hE i u) v hv
  omega
def sb (n : Nat) (d e : List Int) : List Int := tab (fun i => gi d i - gi e i) n
theorem yjt (n : Nat) (d e : List Int) : (sb n d e).length = n := ydW _ _
theorem yjA {n : Nat} {d e : List Int} {v : Nat} (hv : v < n) : gi (sb n d e) v = gi d v - gi e v := yf5 _ hv
theorem dg_sb {n : Nat} {d e : List Int} (hd : d.length = n) (he : e.length = n) : dg (sb n d e) = dg d - dg e := by
  rw [dg_n (yjt n d e), dg_n hd, dg_n he, ← yjJ]
  exact yau fun v hv => yjA hv
structure Eff (n : Nat) (e : List Int) (r : Int) : Prop where
  len : e.length = n
  pos : ∀ v, v < n → 0 ≤ gi e v
  deg : dg e = r
theorem Eff.nonneg {n : Nat} {e : List Int} {r : Int} (h : Eff n e r) : 0 ≤ r := by
  rw [← h.deg, dg_n h.len]; exact ya6 h.pos
theorem Eff.le {n : Nat} {e : List Int} {r : Int} (h : Eff n e r) {v : Nat} (hv : v < n) : gi e v ≤ r := by
  rw [← h.deg, dg_n h.len]; exact ygQ h.pos v hv
theorem Eff.add {n : Nat} {e : List Int} {r : Int} (h : Eff n e r) {v : Nat} (hv : v < n) {k : Int} (hk : 0 ≤ gi e v + k) : Eff n (ycD e v k) (r + k) :=
  ⟨by rw [ybP, h.len], fun i hi => by
    rw [yct (by rw [h.len]; exact hv)]
    have := h.pos i hi
    split <;> omega, by rw [ymN (by rw [h.len]; exact hv), h.deg]⟩
theorem ykq (n : Nat) : Eff n (List.replicate n 0) 0 :=
  ⟨by simp, fun v hv => by rw [yaY (by simpa using hv)]; simp, by
    rw [dg_n (n := n) (by simp), yau (g := fun _ => 0) fun v hv => by rw [yaY (by simpa using hv)]; simp]
    exact ycf n⟩
theorem eff_at {n : Nat} (hn : 1 ≤ n) {k : Int} (hk : 0 ≤ k) : Eff n (ycD (List.replicate n 0) 0 k) k := by
  have h := (ykq n).add (v := 0) (by omega) (k := k) (by have := (ykq n).pos 0 (by omega); omega)
  rwa [Int.zero_add] at h
theorem yka {n v : Nat} (hv : v < n) : gi (List.replicate n 0) v = 0 := by rw [yaY (by simpa using hv)]; simp
def AL (n : Nat) (es : List E3) (d : List Int) (r : Int) : Prop := ∀ e, Eff n e r → Win n es (sb n d e)
structure RkOk (n : Nat) (es : List E3) (d : List Int) (k : Int) : Prop where
  lo : -1 ≤ k
  al : AL n es d k
  no : ¬ AL n es d (k + 1)
section
variable {n : Nat} {es : List E3} {d : List Int}
theorem al_neg {r : Int} (hr : r < 0) : AL n es d r := fun e he => by have := he.nonneg; omega
theorem al_down (hn : 1 ≤ n) {r : Int} (h : AL n es d (r + 1)) : AL n es d r := fun e he => by
  have h1 := h _ (he.add (v := 0) (k := 1) (by omega) (by have := he.pos 0 (by omega); omega))
  refine yjZ (fun v hv => ?_) h1
  rw [yjA hv, yjA hv, yct (by rw [he.len]; omega)]
  split
  · rename_i e; subst e; omega
  · omega
theorem al_le (hn : 1 ≤ n) : ∀ (k : Nat) {r : Int}, AL n es d (r + k) → AL n es d r
  | 0, r, h => by simpa using h
  | k + 1, r, h => al_le hn k (al_down hn (by rw [Int.add_assoc]; exact_mod_cast h))
theorem yj4 (hn : 1 ≤ n) {r r' : Int} (h : r ≤ r') (ha : AL n es d r') : AL n es d r := by
  refine al_le hn (r' - r).toNat ?_
  rwa [show r + ((r' - r).toNat : Int) = r' from by omega]
theorem RkOk.eq (hn : 1 ≤ n) {k k' : Int} (h : RkOk n es d k) (h' : RkOk n es d k') : k = k' := by
  rcases Int.lt_trichotomy k k' with q | q | q
  · exact absurd (yj4 hn (by omega) h'.al) h.no
  · exact q
  · exact absurd (yj4 hn (by omega) h.al) h'.no
theorem RkOk.ge (hn : 1 ≤ n) {k r : Int} (h : RkOk n es d k) : r ≤ k ↔ AL n es d r :=
  ⟨fun q => yj4 hn q h.al, fun q => Int.not_lt.1 fun lt => h.no (yj4 hn (by omega) q)⟩
theorem sb_zero {v : Nat} (hv : v < n) : gi (sb n d (List.replicate n 0)) v = gi d v := by rw [yjA hv, yka hv]; omega
theorem al_zero : AL n es d 0 ↔ Win n es d := by
  constructor
  · intro h; exact yjZ (fun v hv => by rw [sb_zero hv]; exact Int.le_refl _) (h _ (ykq n))
  · intro h e he
    refine yjZ (fun v hv => ?_) h
    have h1 := he.pos v hv
    have h2 := he.le hv
    rw [yjA hv]; omega
theorem rk_lose (h : ¬ Win n es d) : RkOk n es d (-1) := ⟨by omega, al_neg (by omega), fun q => h (al_zero.1 q)⟩
theorem RkOk.win (hn : 1 ≤ n) {k : Int} (h : RkOk n es d k) : 0 ≤ k ↔ Win n es d := (h.ge hn).trans al_zero
theorem RkOk.top (hn : 1 ≤ n) (hd : d.length = n) {k : Int} (h : RkOk n es d k) (hw : Win n es d) : k ≤ dg d := by
  have h0 := (h.win hn).2 hw
  have h1 := win_dg (yjt n d _) (h.al _ (eff_at hn h0))
  rw [dg_sb hd (eff_at hn h0).len, (eff_at hn h0).deg] at h1
  omega
theorem al_eqv {x y : List Int} {s : Nat → Int} (h : ∀ v, v < n → gi y v = gi x v - Lp n es s v) {r : Int} : AL n es x r ↔ AL n es y r := by
  have key : ∀ e, Win n es (sb n x e) ↔ Win n es (sb n y e) := fun e => win_eqv (s := s) fun v hv => by rw [yjA hv, yjA hv, h v hv]; omega
  exact ⟨fun q e he => (key e).1 (q e he), fun q e he => (key e).2 (q e he)⟩
theorem rk_eqv {x y : List Int} {s : Nat → Int} (h : ∀ v, v < n → gi y v = gi x v - Lp n es s v) {k : Int} : RkOk n es x k ↔ RkOk n es y k :=
  ⟨fun q => ⟨q.lo, (al_eqv h).1 q.al, fun a => q.no ((al_eqv h).2 a)⟩, fun q => ⟨q.lo, (al_eqv h).2 q.al, fun a => q.no ((al_eqv h).1 a)⟩⟩
theorem rk_big (hg : yat n es = 0) (hC : ∀ q, q < n → Conn n es q) (h1 : 1 ≤ n) (hn : n ≤ 12) (hd : d.length = n) (hdb : ∀ v, v < n → -200 ≤ gi d v ∧ gi d v ≤ 200) (hdg : dg d ≤ 200) (ht : tot n es ≤ 18) (h : 2 * (yje es + 1 - n) - 2 < dg d) :
    RkOk n es d (dg d - (yje es + 1 - n)) := by
  have hE := (yc9 hg).1
  have hg0 : 0 ≤ yje es + 1 - n := by
    apply Classical.byContradiction
    intro q
    have hl : (ycD (List.replicate n (0 : Int)) 0 (-1)).length = n := by rw [ybP]; simp
    have hdg1 : dg (ycD (List.replicate n (0 : Int)) 0 (-1)) = -1 := by rw [ymN (by simp; omega), (ykq n).deg]; rfl
    have hw := ym7 hg hC hn hl (fun v hv => by
      rw [yct (by simp; omega), yka hv, yka (by omega)]
      split <;> omega) (by rw [hdg1]; omega)
    have := win_dg hl hw
    omega
  refine ⟨by omega, fun e he => ?_, fun hal => ?_⟩
  · refine ym7 hg hC hn (yjt n d e) (fun v hv => ?_) ?_
    · rw [yjA hv]
      have := he.pos v hv
      have := he.le hv
      have := hdb v hv
      omega
    · rw [dg_sb hd he.len, he.deg]; omega
  · have hnl : (nu n es).length = n := ydW _ n
    have h2 : Win n es (sb n d (nu n es)) := by
      refine ym7 hg hC hn (yjt n d _) (fun v hv => ?_) ?_
      · rw [yjA hv]
        have := nu_bound hE ht hv
        have := hdb v hv
        omega
      · rw [dg_sb hd hnl, nu_dg hE]; omega
    obtain ⟨s, hs⟩ := h2
    obtain ⟨e, he⟩ : ∃ e, e = tab (fun v => gi (sb n d (nu n es)) v - Lp n es s v) n := ⟨_, rfl⟩
    have hge : ∀ v, v < n → gi e v = gi (sb n d (nu n es)) v - Lp n es s v := fun v hv => by rw [he]; exact yf5 _ hv
    have hel : e.length = n := by rw [he]; exact ydW _ n
    have heff : Eff n e (dg d - (yje es + 1 - n) + 1) := ⟨hel, fun v hv => by rw [hge v hv]; exact hs v hv, by
      rw [dg_lp hel (yjt n d _) hge, dg_sb hd hnl, nu_dg hE]; omega⟩
    have h3 := hal e heff
    refine nu_lose hE h1 ((win_eqv (x := nu n es) (y := sb n d e) (s := fun i => (-1) * s i) fun v hv => ?_).2 h3)
    rw [ygS, yjA hv, hge v hv, yjA hv]
    omega
theorem rk_step (hn : 1 ≤ n) (hd : d.length = n) (hw : Win n es d) {k : Nat → Int} (hk : ∀ v, v < n → RkOk n es (ycD d v (-1)) (k v)) {m : Int} (h1 : ∀ v, v < n → m ≤ k v + 1) (h2 : ∃ v, v < n ∧ m = k v + 1) : RkOk n es d m := by
  obtain ⟨v, hv, hm⟩ := h2
  refine ⟨by have := (hk v hv).lo; omega, fun e he => ?_, fun q => ?_⟩
  · by_cases e0 : m = 0
    · subst e0; exact al_zero.2 hw e he
    · have hpos : ∃ u, u < n ∧ 1 ≤ gi e u := by
        apply Classical.byContradiction
        intro q
        have : dg e ≤ 0 := by
          rw [dg_n he.len, ← ycf n]
          exact yer fun u hu => Int.not_lt.1 fun lt => q ⟨u, hu, lt⟩
        have := he.nonneg
        have := he.deg
        omega
      obtain ⟨u, hu, hu1⟩ := hpos
      have h3 := yj4 hn (r := m - 1) (by have := h1 u hu; omega) (hk u hu).al (ycD e u (-1)) (by have := he.add hu (k := -1) (by omega); exact this)
      refine yjZ (fun i hi => ?_) h3
      rw [yjA hi, yjA hi, yct (by rw [hd]; exact hu), yct (by rw [he.len]; exact hu)]
      split
      · rename_i e; subst e; omega
      · omega
  · refine (hk v hv).no fun e he => ?_
    have h3 := q (ycD e v 1) (by have := he.add hv (k := 1) (by have := he.pos v hv; omega); rwa [show k v + 1 + 1 = m + 1 from by omega] at this)
    refine yjZ (fun i hi => ?_) h3
    rw [yjA hi, yjA hi, yct (d := e) (by rw [he.len]; exact hv), yct (d := d) (by rw [hd]; exact hv)]
    split
    · rename_i e; subst e; omega
    · omega
end
end Go.Proofs.YtncilechkclmbaaGreat

/- Complete linear systems, plainly: what single steps lead to, and lists in lexicographic order. No program in sight. -/
namespace Go.Proofs.YtncilechkclmbaaGreat
open Go Go.Proofs.Tryz
set_option linter.unusedVariables false
set_option linter.unusedSectionVars false
set_option linter.unusedSimpArgs false
structure Pos (n : Nat) (d : List Int) : Prop where
  len : d.length = n
  pos : ∀ v, v < n → 0 ≤ gi d v
def Eqv (n : Nat) (es : List E3) (x y : List Int) : Prop := ∃ s : Nat → Int, ∀ v, v < n → gi y v = gi x v - Lp n es s v
theorem Eqv.symm {n : Nat} {es : List E3} {x y : List Int} (h : Eqv n es x y) : Eqv n es y x := by
  obtain ⟨s, hs⟩ := h
  exact ⟨fun i => (-1) * s i, fun v hv => by rw [ygS, hs v hv]; omega⟩
theorem Eqv.trans {n : Nat} {es : List E3} {x y z : List Int} (h : Eqv n es x y) (k : Eqv n es y z) : Eqv n es x z := by
  obtain ⟨s, hs⟩ := h
  obtain ⟨t, ht⟩ := k
  exact ⟨fun i => s i + t i, fun v hv => by rw [yfM, ht v hv, hs v hv]; omega⟩
def lexC : List Int → List Int → Int
  | [], [] => 0
  | [], _ :: _ => -1
  | _ :: _, [] => 1
  | a :: s, b :: t => if a < b then -1 else if b < a then 1 else lexC s t
theorem yd0 : ∀ a, lexC a a = 0
  | [] => rfl
  | a :: s => by rw [lexC, if_neg (by omega), if_neg (by omega)]; exact yd0 s
theorem yeV : ∀ a b, lexC b a = -lexC a b
  | [], [] => rfl
  | [], _ :: _ => rfl
  | _ :: _, [] => rfl
  | a :: s, b :: t => by
    unfold lexC
    by_cases h1 : a < b
    · rw [if_pos h1, if_neg (show ¬ b < a by omega), if_pos h1]; rfl
    · by_cases h2 : b < a
      · rw [if_neg h1, if_pos h2, if_pos h2, if_neg h1]
      · rw [if_neg h1, if_neg h2, if_neg h2, if_neg h1]; exact yeV s t
def Asc (l : List (List Int)) : Prop := l.Pairwise fun a b => lexC a b < 0
theorem Asc.filter {l : List (List Int)} (h : Asc l) (p : List Int → Bool) : Asc (l.filter p) := List.Pairwise.filter p h
theorem Asc.eq : ∀ {a b : List (List Int)}, Asc a → Asc b → (∀ x, x ∈ a ↔ x ∈ b) → a = b
  | [], [], _, _, _ => rfl
  | [], y :: b, _, _, h => by have := (h y).2 (by simp); simp at this
  | x :: a, [], _, _, h => by have := (h x).1 (by simp); simp at this
  | x :: a, y :: b, h1, h2, h => by
    have k1 := List.pairwise_cons.1 h1
    have k2 := List.pairwise_cons.1 h2
    have e : x = y := by
      rcases List.mem_cons.1 ((h x).1 (by simp)) with q | q
      · exact q
      · rcases List.mem_cons.1 ((h y).2 (by simp)) with r | r
        · exact r.symm
        · have q1 := k2.1 x q
          have q2 := k1.1 y r
          rw [yeV] at q1
          omega
    subst e
    rw [Asc.eq k1.2 k2.2 fun z => ?_]
    constructor
    · intro hz
      rcases List.mem_cons.1 ((h z).1 (by simp [hz])) with q | q
      · have := k1.1 z hz; rw [q, yd0] at this; omega
      · exact q
    · intro hz
      rcases List.mem_cons.1 ((h z).2 (by simp [hz])) with q | q
      · have := k2.1 z hz; rw [q, yd0] at this; omega
      · exact q
end Go.Proofs.YtncilechkclmbaaGreat

/- The walk of slices.Compare at slices of ints and of the closure that sorts by it: the world is only drawn from. -/
namespace Go.Proofs.YtncilechkclmbaaGreat
open Go Go.RowKit Go.Shelf Go.Proofs.Tryz
set_option maxRecDepth 100000
set_option maxHeartbeats 400000
set_option linter.unusedVariables false
end Go.Proofs.YtncilechkclmbaaGreat

/- Pure forms of functions, made by program (pf.py), each with the proof that the code does so. -/
namespace Go.Proofs.YtncilechkclmbaaGreat
open Go Go.RowKit Go.Shelf Go.Proofs.Tryz
set_option linter.unusedVariables false
set_option maxRecDepth 100000
set_option maxHeartbeats 1000000
end Go.Proofs.YtncilechkclmbaaGreat
