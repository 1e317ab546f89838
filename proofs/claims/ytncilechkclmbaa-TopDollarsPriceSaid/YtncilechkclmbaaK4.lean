/- Texts laid together: Pa, Pb, Pt, Pd, Pe, Pg, PEa, PEb, PRa, PRb. -/
import Derived.Test.YtncilechkclmbaaK3
/- Pure forms of functions, made by program (pf.py), each with the proof that the code does so. -/
namespace Go.Proofs.Ytncilechkclmbaa
open Go Go.RowKit Go.Shelf Go.Proofs.Try
set_option linter.unusedVariables false
set_option maxRecDepth 100000
set_option maxHeartbeats 1000000
def yfc (k : Int) (R : Bool → Prop) : Prop :=
(((-1048576) ≤ k →
R (decide (k ≤ 1048576))) ∧
(¬ ((-1048576) ≤ k) →
R false))
theorem pok_r17_In {O : Nat → Prop} {w : World} {k} {R : Bool → Prop} (h : yfc k R) (hO : ∀ k, O k → k < w.heap.size) :
    Calls Try.prog 23 #[(ii k)] w fun e w' => ∃ r, e = .returned (.bool (r)) ∧ Sep w no O w' (rl []) ∧ R r := by
  unfold yfc at h; have hS : Sep w no O w (rl []) := Sep.start w hO; refine yan (l := [(ii k)]) func23 rfl ntmps23 (Nat.le_of_ble_eq_true rfl) (zs (zq (za (.bool (false))) (yaa (zs (zq (zm (ii k)) (zq (v_geq rfl rfl) (zq (zm (.bool (decide ((-1048576) ≤ k)))) ?_))))))); by_cases hp : (-1048576) ≤ k
  · replace h := h.1 hp; exact rl_q (yac rfl (yaf rfl (congrArg Value.bool (decide_eq_true hp)))) rfl rfl (zm (ii k)) (rl_q (yac rfl (yaf rfl (congrArg Value.bool (decide_eq_true hp)))) rfl rfl (v_leq rfl rfl) (zq (yat (v := (.bool (decide (k ≤ 1048576)))) (congrArg Value.bool (decide_eq_true hp)) rfl) (zq (za (.bool (decide (k ≤ 1048576)))) (yaa (yal rfl rfl ⟨_, rfl, (hS.sel [] (by decide)), h⟩)))))
  · replace h := h.2 hp; exact rl_p (yab rfl (yaf rfl (congrArg Value.bool (decide_eq_false hp))) rfl) rfl (rl_p (yab rfl (yaf rfl (congrArg Value.bool (decide_eq_false hp))) rfl) rfl (zq (yav (v := (.bool (false))) (congrArg Value.bool (decide_eq_false hp)) rfl) (zq (za (.bool (false))) (yaa (yal rfl rfl ⟨_, rfl, (hS.sel [] (by decide)), h⟩)))))
def ydw (d : List Int) (n : Int) (R : Int → Prop) : Prop :=
(∃ J2 : Prop, (J2 → ((((d.length : Nat) : Int) = n →
(∃ I2 : Nat → Int → Prop, (∃ m0, I2 m0 0) ∧ ∀ m2 v, I2 m2 v → 
((v < n →
((0 ≤ v ∧ v < ((d.length : Nat) : Int)) ∧
yfc (gi d v.toNat) (fun r =>
((r = true →
(In64 (v + 1) ∧
∃ m3, m3 < m2 ∧ I2 m3 (v + 1))) ∧
(¬ (r = true) →
R 2))))) ∧
(¬ (v < n) →
R 0)))) ∧
(¬ (((d.length : Nat) : Int) = n) →
R 8))) ∧
((n < 1 →
R 2) ∧
(¬ (n < 1) →
((12 < n →
R 2) ∧
(¬ (12 < n) →
J2)))))
theorem pok_r17_Check {O : Nat → Prop} {w : World} {d n Ad ld cd} {R : Int → Prop} (h : ydw d n R) (hO : ∀ k, O k → k < w.heap.size) (hA0 : (FP.sl cI Ad ld cd d).P O w) :
    Calls Try.prog 12 #[(.slice Ad ld cd), (ii n)] w fun e w' => ∃ r2, e = .returned (ii r2) ∧ Sep w no O w' (rl []) ∧ R r2 := by
  unfold ydw at h; have hS : Sep w no O w (rl [Res.ro (FP.sl cI Ad ld cd d)]) := Sep.startl hO [(FP.sl cI Ad ld cd d)] ⟨hA0, trivial⟩; refine yan (l := [(.slice Ad ld cd), (ii n)]) func12 rfl ntmps12 (Nat.le_of_ble_eq_true rfl) (zs (zq (za (ii 0)) (yaa (yae (yae ?_))))); obtain ⟨J2, hJ, h⟩ := h; refine ycS (fun E ds w' => J2 ∧ ds = [] ∧ E 0 = (Value.slice Ad ld cd) ∧ E 1 = (ii n) ∧ Sep w no O w' (rl [Res.ro (FP.sl cI Ad ld cd d)])) ?_ ?_
  · clear h hS; rintro E ds w2 ⟨h, rfl, hE0, hE1, hS⟩; replace h := hJ h; refine yae (zs (zq (yad hE0) (zq (yaV (n := d.length) rfl underlying26 (yaR (hS.rdr 0 rfl))) (zq (yad hE1) (zq zN (yaa ?_)))))); by_cases hp : ((d.length : Nat) : Int) = n
    · replace h := h.1 hp; refine ze hp (yah (yae (zs (zq (za (ii 0)) (yaa (yak ?_)))))); obtain ⟨I2, ⟨m0, h0⟩, hr⟩ := h; refine yaC (fun m E ds w' => ∃ v, I2 m v ∧ ds = [] ∧ E 0 = (Value.slice Ad ld cd) ∧ E 1 = (ii n) ∧ E 5 = (ii v) ∧ Sep w no O w' (rl [Res.ro (FP.sl cI Ad ld cd d)])) m0 ⟨_, h0, rfl, hE0, hE1, rfl, (hS.sel [0] (by decide))⟩ ?_; clear h0 hS; rintro m2 E ds w3 ⟨v, h, rfl, hE0, hE1, hE5, hS⟩ again; replace h := hr m2 v h; clear hr; refine yae (zs (zq (yad hE5) (zq (yad hE1) (zq zL (yaa ?_))))); by_cases hp2 : v < n
      · replace h := h.1 hp2; refine zc hp2 (yah (yae (yak (zs (zq (yad hE0) (zq (yad hE5) ?_)))))); obtain ⟨hx, h⟩ := h; refine zq (zi underlying26 yag (yaQ (hS.rdr 0 rfl) hx)) (zq (yax (v := (ii (gi d v.toNat))) rfl underlying3 rfl (rd_1 (hS.rdr 0 rfl) hx (fun q => yaF q) rfl)) ?_); refine zn (yam rfl (am1 rfl) enter_23 ((pok_r17_In h (yaG _)).mono ?_)); rintro _ w4 ⟨r, rfl, hC, h⟩; replace hS := hS.pur hC.pure; clear hC; refine ⟨_, rfl, ?_⟩; refine zb (zq (ydm rfl) (yaa ?_)); by_cases hp3 : r = true
        · replace h := h.1 hp3; refine yaA (congrArg Value.bool (congrArg Bool.not hp3)) (yah (yaj (zr (zq (yad hE5) ?_)))); obtain ⟨hi, h⟩ := h; refine zq (zA hi) (zq (za (ii (v + 1))) (yaa ?_)); obtain ⟨mq, hlt, h⟩ := h; exact again mq _ _ _ ⟨_, h, rfl, hE0, hE1, rfl, (hS.sel [0] (by decide))⟩ hlt
        · replace h := h.2 hp3; exact yaq (congrArg Value.bool (congrArg Bool.not (Bool.eq_false_iff.2 hp3))) (zs (zq (za (ii 2)) (yaa (yal rfl rfl ⟨_, rfl, (hS.sel [] (by decide)), h⟩))))
      · replace h := h.2 hp2; exact zd hp2 (yay rfl (zs (zq (za (ii 0)) (yaa (yal rfl rfl ⟨_, rfl, (hS.sel [] (by decide)), h⟩)))))
    · replace h := h.2 hp; exact zf hp (zs (zq (za (ii 8)) (yaa (yal rfl rfl ⟨_, rfl, (hS.sel [] (by decide)), h⟩))))
  clear hJ; intro j; refine zr (zq (zm (ii n)) (zq zL (zq (zm (.bool (decide (n < 1)))) ?_))); by_cases hp4 : n < 1
  · replace h := h.1 hp4; exact rl_p (yab rfl (yaf rfl (congrArg Value.bool (decide_eq_true hp4))) rfl) rfl (rl_p (yab rfl (yaf rfl (congrArg Value.bool (decide_eq_true hp4))) rfl) rfl (zq (yat (v := (.bool (true))) (congrArg Value.bool (decide_eq_true hp4)) rfl) (yaa (yaq rfl (zs (zq (za (ii 2)) (yaa (yal rfl rfl ⟨_, rfl, (hS.sel [] (by decide)), h⟩))))))))
  · replace h := h.2 hp4; refine rl_q (yac rfl (yaf rfl (congrArg Value.bool (decide_eq_false hp4)))) rfl rfl (zm (ii n)) (rl_q (yac rfl (yaf rfl (congrArg Value.bool (decide_eq_false hp4)))) rfl rfl zG (zq (yav (v := (.bool (decide (12 < n)))) (congrArg Value.bool (decide_eq_false hp4)) rfl) (yaa ?_))); by_cases hp5 : 12 < n
    · replace h := h.1 hp5; exact zc hp5 (zs (zq (za (ii 2)) (yaa (yal rfl rfl ⟨_, rfl, (hS.sel [] (by decide)), h⟩))))
    · replace h := h.2 hp5; exact zd hp5 (yah (j _ _ _ ⟨h, rfl, rfl, rfl, (hS.sel [0] (by decide))⟩))
def ycz (g : Int) (g2 : List E3) (v : Int) (R : Bool → Prop) : Prop :=
((0 ≤ v →
R (decide (v < g))) ∧
(¬ (0 ≤ v) →
R false))
theorem yfo {O : Nat → Prop} {w : World} {g g2 v Ag lg cg} {R : Bool → Prop} (h : ycz g g2 v R) (hO : ∀ k, O k → k < w.heap.size) (hA0 : (FP.sl c3 Ag lg cg g2).P O w) :
    Calls Try.prog 64 #[(.agg #[(ii g), (.slice Ag lg cg)]), (ii v)] w fun e w' => ∃ r, e = .returned (.bool (r)) ∧ Sep w no O w' (rl []) ∧ R r := by
  unfold ycz at h; have hS : Sep w no O w (rl [Res.ro (FP.sl c3 Ag lg cg g2)]) := Sep.startl hO [(FP.sl c3 Ag lg cg g2)] ⟨hA0, trivial⟩; refine yan (l := [(.agg #[(ii g), (.slice Ag lg cg)]), (ii v)]) func64 rfl ntmps64 (Nat.le_of_ble_eq_true rfl) (zs (zn (ybO (v := (.agg #[(ii g), (.slice Ag lg cg)])) rfl ?_))); intro g3 w2 hN; replace hS : Sep w no O w2 (stl _ 1 (Res.box 24 g3 [(ii g), (.slice Ag lg cg)])) := hS.new 1 rfl hN; clear hN; refine zb (zq (za (.bool (false))) (yaa (zs (zq (zm (ii v)) (zq (v_geq rfl rfl) (zq (zm (.bool (decide (0 ≤ v)))) ?_)))))); by_cases hp : 0 ≤ v
  · replace h := h.1 hp; exact rl_q (yac rfl (yaf rfl (congrArg Value.bool (decide_eq_true hp)))) rfl rfl (zm (ii v)) (rl_q (yac rfl (yaf rfl (congrArg Value.bool (decide_eq_true hp)))) rfl rfl (yai rfl underlying24 rfl yag) (rl_q (yac rfl (yaf rfl (congrArg Value.bool (decide_eq_true hp)))) rfl rfl (zl underlying3 (Row.cell (hS.bx 1 rfl) (i := 0) rfl)) (rl_q (yac rfl (yaf rfl (congrArg Value.bool (decide_eq_true hp)))) rfl rfl zL (zq (yat (v := (.bool (decide (v < g)))) (congrArg Value.bool (decide_eq_true hp)) rfl) (zq (za (.bool (decide (v < g)))) (yaa (yal rfl rfl ⟨_, rfl, (hS.sel [] (by decide)), h⟩)))))))
  · replace h := h.2 hp; exact rl_p (yab rfl (yaf rfl (congrArg Value.bool (decide_eq_false hp))) rfl) rfl (rl_p (yab rfl (yaf rfl (congrArg Value.bool (decide_eq_false hp))) rfl) rfl (rl_p (yab rfl (yaf rfl (congrArg Value.bool (decide_eq_false hp))) rfl) rfl (rl_p (yab rfl (yaf rfl (congrArg Value.bool (decide_eq_false hp))) rfl) rfl (zq (yav (v := (.bool (false))) (congrArg Value.bool (decide_eq_false hp)) rfl) (zq (za (.bool (false))) (yaa (yal rfl rfl ⟨_, rfl, (hS.sel [] (by decide)), h⟩)))))))
def ycg (g : Int) (g2 : List E3) (a : Int) (b : Int) (R : Int → Prop) : Prop :=
(∃ I2 : Nat → Int → Prop, (∃ m0, I2 m0 0) ∧ ∀ m2 i, I2 m2 i → 
((i < ((g2.length : Nat) : Int) →
((0 ≤ i ∧ i < ((g2.length : Nat) : Int)) ∧
((((ge g2 i.toNat).1) = (mnF a b) →
((((ge g2 i.toNat).2.1) = (mxF a b) →
R ((ge g2 i.toNat).2.2)) ∧
(¬ (((ge g2 i.toNat).2.1) = (mxF a b)) →
(In64 (i + 1) ∧
∃ m3, m3 < m2 ∧ I2 m3 (i + 1))))) ∧
(¬ (((ge g2 i.toNat).1) = (mnF a b)) →
(In64 (i + 1) ∧
∃ m4, m4 < m2 ∧ I2 m4 (i + 1)))))) ∧
(¬ (i < ((g2.length : Nat) : Int)) →
R 0)))
theorem yhe {O : Nat → Prop} {w : World} {g g2 a b Ag lg cg} {R : Int → Prop} (h : ycg g g2 a b R) (hO : ∀ k, O k → k < w.heap.size) (hA0 : (FP.sl c3 Ag lg cg g2).P O w) :
    Calls Try.prog 83 #[(.agg #[(ii g), (.slice Ag lg cg)]), (ii a), (ii b)] w fun e w' => ∃ r, e = .returned (ii r) ∧ Sep w no O w' (rl []) ∧ R r := by
  unfold ycg at h; have hS : Sep w no O w (rl [Res.ro (FP.sl c3 Ag lg cg g2)]) := Sep.startl hO [(FP.sl c3 Ag lg cg g2)] ⟨hA0, trivial⟩; refine yan (l := [(.agg #[(ii g), (.slice Ag lg cg)]), (ii a), (ii b)]) func83 rfl ntmps83 (Nat.le_of_ble_eq_true rfl) (zs (zn (ybO (v := (.agg #[(ii g), (.slice Ag lg cg)])) rfl ?_))); intro g3 w2 hN; replace hS : Sep w no O w2 (stl _ 1 (Res.box 24 g3 [(ii g), (.slice Ag lg cg)])) := hS.new 1 rfl hN; clear hN; refine zb (zq (za (ii 0)) (yaa (yae (zs (zq (za (ii 0)) (yaa (yak ?_))))))); obtain ⟨I2, ⟨m0, h0⟩, hr⟩ := h; refine yaC (fun m E ds w' => ∃ i, I2 m i ∧ ds = [] ∧ E 1 = (ii a) ∧ E 2 = (ii b) ∧ E 3 = (Value.pointer (some (⟨g3, 0, none⟩ : Addr))) ∧ E 7 = (ii i) ∧ Sep w no O w' (rl [Res.box 24 g3 [(ii g), (.slice Ag lg cg)], Res.ro (FP.sl c3 Ag lg cg g2)])) m0 ⟨_, h0, rfl, rfl, rfl, rfl, rfl, (hS.sel [1, 0] (by decide))⟩ ?_; clear h0 hS; rintro m2 E ds w3 ⟨i, h, rfl, hE1, hE2, hE3, hE7, hS⟩ again; replace h := hr m2 i h; clear hr; refine yae (zs (zq (yad hE7) (zq (yai hE3 underlying24 rfl yb0) (zq (zl underlying22 (Row.cell (hS.bx 0 rfl) (i := 1) rfl)) (zq (yaV (n := g2.length) rfl underlying22 (yaR (hS.rdr 1 rfl))) (zq zL (yaa ?_))))))); by_cases hp : i < ((g2.length : Nat) : Int)
  · replace h := h.1 hp; refine zc hp (yah (yae (yak (zs (zq (yai hE3 underlying24 rfl yb0) (zq (zl underlying22 (Row.cell (hS.bx 0 rfl) (i := 1) rfl)) (zq (yad hE7) ?_))))))); obtain ⟨hx, h⟩ := h; refine zq (zi underlying22 yaE (yaQ (hS.rdr 1 rfl) hx)) (zq (yar (vs := [(ii ((ge g2 i.toNat).1)), (ii ((ge g2 i.toNat).2.1)), (ii ((ge g2 i.toNat).2.2))]) rfl underlying51 rfl yaE (rd_fs (hS.rdr 1 rfl) hx (fun q => ycN q))) ?_); refine zn (ya4 yaE ?_); intro g4 w4 hN; replace hS : Sep w no O w4 (stl _ 2 (Res.box 51 g4 [(ii 0), (ii 0), (ii 0)])) := hS.new 2 rfl hN; clear hN; refine zb (zo (ybg (b := g4) (o := 0) (cells := #[(ii ((ge g2 i.toNat).1)), (ii ((ge g2 i.toNat).2.1)), (ii ((ge g2 i.toNat).2.2))]) rfl rfl yaE rfl rfl (yaY (hS.bx 2 rfl) (Nat.le_of_ble_eq_true rfl)) ?_)); intro w5 e1; replace hS := hS.bstn 2 rfl 0 [(ii ((ge g2 i.toNat).1)), (ii ((ge g2 i.toNat).2.1)), (ii ((ge g2 i.toNat).2.2))] e1; clear e1; refine zb (yaa (zs (zq (yai rfl underlying51 rfl yag) (zq (zl underlying3 (Row.cell (hS.bx 2 rfl) (i := 0) rfl)) (zq (yad hE1) (zq (yad hE2) (zq (yhi rfl rfl) (zq zE (zq (zm (.bool (decide (((ge g2 i.toNat).1) = (mnF a b))))) ?_))))))))); by_cases hp2 : ((ge g2 i.toNat).1) = (mnF a b)
    · replace h := h.1 hp2; refine rl_q (yac rfl (yaf rfl (congrArg Value.bool (decide_eq_true hp2)))) rfl rfl (yai rfl underlying51 rfl yag) (rl_q (yac rfl (yaf rfl (congrArg Value.bool (decide_eq_true hp2)))) rfl rfl (zl underlying3 (Row.cell (hS.bx 2 rfl) (i := 1) rfl)) (rl_q (yac rfl (yaf rfl (congrArg Value.bool (decide_eq_true hp2)))) rfl rfl (yad hE1) (rl_q (yac rfl (yaf rfl (congrArg Value.bool (decide_eq_true hp2)))) rfl rfl (yad hE2) (rl_q (yac rfl (yaf rfl (congrArg Value.bool (decide_eq_true hp2)))) rfl rfl (yhI rfl rfl) (rl_q (yac rfl (yaf rfl (congrArg Value.bool (decide_eq_true hp2)))) rfl rfl zE (zq (yat (v := (.bool (decide (((ge g2 i.toNat).2.1) = (mxF a b))))) (congrArg Value.bool (decide_eq_true hp2)) rfl) (yaa ?_))))))); by_cases hp3 : ((ge g2 i.toNat).2.1) = (mxF a b)
      · replace h := h.1 hp3; exact zc hp3 (zs (zq (yai rfl underlying51 rfl yag) (zq (zl underlying3 (Row.cell (hS.bx 2 rfl) (i := 2) rfl)) (zq (za (ii ((ge g2 i.toNat).2.2))) (yaa (yal rfl rfl ⟨_, rfl, (hS.sel [] (by decide)), h⟩))))))
      · replace h := h.2 hp3; refine zd hp3 (yah (yaj (zr (zq (yad hE7) ?_)))); obtain ⟨hi, h⟩ := h; refine zq (zA hi) (zq (za (ii (i + 1))) (yaa ?_)); obtain ⟨mq, hlt, h⟩ := h; exact again mq _ _ _ ⟨_, h, rfl, hE1, hE2, hE3, rfl, (hS.sel [0, 1] (by decide))⟩ hlt
    · replace h := h.2 hp2; refine rl_p (yab rfl (yaf rfl (congrArg Value.bool (decide_eq_false hp2))) rfl) rfl (rl_p (yab rfl (yaf rfl (congrArg Value.bool (decide_eq_false hp2))) rfl) rfl (rl_p (yab rfl (yaf rfl (congrArg Value.bool (decide_eq_false hp2))) rfl) rfl (rl_p (yab rfl (yaf rfl (congrArg Value.bool (decide_eq_false hp2))) rfl) rfl (rl_p (yab rfl (yaf rfl (congrArg Value.bool (decide_eq_false hp2))) rfl) rfl (rl_p (yab rfl (yaf rfl (congrArg Value.bool (decide_eq_false hp2))) rfl) rfl (zq (yav (v := (.bool (false))) (congrArg Value.bool (decide_eq_false hp2)) rfl) (yaa (yaA rfl (yah (yaj (zr (zq (yad hE7) ?_)))))))))))); obtain ⟨hi2, h⟩ := h; refine zq (zA hi2) (zq (za (ii (i + 1))) (yaa ?_)); obtain ⟨mq, hlt, h⟩ := h; exact again mq _ _ _ ⟨_, h, rfl, hE1, hE2, hE3, rfl, (hS.sel [0, 1] (by decide))⟩ hlt
  · replace h := h.2 hp; exact zd hp (yay rfl (zs (zq (za (ii 0)) (yaa (yal rfl rfl ⟨_, rfl, (hS.sel [] (by decide)), h⟩)))))
def ydT (d : Int) (d2 : List E3) (i : Int) (R : Int → Prop) : Prop :=
((0 ≤ i ∧ i < ((d2.length : Nat) : Int)) ∧
(∃ J2 : Prop, (J2 → ((((ge d2 i.toNat).2.1) < ((ge d2 i.toNat).1) →
R 9) ∧
(¬ (((ge d2 i.toNat).2.1) < ((ge d2 i.toNat).1)) →
((0 < i →
(In64 (i - 1) ∧
((0 ≤ (i - 1) ∧ (i - 1) < ((d2.length : Nat) : Int)) ∧
((((ge d2 i.toNat).1) < ((ge d2 (i - 1).toNat).1) →
R 9) ∧
(¬ (((ge d2 i.toNat).1) < ((ge d2 (i - 1).toNat).1)) →
((((ge d2 i.toNat).1) = ((ge d2 (i - 1).toNat).1) →
((((ge d2 i.toNat).2.1) ≤ ((ge d2 (i - 1).toNat).2.1) →
R 9) ∧
(¬ (((ge d2 i.toNat).2.1) ≤ ((ge d2 (i - 1).toNat).2.1)) →
R 0))) ∧
(¬ (((ge d2 i.toNat).1) = ((ge d2 (i - 1).toNat).1)) →
R 0))))))) ∧
(¬ (0 < i) →
R 0))))) ∧
ycz d d2 ((ge d2 i.toNat).1) (fun r =>
((r = true →
ycz d d2 ((ge d2 i.toNat).2.1) (fun r2 =>
((r2 = true →
((((ge d2 i.toNat).2.2) < 1 →
R 2) ∧
(¬ (((ge d2 i.toNat).2.2) < 1) →
((50 < ((ge d2 i.toNat).2.2) →
R 2) ∧
(¬ (50 < ((ge d2 i.toNat).2.2)) →
J2))))) ∧
(¬ (r2 = true) →
R 2)))) ∧
(¬ (r = true) →
R 2)))))
theorem pok_r08_edge {O : Nat → Prop} {w : World} {d d2 i Ad ld cd} {R : Int → Prop} (h : ydT d d2 i R) (hO : ∀ k, O k → k < w.heap.size) (hA0 : (FP.sl c3 Ad ld cd d2).P O w) :
    Calls Try.prog 39 #[(.agg #[(ii d), (.slice Ad ld cd)]), (ii i)] w fun e w' => ∃ r3, e = .returned (ii r3) ∧ Sep w no O w' (rl []) ∧ R r3 := by
  unfold ydT at h; have hS : Sep w no O w (rl [Res.ro (FP.sl c3 Ad ld cd d2)]) := Sep.startl hO [(FP.sl c3 Ad ld cd d2)] ⟨hA0, trivial⟩; refine yan (l := [(.agg #[(ii d), (.slice Ad ld cd)]), (ii i)]) func39 rfl ntmps39 (Nat.le_of_ble_eq_true rfl) (zs (zn (ybO (v := (.agg #[(ii d), (.slice Ad ld cd)])) rfl ?_))); intro g w2 hN; replace hS : Sep w no O w2 (stl _ 1 (Res.box 24 g [(ii d), (.slice Ad ld cd)])) := hS.new 1 rfl hN; clear hN; refine zb (zq (za (ii 0)) (yaa (zs (zq (yai rfl underlying24 rfl yb0) (zq (zl underlying22 (Row.cell (hS.bx 1 rfl) (i := 1) rfl)) (zq (zm (ii i)) ?_)))))); obtain ⟨hx, h⟩ := h; refine zq (zi underlying22 yaE (yaQ (hS.rdr 0 rfl) hx)) (zq (yar (vs := [(ii ((ge d2 i.toNat).1)), (ii ((ge d2 i.toNat).2.1)), (ii ((ge d2 i.toNat).2.2))]) rfl underlying51 rfl yaE (rd_fs (hS.rdr 0 rfl) hx (fun q => ycN q))) ?_); refine zn (ya4 yaE ?_); intro g2 w3 hN; replace hS : Sep w no O w3 (stl _ 2 (Res.box 51 g2 [(ii 0), (ii 0), (ii 0)])) := hS.new 2 rfl hN; clear hN; refine zb (zo (ybg (b := g2) (o := 0) (cells := #[(ii ((ge d2 i.toNat).1)), (ii ((ge d2 i.toNat).2.1)), (ii ((ge d2 i.toNat).2.2))]) rfl rfl yaE rfl rfl (yaY (hS.bx 2 rfl) (Nat.le_of_ble_eq_true rfl)) ?_)); intro w4 e1; replace hS := hS.bstn 2 rfl 0 [(ii ((ge d2 i.toNat).1)), (ii ((ge d2 i.toNat).2.1)), (ii ((ge d2 i.toNat).2.2))] e1; clear e1; refine zb (yaa (yae (yae ?_))); obtain ⟨J2, hJ, h⟩ := h; refine ycS (fun E ds w' => J2 ∧ ds = [] ∧ E 1 = (ii i) ∧ E 2 = (Value.pointer (some (⟨g, 0, none⟩ : Addr))) ∧ E 5 = (Value.pointer (some (⟨g2, 0, none⟩ : Addr))) ∧ Sep w no O w' (rl [Res.box 24 g [(ii d), (.slice Ad ld cd)], Res.ro (FP.sl c3 Ad ld cd d2), Res.box 51 g2 [(ii ((ge d2 i.toNat).1)), (ii ((ge d2 i.toNat).2.1)), (ii ((ge d2 i.toNat).2.2))]])) ?_ ?_
  · clear h hS; rintro E ds w5 ⟨h, rfl, hE1, hE2, hE5, hS⟩; replace h := hJ h; refine yae (zs (zq (yai hE5 underlying51 rfl yag) (zq (zl underlying3 (Row.cell (hS.bx 2 rfl) (i := 0) rfl)) (zq (yai hE5 underlying51 rfl yag) (zq (zl underlying3 (Row.cell (hS.bx 2 rfl) (i := 1) rfl)) (zq zG (yaa ?_))))))); by_cases hp : ((ge d2 i.toNat).2.1) < ((ge d2 i.toNat).1)
    · replace h := h.1 hp; exact zc hp (zs (zq (za (ii 9)) (yaa (yal rfl rfl ⟨_, rfl, (hS.sel [] (by decide)), h⟩))))
    · replace h := h.2 hp; refine zd hp (yah (yae (zs (zq (yad hE1) (zq zG (yaa ?_)))))); by_cases hp2 : 0 < i
      · replace h := h.1 hp2; refine zc hp2 (zs (zq (yai hE2 underlying24 rfl yb0) (zq (zl underlying22 (Row.cell (hS.bx 0 rfl) (i := 1) rfl)) (zq (yad hE1) ?_)))); obtain ⟨hi, h⟩ := h; refine zq (zS hi) ?_; obtain ⟨hx2, h⟩ := h; refine zq (zi underlying22 yaE (yaQ (hS.rdr 1 rfl) hx2)) (zq (yar (vs := [(ii ((ge d2 (i - 1).toNat).1)), (ii ((ge d2 (i - 1).toNat).2.1)), (ii ((ge d2 (i - 1).toNat).2.2))]) rfl underlying51 rfl yaE (rd_fs (hS.rdr 1 rfl) hx2 (fun q => ycN q))) ?_); refine zn (ya4 yaE ?_); intro g3 w6 hN; replace hS : Sep w no O w6 (stl _ 3 (Res.box 51 g3 [(ii 0), (ii 0), (ii 0)])) := hS.new 3 rfl hN; clear hN; refine zb (zo (ybg (b := g3) (o := 0) (cells := #[(ii ((ge d2 (i - 1).toNat).1)), (ii ((ge d2 (i - 1).toNat).2.1)), (ii ((ge d2 (i - 1).toNat).2.2))]) rfl rfl yaE rfl rfl (yaY (hS.bx 3 rfl) (Nat.le_of_ble_eq_true rfl)) ?_)); intro w7 e1; replace hS := hS.bstn 3 rfl 0 [(ii ((ge d2 (i - 1).toNat).1)), (ii ((ge d2 (i - 1).toNat).2.1)), (ii ((ge d2 (i - 1).toNat).2.2))] e1; clear e1; refine zb (yaa (zs (zq (yai hE5 underlying51 rfl yag) (zq (zl underlying3 (Row.cell (hS.bx 2 rfl) (i := 0) rfl)) (zq (yai rfl underlying51 rfl yag) (zq (zl underlying3 (Row.cell (hS.bx 3 rfl) (i := 0) rfl)) (zq zL (zq (zm (.bool (decide (((ge d2 i.toNat).1) < ((ge d2 (i - 1).toNat).1))))) ?_)))))))); by_cases hp3 : ((ge d2 i.toNat).1) < ((ge d2 (i - 1).toNat).1)
        · replace h := h.1 hp3; exact rl_p (yab rfl (yaf rfl (congrArg Value.bool (decide_eq_true hp3))) rfl) rfl (rl_p (yab rfl (yaf rfl (congrArg Value.bool (decide_eq_true hp3))) rfl) rfl (rl_p (yab rfl (yaf rfl (congrArg Value.bool (decide_eq_true hp3))) rfl) rfl (rl_p (yab rfl (yaf rfl (congrArg Value.bool (decide_eq_true hp3))) rfl) rfl (rl_p (yab rfl (yaf rfl (congrArg Value.bool (decide_eq_true hp3))) rfl) rfl (rl_p (yab rfl (yaf rfl (congrArg Value.bool (decide_eq_true hp3))) rfl) rfl (rl_p (ybG rfl rfl) rfl (rl_p (ybG rfl rfl) rfl (rl_p (ybG rfl rfl) rfl (rl_p (ybG rfl rfl) rfl (rl_p (ybG rfl rfl) rfl (rl_p (yab rfl (yaf rfl (congrArg Value.bool (decide_eq_true hp3))) rfl) rfl (zq (yat (v := (.bool (true))) (congrArg Value.bool (decide_eq_true hp3)) rfl) (yaa (yaq rfl (zs (zq (za (ii 9)) (yaa (yal rfl rfl ⟨_, rfl, (hS.sel [] (by decide)), h⟩))))))))))))))))))
        · replace h := h.2 hp3; refine rl_q (yac rfl (yaf rfl (congrArg Value.bool (decide_eq_false hp3)))) rfl rfl (yai hE5 underlying51 rfl yag) (rl_q (yac rfl (yaf rfl (congrArg Value.bool (decide_eq_false hp3)))) rfl rfl (zl underlying3 (Row.cell (hS.bx 2 rfl) (i := 0) rfl)) (rl_q (yac rfl (yaf rfl (congrArg Value.bool (decide_eq_false hp3)))) rfl rfl (yai rfl underlying51 rfl yag) (rl_q (yac rfl (yaf rfl (congrArg Value.bool (decide_eq_false hp3)))) rfl rfl (zl underlying3 (Row.cell (hS.bx 3 rfl) (i := 0) rfl)) (rl_q (yac rfl (yaf rfl (congrArg Value.bool (decide_eq_false hp3)))) rfl rfl zE (rl_q (yac rfl (yaf rfl (congrArg Value.bool (decide_eq_false hp3)))) rfl rfl (zm (.bool (decide (((ge d2 i.toNat).1) = ((ge d2 (i - 1).toNat).1))))) ?_))))); by_cases hp4 : ((ge d2 i.toNat).1) = ((ge d2 (i - 1).toNat).1)
          · replace h := h.1 hp4; refine rl_q (yac rfl (yaf rfl (congrArg Value.bool (decide_eq_true hp4)))) rfl rfl (yai hE5 underlying51 rfl yag) (rl_q (yac rfl (yaf rfl (congrArg Value.bool (decide_eq_true hp4)))) rfl rfl (zl underlying3 (Row.cell (hS.bx 2 rfl) (i := 1) rfl)) (rl_q (yac rfl (yaf rfl (congrArg Value.bool (decide_eq_true hp4)))) rfl rfl (yai rfl underlying51 rfl yag) (rl_q (yac rfl (yaf rfl (congrArg Value.bool (decide_eq_true hp4)))) rfl rfl (zl underlying3 (Row.cell (hS.bx 3 rfl) (i := 1) rfl)) (rl_q (yac rfl (yaf rfl (congrArg Value.bool (decide_eq_true hp4)))) rfl rfl (v_leq rfl rfl) (rl_q (yac rfl (yaf rfl (congrArg Value.bool (decide_eq_false hp3)))) rfl rfl (yat (v := (.bool (decide (((ge d2 i.toNat).2.1) ≤ ((ge d2 (i - 1).toNat).2.1))))) (congrArg Value.bool (decide_eq_true hp4)) rfl) (zq (yav (v := (.bool (decide (((ge d2 i.toNat).2.1) ≤ ((ge d2 (i - 1).toNat).2.1))))) (congrArg Value.bool (decide_eq_false hp3)) rfl) (yaa ?_))))))); by_cases hp5 : ((ge d2 i.toNat).2.1) ≤ ((ge d2 (i - 1).toNat).2.1)
            · replace h := h.1 hp5; exact zc hp5 (zs (zq (za (ii 9)) (yaa (yal rfl rfl ⟨_, rfl, (hS.sel [] (by decide)), h⟩))))
            · replace h := h.2 hp5; exact zd hp5 (yah (zs (zq (za (ii 0)) (yaa (yal rfl rfl ⟨_, rfl, (hS.sel [] (by decide)), h⟩)))))
          · replace h := h.2 hp4; exact rl_p (yab rfl (yaf rfl (congrArg Value.bool (decide_eq_false hp4))) rfl) rfl (rl_p (yab rfl (yaf rfl (congrArg Value.bool (decide_eq_false hp4))) rfl) rfl (rl_p (yab rfl (yaf rfl (congrArg Value.bool (decide_eq_false hp4))) rfl) rfl (rl_p (yab rfl (yaf rfl (congrArg Value.bool (decide_eq_false hp4))) rfl) rfl (rl_p (yab rfl (yaf rfl (congrArg Value.bool (decide_eq_false hp4))) rfl) rfl (rl_q (yac rfl (yaf rfl (congrArg Value.bool (decide_eq_false hp3)))) rfl rfl (yav (v := (.bool (false))) (congrArg Value.bool (decide_eq_false hp4)) rfl) (zq (yav (v := (.bool (false))) (congrArg Value.bool (decide_eq_false hp3)) rfl) (yaa (yaA rfl (yah (zs (zq (za (ii 0)) (yaa (yal rfl rfl ⟨_, rfl, (hS.sel [] (by decide)), h⟩)))))))))))))
      · replace h := h.2 hp2; exact zd hp2 (yah (zs (zq (za (ii 0)) (yaa (yal rfl rfl ⟨_, rfl, (hS.sel [] (by decide)), h⟩)))))
  clear hJ; intro j; refine zr (zq (yar (vs := [(ii d), (.slice Ad ld cd)]) rfl underlying24 rfl yap ⟨Row.cell (hS.bx 1 rfl) (i := 0) rfl, Row.cell (hS.bx 1 rfl) (i := 1) rfl, trivial⟩) (zq (yai rfl underlying51 rfl yag) (zq (zl underlying3 (Row.cell (hS.bx 2 rfl) (i := 0) rfl)) (zn (yam rfl (am2 rfl rfl) enter_64 ((yfo h (yaG _) (hS.rdr 0 rfl)).mono ?_)))))); rintro _ w8 ⟨r, rfl, hC, h⟩; replace hS := hS.pur hC.pure; clear hC; refine ⟨_, rfl, ?_⟩; refine zb (zq (ydm rfl) (zq (zm (.bool (!(r)))) ?_)); by_cases hp6 : r = true
  · replace h := h.1 hp6; refine rl_q (yac rfl (yaf rfl (congrArg Value.bool (congrArg Bool.not hp6)))) rfl rfl (yar (vs := [(ii d), (.slice Ad ld cd)]) rfl underlying24 rfl yap ⟨Row.cell (hS.bx 1 rfl) (i := 0) rfl, Row.cell (hS.bx 1 rfl) (i := 1) rfl, trivial⟩) (rl_q (yac rfl (yaf rfl (congrArg Value.bool (congrArg Bool.not hp6)))) rfl rfl (yai rfl underlying51 rfl yag) (rl_q (yac rfl (yaf rfl (congrArg Value.bool (congrArg Bool.not hp6)))) rfl rfl (zl underlying3 (Row.cell (hS.bx 2 rfl) (i := 1) rfl)) (rl_n (yac rfl (yaf rfl (congrArg Value.bool (congrArg Bool.not hp6)))) rfl rfl rfl (yam rfl (am2 rfl rfl) enter_64 ((yfo h (yaG _) (hS.rdr 0 rfl)).mono ?_))))); rintro _ w9 ⟨r2, rfl, hC, h⟩; replace hS := hS.pur hC.pure; clear hC; refine ⟨_, rfl, ?_⟩; refine zb (rl_q (yac rfl (yaf rfl (congrArg Value.bool (congrArg Bool.not hp6)))) rfl rfl (ydm rfl) (zq (yav (v := (.bool (!(r2)))) (congrArg Value.bool (congrArg Bool.not hp6)) rfl) (zq (zm (.bool (!(r2)))) ?_))); by_cases hp7 : r2 = true
    · replace h := h.1 hp7; refine rl_q (yac rfl (yaf rfl (congrArg Value.bool (congrArg Bool.not hp7)))) rfl rfl (yai rfl underlying51 rfl yag) (rl_q (yac rfl (yaf rfl (congrArg Value.bool (congrArg Bool.not hp7)))) rfl rfl (zl underlying3 (Row.cell (hS.bx 2 rfl) (i := 2) rfl)) (rl_q (yac rfl (yaf rfl (congrArg Value.bool (congrArg Bool.not hp7)))) rfl rfl zL (zq (yav (v := (.bool (decide (((ge d2 i.toNat).2.2) < 1)))) (congrArg Value.bool (congrArg Bool.not hp7)) rfl) (zq (zm (.bool (decide (((ge d2 i.toNat).2.2) < 1)))) ?_)))); by_cases hp8 : ((ge d2 i.toNat).2.2) < 1
      · replace h := h.1 hp8; exact rl_p (yab rfl (yaf rfl (congrArg Value.bool (decide_eq_true hp8))) rfl) rfl (rl_p (yab rfl (yaf rfl (congrArg Value.bool (decide_eq_true hp8))) rfl) rfl (rl_p (yab rfl (yaf rfl (congrArg Value.bool (decide_eq_true hp8))) rfl) rfl (zq (yat (v := (.bool (true))) (congrArg Value.bool (decide_eq_true hp8)) rfl) (yaa (yaq rfl (zs (zq (za (ii 2)) (yaa (yal rfl rfl ⟨_, rfl, (hS.sel [] (by decide)), h⟩)))))))))
      · replace h := h.2 hp8; refine rl_q (yac rfl (yaf rfl (congrArg Value.bool (decide_eq_false hp8)))) rfl rfl (yai rfl underlying51 rfl yag) (rl_q (yac rfl (yaf rfl (congrArg Value.bool (decide_eq_false hp8)))) rfl rfl (zl underlying3 (Row.cell (hS.bx 2 rfl) (i := 2) rfl)) (rl_q (yac rfl (yaf rfl (congrArg Value.bool (decide_eq_false hp8)))) rfl rfl zG (zq (yav (v := (.bool (decide (50 < ((ge d2 i.toNat).2.2))))) (congrArg Value.bool (decide_eq_false hp8)) rfl) (yaa ?_)))); by_cases hp9 : 50 < ((ge d2 i.toNat).2.2)
        · replace h := h.1 hp9; exact zc hp9 (zs (zq (za (ii 2)) (yaa (yal rfl rfl ⟨_, rfl, (hS.sel [] (by decide)), h⟩))))
        · replace h := h.2 hp9; exact zd hp9 (yah (j _ _ _ ⟨h, rfl, rfl, rfl, rfl, (hS.sel [1, 0, 2] (by decide))⟩))
    · replace h := h.2 hp7; exact rl_p (yab rfl (yaf rfl (congrArg Value.bool (congrArg Bool.not (Bool.eq_false_iff.2 hp7)))) rfl) rfl (rl_p (yab rfl (yaf rfl (congrArg Value.bool (congrArg Bool.not (Bool.eq_false_iff.2 hp7)))) rfl) rfl (rl_p (yab rfl (yaf rfl (congrArg Value.bool (congrArg Bool.not (Bool.eq_false_iff.2 hp7)))) rfl) rfl (zq (yat (v := (.bool (true))) (congrArg Value.bool (congrArg Bool.not (Bool.eq_false_iff.2 hp7))) rfl) (zq (zm (.bool (true))) (rl_p (yab rfl (yaf rfl rfl) rfl) rfl (rl_p (yab rfl (yaf rfl rfl) rfl) rfl (rl_p (yab rfl (yaf rfl rfl) rfl) rfl (zq (yat (v := (.bool (true))) rfl rfl) (yaa (yaq rfl (zs (zq (za (ii 2)) (yaa (yal rfl rfl ⟨_, rfl, (hS.sel [] (by decide)), h⟩))))))))))))))
  · replace h := h.2 hp6; exact rl_p (yab rfl (yaf rfl (congrArg Value.bool (congrArg Bool.not (Bool.eq_false_iff.2 hp6)))) rfl) rfl (rl_p (yab rfl (yaf rfl (congrArg Value.bool (congrArg Bool.not (Bool.eq_false_iff.2 hp6)))) rfl) rfl (rl_p (yab rfl (yaf rfl (congrArg Value.bool (congrArg Bool.not (Bool.eq_false_iff.2 hp6)))) rfl) rfl (rl_p (yab rfl (yaf rfl (congrArg Value.bool (congrArg Bool.not (Bool.eq_false_iff.2 hp6)))) rfl) rfl (rl_p (yab rfl (yaf rfl (congrArg Value.bool (congrArg Bool.not (Bool.eq_false_iff.2 hp6)))) rfl) rfl (zq (yat (v := (.bool (true))) (congrArg Value.bool (congrArg Bool.not (Bool.eq_false_iff.2 hp6))) rfl) (zq (zm (.bool (true))) (rl_p (yab rfl (yaf rfl rfl) rfl) rfl (rl_p (yab rfl (yaf rfl rfl) rfl) rfl (rl_p (yab rfl (yaf rfl rfl) rfl) rfl (zq (yat (v := (.bool (true))) rfl rfl) (zq (zm (.bool (true))) (rl_p (yab rfl (yaf rfl rfl) rfl) rfl (rl_p (yab rfl (yaf rfl rfl) rfl) rfl (rl_p (yab rfl (yaf rfl rfl) rfl) rfl (zq (yat (v := (.bool (true))) rfl rfl) (yaa (yaq rfl (zs (zq (za (ii 2)) (yaa (yal rfl rfl ⟨_, rfl, (hS.sel [] (by decide)), h⟩)))))))))))))))))))))
def yc0 (g : Int) (g2 : List E3) (R : Int → Prop) : Prop :=
(∃ J2 : Prop, (J2 → (∃ I2 : Nat → Int → Prop, (∃ m0, I2 m0 0) ∧ ∀ m2 i, I2 m2 i → 
((i < ((g2.length : Nat) : Int) →
ydT g g2 i (fun r =>
((r = 0 →
(In64 (i + 1) ∧
∃ m3, m3 < m2 ∧ I2 m3 (i + 1))) ∧
(¬ (r = 0) →
R r)))) ∧
(¬ (i < ((g2.length : Nat) : Int)) →
R 0)))) ∧
((g < 1 →
R 2) ∧
(¬ (g < 1) →
((12 < g →
R 2) ∧
(¬ (12 < g) →
J2)))))
theorem yfX {O : Nat → Prop} {w : World} {g g2 Ag lg cg} {R : Int → Prop} (h : yc0 g g2 R) (hO : ∀ k, O k → k < w.heap.size) (hA0 : (FP.sl c3 Ag lg cg g2).P O w) :
    Calls Try.prog 20 #[(.agg #[(ii g), (.slice Ag lg cg)])] w fun e w' => ∃ r2, e = .returned (ii r2) ∧ Sep w no O w' (rl []) ∧ R r2 := by
  unfold yc0 at h; have hS : Sep w no O w (rl [Res.ro (FP.sl c3 Ag lg cg g2)]) := Sep.startl hO [(FP.sl c3 Ag lg cg g2)] ⟨hA0, trivial⟩; refine yan (l := [(.agg #[(ii g), (.slice Ag lg cg)])]) func20 rfl ntmps20 (Nat.le_of_ble_eq_true rfl) (zs (zn (ybO (v := (.agg #[(ii g), (.slice Ag lg cg)])) rfl ?_))); intro g3 w2 hN; replace hS : Sep w no O w2 (stl _ 1 (Res.box 24 g3 [(ii g), (.slice Ag lg cg)])) := hS.new 1 rfl hN; clear hN; refine zb (zq (za (ii 0)) (yaa (yae (yae ?_)))); obtain ⟨J2, hJ, h⟩ := h; refine ycS (fun E ds w' => J2 ∧ ds = [] ∧ E 1 = (Value.pointer (some (⟨g3, 0, none⟩ : Addr))) ∧ Sep w no O w' (rl [Res.box 24 g3 [(ii g), (.slice Ag lg cg)], Res.ro (FP.sl c3 Ag lg cg g2)])) ?_ ?_
  · clear h hS; rintro E ds w3 ⟨h, rfl, hE1, hS⟩; replace h := hJ h; refine yae (zs (zq (za (ii 0)) (yaa (yak ?_)))); obtain ⟨I2, ⟨m0, h0⟩, hr⟩ := h; refine yaC (fun m E ds w' => ∃ i, I2 m i ∧ ds = [] ∧ E 1 = (Value.pointer (some (⟨g3, 0, none⟩ : Addr))) ∧ E 3 = (ii i) ∧ Sep w no O w' (rl [Res.box 24 g3 [(ii g), (.slice Ag lg cg)], Res.ro (FP.sl c3 Ag lg cg g2)])) m0 ⟨_, h0, rfl, hE1, rfl, (hS.sel [0, 1] (by decide))⟩ ?_; clear h0 hS; rintro m2 E ds w4 ⟨i, h, rfl, hE1, hE3, hS⟩ again; replace h := hr m2 i h; clear hr; refine yae (zs (zq (yad hE3) (zq (yai hE1 underlying24 rfl yb0) (zq (zl underlying22 (Row.cell (hS.bx 0 rfl) (i := 1) rfl)) (zq (yaV (n := g2.length) rfl underlying22 (yaR (hS.rdr 1 rfl))) (zq zL (yaa ?_))))))); by_cases hp : i < ((g2.length : Nat) : Int)
    · replace h := h.1 hp; refine zc hp (yah (yae (yak (zs (zq (yar (vs := [(ii g), (.slice Ag lg cg)]) hE1 underlying24 rfl yap ⟨Row.cell (hS.bx 0 rfl) (i := 0) rfl, Row.cell (hS.bx 0 rfl) (i := 1) rfl, trivial⟩) (zq (yad hE3) (zn (yam rfl (am2 rfl rfl) enter_39 ((pok_r08_edge h (yaG _) (hS.rdr 1 rfl)).mono ?_))))))))); rintro _ w5 ⟨r, rfl, hC, h⟩; replace hS := hS.pur hC.pure; clear hC; refine ⟨_, rfl, ?_⟩; refine zb (zq (za (ii r)) (yaa (zs (zq (zm (ii r)) (zq zN (yaa ?_)))))); by_cases hp2 : r = 0
      · replace h := h.1 hp2; refine ze hp2 (yah (yaj (zr (zq (yad hE3) ?_)))); obtain ⟨hi, h⟩ := h; refine zq (zA hi) (zq (za (ii (i + 1))) (yaa ?_)); obtain ⟨mq, hlt, h⟩ := h; exact again mq _ _ _ ⟨_, h, rfl, hE1, rfl, (hS.sel [0, 1] (by decide))⟩ hlt
      · replace h := h.2 hp2; exact zf hp2 (zs (zq (zm (ii r)) (zq (za (ii r)) (yaa (yal rfl rfl ⟨_, rfl, (hS.sel [] (by decide)), h⟩)))))
    · replace h := h.2 hp; exact zd hp (yay rfl (zs (zq (za (ii 0)) (yaa (yal rfl rfl ⟨_, rfl, (hS.sel [] (by decide)), h⟩)))))
  clear hJ; intro j; refine zr (zq (yai rfl underlying24 rfl yag) (zq (zl underlying3 (Row.cell (hS.bx 1 rfl) (i := 0) rfl)) (zq zL (zq (zm (.bool (decide (g < 1)))) ?_)))); by_cases hp3 : g < 1
  · replace h := h.1 hp3; exact rl_p (yab rfl (yaf rfl (congrArg Value.bool (decide_eq_true hp3))) rfl) rfl (rl_p (yab rfl (yaf rfl (congrArg Value.bool (decide_eq_true hp3))) rfl) rfl (rl_p (yab rfl (yaf rfl (congrArg Value.bool (decide_eq_true hp3))) rfl) rfl (zq (yat (v := (.bool (true))) (congrArg Value.bool (decide_eq_true hp3)) rfl) (yaa (yaq rfl (zs (zq (za (ii 2)) (yaa (yal rfl rfl ⟨_, rfl, (hS.sel [] (by decide)), h⟩)))))))))
  · replace h := h.2 hp3; refine rl_q (yac rfl (yaf rfl (congrArg Value.bool (decide_eq_false hp3)))) rfl rfl (yai rfl underlying24 rfl yag) (rl_q (yac rfl (yaf rfl (congrArg Value.bool (decide_eq_false hp3)))) rfl rfl (zl underlying3 (Row.cell (hS.bx 1 rfl) (i := 0) rfl)) (rl_q (yac rfl (yaf rfl (congrArg Value.bool (decide_eq_false hp3)))) rfl rfl zG (zq (yav (v := (.bool (decide (12 < g)))) (congrArg Value.bool (decide_eq_false hp3)) rfl) (yaa ?_)))); by_cases hp4 : 12 < g
    · replace h := h.1 hp4; exact zc hp4 (zs (zq (za (ii 2)) (yaa (yal rfl rfl ⟨_, rfl, (hS.sel [] (by decide)), h⟩))))
    · replace h := h.2 hp4; exact zd hp4 (yah (j _ _ _ ⟨h, rfl, rfl, (hS.sel [1, 0] (by decide))⟩))
def ydS (g : Int) (g2 : List E3) (R : (List (Int × Int)) → Prop) : Prop :=
(∃ I2 : Nat → (List (Int × Int)) → Int → Prop, (∃ m0, I2 m0 ([]) 0) ∧ ∀ m2 out i, I2 m2 out i → 
((i < ((g2.length : Nat) : Int) →
(∃ I3 : Nat → (List (Int × Int)) → Int → Prop, (∃ m0, I3 m0 out 0) ∧ ∀ m3 out2 k, I3 m3 out2 k → 
((0 ≤ i ∧ i < ((g2.length : Nat) : Int)) ∧
((k < ((ge g2 i.toNat).2.2) →
(out2.length + 1 ≤ 1000000000 ∧
(In64 (k + 1) ∧
∃ m4, m4 < m3 ∧ I3 m4 (out2 ++ [((ge g2 i.toNat).1, (ge g2 i.toNat).2.1)]) (k + 1)))) ∧
(¬ (k < ((ge g2 i.toNat).2.2)) →
(In64 (i + 1) ∧
∃ m5, m5 < m2 ∧ I2 m5 out2 (i + 1))))))) ∧
(¬ (i < ((g2.length : Nat) : Int)) →
R out)))
theorem pok_r08_Ends {O : Nat → Prop} {w : World} {g g2 Ag lg cg} {R : (List (Int × Int)) → Prop} (h : ydS g g2 R) (hO : ∀ k, O k → k < w.heap.size) (hA0 : (FP.sl c3 Ag lg cg g2).P O w) :
    Calls Try.prog 40 #[(.agg #[(ii g), (.slice Ag lg cg)])] w fun e w' => ∃ r Ar lr cr, e = .returned (.slice Ar lr cr) ∧ Sep w no O w' (rl [Res.own c2 84 Ar lr cr r]) ∧ R r := by
  unfold ydS at h; have hS : Sep w no O w (rl [Res.ro (FP.sl c3 Ag lg cg g2)]) := Sep.startl hO [(FP.sl c3 Ag lg cg g2)] ⟨hA0, trivial⟩; refine yan (l := [(.agg #[(ii g), (.slice Ag lg cg)])]) func40 rfl ntmps40 (Nat.le_of_ble_eq_true rfl) (zs (zn (ybO (v := (.agg #[(ii g), (.slice Ag lg cg)])) rfl ?_))); intro g3 w2 hN; replace hS : Sep w no O w2 (stl _ 1 (Res.box 24 g3 [(ii g), (.slice Ag lg cg)])) := hS.new 1 rfl hN; clear hN; refine zb (zq (za (.slice none 0 0)) (yaa (zs (zq (za (.slice none 0 0)) (yaa (yae (zs (zq (za (ii 0)) (yaa (yak ?_)))))))))); replace hS := hS.nil 2 rfl c2 84; obtain ⟨I2, ⟨m0, h0⟩, hr⟩ := h; refine yaC (fun m E ds w' => ∃ out i Aout lout cout, I2 m out i ∧ ds = [] ∧ E 1 = (Value.pointer (some (⟨g3, 0, none⟩ : Addr))) ∧ E 3 = (Value.slice Aout lout cout) ∧ E 4 = (ii i) ∧ Sep w no O w' (rl [Res.own c2 84 Aout lout cout out, Res.box 24 g3 [(ii g), (.slice Ag lg cg)], Res.ro (FP.sl c3 Ag lg cg g2)])) m0 ⟨_, _, _, _, _, h0, rfl, rfl, rfl, rfl, (hS.sel [2, 1, 0] (by decide))⟩ ?_; clear h0 hS; rintro m2 E ds w3 ⟨out, i, Aout, lout, cout, h, rfl, hE1, hE3, hE4, hS⟩ again; replace h := hr m2 out i h; clear hr; refine yae (zs (zq (yad hE4) (zq (yai hE1 underlying24 rfl yb0) (zq (zl underlying22 (Row.cell (hS.bx 1 rfl) (i := 1) rfl)) (zq (yaV (n := g2.length) rfl underlying22 (yaR (hS.rdr 2 rfl))) (zq zL (yaa ?_))))))); by_cases hp : i < ((g2.length : Nat) : Int)
  · replace h := h.1 hp; refine zc hp (yah (yae (yak (zs (zq (za (ii 0)) (yaa (yak ?_))))))); obtain ⟨I3, ⟨m0, h0⟩, hr⟩ := h; refine yaC (fun m E ds w' => ∃ out2 k Aout2 lout2 cout2, I3 m out2 k ∧ ds = [] ∧ E 1 = (Value.pointer (some (⟨g3, 0, none⟩ : Addr))) ∧ E 3 = (Value.slice Aout2 lout2 cout2) ∧ E 4 = (ii i) ∧ E 5 = (ii k) ∧ Sep w no O w' (rl [Res.own c2 84 Aout2 lout2 cout2 out2, Res.box 24 g3 [(ii g), (.slice Ag lg cg)], Res.ro (FP.sl c3 Ag lg cg g2)])) m0 ⟨_, _, _, _, _, h0, rfl, hE1, hE3, hE4, rfl, (hS.sel [0, 1, 2] (by decide))⟩ ?_; clear h0 hS; rintro m3 E ds w4 ⟨out2, k, Aout2, lout2, cout2, h, rfl, hE1, hE3, hE4, hE5, hS⟩ again2; replace h := hr m3 out2 k h; clear hr; refine yae (zs (zq (yad hE5) (zq (yai hE1 underlying24 rfl yb0) (zq (zl underlying22 (Row.cell (hS.bx 1 rfl) (i := 1) rfl)) (zq (yad hE4) ?_))))); obtain ⟨hx, h⟩ := h; refine zq (zi underlying22 yaE (yaQ (hS.rdr 2 rfl) hx)) (zq (yai rfl underlying51 rfl yag) (zq (yax (v := (ii ((ge g2 i.toNat).2.2))) rfl underlying3 rfl (rd_f (hS.rdr 2 rfl) hx (fun q => ycN q) 2 rfl)) ?_)); refine zq zL (yaa ?_); by_cases hp2 : k < ((ge g2 i.toNat).2.2)
    · replace h := h.1 hp2; refine zc hp2 (yah (yae (yak (ybi [0, 1, 2, 3, 4, 5, 6, 7, 8, 9, 10, 11, 12, 13, 14, 15, 16] (fun i => match i with | 13 => [0] | 14 => [0] | _ => []) ybr (by kernel_rfl) (by kernel_rfl) ?_)))); replace hS := hS.drew; refine zp (yad hE3) (zp (yai hE1 underlying24 rfl yb0) (zp (zl underlying22 (Row.cell (hS.bx 1 rfl) (i := 1) rfl)) (zp (yad hE4) (zp (zi underlying22 yaE (yaQ (hS.rdr 2 rfl) hx)) (zp (yai rfl underlying51 rfl yag) (zp (yax (v := (ii ((ge g2 i.toNat).1))) rfl underlying3 rfl (rd_f (hS.rdr 2 rfl) hx (fun q => ycN q) 0 rfl)) ?_)))))); refine zp (yai hE1 underlying24 rfl yb0) (zp (zl underlying22 (Row.cell (hS.bx 1 rfl) (i := 1) rfl)) (zp (yad hE4) (zp (zi underlying22 yaE (yaQ (hS.rdr 2 rfl) hx)) (zp (yai rfl underlying51 rfl yag) (zp (yax (v := (ii ((ge g2 i.toNat).2.1))) rfl underlying3 rfl (rd_f (hS.rdr 2 rfl) hx (fun q => ycN q) 1 rfl)) ?_))))); refine rp_n rfl rfl rfl rfl (n_builda (l := [(0, (ii ((ge g2 i.toNat).1))), (1, (ii ((ge g2 i.toNat).2.1)))]) (cells := [(ii ((ge g2 i.toNat).1)), (ii ((ge g2 i.toNat).2.1))]) (bp2 rfl rfl) underlying84 info_84 yag rfl ?_); refine ⟨⟨fun hh => Bool.noConfusion (show false = true from hh), ⟨fun hh => Bool.noConfusion (show false = true from hh), ⟨fun hh => Bool.noConfusion (show false = true from hh), ⟨fun hh => Bool.noConfusion (show false = true from hh), ⟨fun hh => Bool.noConfusion (show false = true from hh), ⟨fun hh => Bool.noConfusion (show false = true from hh), ⟨fun hh => Bool.noConfusion (show false = true from hh), ⟨fun hh => Bool.noConfusion (show false = true from hh), ⟨fun hh => Bool.noConfusion (show false = true from hh), ⟨fun hh => Bool.noConfusion (show false = true from hh), ⟨fun hh => Bool.noConfusion (show false = true from hh), ⟨fun hh => Bool.noConfusion (show false = true from hh), ⟨fun _ => (yad hE3), trivial⟩⟩⟩⟩⟩⟩⟩⟩⟩⟩⟩⟩⟩, ?_⟩; refine rp_n rfl rfl rfl rfl (ybd (l := [(0, (.agg #[(ii ((ge g2 i.toNat).1)), (ii ((ge g2 i.toNat).2.1))]))]) (cells := [(ii ((ge g2 i.toNat).1)), (ii ((ge g2 i.toNat).2.1))]) (bp1 rfl) underlying75 info_84 rfl rfl ?_); intro g4 w5 hN; replace hS := hS.litf (n := 1) 3 rfl (fP (fI .i64) (fI .i64)) hN ([((ge g2 i.toNat).1, (ge g2 i.toNat).2.1)] : List (Int × Int)) rfl (by decide) rfl; clear hN; refine ⟨⟨fun hh => Bool.noConfusion (show false = true from hh), ⟨fun hh => Bool.noConfusion (show false = true from hh), ⟨fun hh => Bool.noConfusion (show false = true from hh), ⟨fun hh => Bool.noConfusion (show false = true from hh), ⟨fun hh => Bool.noConfusion (show false = true from hh), ⟨fun hh => Bool.noConfusion (show false = true from hh), ⟨fun hh => Bool.noConfusion (show false = true from hh), ⟨fun hh => Bool.noConfusion (show false = true from hh), ⟨fun hh => Bool.noConfusion (show false = true from hh), ⟨fun hh => Bool.noConfusion (show false = true from hh), ⟨fun hh => Bool.noConfusion (show false = true from hh), ⟨fun hh => Bool.noConfusion (show false = true from hh), ⟨fun _ => (yad hE3), trivial⟩⟩⟩⟩⟩⟩⟩⟩⟩⟩⟩⟩⟩, ?_⟩; obtain ⟨hx2, h⟩ := h; refine rp_n rfl rfl rfl rfl (n_app (c := c2) rfl rfl underlying75 underlying75 info_84 rfl rfl (by decide) hS 0 rfl (hS.yo 3 rfl) hx2 ?_); clear hS; intro A c w6 hS; refine zb (zp (za (.slice A (lout2 + 1) c)) (ybz (yaj (zr (zq (yad hE5) ?_))))); obtain ⟨hi, h⟩ := h; refine zq (zA hi) (zq (za (ii (k + 1))) (yaa ?_)); obtain ⟨mq, hlt, h⟩ := h; exact again2 mq _ _ _ ⟨_, _, _, _, _, h, rfl, hE1, rfl, hE4, rfl, (hS.sel [0, 1, 2] (by decide))⟩ hlt
    · replace h := h.2 hp2; refine zd hp2 (yay rfl (yaj (zr (zq (yad hE4) ?_)))); obtain ⟨hi2, h⟩ := h; refine zq (zA hi2) (zq (za (ii (i + 1))) (yaa ?_)); obtain ⟨mq, hlt, h⟩ := h; exact again mq _ _ _ ⟨_, _, _, _, _, h, rfl, hE1, hE3, rfl, (hS.sel [0, 1, 2] (by decide))⟩ hlt
  · replace h := h.2 hp; exact zd hp (yay rfl (zs (zq (yad hE3) (zq (za (.slice Aout lout cout)) (yaa (yal rfl rfl ⟨_, _, _, _, rfl, (hS.sel [0] (by decide)), h⟩))))))
def yeC (g : Int) (g2 : List E3) (R : Int → Prop) : Prop :=
ydS g g2 (fun r =>
R ((r.length : Nat) : Int))
theorem pok_r08_Size {O : Nat → Prop} {w : World} {g g2 Ag lg cg} {R : Int → Prop} (h : yeC g g2 R) (hO : ∀ k, O k → k < w.heap.size) (hA0 : (FP.sl c3 Ag lg cg g2).P O w) :
    Calls Try.prog 21 #[(.agg #[(ii g), (.slice Ag lg cg)])] w fun e w' => ∃ r2, e = .returned (ii r2) ∧ Sep w no O w' (rl []) ∧ R r2 := by
  unfold yeC at h; have hS : Sep w no O w (rl [Res.ro (FP.sl c3 Ag lg cg g2)]) := Sep.startl hO [(FP.sl c3 Ag lg cg g2)] ⟨hA0, trivial⟩; refine yan (l := [(.agg #[(ii g), (.slice Ag lg cg)])]) func21 rfl ntmps21 (Nat.le_of_ble_eq_true rfl) (zs (zn (ybO (v := (.agg #[(ii g), (.slice Ag lg cg)])) rfl ?_))); intro g3 w2 hN; replace hS : Sep w no O w2 (stl _ 1 (Res.box 24 g3 [(ii g), (.slice Ag lg cg)])) := hS.new 1 rfl hN; clear hN; refine zb (zq (za (ii 0)) (yaa (zs (zq (yar (vs := [(ii g), (.slice Ag lg cg)]) rfl underlying24 rfl yap ⟨Row.cell (hS.bx 1 rfl) (i := 0) rfl, Row.cell (hS.bx 1 rfl) (i := 1) rfl, trivial⟩) (zn (yam rfl (am1 rfl) enter_40 ((pok_r08_Ends h (yaG _) (hS.rdr 0 rfl)).mono ?_))))))); rintro _ w3 ⟨r, Ar, lr, cr, rfl, hC, h⟩; replace hS := hS.call1 (hC.widen (yea (ybh (fP (fI .i64) (fI .i64)) _ _ _ _ _) yfn) hS.blt) 2 0 rfl; clear hC; refine ⟨_, rfl, ?_⟩; exact zb (zq (yaV (n := r.length) rfl underlying75 (yaR (hS.rdo 2 rfl))) (zq (za (ii ((r.length : Nat) : Int))) (yaa (yal rfl rfl ⟨_, rfl, (hS.sel [] (by decide)), h⟩))))
def ydC (g : Int) (g2 : List E3) (vertices : Int) (single : Int) (R : Bool → Prop) : Prop :=
((40 < ((g2.length : Nat) : Int) →
R false) ∧
(¬ (40 < ((g2.length : Nat) : Int)) →
yc0 g g2 (fun r =>
((r = 0 →
((g ≤ vertices →
yeC g g2 (fun r2 =>
R (decide (r2 ≤ single)))) ∧
(¬ (g ≤ vertices) →
R false))) ∧
(¬ (r = 0) →
R true)))))
theorem pok_r08_small {O : Nat → Prop} {w : World} {g g2 vertices single Ag lg cg} {R : Bool → Prop} (h : ydC g g2 vertices single R) (hO : ∀ k, O k → k < w.heap.size) (hA0 : (FP.sl c3 Ag lg cg g2).P O w) :
    Calls Try.prog 10 #[(.agg #[(ii g), (.slice Ag lg cg)]), (ii vertices), (ii single)] w fun e w' => ∃ r3, e = .returned (.bool (r3)) ∧ Sep w no O w' (rl []) ∧ R r3 := by
  unfold ydC at h; have hS : Sep w no O w (rl [Res.ro (FP.sl c3 Ag lg cg g2)]) := Sep.startl hO [(FP.sl c3 Ag lg cg g2)] ⟨hA0, trivial⟩; refine yan (l := [(.agg #[(ii g), (.slice Ag lg cg)]), (ii vertices), (ii single)]) func10 rfl ntmps10 (Nat.le_of_ble_eq_true rfl) (zs (zn (ybO (v := (.agg #[(ii g), (.slice Ag lg cg)])) rfl ?_))); intro g3 w2 hN; replace hS : Sep w no O w2 (stl _ 1 (Res.box 24 g3 [(ii g), (.slice Ag lg cg)])) := hS.new 1 rfl hN; clear hN; refine zb (zq (za (.bool (false))) (yaa (yae (zs (zq (yai rfl underlying24 rfl yb0) (zq (zl underlying22 (Row.cell (hS.bx 1 rfl) (i := 1) rfl)) (zq (yaV (n := g2.length) rfl underlying22 (yaR (hS.rdr 0 rfl))) (zq zG (yaa ?_))))))))); by_cases hp : 40 < ((g2.length : Nat) : Int)
  · replace h := h.1 hp; exact zc hp (zs (zq (za (.bool (false))) (yaa (yal rfl rfl ⟨_, rfl, (hS.sel [] (by decide)), h⟩))))
  · replace h := h.2 hp; refine zd hp (yah (yae (zs (zq (yar (vs := [(ii g), (.slice Ag lg cg)]) rfl underlying24 rfl yap ⟨Row.cell (hS.bx 1 rfl) (i := 0) rfl, Row.cell (hS.bx 1 rfl) (i := 1) rfl, trivial⟩) (zn (yam rfl (am1 rfl) enter_20 ((yfX h (yaG _) (hS.rdr 0 rfl)).mono ?_))))))); rintro _ w3 ⟨r, rfl, hC, h⟩; replace hS := hS.pur hC.pure; clear hC; refine ⟨_, rfl, ?_⟩; refine zb (zq zN (yaa ?_)); by_cases hp2 : r = 0
    · replace h := h.1 hp2; refine ze hp2 (yah (zs (zq (yai rfl underlying24 rfl yag) (zq (zl underlying3 (Row.cell (hS.bx 1 rfl) (i := 0) rfl)) (zq (zm (ii vertices)) (zq (v_leq rfl rfl) (zq (zm (.bool (decide (g ≤ vertices)))) ?_))))))); by_cases hp3 : g ≤ vertices
      · replace h := h.1 hp3; refine rl_q (yac rfl (yaf rfl (congrArg Value.bool (decide_eq_true hp3)))) rfl rfl (yar (vs := [(ii g), (.slice Ag lg cg)]) rfl underlying24 rfl yap ⟨Row.cell (hS.bx 1 rfl) (i := 0) rfl, Row.cell (hS.bx 1 rfl) (i := 1) rfl, trivial⟩) (rl_n (yac rfl (yaf rfl (congrArg Value.bool (decide_eq_true hp3)))) rfl rfl rfl (yam rfl (am1 rfl) enter_21 ((pok_r08_Size h (yaG _) (hS.rdr 0 rfl)).mono ?_))); rintro _ w4 ⟨r2, rfl, hC, h⟩; replace hS := hS.pur hC.pure; clear hC; refine ⟨_, rfl, ?_⟩; exact zb (rl_q (yac rfl (yaf rfl (congrArg Value.bool (decide_eq_true hp3)))) rfl rfl (zm (ii single)) (rl_q (yac rfl (yaf rfl (congrArg Value.bool (decide_eq_true hp3)))) rfl rfl (v_leq rfl rfl) (zq (yat (v := (.bool (decide (r2 ≤ single)))) (congrArg Value.bool (decide_eq_true hp3)) rfl) (zq (za (.bool (decide (r2 ≤ single)))) (yaa (yal rfl rfl ⟨_, rfl, (hS.sel [] (by decide)), h⟩))))))
      · replace h := h.2 hp3; exact rl_p (yab rfl (yaf rfl (congrArg Value.bool (decide_eq_false hp3))) rfl) rfl (rl_p (yab rfl (yaf rfl (congrArg Value.bool (decide_eq_false hp3))) rfl) rfl (rl_p (yab rfl (yaf rfl (congrArg Value.bool (decide_eq_false hp3))) rfl) rfl (rl_p (yab rfl (yaf rfl (congrArg Value.bool (decide_eq_false hp3))) rfl) rfl (zq (yav (v := (.bool (false))) (congrArg Value.bool (decide_eq_false hp3)) rfl) (zq (za (.bool (false))) (yaa (yal rfl rfl ⟨_, rfl, (hS.sel [] (by decide)), h⟩)))))))
    · replace h := h.2 hp2; exact zf hp2 (zs (zq (za (.bool (true))) (yaa (yal rfl rfl ⟨_, rfl, (hS.sel [] (by decide)), h⟩))))
def ycQ (g : Int) (g2 : List E3) (v : Int) (R : (List Bool) → Prop) : Prop :=
((0 ≤ g ∧ g ≤ 1000000) ∧
((0 ≤ v ∧ v < (((List.replicate g.toNat false).length : Nat) : Int)) ∧
(∃ I2 : Nat → Int → (List Bool) → Prop, (∃ m0, I2 m0 0 ((List.replicate g.toNat false).set v.toNat true)) ∧ ∀ m2 round out, I2 m2 round out → 
((round < g →
(∃ I3 : Nat → Int → (List Bool) → Prop, (∃ m0, I3 m0 0 out) ∧ ∀ m3 a out2, I3 m3 a out2 → 
((a < g →
(∃ I4 : Nat → Int → (List Bool) → Prop, (∃ m0, I4 m0 0 out2) ∧ ∀ m4 b out3, I4 m4 b out3 → 
((b < g →
((0 ≤ a ∧ a < ((out3.length : Nat) : Int)) ∧
((gb out3 a.toNat = true →
ycg g g2 a b (fun r =>
((0 < r →
((0 ≤ b ∧ b < ((out3.length : Nat) : Int)) ∧
(In64 (b + 1) ∧
∃ m5, m5 < m4 ∧ I4 m5 (b + 1) (out3.set b.toNat true)))) ∧
(¬ (0 < r) →
(In64 (b + 1) ∧
∃ m6, m6 < m4 ∧ I4 m6 (b + 1) out3))))) ∧
(¬ (gb out3 a.toNat = true) →
(In64 (b + 1) ∧
∃ m7, m7 < m4 ∧ I4 m7 (b + 1) out3))))) ∧
(¬ (b < g) →
(In64 (a + 1) ∧
∃ m8, m8 < m3 ∧ I3 m8 (a + 1) out3))))) ∧
(¬ (a < g) →
(In64 (round + 1) ∧
∃ m9, m9 < m2 ∧ I2 m9 (round + 1) out2))))) ∧
(¬ (round < g) →
R out)))))
theorem yg2 {O : Nat → Prop} {w : World} {g g2 v Ag lg cg} {R : (List Bool) → Prop} (h : ycQ g g2 v R) (hO : ∀ k, O k → k < w.heap.size) (hA0 : (FP.sl c3 Ag lg cg g2).P O w) :
    Calls Try.prog 65 #[(.agg #[(ii g), (.slice Ag lg cg)]), (ii v)] w fun e w' => ∃ r2 Ar lr cr, e = .returned (.slice Ar lr cr) ∧ Sep w no O w' (rl [Res.own cB 4 Ar lr cr r2]) ∧ R r2 := by
  unfold ycQ at h; have hS : Sep w no O w (rl [Res.ro (FP.sl c3 Ag lg cg g2)]) := Sep.startl hO [(FP.sl c3 Ag lg cg g2)] ⟨hA0, trivial⟩; refine yan (l := [(.agg #[(ii g), (.slice Ag lg cg)]), (ii v)]) func65 rfl ntmps65 (Nat.le_of_ble_eq_true rfl) (zs (zn (ybO (v := (.agg #[(ii g), (.slice Ag lg cg)])) rfl ?_))); intro g3 w2 hN; replace hS : Sep w no O w2 (stl _ 1 (Res.box 24 g3 [(ii g), (.slice Ag lg cg)])) := hS.new 1 rfl hN; clear hN; refine zb (zq (za (.slice none 0 0)) (yaa (zs (zq (yai rfl underlying24 rfl yag) (zq (zl underlying3 (Row.cell (hS.bx 1 rfl) (i := 0) rfl)) ?_))))); obtain ⟨hx, h⟩ := h; refine zn (yhl rfl rfl underlying103 ycI (by decide) rfl hx ?_); intro g4 w3 hN; replace hS := hS.made 2 rfl cB (.bool (false)) false (fun _ _ => rfl) hN (by omega); clear hN; refine zb (zq (za (.slice (some ⟨g4, 0, none⟩) g.toNat g.toNat)) (yaa (zs (zq (zm (.slice (some ⟨g4, 0, none⟩) g.toNat g.toNat)) (zq (zm (ii v)) ?_))))); obtain ⟨hx2, h⟩ := h; refine zq (zi underlying103 ycI (yaQ (hS.rdo 2 rfl) hx2)) (zo (zt (.bool (true)) ycI (hS.wr 2 rfl rfl hx2) ?_)); intro w4 e1; replace hS := hS.st 2 rfl rfl hx2 (x := true) rfl e1; clear e1; refine zb (yaa (yae (zs (zq (za (ii 0)) (yaa (yak ?_)))))); obtain ⟨I2, ⟨m0, h0⟩, hr⟩ := h; refine yaC (fun m E ds w' => ∃ round out Aout lout cout, I2 m round out ∧ ds = [] ∧ E 2 = (Value.pointer (some (⟨g3, 0, none⟩ : Addr))) ∧ E 5 = (Value.slice Aout lout cout) ∧ E 6 = (ii round) ∧ Sep w no O w' (rl [Res.box 24 g3 [(ii g), (.slice Ag lg cg)], Res.ro (FP.sl c3 Ag lg cg g2), Res.own cB 4 Aout lout cout out])) m0 ⟨_, _, _, _, _, h0, rfl, rfl, rfl, rfl, (hS.sel [1, 0, 2] (by decide))⟩ ?_; clear h0 hS; rintro m2 E ds w5 ⟨round, out, Aout, lout, cout, h, rfl, hE2, hE5, hE6, hS⟩ again; replace h := hr m2 round out h; clear hr; refine yae (zs (zq (yad hE6) (zq (yai hE2 underlying24 rfl yag) (zq (zl underlying3 (Row.cell (hS.bx 0 rfl) (i := 0) rfl)) (zq zL (yaa ?_)))))); by_cases hp : round < g
  · replace h := h.1 hp; refine zc hp (yah (yae (yak (zs (zq (za (ii 0)) (yaa (yak ?_))))))); obtain ⟨I3, ⟨m0, h0⟩, hr⟩ := h; refine yaC (fun m E ds w' => ∃ a out2 Aout2 lout2 cout2, I3 m a out2 ∧ ds = [] ∧ E 2 = (Value.pointer (some (⟨g3, 0, none⟩ : Addr))) ∧ E 5 = (Value.slice Aout2 lout2 cout2) ∧ E 6 = (ii round) ∧ E 7 = (ii a) ∧ Sep w no O w' (rl [Res.box 24 g3 [(ii g), (.slice Ag lg cg)], Res.ro (FP.sl c3 Ag lg cg g2), Res.own cB 4 Aout2 lout2 cout2 out2])) m0 ⟨_, _, _, _, _, h0, rfl, hE2, hE5, hE6, rfl, (hS.sel [0, 1, 2] (by decide))⟩ ?_; clear h0 hS; rintro m3 E ds w6 ⟨a, out2, Aout2, lout2, cout2, h, rfl, hE2, hE5, hE6, hE7, hS⟩ again2; replace h := hr m3 a out2 h; clear hr; refine yae (zs (zq (yad hE7) (zq (yai hE2 underlying24 rfl yag) (zq (zl underlying3 (Row.cell (hS.bx 0 rfl) (i := 0) rfl)) (zq zL (yaa ?_)))))); by_cases hp2 : a < g
    · replace h := h.1 hp2; refine zc hp2 (yah (yae (yak (zs (zq (za (ii 0)) (yaa (yak ?_))))))); obtain ⟨I4, ⟨m0, h0⟩, hr⟩ := h; refine yaC (fun m E ds w' => ∃ b out3 Aout3 lout3 cout3, I4 m b out3 ∧ ds = [] ∧ E 2 = (Value.pointer (some (⟨g3, 0, none⟩ : Addr))) ∧ E 5 = (Value.slice Aout3 lout3 cout3) ∧ E 6 = (ii round) ∧ E 7 = (ii a) ∧ E 8 = (ii b) ∧ Sep w no O w' (rl [Res.box 24 g3 [(ii g), (.slice Ag lg cg)], Res.ro (FP.sl c3 Ag lg cg g2), Res.own cB 4 Aout3 lout3 cout3 out3])) m0 ⟨_, _, _, _, _, h0, rfl, hE2, hE5, hE6, hE7, rfl, (hS.sel [0, 1, 2] (by decide))⟩ ?_; clear h0 hS; rintro m4 E ds w7 ⟨b, out3, Aout3, lout3, cout3, h, rfl, hE2, hE5, hE6, hE7, hE8, hS⟩ again3; replace h := hr m4 b out3 h; clear hr; refine yae (zs (zq (yad hE8) (zq (yai hE2 underlying24 rfl yag) (zq (zl underlying3 (Row.cell (hS.bx 0 rfl) (i := 0) rfl)) (zq zL (yaa ?_)))))); by_cases hp3 : b < g
      · replace h := h.1 hp3; refine zc hp3 (yah (yae (yak (zs (zq (yad hE5) (zq (yad hE7) ?_)))))); obtain ⟨hx3, h⟩ := h; refine zq (zi underlying103 ycI (yaQ (hS.rdo 2 rfl) hx3)) (zq (yax (v := (.bool (gb out3 a.toNat))) rfl underlying4 rfl (rd_1 (hS.rdo 2 rfl) hx3 (fun q => gb_some q) rfl)) ?_); refine zq (zm (.bool (gb out3 a.toNat))) ?_; by_cases hp4 : gb out3 a.toNat = true
        · replace h := h.1 hp4; refine rl_q (yac rfl (yaf rfl (congrArg Value.bool hp4))) rfl rfl (yar (vs := [(ii g), (.slice Ag lg cg)]) hE2 underlying24 rfl yap ⟨Row.cell (hS.bx 0 rfl) (i := 0) rfl, Row.cell (hS.bx 0 rfl) (i := 1) rfl, trivial⟩) (rl_q (yac rfl (yaf rfl (congrArg Value.bool hp4))) rfl rfl (yad hE7) (rl_q (yac rfl (yaf rfl (congrArg Value.bool hp4))) rfl rfl (yad hE8) (rl_n (yac rfl (yaf rfl (congrArg Value.bool hp4))) rfl rfl rfl (yam rfl (am3 rfl rfl rfl) enter_83 ((yhe h (yaG _) (hS.rdr 1 rfl)).mono ?_))))); rintro _ w8 ⟨r, rfl, hC, h⟩; replace hS := hS.pur hC.pure; clear hC; refine ⟨_, rfl, ?_⟩; refine zb (rl_q (yac rfl (yaf rfl (congrArg Value.bool hp4))) rfl rfl zG (zq (yat (v := (.bool (decide (0 < r)))) (congrArg Value.bool hp4) rfl) (yaa ?_))); by_cases hp5 : 0 < r
          · replace h := h.1 hp5; refine zc hp5 (zr (zq (yad hE5) (zq (yad hE8) ?_))); obtain ⟨hx4, h⟩ := h; refine zq (zi underlying103 ycI (yaQ (hS.rdo 2 rfl) hx4)) (zo (zt (.bool (true)) ycI (hS.wr 2 rfl rfl hx4) ?_)); intro w9 e1; replace hS := hS.st 2 rfl rfl hx4 (x := true) rfl e1; clear e1; refine zb (yaa (yaj (zr (zq (yad hE8) ?_)))); obtain ⟨hi, h⟩ := h; refine zq (zA hi) (zq (za (ii (b + 1))) (yaa ?_)); obtain ⟨mq, hlt, h⟩ := h; exact again3 mq _ _ _ ⟨_, _, _, _, _, h, rfl, hE2, hE5, hE6, hE7, rfl, (hS.sel [0, 1, 2] (by decide))⟩ hlt
          · replace h := h.2 hp5; refine zd hp5 (yah (yaj (zr (zq (yad hE8) ?_)))); obtain ⟨hi2, h⟩ := h; refine zq (zA hi2) (zq (za (ii (b + 1))) (yaa ?_)); obtain ⟨mq, hlt, h⟩ := h; exact again3 mq _ _ _ ⟨_, _, _, _, _, h, rfl, hE2, hE5, hE6, hE7, rfl, (hS.sel [0, 1, 2] (by decide))⟩ hlt
        · replace h := h.2 hp4; refine rl_p (yab rfl (yaf rfl (congrArg Value.bool (Bool.eq_false_iff.2 hp4))) rfl) rfl (rl_p (yab rfl (yaf rfl (congrArg Value.bool (Bool.eq_false_iff.2 hp4))) rfl) rfl (rl_p (yab rfl (yaf rfl (congrArg Value.bool (Bool.eq_false_iff.2 hp4))) rfl) rfl (rl_p (yab rfl (yaf rfl (congrArg Value.bool (Bool.eq_false_iff.2 hp4))) rfl) rfl (rl_p (yab rfl (yaf rfl (congrArg Value.bool (Bool.eq_false_iff.2 hp4))) rfl) rfl (zq (yav (v := (.bool (false))) (congrArg Value.bool (Bool.eq_false_iff.2 hp4)) rfl) (yaa (yaA rfl (yah (yaj (zr (zq (yad hE8) ?_))))))))))); obtain ⟨hi3, h⟩ := h; refine zq (zA hi3) (zq (za (ii (b + 1))) (yaa ?_)); obtain ⟨mq, hlt, h⟩ := h; exact again3 mq _ _ _ ⟨_, _, _, _, _, h, rfl, hE2, hE5, hE6, hE7, rfl, (hS.sel [0, 1, 2] (by decide))⟩ hlt
      · replace h := h.2 hp3; refine zd hp3 (yay rfl (yaj (zr (zq (yad hE7) ?_)))); obtain ⟨hi4, h⟩ := h; refine zq (zA hi4) (zq (za (ii (a + 1))) (yaa ?_)); obtain ⟨mq, hlt, h⟩ := h; exact again2 mq _ _ _ ⟨_, _, _, _, _, h, rfl, hE2, hE5, hE6, rfl, (hS.sel [0, 1, 2] (by decide))⟩ hlt
    · replace h := h.2 hp2; refine zd hp2 (yay rfl (yaj (zr (zq (yad hE6) ?_)))); obtain ⟨hi5, h⟩ := h; refine zq (zA hi5) (zq (za (ii (round + 1))) (yaa ?_)); obtain ⟨mq, hlt, h⟩ := h; exact again mq _ _ _ ⟨_, _, _, _, _, h, rfl, hE2, hE5, rfl, (hS.sel [0, 1, 2] (by decide))⟩ hlt
  · replace h := h.2 hp; exact zd hp (yay rfl (zs (zq (yad hE5) (zq (za (.slice Aout lout cout)) (yaa (yal rfl rfl ⟨_, _, _, _, rfl, (hS.sel [2] (by decide)), h⟩))))))
def ydv (g : Int) (g2 : List E3) (R : Int → Prop) : Prop :=
((0 ≤ g ∧ g ≤ 1000000) ∧
(∃ I2 : Nat → Int → Int → (List Bool) → Prop, (∃ m0, I2 m0 0 0 (List.replicate g.toNat false)) ∧ ∀ m2 n v seen, I2 m2 n v seen → 
((v < g →
((0 ≤ v ∧ v < ((seen.length : Nat) : Int)) ∧
((gb seen v.toNat = true →
(In64 (v + 1) ∧
∃ m3, m3 < m2 ∧ I2 m3 n (v + 1) seen)) ∧
(¬ (gb seen v.toNat = true) →
(In64 (n + 1) ∧
ycQ g g2 v (fun r =>
(∃ I3 : Nat → Int → (List Bool) → Prop, (∃ m0, I3 m0 0 seen) ∧ ∀ m4 u seen2, I3 m4 u seen2 → 
((u < g →
((0 ≤ u ∧ u < ((seen2.length : Nat) : Int)) ∧
((gb seen2 u.toNat = true →
(In64 (u + 1) ∧
∃ m5, m5 < m4 ∧ I3 m5 (u + 1) (seen2.set u.toNat true))) ∧
(¬ (gb seen2 u.toNat = true) →
((0 ≤ u ∧ u < ((r.length : Nat) : Int)) ∧
(In64 (u + 1) ∧
∃ m6, m6 < m4 ∧ I3 m6 (u + 1) (seen2.set u.toNat (gb r u.toNat)))))))) ∧
(¬ (u < g) →
(In64 (v + 1) ∧
∃ m7, m7 < m2 ∧ I2 m7 (n + 1) (v + 1) seen2)))))))))) ∧
(¬ (v < g) →
R n))))
theorem pok_r08_Parts {O : Nat → Prop} {w : World} {g g2 Ag lg cg} {R : Int → Prop} (h : ydv g g2 R) (hO : ∀ k, O k → k < w.heap.size) (hA0 : (FP.sl c3 Ag lg cg g2).P O w) :
    Calls Try.prog 41 #[(.agg #[(ii g), (.slice Ag lg cg)])] w fun e w' => ∃ r2, e = .returned (ii r2) ∧ Sep w no O w' (rl []) ∧ R r2 := by
  unfold ydv at h; have hS : Sep w no O w (rl [Res.ro (FP.sl c3 Ag lg cg g2)]) := Sep.startl hO [(FP.sl c3 Ag lg cg g2)] ⟨hA0, trivial⟩; refine yan (l := [(.agg #[(ii g), (.slice Ag lg cg)])]) func41 rfl ntmps41 (Nat.le_of_ble_eq_true rfl) (zs (zn (ybO (v := (.agg #[(ii g), (.slice Ag lg cg)])) rfl ?_))); intro g3 w2 hN; replace hS : Sep w no O w2 (stl _ 1 (Res.box 24 g3 [(ii g), (.slice Ag lg cg)])) := hS.new 1 rfl hN; clear hN; refine zb (zq (za (ii 0)) (yaa (zs (zq (za (ii 0)) (yaa (zs (zq (yai rfl underlying24 rfl yag) (zq (zl underlying3 (Row.cell (hS.bx 1 rfl) (i := 0) rfl)) ?_)))))))); obtain ⟨hx, h⟩ := h; refine zn (yhl rfl rfl underlying103 ycI (by decide) rfl hx ?_); intro g4 w3 hN; replace hS := hS.made 2 rfl cB (.bool (false)) false (fun _ _ => rfl) hN (by omega); clear hN; refine zb (zq (za (.slice (some ⟨g4, 0, none⟩) g.toNat g.toNat)) (yaa (yae (zs (zq (za (ii 0)) (yaa (yak ?_))))))); obtain ⟨I2, ⟨m0, h0⟩, hr⟩ := h; refine yaC (fun m E ds w' => ∃ n v seen Aseen lseen cseen, I2 m n v seen ∧ ds = [] ∧ E 1 = (Value.pointer (some (⟨g3, 0, none⟩ : Addr))) ∧ E 3 = (ii n) ∧ E 4 = (Value.slice Aseen lseen cseen) ∧ E 5 = (ii v) ∧ Sep w no O w' (rl [Res.box 24 g3 [(ii g), (.slice Ag lg cg)], Res.ro (FP.sl c3 Ag lg cg g2), Res.own cB 4 Aseen lseen cseen seen])) m0 ⟨_, _, _, _, _, _, h0, rfl, rfl, rfl, rfl, rfl, (hS.sel [1, 0, 2] (by decide))⟩ ?_; clear h0 hS; rintro m2 E ds w4 ⟨n, v, seen, Aseen, lseen, cseen, h, rfl, hE1, hE3, hE4, hE5, hS⟩ again; replace h := hr m2 n v seen h; clear hr; refine yae (zs (zq (yad hE5) (zq (yai hE1 underlying24 rfl yag) (zq (zl underlying3 (Row.cell (hS.bx 0 rfl) (i := 0) rfl)) (zq zL (yaa ?_)))))); by_cases hp : v < g
  · replace h := h.1 hp; refine zc hp (yah (yae (yak (yae (zs (zq (yad hE4) (zq (yad hE5) ?_))))))); obtain ⟨hx2, h⟩ := h; refine zq (zi underlying103 ycI (yaQ (hS.rdo 2 rfl) hx2)) (zq (yax (v := (.bool (gb seen v.toNat))) rfl underlying4 rfl (rd_1 (hS.rdo 2 rfl) hx2 (fun q => gb_some q) rfl)) ?_); refine yaa ?_; by_cases hp2 : gb seen v.toNat = true
    · replace h := h.1 hp2; refine yaq (congrArg Value.bool hp2) (yay rfl (zr (zq (yad hE5) ?_))); obtain ⟨hi, h⟩ := h; refine zq (zA hi) (zq (za (ii (v + 1))) (yaa ?_)); obtain ⟨mq, hlt, h⟩ := h; exact again mq _ _ _ ⟨_, _, _, _, _, _, h, rfl, hE1, hE3, hE4, rfl, (hS.sel [0, 1, 2] (by decide))⟩ hlt
    · replace h := h.2 hp2; refine yaA (congrArg Value.bool (Bool.eq_false_iff.2 hp2)) (yah (zs (zq (yad hE3) ?_))); obtain ⟨hi2, h⟩ := h; refine zq (zA hi2) (zq (za (ii (n + 1))) (yaa (zs (zq (yar (vs := [(ii g), (.slice Ag lg cg)]) hE1 underlying24 rfl yap ⟨Row.cell (hS.bx 0 rfl) (i := 0) rfl, Row.cell (hS.bx 0 rfl) (i := 1) rfl, trivial⟩) (zq (yad hE5) (zn (yam rfl (am2 rfl rfl) enter_65 ((yg2 h (yaG _) (hS.rdr 1 rfl)).mono ?_)))))))); rintro _ w5 ⟨r, Ar, lr, cr, rfl, hC, h⟩; replace hS := hS.call1 (hC.widen (yea (ybh fB _ _ _ _ _) yfn) hS.blt) 3 0 rfl; clear hC; refine ⟨_, rfl, ?_⟩; refine zb (zq (za (.slice Ar lr cr)) (yaa (zs (zq (za (ii 0)) (yaa (yak ?_)))))); obtain ⟨I3, ⟨m0, h0⟩, hr⟩ := h; refine yaC (fun m E ds w' => ∃ u seen2 Aseen2 lseen2 cseen2, I3 m u seen2 ∧ ds = [] ∧ E 1 = (Value.pointer (some (⟨g3, 0, none⟩ : Addr))) ∧ E 3 = (ii (n + 1)) ∧ E 4 = (Value.slice Aseen2 lseen2 cseen2) ∧ E 5 = (ii v) ∧ E 6 = (Value.slice Ar lr cr) ∧ E 7 = (ii u) ∧ Sep w no O w' (rl [Res.box 24 g3 [(ii g), (.slice Ag lg cg)], Res.ro (FP.sl c3 Ag lg cg g2), Res.own cB 4 Aseen2 lseen2 cseen2 seen2, Res.own cB 4 Ar lr cr r])) m0 ⟨_, _, _, _, _, h0, rfl, hE1, rfl, hE4, hE5, rfl, rfl, (hS.sel [0, 1, 2, 3] (by decide))⟩ ?_; clear h0 hS; rintro m4 E ds w6 ⟨u, seen2, Aseen2, lseen2, cseen2, h, rfl, hE1, hE3, hE4, hE5, hE6, hE7, hS⟩ again2; replace h := hr m4 u seen2 h; clear hr; refine yae (zs (zq (yad hE7) (zq (yai hE1 underlying24 rfl yag) (zq (zl underlying3 (Row.cell (hS.bx 0 rfl) (i := 0) rfl)) (zq zL (yaa ?_)))))); by_cases hp3 : u < g
      · replace h := h.1 hp3; refine zc hp3 (yah (yae (yak (zr (zq (yad hE4) (zq (yad hE7) (zq (yad hE4) (zq (yad hE7) ?_)))))))); obtain ⟨hx3, h⟩ := h; refine zq (zi underlying103 ycI (yaQ (hS.rdo 2 rfl) hx3)) (zq (yax (v := (.bool (gb seen2 u.toNat))) rfl underlying4 rfl (rd_1 (hS.rdo 2 rfl) hx3 (fun q => gb_some q) rfl)) ?_); refine zq (zm (.bool (gb seen2 u.toNat))) ?_; by_cases hp4 : gb seen2 u.toNat = true
        · replace h := h.1 hp4; refine rl_p (yab rfl (yaf rfl (congrArg Value.bool hp4)) rfl) rfl (rl_p (yab rfl (yaf rfl (congrArg Value.bool hp4)) rfl) rfl (rl_p (yab rfl (yaf rfl (congrArg Value.bool hp4)) rfl) rfl (rl_p (yab rfl (yaf rfl (congrArg Value.bool hp4)) rfl) rfl (zq (yat (v := (.bool (true))) (congrArg Value.bool hp4) rfl) (zq (zi underlying103 ycI (yaQ (hS.rdo 2 rfl) hx3)) (zo (zt (.bool (true)) ycI (hS.wr 2 rfl rfl hx3) ?_))))))); intro w7 e1; replace hS := hS.st 2 rfl rfl hx3 (x := true) rfl e1; clear e1; refine zb (yaa (yaj (zr (zq (yad hE7) ?_)))); obtain ⟨hi3, h⟩ := h; refine zq (zA hi3) (zq (za (ii (u + 1))) (yaa ?_)); obtain ⟨mq, hlt, h⟩ := h; exact again2 mq _ _ _ ⟨_, _, _, _, _, h, rfl, hE1, hE3, hE4, hE5, hE6, rfl, (hS.sel [0, 1, 2, 3] (by decide))⟩ hlt
        · replace h := h.2 hp4; refine rl_q (yac rfl (yaf rfl (congrArg Value.bool (Bool.eq_false_iff.2 hp4)))) rfl rfl (yad hE6) (rl_q (yac rfl (yaf rfl (congrArg Value.bool (Bool.eq_false_iff.2 hp4)))) rfl rfl (yad hE7) ?_); obtain ⟨hx4, h⟩ := h; refine rl_q (yac rfl (yaf rfl (congrArg Value.bool (Bool.eq_false_iff.2 hp4)))) rfl rfl (zi underlying103 ycI (yaQ (hS.rdo 3 rfl) hx4)) (rl_q (yac rfl (yaf rfl (congrArg Value.bool (Bool.eq_false_iff.2 hp4)))) rfl rfl (yax (v := (.bool (gb r u.toNat))) rfl underlying4 rfl (rd_1 (hS.rdo 3 rfl) hx4 (fun q => gb_some q) rfl)) ?_); refine zq (yav (v := (.bool (gb r u.toNat))) (congrArg Value.bool (Bool.eq_false_iff.2 hp4)) rfl) (zq (zi underlying103 ycI (yaQ (hS.rdo 2 rfl) hx3)) (zo (zt (.bool (gb r u.toNat)) ycI (hS.wr 2 rfl rfl hx3) ?_))); intro w8 e1; replace hS := hS.st 2 rfl rfl hx3 (x := gb r u.toNat) rfl e1; clear e1; refine zb (yaa (yaj (zr (zq (yad hE7) ?_)))); obtain ⟨hi4, h⟩ := h; refine zq (zA hi4) (zq (za (ii (u + 1))) (yaa ?_)); obtain ⟨mq, hlt, h⟩ := h; exact again2 mq _ _ _ ⟨_, _, _, _, _, h, rfl, hE1, hE3, hE4, hE5, hE6, rfl, (hS.sel [0, 1, 2, 3] (by decide))⟩ hlt
      · replace h := h.2 hp3; refine zd hp3 (yay rfl (yaj (zr (zq (yad hE5) ?_)))); obtain ⟨hi5, h⟩ := h; refine zq (zA hi5) (zq (za (ii (v + 1))) (yaa ?_)); obtain ⟨mq, hlt, h⟩ := h; exact again mq _ _ _ ⟨_, _, _, _, _, _, h, rfl, hE1, hE3, hE4, rfl, (hS.sel [0, 1, 2] (by decide))⟩ hlt
  · replace h := h.2 hp; exact zd hp (yay rfl (zs (zq (yad hE3) (zq (za (ii n)) (yaa (yal rfl rfl ⟨_, rfl, (hS.sel [] (by decide)), h⟩))))))
def ycU (g : Int) (g2 : List E3) (R : Bool → Prop) : Prop :=
ydv g g2 (fun r =>
R (decide (r = 1)))
theorem ygm {O : Nat → Prop} {w : World} {g g2 Ag lg cg} {R : Bool → Prop} (h : ycU g g2 R) (hO : ∀ k, O k → k < w.heap.size) (hA0 : (FP.sl c3 Ag lg cg g2).P O w) :
    Calls Try.prog 22 #[(.agg #[(ii g), (.slice Ag lg cg)])] w fun e w' => ∃ r2, e = .returned (.bool (r2)) ∧ Sep w no O w' (rl []) ∧ R r2 := by
  unfold ycU at h; have hS : Sep w no O w (rl [Res.ro (FP.sl c3 Ag lg cg g2)]) := Sep.startl hO [(FP.sl c3 Ag lg cg g2)] ⟨hA0, trivial⟩; refine yan (l := [(.agg #[(ii g), (.slice Ag lg cg)])]) func22 rfl ntmps22 (Nat.le_of_ble_eq_true rfl) (zs (zn (ybO (v := (.agg #[(ii g), (.slice Ag lg cg)])) rfl ?_))); intro g3 w2 hN; replace hS : Sep w no O w2 (stl _ 1 (Res.box 24 g3 [(ii g), (.slice Ag lg cg)])) := hS.new 1 rfl hN; clear hN; refine zb (zq (za (.bool (false))) (yaa (zs (zq (yar (vs := [(ii g), (.slice Ag lg cg)]) rfl underlying24 rfl yap ⟨Row.cell (hS.bx 1 rfl) (i := 0) rfl, Row.cell (hS.bx 1 rfl) (i := 1) rfl, trivial⟩) (zn (yam rfl (am1 rfl) enter_41 ((pok_r08_Parts h (yaG _) (hS.rdr 0 rfl)).mono ?_))))))); rintro _ w3 ⟨r, rfl, hC, h⟩; replace hS := hS.pur hC.pure; clear hC; refine ⟨_, rfl, ?_⟩; exact zb (zq zE (zq (za (.bool (decide (r = 1)))) (yaa (yal rfl rfl ⟨_, rfl, (hS.sel [] (by decide)), h⟩))))
end Go.Proofs.Ytncilechkclmbaa

/- Pure forms of functions, made by program (pf.py), each with the proof that the code does so. -/
namespace Go.Proofs.Ytncilechkclmbaa
open Go Go.RowKit Go.Shelf Go.Proofs.Try
set_option linter.unusedVariables false
set_option maxRecDepth 100000
set_option maxHeartbeats 1000000
def yaN (s : List Int) (R : (List Int) → Prop) : Prop :=
(∀ nil : Bool, (nil = true → s = []) →
((nil = true →
R ([])) ∧
(¬ (nil = true) →
(0 + s.length ≤ 1000000000 ∧
R ([] ++ s)))))
theorem ybW {O : Nat → Prop} {w : World} {s As ls cs} {R : (List Int) → Prop} (h : yaN s R) (hO : ∀ k, O k → k < w.heap.size) (hA0 : (FP.sl cI As ls cs s).P O w) :
    Calls Try.prog 30 #[(.slice As ls cs)] w fun e w' => ∃ r Ar lr cr, e = .returned (.slice Ar lr cr) ∧ Sep w no O w' (rl [Res.own cI 3 Ar lr cr r]) ∧ R r := by
  unfold yaN at h; have hS : Sep w no O w (rl [Res.ro (FP.sl cI As ls cs s)]) := Sep.startl hO [(FP.sl cI As ls cs s)] ⟨hA0, trivial⟩; refine yan (l := [(.slice As ls cs)]) func30 rfl ntmps30 (Nat.le_of_ble_eq_true rfl) (zs (zq (za (.slice none 0 0)) (yaa (yae (zs (zq (zm (.slice As ls cs)) ?_)))))); obtain ⟨nil, hn⟩ : ∃ b, Option.isNone As = b := ⟨_, rfl⟩; replace h := h nil (by rw [← hn]; exact rd_nil (hS.rdr 0 rfl)); refine zq (v_seqlx rfl rfl underlying26 hn) (yaa ?_); by_cases hp : nil = true
  · replace h := h.1 hp; refine yaq (congrArg Value.bool hp) (zs (zq (za (.slice none 0 0)) (yaa ?_))); replace hS := hS.nil 1 rfl cI 3; exact yal rfl rfl ⟨_, _, _, _, rfl, (hS.sel [1] (by decide)), h⟩
  · replace h := h.2 hp; refine yaA (congrArg Value.bool (Bool.eq_false_iff.2 hp)) (yah (zs (zn (ybd (l := []) (cells := []) (bp0) underlying26 yag rfl rfl ?_)))); intro g w2 hN; replace hS := hS.litf (n := 0) 1 rfl (fI .i64) hN ([] : List Int) rfl (by decide) rfl; clear hN; refine zb (zq (zm (.slice As ls cs)) ?_); obtain ⟨hx, h⟩ := h; refine zn (n_app (c := cI) rfl rfl underlying26 underlying26 yag rfl rfl (by decide) hS 1 rfl (hS.yr 0 rfl) hx ?_); clear hS; intro A c w3 hS; exact zb (zq (za (.slice A (0 + ls) c)) (yaa (yal rfl rfl ⟨_, _, _, _, rfl, (hS.sel [1] (by decide)), h⟩)))
end Go.Proofs.Ytncilechkclmbaa

/- Pure forms of functions, made by program (pf.py), each with the proof that the code does so. -/
namespace Go.Proofs.Ytncilechkclmbaa
open Go Go.RowKit Go.Shelf Go.Proofs.Try
set_option linter.unusedVariables false
set_option maxRecDepth 100000
set_option maxHeartbeats 1000000
end Go.Proofs.Ytncilechkclmbaa

/- Pure forms of functions, made by program (pf.py), each with the proof that the code does so. -/
namespace Go.Proofs.Ytncilechkclmbaa
open Go Go.RowKit Go.Shelf Go.Proofs.Try
set_option linter.unusedVariables false
set_option maxRecDepth 100000
set_option maxHeartbeats 1000000
end Go.Proofs.Ytncilechkclmbaa

/- Pure forms of functions, made by program (pf.py), each with the proof that the code does so. -/
namespace Go.Proofs.Ytncilechkclmbaa
open Go Go.RowKit Go.Shelf Go.Proofs.Try
set_option linter.unusedVariables false
set_option maxRecDepth 100000
set_option maxHeartbeats 1000000
def ycb (x : Int) (R : Bool → Prop) : Prop :=
R (!(decide (x = x)))
theorem yen {O : Nat → Prop} {w : World} {x} {R : Bool → Prop} (h : ycb x R) (hO : ∀ k, O k → k < w.heap.size) :
    Calls Try.prog 85 #[(ii x)] w fun e w' => ∃ r, e = .returned (.bool (r)) ∧ Sep w no O w' (rl []) ∧ R r := by
  unfold ycb at h; have hS : Sep w no O w (rl []) := Sep.start w hO; exact yan (l := [(ii x)]) func85 rfl ntmps85 (Nat.le_of_ble_eq_true rfl) (zs (zq (za (.bool (false))) (yaa (zs (zq (zm (ii x)) (zq (zm (ii x)) (zq zN (zq (za (.bool (!(decide (x = x))))) (yaa (yal rfl rfl ⟨_, rfl, (hS.sel [] (by decide)), h⟩))))))))))
end Go.Proofs.Ytncilechkclmbaa

/- Pure forms of functions, made by program (pf.py), each with the proof that the code does so. -/
namespace Go.Proofs.Ytncilechkclmbaa
open Go Go.RowKit Go.Shelf Go.Proofs.Try
set_option linter.unusedVariables false
set_option maxRecDepth 100000
set_option maxHeartbeats 1000000
def ycv (k : Int) (R : Bool → Prop) : Prop :=
(((-1048576) ≤ k →
R (decide (k ≤ 1048576))) ∧
(¬ ((-1048576) ≤ k) →
R false))
theorem ygE {O : Nat → Prop} {w : World} {k} {R : Bool → Prop} (h : ycv k R) (hO : ∀ k, O k → k < w.heap.size) :
    Calls Try.prog 67 #[(ii k)] w fun e w' => ∃ r, e = .returned (.bool (r)) ∧ Sep w no O w' (rl []) ∧ R r := by
  unfold ycv at h; have hS : Sep w no O w (rl []) := Sep.start w hO; refine yan (l := [(ii k)]) func67 rfl ntmps67 (Nat.le_of_ble_eq_true rfl) (zs (zq (za (.bool (false))) (yaa (zs (zq (zm (ii k)) (zq (v_geq rfl rfl) (zq (zm (.bool (decide ((-1048576) ≤ k)))) ?_))))))); by_cases hp : (-1048576) ≤ k
  · replace h := h.1 hp; exact rl_q (yac rfl (yaf rfl (congrArg Value.bool (decide_eq_true hp)))) rfl rfl (zm (ii k)) (rl_q (yac rfl (yaf rfl (congrArg Value.bool (decide_eq_true hp)))) rfl rfl (v_leq rfl rfl) (zq (yat (v := (.bool (decide (k ≤ 1048576)))) (congrArg Value.bool (decide_eq_true hp)) rfl) (zq (za (.bool (decide (k ≤ 1048576)))) (yaa (yal rfl rfl ⟨_, rfl, (hS.sel [] (by decide)), h⟩)))))
  · replace h := h.2 hp; exact rl_p (yab rfl (yaf rfl (congrArg Value.bool (decide_eq_false hp))) rfl) rfl (rl_p (yab rfl (yaf rfl (congrArg Value.bool (decide_eq_false hp))) rfl) rfl (zq (yav (v := (.bool (false))) (congrArg Value.bool (decide_eq_false hp)) rfl) (zq (za (.bool (false))) (yaa (yal rfl rfl ⟨_, rfl, (hS.sel [] (by decide)), h⟩)))))
def ycD (n : Int) (R : Int → Prop) : Prop :=
((n < 1 →
R 2) ∧
(¬ (n < 1) →
((12 < n →
R 2) ∧
(¬ (12 < n) →
R 0))))
theorem yfM {O : Nat → Prop} {w : World} {n} {R : Int → Prop} (h : ycD n R) (hO : ∀ k, O k → k < w.heap.size) :
    Calls Try.prog 66 #[(ii n)] w fun e w' => ∃ r, e = .returned (ii r) ∧ Sep w no O w' (rl []) ∧ R r := by
  unfold ycD at h; have hS : Sep w no O w (rl []) := Sep.start w hO; refine yan (l := [(ii n)]) func66 rfl ntmps66 (Nat.le_of_ble_eq_true rfl) (zs (zq (za (ii 0)) (yaa (yae (zs (zq (zm (ii n)) (zq zL (zq (zm (.bool (decide (n < 1)))) ?_)))))))); by_cases hp : n < 1
  · replace h := h.1 hp; exact rl_p (yab rfl (yaf rfl (congrArg Value.bool (decide_eq_true hp))) rfl) rfl (rl_p (yab rfl (yaf rfl (congrArg Value.bool (decide_eq_true hp))) rfl) rfl (zq (yat (v := (.bool (true))) (congrArg Value.bool (decide_eq_true hp)) rfl) (yaa (yaq rfl (zs (zq (za (ii 2)) (yaa (yal rfl rfl ⟨_, rfl, (hS.sel [] (by decide)), h⟩))))))))
  · replace h := h.2 hp; refine rl_q (yac rfl (yaf rfl (congrArg Value.bool (decide_eq_false hp)))) rfl rfl (zm (ii n)) (rl_q (yac rfl (yaf rfl (congrArg Value.bool (decide_eq_false hp)))) rfl rfl zG (zq (yav (v := (.bool (decide (12 < n)))) (congrArg Value.bool (decide_eq_false hp)) rfl) (yaa ?_))); by_cases hp2 : 12 < n
    · replace h := h.1 hp2; exact zc hp2 (zs (zq (za (ii 2)) (yaa (yal rfl rfl ⟨_, rfl, (hS.sel [] (by decide)), h⟩))))
    · replace h := h.2 hp2; exact zd hp2 (yah (zs (zq (za (ii 0)) (yaa (yal rfl rfl ⟨_, rfl, (hS.sel [] (by decide)), h⟩)))))
def ybQ (d : List Int) (n : Int) (R : Int → Prop) : Prop :=
ycD n (fun r =>
((r = 0 →
((((d.length : Nat) : Int) = n →
(∃ I2 : Nat → Int → Prop, (∃ m0, I2 m0 0) ∧ ∀ m2 v, I2 m2 v → 
((v < ((d.length : Nat) : Int) →
((0 ≤ v ∧ v < ((d.length : Nat) : Int)) ∧
ycv (gi d v.toNat) (fun r2 =>
((r2 = true →
(In64 (v + 1) ∧
∃ m3, m3 < m2 ∧ I2 m3 (v + 1))) ∧
(¬ (r2 = true) →
R 2))))) ∧
(¬ (v < ((d.length : Nat) : Int)) →
R 0)))) ∧
(¬ (((d.length : Nat) : Int) = n) →
R 8))) ∧
(¬ (r = 0) →
R r)))
theorem ydY {O : Nat → Prop} {w : World} {d n Ad ld cd} {R : Int → Prop} (h : ybQ d n R) (hO : ∀ k, O k → k < w.heap.size) (hA0 : (FP.sl cI Ad ld cd d).P O w) :
    Calls Try.prog 43 #[(.slice Ad ld cd), (ii n)] w fun e w' => ∃ r3, e = .returned (ii r3) ∧ Sep w no O w' (rl []) ∧ R r3 := by
  unfold ybQ at h; have hS : Sep w no O w (rl [Res.ro (FP.sl cI Ad ld cd d)]) := Sep.startl hO [(FP.sl cI Ad ld cd d)] ⟨hA0, trivial⟩; refine yan (l := [(.slice Ad ld cd), (ii n)]) func43 rfl ntmps43 (Nat.le_of_ble_eq_true rfl) (zs (zq (za (ii 0)) (yaa (yae (zs (zq (zm (ii n)) (zn (yam rfl (am1 rfl) enter_66 ((yfM h (yaG _)).mono ?_))))))))); rintro _ w2 ⟨r, rfl, hC, h⟩; replace hS := hS.pur hC.pure; clear hC; refine ⟨_, rfl, ?_⟩; refine zb (zq (za (ii r)) (yaa (zs (zq (zm (ii r)) (zq zN (yaa ?_)))))); by_cases hp : r = 0
  · replace h := h.1 hp; refine ze hp (yah (yae (zs (zq (zm (.slice Ad ld cd)) (zq (yaV (n := d.length) rfl underlying26 (yaR (hS.rdr 0 rfl))) (zq (zm (ii n)) (zq zN (yaa ?_)))))))); by_cases hp2 : ((d.length : Nat) : Int) = n
    · replace h := h.1 hp2; refine ze hp2 (yah (yae (zs (zq (zm (.slice Ad ld cd)) (zq (yaV (n := d.length) rfl underlying26 (yaR (hS.rdr 0 rfl))) (zq (zm (ii 0)) (yaa (yak ?_)))))))); obtain ⟨I2, ⟨m0, h0⟩, hr⟩ := h; refine yaC (fun m E ds w' => ∃ v, I2 m v ∧ ds = [] ∧ E 17 = (Value.slice Ad ld cd) ∧ E 18 = (ii ((d.length : Nat) : Int)) ∧ E 19 = (ii v) ∧ Sep w no O w' (rl [Res.ro (FP.sl cI Ad ld cd d)])) m0 ⟨_, h0, rfl, rfl, rfl, rfl, (hS.sel [0] (by decide))⟩ ?_; clear h0 hS; rintro m2 E ds w3 ⟨v, h, rfl, hE17, hE18, hE19, hS⟩ again; replace h := hr m2 v h; clear hr; refine zs (zq (ycR hE19 hE18) (yaa (yae ?_))); by_cases hp3 : v < ((d.length : Nat) : Int)
      · replace h := h.1 hp3; refine zc hp3 (yah (yae (yak (zs ?_)))); obtain ⟨hx, h⟩ := h; refine zq (ybw hE17 hE19 underlying26 yag (yaQ (hS.rdr 0 rfl) hx)) (zq (yax (v := (ii (gi d v.toNat))) rfl underlying3 rfl (rd_1 (hS.rdr 0 rfl) hx (fun q => yaF q) rfl)) ?_); refine zq (za (ii (gi d v.toNat))) (yaa (zs (zq (zm (ii (gi d v.toNat))) (zn (yam rfl (am1 rfl) enter_67 ((ygE h (yaG _)).mono ?_)))))); rintro _ w4 ⟨r2, rfl, hC, h⟩; replace hS := hS.pur hC.pure; clear hC; refine ⟨_, rfl, ?_⟩; refine zb (zq (ydm rfl) (yaa ?_)); by_cases hp4 : r2 = true
        · replace h := h.1 hp4; refine yaA (congrArg Value.bool (congrArg Bool.not hp4)) (yah (yaj (zr ?_))); obtain ⟨hi, h⟩ := h; refine zq (ybf hE19 rfl hi) (zq (zm (ii (v + 1))) (yaa ?_)); obtain ⟨mq, hlt, h⟩ := h; exact again mq _ _ _ ⟨_, h, rfl, hE17, hE18, rfl, (hS.sel [0] (by decide))⟩ hlt
        · replace h := h.2 hp4; exact yaq (congrArg Value.bool (congrArg Bool.not (Bool.eq_false_iff.2 hp4))) (zs (zq (za (ii 2)) (yaa (yal rfl rfl ⟨_, rfl, (hS.sel [] (by decide)), h⟩))))
      · replace h := h.2 hp3; exact zd hp3 (yay rfl (zs (zq (za (ii 0)) (yaa (yal rfl rfl ⟨_, rfl, (hS.sel [] (by decide)), h⟩)))))
    · replace h := h.2 hp2; exact zf hp2 (zs (zq (za (ii 8)) (yaa (yal rfl rfl ⟨_, rfl, (hS.sel [] (by decide)), h⟩))))
  · replace h := h.2 hp; exact zf hp (zs (zq (zm (ii r)) (zq (za (ii r)) (yaa (yal rfl rfl ⟨_, rfl, (hS.sel [] (by decide)), h⟩)))))
def ybx (n : Int) (v : Int) (R : Bool → Prop) : Prop :=
((0 ≤ v →
R (decide (v < n))) ∧
(¬ (0 ≤ v) →
R false))
theorem ydI {O : Nat → Prop} {w : World} {n v} {R : Bool → Prop} (h : ybx n v R) (hO : ∀ k, O k → k < w.heap.size) :
    Calls Try.prog 84 #[(ii n), (ii v)] w fun e w' => ∃ r, e = .returned (.bool (r)) ∧ Sep w no O w' (rl []) ∧ R r := by
  unfold ybx at h; have hS : Sep w no O w (rl []) := Sep.start w hO; refine yan (l := [(ii n), (ii v)]) func84 rfl ntmps84 (Nat.le_of_ble_eq_true rfl) (zs (zq (za (.bool (false))) (yaa (zs (zq (zm (ii v)) (zq (v_geq rfl rfl) (zq (zm (.bool (decide (0 ≤ v)))) ?_))))))); by_cases hp : 0 ≤ v
  · replace h := h.1 hp; exact rl_q (yac rfl (yaf rfl (congrArg Value.bool (decide_eq_true hp)))) rfl rfl (zm (ii v)) (rl_q (yac rfl (yaf rfl (congrArg Value.bool (decide_eq_true hp)))) rfl rfl (zm (ii n)) (rl_q (yac rfl (yaf rfl (congrArg Value.bool (decide_eq_true hp)))) rfl rfl zL (zq (yat (v := (.bool (decide (v < n)))) (congrArg Value.bool (decide_eq_true hp)) rfl) (zq (za (.bool (decide (v < n)))) (yaa (yal rfl rfl ⟨_, rfl, (hS.sel [] (by decide)), h⟩))))))
  · replace h := h.2 hp; exact rl_p (yab rfl (yaf rfl (congrArg Value.bool (decide_eq_false hp))) rfl) rfl (rl_p (yab rfl (yaf rfl (congrArg Value.bool (decide_eq_false hp))) rfl) rfl (rl_p (yab rfl (yaf rfl (congrArg Value.bool (decide_eq_false hp))) rfl) rfl (zq (yav (v := (.bool (false))) (congrArg Value.bool (decide_eq_false hp)) rfl) (zq (za (.bool (false))) (yaa (yal rfl rfl ⟨_, rfl, (hS.sel [] (by decide)), h⟩))))))
def ya7 (x : Int) (y : Int) (R : Int → Prop) : Prop :=
ycb x (fun r =>
ycb y (fun r2 =>
((r = true →
((r2 = true →
R 0) ∧
(¬ (r2 = true) →
R (-1)))) ∧
(¬ (r = true) →
((r2 = true →
R 1) ∧
(¬ (r2 = true) →
((x < y →
R (-1)) ∧
(¬ (x < y) →
((y < x →
R 1) ∧
(¬ (y < x) →
R 0))))))))))
theorem ycV {O : Nat → Prop} {w : World} {x y} {R : Int → Prop} (h : ya7 x y R) (hO : ∀ k, O k → k < w.heap.size) :
    Calls Try.prog 69 #[(ii x), (ii y)] w fun e w' => ∃ r3, e = .returned (ii r3) ∧ Sep w no O w' (rl []) ∧ R r3 := by
  unfold ya7 at h; have hS : Sep w no O w (rl []) := Sep.start w hO; refine yan (l := [(ii x), (ii y)]) func69 rfl ntmps69 (Nat.le_of_ble_eq_true rfl) (zs (zq (za (ii 0)) (yaa (zs (zq (zm (ii x)) (zn (yam rfl (am1 rfl) enter_85 ((yen h (yaG _)).mono ?_)))))))); rintro _ w2 ⟨r, rfl, hC, h⟩; replace hS := hS.pur hC.pure; clear hC; refine ⟨_, rfl, ?_⟩; refine zb (zq (za (.bool (r))) (yaa (zs (zq (zm (ii y)) (zn (yam rfl (am1 rfl) enter_85 ((yen h (yaG _)).mono ?_))))))); rintro _ w3 ⟨r2, rfl, hC, h⟩; replace hS := hS.pur hC.pure; clear hC; refine ⟨_, rfl, ?_⟩; refine zb (zq (za (.bool (r2))) (yaa (yae (zs (zq (zm (.bool (r))) (yaa ?_)))))); by_cases hp : r = true
  · replace h := h.1 hp; refine yaq (congrArg Value.bool hp) (yae (zs (zq (zm (.bool (r2))) (yaa ?_)))); by_cases hp2 : r2 = true
    · replace h := h.1 hp2; exact yaq (congrArg Value.bool hp2) (zs (zq (za (ii 0)) (yaa (yal rfl rfl ⟨_, rfl, (hS.sel [] (by decide)), h⟩))))
    · replace h := h.2 hp2; exact yaA (congrArg Value.bool (Bool.eq_false_iff.2 hp2)) (yah (zs (zq (za (ii (-1))) (yaa (yal rfl rfl ⟨_, rfl, (hS.sel [] (by decide)), h⟩)))))
  · replace h := h.2 hp; refine yaA (congrArg Value.bool (Bool.eq_false_iff.2 hp)) (yah (yae (zs (zq (zm (.bool (r2))) (yaa ?_))))); by_cases hp3 : r2 = true
    · replace h := h.1 hp3; exact yaq (congrArg Value.bool hp3) (zs (zq (za (ii 1)) (yaa (yal rfl rfl ⟨_, rfl, (hS.sel [] (by decide)), h⟩))))
    · replace h := h.2 hp3; refine yaA (congrArg Value.bool (Bool.eq_false_iff.2 hp3)) (yah (yae (zs (zq (zm (ii x)) (zq (zm (ii y)) (zq zL (yaa ?_))))))); by_cases hp4 : x < y
      · replace h := h.1 hp4; exact zc hp4 (zs (zq (za (ii (-1))) (yaa (yal rfl rfl ⟨_, rfl, (hS.sel [] (by decide)), h⟩))))
      · replace h := h.2 hp4; refine zd hp4 (yah (yae (zs (zq (zm (ii x)) (zq (zm (ii y)) (zq zG (yaa ?_))))))); by_cases hp5 : y < x
        · replace h := h.1 hp5; exact zc hp5 (zs (zq (za (ii 1)) (yaa (yal rfl rfl ⟨_, rfl, (hS.sel [] (by decide)), h⟩))))
        · replace h := h.2 hp5; exact zd hp5 (yah (zs (zq (za (ii 0)) (yaa (yal rfl rfl ⟨_, rfl, (hS.sel [] (by decide)), h⟩)))))
def ydd (vals : List Int) (R : Int → Prop) : Prop :=
(∃ I2 : Nat → Int → Prop, (∃ m0, I2 m0 0) ∧ ∀ m2 v, I2 m2 v → 
((v < ((vals.length : Nat) : Int) →
((0 ≤ v ∧ v < ((vals.length : Nat) : Int)) ∧
(((gi vals v.toNat) = 0 →
(In64 (v + 1) ∧
∃ m3, m3 < m2 ∧ I2 m3 (v + 1))) ∧
(¬ ((gi vals v.toNat) = 0) →
R (gi vals v.toNat))))) ∧
(¬ (v < ((vals.length : Nat) : Int)) →
R 0)))
theorem pok_cmp_Or_int {O : Nat → Prop} {w : World} {vals Avals lvals cvals} {R : Int → Prop} (h : ydd vals R) (hO : ∀ k, O k → k < w.heap.size) (hA0 : (FP.sl cI Avals lvals cvals vals).P O w) :
    Calls Try.prog 95 #[(.slice Avals lvals cvals)] w fun e w' => ∃ r, e = .returned (ii r) ∧ Sep w no O w' (rl []) ∧ R r := by
  unfold ydd at h; have hS : Sep w no O w (rl [Res.ro (FP.sl cI Avals lvals cvals vals)]) := Sep.startl hO [(FP.sl cI Avals lvals cvals vals)] ⟨hA0, trivial⟩; refine yan (l := [(.slice Avals lvals cvals)]) func95 rfl ntmps95 (Nat.le_of_ble_eq_true rfl) (zs (zq (za (ii 0)) (yaa (zs (zq (za (ii 0)) (yaa (yae (zs (zq (zm (.slice Avals lvals cvals)) (zq (yaV (n := vals.length) rfl underlying25 (yaR (hS.rdr 0 rfl))) (zq (zm (ii 0)) (yaa (yak ?_))))))))))))); obtain ⟨I2, ⟨m0, h0⟩, hr⟩ := h; refine yaC (fun m E ds w' => ∃ v, I2 m v ∧ ds = [] ∧ E 3 = (ii 0) ∧ E 6 = (Value.slice Avals lvals cvals) ∧ E 7 = (ii ((vals.length : Nat) : Int)) ∧ E 8 = (ii v) ∧ Sep w no O w' (rl [Res.ro (FP.sl cI Avals lvals cvals vals)])) m0 ⟨_, h0, rfl, rfl, rfl, rfl, rfl, (hS.sel [0] (by decide))⟩ ?_; clear h0 hS; rintro m2 E ds w2 ⟨v, h, rfl, hE3, hE6, hE7, hE8, hS⟩ again; replace h := hr m2 v h; clear hr; refine zs (zq (ycR hE8 hE7) (yaa (yae ?_))); by_cases hp : v < ((vals.length : Nat) : Int)
  · replace h := h.1 hp; refine zc hp (yah (yae (yak (zs ?_)))); obtain ⟨hx, h⟩ := h; refine zq (ybw hE6 hE8 underlying25 yag (yaQ (hS.rdr 0 rfl) hx)) (zq (yax (v := (ii (gi vals v.toNat))) rfl underlying3 rfl (rd_1 (hS.rdr 0 rfl) hx (fun q => yaF q) rfl)) ?_); refine zq (za (ii (gi vals v.toNat))) (yaa (zs (zq (zm (ii (gi vals v.toNat))) (zq (yad hE3) (zq zN (yaa ?_)))))); by_cases hp2 : (gi vals v.toNat) = 0
    · replace h := h.1 hp2; refine ze hp2 (yah (yaj (zr ?_))); obtain ⟨hi, h⟩ := h; refine zq (ybf hE8 rfl hi) (zq (zm (ii (v + 1))) (yaa ?_)); obtain ⟨mq, hlt, h⟩ := h; exact again mq _ _ _ ⟨_, h, rfl, hE3, hE6, hE7, rfl, (hS.sel [0] (by decide))⟩ hlt
    · replace h := h.2 hp2; exact zf hp2 (zs (zq (zm (ii (gi vals v.toNat))) (zq (za (ii (gi vals v.toNat))) (yaa (yal rfl rfl ⟨_, rfl, (hS.sel [] (by decide)), h⟩)))))
  · replace h := h.2 hp; exact zd hp (yay rfl (zs (zq (yad hE3) (zq (za (ii 0)) (yaa (yal rfl rfl ⟨_, rfl, (hS.sel [] (by decide)), h⟩))))))
def ybE (p : Int) (p2 : Int) (q : Int) (q2 : Int) (R : Int → Prop) : Prop :=
ya7 p q (fun r =>
ya7 p2 q2 (fun r2 =>
ydd ([r, r2]) (fun r3 =>
R r3)))
theorem yeO {O : Nat → Prop} {w : World} {p p2 q q2} {R : Int → Prop} (h : ybE p p2 q q2 R) (hO : ∀ k, O k → k < w.heap.size) :
    Calls Try.prog 88 #[(.agg #[(ii p), (ii p2)]), (.agg #[(ii q), (ii q2)])] w fun e w' => ∃ r4, e = .returned (ii r4) ∧ Sep w no O w' (rl []) ∧ R r4 := by
  unfold ybE at h; have hS : Sep w no O w (rl []) := Sep.start w hO; refine yan (l := [(.agg #[(ii p), (ii p2)]), (.agg #[(ii q), (ii q2)])]) func88 rfl ntmps88 (Nat.le_of_ble_eq_true rfl) (zs (zn (ybO (v := (.agg #[(ii p), (ii p2)])) rfl ?_))); intro g w2 hN; replace hS : Sep w no O w2 (stl _ 0 (Res.box 123 g [(ii p), (ii p2)])) := hS.new 0 rfl hN; clear hN; refine zb (zn (ybO (v := (.agg #[(ii q), (ii q2)])) rfl ?_)); intro g2 w3 hN; replace hS : Sep w no O w3 (stl _ 1 (Res.box 123 g2 [(ii q), (ii q2)])) := hS.new 1 rfl hN; clear hN; refine zb (zq (za (ii 0)) (yaa (yae (ybi [0, 1, 2, 3, 5, 6, 7, 8, 4, 9, 10, 11, 12] (fun i => match i with | 4 => [5, 6, 7, 8] | _ => []) ybr (by kernel_rfl) (by kernel_rfl) ?_)))); replace hS := hS.drew; refine zp (yai rfl underlying123 rfl yag) (zp (zl underlying3 (Row.cell (hS.bx 0 rfl) (i := 0) rfl)) (zp (yai rfl underlying123 rfl yag) (zp (zl underlying3 (Row.cell (hS.bx 1 rfl) (i := 0) rfl)) (zp (yai rfl underlying123 rfl yag) (zp (zl underlying3 (Row.cell (hS.bx 0 rfl) (i := 1) rfl)) (zp (yai rfl underlying123 rfl yag) (zp (zl underlying3 (Row.cell (hS.bx 1 rfl) (i := 1) rfl)) (rp_n rfl rfl rfl rfl (yam rfl (am2 rfl rfl) enter_69 ((ycV h (yaG _)).mono ?_)))))))))); rintro _ w4 ⟨r, rfl, hC, h⟩; replace hS := hS.pur hC.pure; clear hC; refine ⟨_, rfl, ?_⟩; refine ⟨⟨fun _ => (zl underlying3 (Row.cell (hS.bx 1 rfl) (i := 1) rfl)), ⟨fun _ => (yai rfl underlying123 rfl yag), ⟨fun _ => (zl underlying3 (Row.cell (hS.bx 0 rfl) (i := 1) rfl)), ⟨fun _ => (yai rfl underlying123 rfl yag), ⟨fun hh => Bool.noConfusion (show false = true from hh), ⟨fun hh => Bool.noConfusion (show false = true from hh), ⟨fun hh => Bool.noConfusion (show false = true from hh), ⟨fun hh => Bool.noConfusion (show false = true from hh), trivial⟩⟩⟩⟩⟩⟩⟩⟩, ?_⟩; refine rp_n rfl rfl rfl rfl (yam rfl (am2 rfl rfl) enter_69 ((ycV h (yaG _)).mono ?_)); rintro _ w5 ⟨r2, rfl, hC, h⟩; replace hS := hS.pur hC.pure; clear hC; refine ⟨_, rfl, ?_⟩; refine zb (rp_n rfl rfl rfl rfl (ybd (l := [(0, (ii r)), (1, (ii r2))]) (cells := [(ii r), (ii r2)]) (bp2 rfl rfl) underlying25 yag rfl rfl ?_)); intro g3 w6 hN; replace hS := hS.litf (n := 2) 2 rfl (fI .i64) hN ([r, r2] : List Int) rfl (by decide) rfl; clear hN; refine zb (rp_n rfl rfl rfl rfl (yam rfl (am1 rfl) enter_95 ((pok_cmp_Or_int h (yaG _) (hS.rdo 2 rfl)).mono ?_))); rintro _ w7 ⟨r3, rfl, hC, h⟩; replace hS := hS.pur hC.pure; clear hC; refine ⟨_, rfl, ?_⟩; exact zb (zp (za (ii r3)) (ybz (yal rfl rfl ⟨_, rfl, (hS.sel [] (by decide)), h⟩)))
def ybN (d : Int) (d2 : List E3) (R : Int → Prop) : Prop :=
(∃ J2 : Prop, (J2 → (∃ I2 : Nat → Int → Int → Int → Prop, (∃ m0, I2 m0 0 (-1) (-1)) ∧ ∀ m2 v v2 v3, I2 m2 v v2 v3 → 
((v < ((d2.length : Nat) : Int) →
((0 ≤ v ∧ v < ((d2.length : Nat) : Int)) ∧
(∃ J3 : Prop, (J3 → ((((ge d2 v.toNat).2.1) < ((ge d2 v.toNat).1) →
R 9) ∧
(¬ (((ge d2 v.toNat).2.1) < ((ge d2 v.toNat).1)) →
ybE v2 v3 ((ge d2 v.toNat).1) ((ge d2 v.toNat).2.1) (fun r =>
((0 ≤ r →
R 9) ∧
(¬ (0 ≤ r) →
(In64 (v + 1) ∧
∃ m3, m3 < m2 ∧ I2 m3 (v + 1) ((ge d2 v.toNat).1) ((ge d2 v.toNat).2.1)))))))) ∧
ybx d ((ge d2 v.toNat).1) (fun r2 =>
((r2 = true →
ybx d ((ge d2 v.toNat).2.1) (fun r3 =>
((r3 = true →
((((ge d2 v.toNat).2.2) < 1 →
R 2) ∧
(¬ (((ge d2 v.toNat).2.2) < 1) →
((50 < ((ge d2 v.toNat).2.2) →
R 2) ∧
(¬ (50 < ((ge d2 v.toNat).2.2)) →
J3))))) ∧
(¬ (r3 = true) →
R 2)))) ∧
(¬ (r2 = true) →
R 2)))))) ∧
(¬ (v < ((d2.length : Nat) : Int)) →
R 0)))) ∧
((d < 1 →
R 2) ∧
(¬ (d < 1) →
((12 < d →
R 2) ∧
(¬ (12 < d) →
J2)))))
theorem ydX {O : Nat → Prop} {w : World} {d d2 Ad ld cd} {R : Int → Prop} (h : ybN d d2 R) (hO : ∀ k, O k → k < w.heap.size) (hA0 : (FP.sl c3 Ad ld cd d2).P O w) :
    Calls Try.prog 72 #[(.agg #[(ii d), (.slice Ad ld cd)])] w fun e w' => ∃ r4, e = .returned (ii r4) ∧ Sep w no O w' (rl []) ∧ R r4 := by
  unfold ybN at h; have hS : Sep w no O w (rl [Res.ro (FP.sl c3 Ad ld cd d2)]) := Sep.startl hO [(FP.sl c3 Ad ld cd d2)] ⟨hA0, trivial⟩; refine yan (l := [(.agg #[(ii d), (.slice Ad ld cd)])]) func72 rfl ntmps72 (Nat.le_of_ble_eq_true rfl) (zs (zn (ybO (v := (.agg #[(ii d), (.slice Ad ld cd)])) rfl ?_))); intro g w2 hN; replace hS : Sep w no O w2 (stl _ 1 (Res.box 24 g [(ii d), (.slice Ad ld cd)])) := hS.new 1 rfl hN; clear hN; refine zb (zq (za (ii 0)) (yaa (yae (yae ?_)))); obtain ⟨J2, hJ, h⟩ := h; refine ycS (fun E ds w' => J2 ∧ ds = [] ∧ E 1 = (Value.pointer (some (⟨g, 0, none⟩ : Addr))) ∧ Sep w no O w' (rl [Res.box 24 g [(ii d), (.slice Ad ld cd)], Res.ro (FP.sl c3 Ad ld cd d2)])) ?_ ?_
  · clear h hS; rintro E ds w3 ⟨h, rfl, hE1, hS⟩; replace h := hJ h; refine zs (zn (ydW (l := [(0, (ii (-1))), (1, (ii (-1)))]) (cells := [(ii (-1)), (ii (-1))]) (places := [(0, 1), (1, 1)]) (bp2 rfl rfl) underlying123 ycE (by kernel_rfl) rfl ?_)); refine zb (zn (ya4 ycE ?_)); intro g2 w4 hN; replace hS : Sep w no O w4 (stl _ 2 (Res.box 123 g2 [(ii 0), (ii 0)])) := hS.new 2 rfl hN; clear hN; refine zb (zo (ybg (b := g2) (o := 0) (cells := #[(ii (-1)), (ii (-1))]) rfl rfl ycE rfl rfl (yaY (hS.bx 2 rfl) (Nat.le_of_ble_eq_true rfl)) ?_)); intro w5 e1; replace hS := hS.bstn 2 rfl 0 [(ii (-1)), (ii (-1))] e1; clear e1; refine zb (yaa (yae (zs (zq (yai hE1 underlying24 rfl yb0) (zq (zl underlying22 (Row.cell (hS.bx 0 rfl) (i := 1) rfl)) (zq (yaV (n := d2.length) rfl underlying22 (yaR (hS.rdr 1 rfl))) (zq (zm (ii 0)) (yaa (yak ?_))))))))); obtain ⟨I2, ⟨m0, h0⟩, hr⟩ := h; refine yaC (fun m E ds w' => ∃ v v2 v3, I2 m v v2 v3 ∧ ds = [] ∧ E 1 = (Value.pointer (some (⟨g, 0, none⟩ : Addr))) ∧ E 3 = (Value.pointer (some (⟨g2, 0, none⟩ : Addr))) ∧ E 17 = (Value.slice Ad ld cd) ∧ E 18 = (ii ((d2.length : Nat) : Int)) ∧ E 19 = (ii v) ∧ Sep w no O w' (rl [Res.box 24 g [(ii d), (.slice Ad ld cd)], Res.ro (FP.sl c3 Ad ld cd d2), Res.box 123 g2 [(ii v2), (ii v3)]])) m0 ⟨_, _, _, h0, rfl, hE1, rfl, rfl, rfl, rfl, (hS.sel [0, 1, 2] (by decide))⟩ ?_; clear h0 hS; rintro m2 E ds w6 ⟨v, v2, v3, h, rfl, hE1, hE3, hE17, hE18, hE19, hS⟩ again; replace h := hr m2 v v2 v3 h; clear hr; refine zs (zq (ycR hE19 hE18) (yaa (yae ?_))); by_cases hp : v < ((d2.length : Nat) : Int)
    · replace h := h.1 hp; refine zc hp (yah (yae (yak (zs ?_)))); obtain ⟨hx, h⟩ := h; refine zq (ybw hE17 hE19 underlying22 yaE (yaQ (hS.rdr 1 rfl) hx)) (zq (yar (vs := [(ii ((ge d2 v.toNat).1)), (ii ((ge d2 v.toNat).2.1)), (ii ((ge d2 v.toNat).2.2))]) rfl underlying51 rfl yaE (rd_fs (hS.rdr 1 rfl) hx (fun q => ycN q))) ?_); refine zn (ya4 yaE ?_); intro g3 w7 hN; replace hS : Sep w no O w7 (stl _ 3 (Res.box 51 g3 [(ii 0), (ii 0), (ii 0)])) := hS.new 3 rfl hN; clear hN; refine zb (zo (ybg (b := g3) (o := 0) (cells := #[(ii ((ge d2 v.toNat).1)), (ii ((ge d2 v.toNat).2.1)), (ii ((ge d2 v.toNat).2.2))]) rfl rfl yaE rfl rfl (yaY (hS.bx 3 rfl) (Nat.le_of_ble_eq_true rfl)) ?_)); intro w8 e1; replace hS := hS.bstn 3 rfl 0 [(ii ((ge d2 v.toNat).1)), (ii ((ge d2 v.toNat).2.1)), (ii ((ge d2 v.toNat).2.2))] e1; clear e1; refine zb (yaa (zs (zq (yai rfl underlying51 rfl yag) (zq (zl underlying3 (Row.cell (hS.bx 3 rfl) (i := 0) rfl)) (zq (yai rfl underlying51 rfl yag) (zq (zl underlying3 (Row.cell (hS.bx 3 rfl) (i := 1) rfl)) (zn (ydW (l := [(0, (ii ((ge d2 v.toNat).1))), (1, (ii ((ge d2 v.toNat).2.1)))]) (cells := [(ii ((ge d2 v.toNat).1)), (ii ((ge d2 v.toNat).2.1))]) (places := [(0, 1), (1, 1)]) (bp2 rfl rfl) underlying123 ycE (by kernel_rfl) rfl ?_)))))))); refine zb (zn (ya4 ycE ?_)); intro g4 w9 hN; replace hS : Sep w no O w9 (stl _ 4 (Res.box 123 g4 [(ii 0), (ii 0)])) := hS.new 4 rfl hN; clear hN; refine zb (zo (ybg (b := g4) (o := 0) (cells := #[(ii ((ge d2 v.toNat).1)), (ii ((ge d2 v.toNat).2.1))]) rfl rfl ycE rfl rfl (yaY (hS.bx 4 rfl) (Nat.le_of_ble_eq_true rfl)) ?_)); intro w10 e1; replace hS := hS.bstn 4 rfl 0 [(ii ((ge d2 v.toNat).1)), (ii ((ge d2 v.toNat).2.1))] e1; clear e1; refine zb (yaa (yae (yak (yae ?_)))); obtain ⟨J3, hJ, h⟩ := h; refine wt_cutB1 (fun E ds w' => J3 ∧ ds = [] ∧ E 1 = (Value.pointer (some (⟨g, 0, none⟩ : Addr))) ∧ E 3 = (Value.pointer (some (⟨g2, 0, none⟩ : Addr))) ∧ E 5 = (Value.pointer (some (⟨g3, 0, none⟩ : Addr))) ∧ E 6 = (Value.pointer (some (⟨g4, 0, none⟩ : Addr))) ∧ E 17 = (Value.slice Ad ld cd) ∧ E 18 = (ii ((d2.length : Nat) : Int)) ∧ E 19 = (ii v) ∧ Sep w no O w' (rl [Res.box 24 g [(ii d), (.slice Ad ld cd)], Res.ro (FP.sl c3 Ad ld cd d2), Res.box 123 g2 [(ii v2), (ii v3)], Res.box 51 g3 [(ii ((ge d2 v.toNat).1)), (ii ((ge d2 v.toNat).2.1)), (ii ((ge d2 v.toNat).2.2))], Res.box 123 g4 [(ii ((ge d2 v.toNat).1)), (ii ((ge d2 v.toNat).2.1))]])) ?_ ?_
      · clear h hS; rintro E ds w11 ⟨h, rfl, hE1, hE3, hE5, hE6, hE17, hE18, hE19, hS⟩; replace h := hJ h; refine zs (zq (yai hE5 underlying51 rfl yag) (zq (zl underlying3 (Row.cell (hS.bx 3 rfl) (i := 0) rfl)) (zq (yai hE5 underlying51 rfl yag) (zq (zl underlying3 (Row.cell (hS.bx 3 rfl) (i := 1) rfl)) (zq zG (zq (zm (.bool (decide (((ge d2 v.toNat).2.1) < ((ge d2 v.toNat).1))))) ?_)))))); by_cases hp2 : ((ge d2 v.toNat).2.1) < ((ge d2 v.toNat).1)
        · replace h := h.1 hp2; exact rl_p (yab rfl (yaf rfl (congrArg Value.bool (decide_eq_true hp2))) rfl) rfl (rl_p (yab rfl (yaf rfl (congrArg Value.bool (decide_eq_true hp2))) rfl) rfl (rl_p (yab rfl (yaf rfl (congrArg Value.bool (decide_eq_true hp2))) rfl) rfl (rl_p (yab rfl (yaf rfl (congrArg Value.bool (decide_eq_true hp2))) rfl) rfl (zq (yat (v := (.bool (true))) (congrArg Value.bool (decide_eq_true hp2)) rfl) (zq (za (.bool (true))) (yaa (yaq rfl (zs (zq (za (ii 9)) (yaa (yal rfl rfl ⟨_, rfl, (hS.sel [] (by decide)), h⟩)))))))))))
        · replace h := h.2 hp2; refine rl_q (yac rfl (yaf rfl (congrArg Value.bool (decide_eq_false hp2)))) rfl rfl (yar (vs := [(ii v2), (ii v3)]) hE3 underlying123 rfl ycE ⟨Row.cell (hS.bx 2 rfl) (i := 0) rfl, Row.cell (hS.bx 2 rfl) (i := 1) rfl, trivial⟩) (rl_q (yac rfl (yaf rfl (congrArg Value.bool (decide_eq_false hp2)))) rfl rfl (yar (vs := [(ii ((ge d2 v.toNat).1)), (ii ((ge d2 v.toNat).2.1))]) hE6 underlying123 rfl ycE ⟨Row.cell (hS.bx 4 rfl) (i := 0) rfl, Row.cell (hS.bx 4 rfl) (i := 1) rfl, trivial⟩) (rl_n (yac rfl (yaf rfl (congrArg Value.bool (decide_eq_false hp2)))) rfl rfl rfl (yam rfl (am2 rfl rfl) enter_88 ((yeO h (yaG _)).mono ?_)))); rintro _ w12 ⟨r, rfl, hC, h⟩; replace hS := hS.pur hC.pure; clear hC; refine ⟨_, rfl, ?_⟩; refine zb (rl_q (yac rfl (yaf rfl (congrArg Value.bool (decide_eq_false hp2)))) rfl rfl (v_geq rfl rfl) (zq (yav (v := (.bool (decide (0 ≤ r)))) (congrArg Value.bool (decide_eq_false hp2)) rfl) (zq (za (.bool (decide (0 ≤ r)))) (yaa ?_)))); by_cases hp3 : 0 ≤ r
          · replace h := h.1 hp3; exact zc hp3 (zs (zq (za (ii 9)) (yaa (yal rfl rfl ⟨_, rfl, (hS.sel [] (by decide)), h⟩))))
          · replace h := h.2 hp3; refine zd hp3 (yah (yaj (zr (zq (yar (vs := [(ii ((ge d2 v.toNat).1)), (ii ((ge d2 v.toNat).2.1))]) hE6 underlying123 rfl ycE ⟨Row.cell (hS.bx 4 rfl) (i := 0) rfl, Row.cell (hS.bx 4 rfl) (i := 1) rfl, trivial⟩) (zo (ybg (b := g2) (o := 0) (cells := #[(ii ((ge d2 v.toNat).1)), (ii ((ge d2 v.toNat).2.1))]) hE3 rfl ycE rfl rfl (yaY (hS.bx 2 rfl) (Nat.le_of_ble_eq_true rfl)) ?_)))))); intro w13 e1; replace hS := hS.bstn 2 rfl 0 [(ii ((ge d2 v.toNat).1)), (ii ((ge d2 v.toNat).2.1))] e1; clear e1; refine zb (yaa (yaj (zr ?_))); obtain ⟨hi, h⟩ := h; refine zq (ybf hE19 rfl hi) (zq (zm (ii (v + 1))) (yaa ?_)); obtain ⟨mq, hlt, h⟩ := h; exact again mq _ _ _ ⟨_, _, _, h, rfl, hE1, hE3, hE17, hE18, rfl, (hS.sel [0, 1, 2] (by decide))⟩ hlt
      clear hJ; intro j2; refine zr (zq (yai hE1 underlying24 rfl yag) (zq (zl underlying3 (Row.cell (hS.bx 0 rfl) (i := 0) rfl)) (zq (yai rfl underlying51 rfl yag) (zq (zl underlying3 (Row.cell (hS.bx 3 rfl) (i := 0) rfl)) (zn (yam rfl (am2 rfl rfl) enter_84 ((ydI h (yaG _)).mono ?_))))))); rintro _ w14 ⟨r2, rfl, hC, h⟩; replace hS := hS.pur hC.pure; clear hC; refine ⟨_, rfl, ?_⟩; refine zb (zq (ydm rfl) (zq (zm (.bool (!(r2)))) ?_)); by_cases hp4 : r2 = true
      · replace h := h.1 hp4; refine rl_q (yac rfl (yaf rfl (congrArg Value.bool (congrArg Bool.not hp4)))) rfl rfl (yai hE1 underlying24 rfl yag) (rl_q (yac rfl (yaf rfl (congrArg Value.bool (congrArg Bool.not hp4)))) rfl rfl (zl underlying3 (Row.cell (hS.bx 0 rfl) (i := 0) rfl)) (rl_q (yac rfl (yaf rfl (congrArg Value.bool (congrArg Bool.not hp4)))) rfl rfl (yai rfl underlying51 rfl yag) (rl_q (yac rfl (yaf rfl (congrArg Value.bool (congrArg Bool.not hp4)))) rfl rfl (zl underlying3 (Row.cell (hS.bx 3 rfl) (i := 1) rfl)) (rl_n (yac rfl (yaf rfl (congrArg Value.bool (congrArg Bool.not hp4)))) rfl rfl rfl (yam rfl (am2 rfl rfl) enter_84 ((ydI h (yaG _)).mono ?_)))))); rintro _ w15 ⟨r3, rfl, hC, h⟩; replace hS := hS.pur hC.pure; clear hC; refine ⟨_, rfl, ?_⟩; refine zb (rl_q (yac rfl (yaf rfl (congrArg Value.bool (congrArg Bool.not hp4)))) rfl rfl (ydm rfl) (zq (yav (v := (.bool (!(r3)))) (congrArg Value.bool (congrArg Bool.not hp4)) rfl) (zq (zm (.bool (!(r3)))) ?_))); by_cases hp5 : r3 = true
        · replace h := h.1 hp5; refine rl_q (yac rfl (yaf rfl (congrArg Value.bool (congrArg Bool.not hp5)))) rfl rfl (yai rfl underlying51 rfl yag) (rl_q (yac rfl (yaf rfl (congrArg Value.bool (congrArg Bool.not hp5)))) rfl rfl (zl underlying3 (Row.cell (hS.bx 3 rfl) (i := 2) rfl)) (rl_q (yac rfl (yaf rfl (congrArg Value.bool (congrArg Bool.not hp5)))) rfl rfl zL (zq (yav (v := (.bool (decide (((ge d2 v.toNat).2.2) < 1)))) (congrArg Value.bool (congrArg Bool.not hp5)) rfl) (zq (zm (.bool (decide (((ge d2 v.toNat).2.2) < 1)))) ?_)))); by_cases hp6 : ((ge d2 v.toNat).2.2) < 1
          · replace h := h.1 hp6; exact rl_p (yab rfl (yaf rfl (congrArg Value.bool (decide_eq_true hp6))) rfl) rfl (rl_p (yab rfl (yaf rfl (congrArg Value.bool (decide_eq_true hp6))) rfl) rfl (rl_p (yab rfl (yaf rfl (congrArg Value.bool (decide_eq_true hp6))) rfl) rfl (zq (yat (v := (.bool (true))) (congrArg Value.bool (decide_eq_true hp6)) rfl) (zq (za (.bool (true))) (yaa (yaq rfl (zs (zq (za (ii 2)) (yaa (yal rfl rfl ⟨_, rfl, (hS.sel [] (by decide)), h⟩))))))))))
          · replace h := h.2 hp6; refine rl_q (yac rfl (yaf rfl (congrArg Value.bool (decide_eq_false hp6)))) rfl rfl (yai rfl underlying51 rfl yag) (rl_q (yac rfl (yaf rfl (congrArg Value.bool (decide_eq_false hp6)))) rfl rfl (zl underlying3 (Row.cell (hS.bx 3 rfl) (i := 2) rfl)) (rl_q (yac rfl (yaf rfl (congrArg Value.bool (decide_eq_false hp6)))) rfl rfl zG (zq (yav (v := (.bool (decide (50 < ((ge d2 v.toNat).2.2))))) (congrArg Value.bool (decide_eq_false hp6)) rfl) (zq (za (.bool (decide (50 < ((ge d2 v.toNat).2.2))))) (yaa ?_))))); by_cases hp7 : 50 < ((ge d2 v.toNat).2.2)
            · replace h := h.1 hp7; exact zc hp7 (zs (zq (za (ii 2)) (yaa (yal rfl rfl ⟨_, rfl, (hS.sel [] (by decide)), h⟩))))
            · replace h := h.2 hp7; exact zd hp7 (j2 _ _ _ ⟨h, rfl, hE1, hE3, rfl, rfl, hE17, hE18, hE19, (hS.sel [0, 1, 2, 3, 4] (by decide))⟩)
        · replace h := h.2 hp5; exact rl_p (yab rfl (yaf rfl (congrArg Value.bool (congrArg Bool.not (Bool.eq_false_iff.2 hp5)))) rfl) rfl (rl_p (yab rfl (yaf rfl (congrArg Value.bool (congrArg Bool.not (Bool.eq_false_iff.2 hp5)))) rfl) rfl (rl_p (yab rfl (yaf rfl (congrArg Value.bool (congrArg Bool.not (Bool.eq_false_iff.2 hp5)))) rfl) rfl (zq (yat (v := (.bool (true))) (congrArg Value.bool (congrArg Bool.not (Bool.eq_false_iff.2 hp5))) rfl) (zq (zm (.bool (true))) (rl_p (yab rfl (yaf rfl rfl) rfl) rfl (rl_p (yab rfl (yaf rfl rfl) rfl) rfl (rl_p (yab rfl (yaf rfl rfl) rfl) rfl (zq (yat (v := (.bool (true))) rfl rfl) (zq (za (.bool (true))) (yaa (yaq rfl (zs (zq (za (ii 2)) (yaa (yal rfl rfl ⟨_, rfl, (hS.sel [] (by decide)), h⟩)))))))))))))))
      · replace h := h.2 hp4; exact rl_p (yab rfl (yaf rfl (congrArg Value.bool (congrArg Bool.not (Bool.eq_false_iff.2 hp4)))) rfl) rfl (rl_p (yab rfl (yaf rfl (congrArg Value.bool (congrArg Bool.not (Bool.eq_false_iff.2 hp4)))) rfl) rfl (rl_p (yab rfl (yaf rfl (congrArg Value.bool (congrArg Bool.not (Bool.eq_false_iff.2 hp4)))) rfl) rfl (rl_p (yab rfl (yaf rfl (congrArg Value.bool (congrArg Bool.not (Bool.eq_false_iff.2 hp4)))) rfl) rfl (rl_p (yab rfl (yaf rfl (congrArg Value.bool (congrArg Bool.not (Bool.eq_false_iff.2 hp4)))) rfl) rfl (rl_p (yab rfl (yaf rfl (congrArg Value.bool (congrArg Bool.not (Bool.eq_false_iff.2 hp4)))) rfl) rfl (zq (yat (v := (.bool (true))) (congrArg Value.bool (congrArg Bool.not (Bool.eq_false_iff.2 hp4))) rfl) (zq (zm (.bool (true))) (rl_p (yab rfl (yaf rfl rfl) rfl) rfl (rl_p (yab rfl (yaf rfl rfl) rfl) rfl (rl_p (yab rfl (yaf rfl rfl) rfl) rfl (zq (yat (v := (.bool (true))) rfl rfl) (zq (zm (.bool (true))) (rl_p (yab rfl (yaf rfl rfl) rfl) rfl (rl_p (yab rfl (yaf rfl rfl) rfl) rfl (rl_p (yab rfl (yaf rfl rfl) rfl) rfl (zq (yat (v := (.bool (true))) rfl rfl) (zq (za (.bool (true))) (yaa (yaq rfl (zs (zq (za (ii 2)) (yaa (yal rfl rfl ⟨_, rfl, (hS.sel [] (by decide)), h⟩)))))))))))))))))))))))
    · replace h := h.2 hp; exact zd hp (yay rfl (zs (zq (za (ii 0)) (yaa (yal rfl rfl ⟨_, rfl, (hS.sel [] (by decide)), h⟩)))))
  clear hJ; intro j; refine zr (zq (yai rfl underlying24 rfl yag) (zq (zl underlying3 (Row.cell (hS.bx 1 rfl) (i := 0) rfl)) (zq zL (zq (zm (.bool (decide (d < 1)))) ?_)))); by_cases hp8 : d < 1
  · replace h := h.1 hp8; exact rl_p (yab rfl (yaf rfl (congrArg Value.bool (decide_eq_true hp8))) rfl) rfl (rl_p (yab rfl (yaf rfl (congrArg Value.bool (decide_eq_true hp8))) rfl) rfl (rl_p (yab rfl (yaf rfl (congrArg Value.bool (decide_eq_true hp8))) rfl) rfl (zq (yat (v := (.bool (true))) (congrArg Value.bool (decide_eq_true hp8)) rfl) (yaa (yaq rfl (zs (zq (za (ii 2)) (yaa (yal rfl rfl ⟨_, rfl, (hS.sel [] (by decide)), h⟩)))))))))
  · replace h := h.2 hp8; refine rl_q (yac rfl (yaf rfl (congrArg Value.bool (decide_eq_false hp8)))) rfl rfl (yai rfl underlying24 rfl yag) (rl_q (yac rfl (yaf rfl (congrArg Value.bool (decide_eq_false hp8)))) rfl rfl (zl underlying3 (Row.cell (hS.bx 1 rfl) (i := 0) rfl)) (rl_q (yac rfl (yaf rfl (congrArg Value.bool (decide_eq_false hp8)))) rfl rfl zG (zq (yav (v := (.bool (decide (12 < d)))) (congrArg Value.bool (decide_eq_false hp8)) rfl) (yaa ?_)))); by_cases hp9 : 12 < d
    · replace h := h.1 hp9; exact zc hp9 (zs (zq (za (ii 2)) (yaa (yal rfl rfl ⟨_, rfl, (hS.sel [] (by decide)), h⟩))))
    · replace h := h.2 hp9; exact zd hp9 (yah (j _ _ _ ⟨h, rfl, rfl, (hS.sel [1, 0] (by decide))⟩))
end Go.Proofs.Ytncilechkclmbaa

/- Pure forms of functions, made by program (pf.py), each with the proof that the code does so. -/
namespace Go.Proofs.Ytncilechkclmbaa
open Go Go.RowKit Go.Shelf Go.Proofs.Try
set_option linter.unusedVariables false
set_option maxRecDepth 100000
set_option maxHeartbeats 1000000
def ycm (g : Int) (g2 : List E3) (d : List Int) (R : Int → Prop) : Prop :=
ydJ g g2 0 d (fun r r2 =>
R r2)
theorem yfD {O : Nat → Prop} {w : World} {g g2 d Ag lg cg Ad ld cd} {R : Int → Prop} (h : ycm g g2 d R) (hO : ∀ k, O k → k < w.heap.size) (hA0 : (FP.sl c3 Ag lg cg g2).P O w) (hA1 : (FP.sl cI Ad ld cd d).P O w) :
    Calls Try.prog 18 #[(.agg #[(ii g), (.slice Ag lg cg)]), (.slice Ad ld cd)] w fun e w' => ∃ r3, e = .returned (ii r3) ∧ Sep w no O w' (rl []) ∧ R r3 := by
  unfold ycm at h; have hS : Sep w no O w (rl [Res.ro (FP.sl c3 Ag lg cg g2), Res.ro (FP.sl cI Ad ld cd d)]) := Sep.startl hO [(FP.sl c3 Ag lg cg g2), (FP.sl cI Ad ld cd d)] ⟨hA0, hA1, trivial⟩; refine yan (l := [(.agg #[(ii g), (.slice Ag lg cg)]), (.slice Ad ld cd)]) func18 rfl ntmps18 (Nat.le_of_ble_eq_true rfl) (zs (zn (ybO (v := (.agg #[(ii g), (.slice Ag lg cg)])) rfl ?_))); intro g3 w2 hN; replace hS : Sep w no O w2 (stl _ 2 (Res.box 24 g3 [(ii g), (.slice Ag lg cg)])) := hS.new 2 rfl hN; clear hN; refine zb (zq (za (ii 0)) (yaa (zs (zq (yar (vs := [(ii g), (.slice Ag lg cg)]) rfl underlying24 rfl yap ⟨Row.cell (hS.bx 2 rfl) (i := 0) rfl, Row.cell (hS.bx 2 rfl) (i := 1) rfl, trivial⟩) (zq (zm (.slice Ad ld cd)) (zn (yam rfl (am3 rfl rfl rfl) enter_37 ((ye4 h (yaG _) (hS.rdr 0 rfl) (hS.rdr 1 rfl)).mono ?_)))))))); rintro _ w3 ⟨r, r2, rfl, hC, h⟩; replace hS := hS.pur hC.pure; clear hC; refine ⟨_, rfl, ?_⟩; exact zb (zq (zm (.tuple #[(.bool (r)), (ii r2)])) (zq (zx (.bool (r))) (zq (zx (ii r2)) (zq (za (.bool (r))) (zq (za (ii r2)) (yaa (zs (zq (zm (ii r2)) (zq (za (ii r2)) (yaa (yal rfl rfl ⟨_, rfl, (hS.sel [] (by decide)), h⟩)))))))))))
def yaW (g : Int) (g2 : List E3) (d : List Int) (R : Bool → (List Int) → (List Int) → Int → Prop) : Prop :=
ydr g g2 0 d (fun r r2 r3 =>
((r3 = 0 →
((0 ≤ (0 : Int) ∧ (0 : Int) < ((r.length : Nat) : Int)) ∧
R (decide (0 ≤ (gi r (0 : Int).toNat))) r r2 0)) ∧
(¬ (r3 = 0) →
R false ([]) ([]) r3)))
theorem yck {O : Nat → Prop} {w : World} {g g2 d Ag lg cg Ad ld cd} {R : Bool → (List Int) → (List Int) → Int → Prop} (h : yaW g g2 d R) (hO : ∀ k, O k → k < w.heap.size) (hA0 : (FP.sl c3 Ag lg cg g2).P O w) (hA1 : (FP.sl cI Ad ld cd d).P O w) :
    Calls Try.prog 25 #[(.agg #[(ii g), (.slice Ag lg cg)]), (.slice Ad ld cd)] w fun e w' => ∃ r4 r5 r6 r7 Ar3 lr3 cr3 Ar4 lr4 cr4, e = .returned (.tuple #[(.bool (r4)), (.slice Ar3 lr3 cr3), (.slice Ar4 lr4 cr4), (ii r7)]) ∧ Sep w no O w' (rl [Res.own cI 3 Ar3 lr3 cr3 r5, Res.own cI 3 Ar4 lr4 cr4 r6]) ∧ R r4 r5 r6 r7 := by
  unfold yaW at h; have hS : Sep w no O w (rl [Res.ro (FP.sl c3 Ag lg cg g2), Res.ro (FP.sl cI Ad ld cd d)]) := Sep.startl hO [(FP.sl c3 Ag lg cg g2), (FP.sl cI Ad ld cd d)] ⟨hA0, hA1, trivial⟩; refine yan (l := [(.agg #[(ii g), (.slice Ag lg cg)]), (.slice Ad ld cd)]) func25 rfl ntmps25 (Nat.le_of_ble_eq_true rfl) (zs (zn (ybO (v := (.agg #[(ii g), (.slice Ag lg cg)])) rfl ?_))); intro g3 w2 hN; replace hS : Sep w no O w2 (stl _ 2 (Res.box 24 g3 [(ii g), (.slice Ag lg cg)])) := hS.new 2 rfl hN; clear hN; refine zb (zq (za (.bool (false))) (zq (za (.slice none 0 0)) (zq (za (.slice none 0 0)) (zq (za (ii 0)) (yaa (zs (zq (yar (vs := [(ii g), (.slice Ag lg cg)]) rfl underlying24 rfl yap ⟨Row.cell (hS.bx 2 rfl) (i := 0) rfl, Row.cell (hS.bx 2 rfl) (i := 1) rfl, trivial⟩) (zq (zm (.slice Ad ld cd)) (zn (yam rfl (am3 rfl rfl rfl) enter_38 ((yd7 h (yaG _) (hS.rdr 0 rfl) (hS.rdr 1 rfl)).mono ?_))))))))))); rintro _ w3 ⟨r, r2, r3, Ar, lr, cr, Ar2, lr2, cr2, rfl, hC, h⟩; replace hS := hS.call2 (hC.widen (yea (ybh (fI .i64) _ _ _ _ _) (yea (ybh (fI .i64) _ _ _ _ _) yfn)) hS.blt) 3 0 4 1 rfl rfl (by decide) (by decide); clear hC; refine ⟨_, rfl, ?_⟩; refine zb (zq (zm (.tuple #[(.slice Ar lr cr), (.slice Ar2 lr2 cr2), (ii r3)])) (zq (zx (.slice Ar lr cr)) (zq (zx (.slice Ar2 lr2 cr2)) (zq (zx (ii r3)) (zq (za (.slice Ar lr cr)) (zq (za (.slice Ar2 lr2 cr2)) (zq (za (ii r3)) (yaa (yae (zs (zq (zm (ii r3)) (zq zN (yaa ?_))))))))))))); by_cases hp : r3 = 0
  · replace h := h.1 hp; refine ze hp (yah (zs (zq (zm (.slice Ar lr cr)) ?_))); obtain ⟨hx, h⟩ := h; refine zq (zi underlying26 yag (yaQ (hS.rdo 3 rfl) hx)) (zq (yax (v := (ii (gi r (0 : Int).toNat))) rfl underlying3 rfl (rd_1 (hS.rdo 3 rfl) hx (fun q => yaF q) rfl)) ?_); exact zq (v_geq rfl rfl) (zq (zm (.slice Ar lr cr)) (zq (zm (.slice Ar2 lr2 cr2)) (zq (za (.bool (decide (0 ≤ (gi r (0 : Int).toNat))))) (zq (za (.slice Ar lr cr)) (zq (za (.slice Ar2 lr2 cr2)) (zq (za (ii 0)) (yaa (wt_ret4 rfl rfl rfl rfl rfl ⟨_, _, _, _, _, _, _, _, _, _, rfl, (hS.sel [3, 4] (by decide)), h⟩))))))))
  · replace h := h.2 hp; refine zf hp (zs (zq (zm (ii r3)) (zq (za (.bool (false))) (zq (za (.slice none 0 0)) (zq (za (.slice none 0 0)) (zq (za (ii r3)) (yaa ?_))))))); replace hS := hS.nil 5 rfl cI 3; replace hS := hS.nil 6 rfl cI 3; exact wt_ret4 rfl rfl rfl rfl rfl ⟨_, _, _, _, _, _, _, _, _, _, rfl, (hS.sel [5, 6] (by decide)), h⟩
def ybK (g : Int) (g2 : List E3) (d : List Int) (v : Int) (R : Int → Int → Prop) : Prop :=
ydr g g2 v d (fun r r2 r3 =>
((r3 = 0 →
((0 ≤ v ∧ v < ((r.length : Nat) : Int)) ∧
(In64 (-(gi r v.toNat)) ∧
R (mxF 0 (-(gi r v.toNat))) 0))) ∧
(¬ (r3 = 0) →
R 0 r3)))
theorem yfz {O : Nat → Prop} {w : World} {g g2 d v Ag lg cg Ad ld cd} {R : Int → Int → Prop} (h : ybK g g2 d v R) (hO : ∀ k, O k → k < w.heap.size) (hA0 : (FP.sl c3 Ag lg cg g2).P O w) (hA1 : (FP.sl cI Ad ld cd d).P O w) :
    Calls Try.prog 19 #[(.agg #[(ii g), (.slice Ag lg cg)]), (.slice Ad ld cd), (ii v)] w fun e w' => ∃ r4 r5, e = .returned (.tuple #[(ii r4), (ii r5)]) ∧ Sep w no O w' (rl []) ∧ R r4 r5 := by
  unfold ybK at h; have hS : Sep w no O w (rl [Res.ro (FP.sl c3 Ag lg cg g2), Res.ro (FP.sl cI Ad ld cd d)]) := Sep.startl hO [(FP.sl c3 Ag lg cg g2), (FP.sl cI Ad ld cd d)] ⟨hA0, hA1, trivial⟩; refine yan (l := [(.agg #[(ii g), (.slice Ag lg cg)]), (.slice Ad ld cd), (ii v)]) func19 rfl ntmps19 (Nat.le_of_ble_eq_true rfl) (zs (zn (ybO (v := (.agg #[(ii g), (.slice Ag lg cg)])) rfl ?_))); intro g3 w2 hN; replace hS : Sep w no O w2 (stl _ 2 (Res.box 24 g3 [(ii g), (.slice Ag lg cg)])) := hS.new 2 rfl hN; clear hN; refine zb (zq (za (ii 0)) (zq (za (ii 0)) (yaa (zs (zq (yar (vs := [(ii g), (.slice Ag lg cg)]) rfl underlying24 rfl yap ⟨Row.cell (hS.bx 2 rfl) (i := 0) rfl, Row.cell (hS.bx 2 rfl) (i := 1) rfl, trivial⟩) (zq (zm (ii v)) (zq (zm (.slice Ad ld cd)) (zn (yam rfl (am3 rfl rfl rfl) enter_38 ((yd7 h (yaG _) (hS.rdr 0 rfl) (hS.rdr 1 rfl)).mono ?_)))))))))); rintro _ w3 ⟨r, r2, r3, Ar, lr, cr, Ar2, lr2, cr2, rfl, hC, h⟩; replace hS := hS.call2 (hC.widen (yea (ybh (fI .i64) _ _ _ _ _) (yea (ybh (fI .i64) _ _ _ _ _) yfn)) hS.blt) 3 0 4 1 rfl rfl (by decide) (by decide); clear hC; refine ⟨_, rfl, ?_⟩; refine zb (zq (zm (.tuple #[(.slice Ar lr cr), (.slice Ar2 lr2 cr2), (ii r3)])) (zq (zx (.slice Ar lr cr)) (zq (zx (.slice Ar2 lr2 cr2)) (zq (zx (ii r3)) (zq (za (.slice Ar lr cr)) (zq (za (.slice Ar2 lr2 cr2)) (zq (za (ii r3)) (yaa (yae (zs (zq (zm (ii r3)) (zq zN (yaa ?_))))))))))))); by_cases hp : r3 = 0
  · replace h := h.1 hp; refine ze hp (yah (zs (zq (zm (.slice Ar lr cr)) (zq (zm (ii v)) ?_)))); obtain ⟨hx, h⟩ := h; refine zq (zi underlying26 yag (yaQ (hS.rdo 3 rfl) hx)) (zq (yax (v := (ii (gi r v.toNat))) rfl underlying3 rfl (rd_1 (hS.rdo 3 rfl) hx (fun q => yaF q) rfl)) ?_); obtain ⟨hi, h⟩ := h; exact zq (v_neg rfl hi) (zq (yhI rfl rfl) (zq (za (ii (mxF 0 (-(gi r v.toNat))))) (zq (za (ii 0)) (yaa (yaK rfl rfl rfl ⟨_, _, rfl, (hS.sel [] (by decide)), h⟩)))))
  · replace h := h.2 hp; exact zf hp (zs (zq (zm (ii r3)) (zq (za (ii 0)) (zq (za (ii r3)) (yaa (yaK rfl rfl rfl ⟨_, _, rfl, (hS.sel [] (by decide)), h⟩))))))
def ybL (g : Int) (g2 : List E3) (d : List Int) (v : Int) (R : Int → Int → Prop) : Prop :=
ycm g g2 d (fun r =>
((r = 0 →
(∃ J2 : Prop, (J2 → ybK g g2 d v (fun r2 r3 =>
R r2 r3)) ∧
((v < 0 →
R 0 2) ∧
(¬ (v < 0) →
((g ≤ v →
R 0 2) ∧
(¬ (g ≤ v) →
J2)))))) ∧
(¬ (r = 0) →
R 0 r)))
theorem yfB {O : Nat → Prop} {w : World} {g g2 d v Ag lg cg Ad ld cd} {R : Int → Int → Prop} (h : ybL g g2 d v R) (hO : ∀ k, O k → k < w.heap.size) (hA0 : (FP.sl c3 Ag lg cg g2).P O w) (hA1 : (FP.sl cI Ad ld cd d).P O w) :
    Calls Try.prog 8 #[(.agg #[(ii g), (.slice Ag lg cg)]), (.slice Ad ld cd), (ii v)] w fun e w' => ∃ r4 r5, e = .returned (.tuple #[(ii r4), (ii r5)]) ∧ Sep w no O w' (rl []) ∧ R r4 r5 := by
  unfold ybL at h; have hS : Sep w no O w (rl [Res.ro (FP.sl c3 Ag lg cg g2), Res.ro (FP.sl cI Ad ld cd d)]) := Sep.startl hO [(FP.sl c3 Ag lg cg g2), (FP.sl cI Ad ld cd d)] ⟨hA0, hA1, trivial⟩; refine yan (l := [(.agg #[(ii g), (.slice Ag lg cg)]), (.slice Ad ld cd), (ii v)]) func8 rfl ntmps8 (Nat.le_of_ble_eq_true rfl) (zs (zn (ybO (v := (.agg #[(ii g), (.slice Ag lg cg)])) rfl ?_))); intro g3 w2 hN; replace hS : Sep w no O w2 (stl _ 2 (Res.box 24 g3 [(ii g), (.slice Ag lg cg)])) := hS.new 2 rfl hN; clear hN; refine zb (zq (za (ii 0)) (zq (za (ii 0)) (yaa (yae (zs (zq (yar (vs := [(ii g), (.slice Ag lg cg)]) rfl underlying24 rfl yap ⟨Row.cell (hS.bx 2 rfl) (i := 0) rfl, Row.cell (hS.bx 2 rfl) (i := 1) rfl, trivial⟩) (zq (zm (.slice Ad ld cd)) (zn (yam rfl (am2 rfl rfl) enter_18 ((yfD h (yaG _) (hS.rdr 0 rfl) (hS.rdr 1 rfl)).mono ?_)))))))))); rintro _ w3 ⟨r, rfl, hC, h⟩; replace hS := hS.pur hC.pure; clear hC; refine ⟨_, rfl, ?_⟩; refine zb (zq (za (ii r)) (yaa (zs (zq (zm (ii r)) (zq zN (yaa ?_)))))); by_cases hp : r = 0
  · replace h := h.1 hp; refine ze hp (yah (yae (yae ?_))); obtain ⟨J2, hJ, h⟩ := h; refine ycS (fun E ds w' => J2 ∧ ds = [] ∧ E 1 = (Value.slice Ad ld cd) ∧ E 2 = (ii v) ∧ E 3 = (Value.pointer (some (⟨g3, 0, none⟩ : Addr))) ∧ Sep w no O w' (rl [Res.ro (FP.sl cI Ad ld cd d), Res.box 24 g3 [(ii g), (.slice Ag lg cg)], Res.ro (FP.sl c3 Ag lg cg g2)])) ?_ ?_
    · clear h hS; rintro E ds w4 ⟨h, rfl, hE1, hE2, hE3, hS⟩; replace h := hJ h; refine zs (zq (yar (vs := [(ii g), (.slice Ag lg cg)]) hE3 underlying24 rfl yap ⟨Row.cell (hS.bx 1 rfl) (i := 0) rfl, Row.cell (hS.bx 1 rfl) (i := 1) rfl, trivial⟩) (zq (yad hE1) (zq (yad hE2) (zn (yam rfl (am3 rfl rfl rfl) enter_19 ((yfz h (yaG _) (hS.rdr 2 rfl) (hS.rdr 0 rfl)).mono ?_)))))); rintro _ w5 ⟨r2, r3, rfl, hC, h⟩; replace hS := hS.pur hC.pure; clear hC; refine ⟨_, rfl, ?_⟩; exact zb (zq (zx (ii r2)) (zq (zx (ii r3)) (zq (za (ii r2)) (zq (za (ii r3)) (yaa (yaK rfl rfl rfl ⟨_, _, rfl, (hS.sel [] (by decide)), h⟩))))))
    clear hJ; intro j; refine zr (zq (zm (ii v)) (zq zL (zq (zm (.bool (decide (v < 0)))) ?_))); by_cases hp2 : v < 0
    · replace h := h.1 hp2; exact rl_p (yab rfl (yaf rfl (congrArg Value.bool (decide_eq_true hp2))) rfl) rfl (rl_p (yab rfl (yaf rfl (congrArg Value.bool (decide_eq_true hp2))) rfl) rfl (rl_p (yab rfl (yaf rfl (congrArg Value.bool (decide_eq_true hp2))) rfl) rfl (rl_p (yab rfl (yaf rfl (congrArg Value.bool (decide_eq_true hp2))) rfl) rfl (zq (yat (v := (.bool (true))) (congrArg Value.bool (decide_eq_true hp2)) rfl) (yaa (yaq rfl (zs (zq (za (ii 0)) (zq (za (ii 2)) (yaa (yaK rfl rfl rfl ⟨_, _, rfl, (hS.sel [] (by decide)), h⟩)))))))))))
    · replace h := h.2 hp2; refine rl_q (yac rfl (yaf rfl (congrArg Value.bool (decide_eq_false hp2)))) rfl rfl (zm (ii v)) (rl_q (yac rfl (yaf rfl (congrArg Value.bool (decide_eq_false hp2)))) rfl rfl (yai rfl underlying24 rfl yag) (rl_q (yac rfl (yaf rfl (congrArg Value.bool (decide_eq_false hp2)))) rfl rfl (zl underlying3 (Row.cell (hS.bx 2 rfl) (i := 0) rfl)) (rl_q (yac rfl (yaf rfl (congrArg Value.bool (decide_eq_false hp2)))) rfl rfl (v_geq rfl rfl) (zq (yav (v := (.bool (decide (g ≤ v)))) (congrArg Value.bool (decide_eq_false hp2)) rfl) (yaa ?_))))); by_cases hp3 : g ≤ v
      · replace h := h.1 hp3; exact zc hp3 (zs (zq (za (ii 0)) (zq (za (ii 2)) (yaa (yaK rfl rfl rfl ⟨_, _, rfl, (hS.sel [] (by decide)), h⟩)))))
      · replace h := h.2 hp3; exact zd hp3 (yah (j _ _ _ ⟨h, rfl, rfl, rfl, rfl, (hS.sel [1, 2, 0] (by decide))⟩))
  · replace h := h.2 hp; exact zf hp (zs (zq (zm (ii r)) (zq (za (ii 0)) (zq (za (ii r)) (yaa (yaK rfl rfl rfl ⟨_, _, rfl, (hS.sel [] (by decide)), h⟩))))))
end Go.Proofs.Ytncilechkclmbaa

/- Pure forms of functions, made by program (pf.py), each with the proof that the code does so. -/
namespace Go.Proofs.Ytncilechkclmbaa
open Go Go.RowKit Go.Shelf Go.Proofs.Try
set_option linter.unusedVariables false
set_option maxRecDepth 100000
set_option maxHeartbeats 1000000
def ydu (l : List (List Int)) (R : Int → Prop) : Prop :=
(∃ I2 : Nat → Int → Prop, (∃ m0, I2 m0 0) ∧ ∀ m2 v, I2 m2 v → 
((v < ((l.length : Nat) : Int) →
((0 ≤ v ∧ v < ((l.length : Nat) : Int)) ∧
ybQ (gx l v.toNat) (((gx l v.toNat).length : Nat) : Int) (fun r =>
((r = 0 →
(In64 (v + 1) ∧
∃ m3, m3 < m2 ∧ I2 m3 (v + 1))) ∧
(¬ (r = 0) →
R r))))) ∧
(¬ (v < ((l.length : Nat) : Int)) →
(∃ I3 : Nat → Int → Prop, (∃ m0, I3 m0 0) ∧ ∀ m4 v2, I3 m4 v2 → 
((v2 < ((l.length : Nat) : Int) →
((0 ≤ v2 ∧ v2 < ((l.length : Nat) : Int)) ∧
((0 ≤ (0 : Int) ∧ (0 : Int) < ((l.length : Nat) : Int)) ∧
(((((gx l v2.toNat).length : Nat) : Int) = (((gx l (0 : Int).toNat).length : Nat) : Int) →
(In64 (v2 + 1) ∧
∃ m5, m5 < m4 ∧ I3 m5 (v2 + 1))) ∧
(¬ ((((gx l v2.toNat).length : Nat) : Int) = (((gx l (0 : Int).toNat).length : Nat) : Int)) →
R 8))))) ∧
(¬ (v2 < ((l.length : Nat) : Int)) →
R 0))))))
theorem pok_chips_own {O : Nat → Prop} {w : World} {l Al ll cl} {R : Int → Prop} (h : ydu l R) (hO : ∀ k, O k → k < w.heap.size) (hA0 : (FP.sl (cL cI) Al ll cl l).P O w) :
    Calls Try.prog 75 #[(.slice Al ll cl)] w fun e w' => ∃ r2, e = .returned (ii r2) ∧ Sep w no O w' (rl []) ∧ R r2 := by
  unfold ydu at h; have hS : Sep w no O w (rl [Res.ro (FP.sl (cL cI) Al ll cl l)]) := Sep.startl hO [(FP.sl (cL cI) Al ll cl l)] ⟨hA0, trivial⟩; refine yan (l := [(.slice Al ll cl)]) func75 rfl ntmps75 (Nat.le_of_ble_eq_true rfl) (zs (zq (za (ii 0)) (yaa (yae (zs (zq (zm (.slice Al ll cl)) (zq (yaV (n := l.length) rfl underlying90 (yaR (hS.rdr 0 rfl))) (zq (zm (ii 0)) (yaa (yak ?_)))))))))); obtain ⟨I2, ⟨m0, h0⟩, hr⟩ := h; refine yaC (fun m E ds w' => ∃ v, I2 m v ∧ ds = [] ∧ E 0 = (Value.slice Al ll cl) ∧ E 8 = (Value.slice Al ll cl) ∧ E 9 = (ii ((l.length : Nat) : Int)) ∧ E 10 = (ii v) ∧ Sep w no O w' (rl [Res.ro (FP.sl (cL cI) Al ll cl l)])) m0 ⟨_, h0, rfl, rfl, rfl, rfl, rfl, (hS.sel [0] (by decide))⟩ ?_; clear h0 hS; rintro m2 E ds w2 ⟨v, h, rfl, hE0, hE8, hE9, hE10, hS⟩ again; replace h := hr m2 v h; clear hr; refine zs (zq (ycR hE10 hE9) (yaa (yae ?_))); by_cases hp : v < ((l.length : Nat) : Int)
  · replace h := h.1 hp; refine zc hp (yah (yae (yak (zs ?_)))); obtain ⟨hx, h⟩ := h; refine zq (ybw hE8 hE10 underlying90 yco (yaQ (hS.rdr 0 rfl) hx)) ?_; obtain ⟨A, l2, c, hc, hq⟩ := hS.el 0 rfl hx 1 2 rfl rfl (by decide); replace hS := hq; clear hq; refine zq (yax (v := (.slice A l2 c)) rfl underlying26 rfl (hS.clr 2 rfl)) (zq (za (.slice A l2 c)) (yaa (zs (zq (zm (.slice A l2 c)) (zq (zm (.slice A l2 c)) (zq (yaV (n := (gx l v.toNat).length) rfl underlying26 (yaR (hS.rdr 1 rfl))) (zn (yam rfl (am2 rfl rfl) yfH ((ydY h (yaG _) (hS.rdr 1 rfl)).mono ?_))))))))); rintro _ w3 ⟨r, rfl, hC, h⟩; replace hS := hS.pur hC.pure; clear hC; refine ⟨_, rfl, ?_⟩; refine zb (zq (za (ii r)) (yaa (zs (zq (zm (ii r)) (zq zN (yaa ?_)))))); by_cases hp2 : r = 0
    · replace h := h.1 hp2; refine ze hp2 (yah (yaj (zr ?_))); obtain ⟨hi, h⟩ := h; refine zq (ybf hE10 rfl hi) (zq (zm (ii (v + 1))) (yaa ?_)); obtain ⟨mq, hlt, h⟩ := h; exact again mq _ _ _ ⟨_, h, rfl, hE0, hE8, hE9, rfl, (hS.sel [0] (by decide))⟩ hlt
    · replace h := h.2 hp2; exact zf hp2 (zs (zq (zm (ii r)) (zq (za (ii r)) (yaa (yal rfl rfl ⟨_, rfl, (hS.sel [] (by decide)), h⟩)))))
  · replace h := h.2 hp; refine zd hp (yay rfl (yae (zs (zq (yad hE0) (zq (yaV (n := l.length) rfl underlying90 (yaR (hS.rdr 0 rfl))) (zq (zm (ii 0)) (yaa (yak ?_)))))))); obtain ⟨I3, ⟨m0, h0⟩, hr⟩ := h; refine yaC (fun m E ds w' => ∃ v2, I3 m v2 ∧ ds = [] ∧ E 0 = (Value.slice Al ll cl) ∧ E 22 = (Value.slice Al ll cl) ∧ E 23 = (ii ((l.length : Nat) : Int)) ∧ E 24 = (ii v2) ∧ Sep w no O w' (rl [Res.ro (FP.sl (cL cI) Al ll cl l)])) m0 ⟨_, h0, rfl, hE0, rfl, rfl, rfl, (hS.sel [0] (by decide))⟩ ?_; clear h0 hS; rintro m4 E ds w4 ⟨v2, h, rfl, hE0, hE22, hE23, hE24, hS⟩ again2; replace h := hr m4 v2 h; clear hr; refine zs (zq (ycR hE24 hE23) (yaa (yae ?_))); by_cases hp3 : v2 < ((l.length : Nat) : Int)
    · replace h := h.1 hp3; refine zc hp3 (yah (yae (yak (zs ?_)))); obtain ⟨hx2, h⟩ := h; refine zq (ybw hE22 hE24 underlying90 yco (yaQ (hS.rdr 0 rfl) hx2)) ?_; obtain ⟨A2, l3, c2, hc2, hq⟩ := hS.el 0 rfl hx2 1 2 rfl rfl (by decide); replace hS := hq; clear hq; refine zq (yax (v := (.slice A2 l3 c2)) rfl underlying26 rfl (hS.clr 2 rfl)) (zq (za (.slice A2 l3 c2)) (yaa (zs (zq (zm (.slice A2 l3 c2)) (zq (yaV (n := (gx l v2.toNat).length) rfl underlying26 (yaR (hS.rdr 1 rfl))) (zq (yad hE0) ?_)))))); obtain ⟨hx3, h⟩ := h; refine zq (zi underlying90 yco (yaQ (hS.rdr 0 rfl) hx3)) ?_; obtain ⟨A3, l4, c3, hc3, hq⟩ := hS.el 0 rfl hx3 3 4 rfl rfl (by decide); replace hS := hq; clear hq; refine zq (yax (v := (.slice A3 l4 c3)) rfl underlying26 rfl (hS.clr 4 rfl)) (zq (yaV (n := (gx l (0 : Int).toNat).length) rfl underlying26 (yaR (hS.rdr 3 rfl))) (zq zN (yaa ?_))); by_cases hp4 : (((gx l v2.toNat).length : Nat) : Int) = (((gx l (0 : Int).toNat).length : Nat) : Int)
      · replace h := h.1 hp4; refine ze hp4 (yah (yaj (zr ?_))); obtain ⟨hi2, h⟩ := h; refine zq (ybf hE24 rfl hi2) (zq (zm (ii (v2 + 1))) (yaa ?_)); obtain ⟨mq, hlt, h⟩ := h; exact again2 mq _ _ _ ⟨_, h, rfl, hE0, hE22, hE23, rfl, (hS.sel [0] (by decide))⟩ hlt
      · replace h := h.2 hp4; exact zf hp4 (zs (zq (za (ii 8)) (yaa (yal rfl rfl ⟨_, rfl, (hS.sel [] (by decide)), h⟩))))
    · replace h := h.2 hp3; exact zd hp3 (yay rfl (zs (zq (za (ii 0)) (yaa (yal rfl rfl ⟨_, rfl, (hS.sel [] (by decide)), h⟩)))))
def ybT (d : List Int) (R : Int → Int → Prop) : Prop :=
ydu ([d]) (fun r =>
((r = 0 →
(∃ I2 : Nat → Int → Int → Prop, (∃ m0, I2 m0 0 0) ∧ ∀ m2 sum v, I2 m2 sum v → 
((v < ((d.length : Nat) : Int) →
((0 ≤ v ∧ v < ((d.length : Nat) : Int)) ∧
(In64 (sum + (gi d v.toNat)) ∧
(In64 (v + 1) ∧
∃ m3, m3 < m2 ∧ I2 m3 (sum + (gi d v.toNat)) (v + 1))))) ∧
(¬ (v < ((d.length : Nat) : Int)) →
R sum 0)))) ∧
(¬ (r = 0) →
R 0 r)))
theorem yeN {O : Nat → Prop} {w : World} {d Ad ld cd} {R : Int → Int → Prop} (h : ybT d R) (hO : ∀ k, O k → k < w.heap.size) (hA0 : (FP.sl cI Ad ld cd d).P O w) :
    Calls Try.prog 55 #[(.slice Ad ld cd)] w fun e w' => ∃ r2 r3, e = .returned (.tuple #[(ii r2), (ii r3)]) ∧ Sep w no O w' (rl []) ∧ R r2 r3 := by
  unfold ybT at h; have hS : Sep w no O w (rl [Res.ro (FP.sl cI Ad ld cd d)]) := Sep.startl hO [(FP.sl cI Ad ld cd d)] ⟨hA0, trivial⟩; refine yan (l := [(.slice Ad ld cd)]) func55 rfl ntmps55 (Nat.le_of_ble_eq_true rfl) (zs (zq (za (ii 0)) (zq (za (ii 0)) (yaa (yae (zs (zq (zm (.slice Ad ld cd)) (zn (ybd (l := [(0, (.slice Ad ld cd))]) (cells := [(.slice Ad ld cd)]) (bp1 rfl) underlying90 yco rfl rfl ?_))))))))); intro g w2 hN; replace hS := hS.lit (n := 1) (c := (cL cI)) 1 rfl hN ([d] : List (List Int)) rfl (by decide) ⟨[(.slice Ad ld cd)], _, rfl, (ro_R (hS.ro 0 rfl)), rfl⟩; clear hN; refine zb (zn (yam rfl (am1 rfl) enter_75 ((pok_chips_own h (yaG _) (hS.rdo 1 rfl)).mono ?_))); rintro _ w3 ⟨r, rfl, hC, h⟩; replace hS := hS.pur hC.pure; clear hC; refine ⟨_, rfl, ?_⟩; refine zb (zq (za (ii r)) (yaa (zs (zq (zm (ii r)) (zq zN (yaa ?_)))))); by_cases hp : r = 0
  · replace h := h.1 hp; refine ze hp (yah (zs (zq (za (ii 0)) (yaa (yae (zs (zq (zm (.slice Ad ld cd)) (zq (yaV (n := d.length) rfl underlying26 (yaR (hS.rdr 0 rfl))) (zq (zm (ii 0)) (yaa (yak ?_))))))))))); obtain ⟨I2, ⟨m0, h0⟩, hr⟩ := h; refine yaC (fun m E ds w' => ∃ sum v, I2 m sum v ∧ ds = [] ∧ E 5 = (ii sum) ∧ E 14 = (Value.slice Ad ld cd) ∧ E 15 = (ii ((d.length : Nat) : Int)) ∧ E 16 = (ii v) ∧ Sep w no O w' (rl [Res.ro (FP.sl cI Ad ld cd d)])) m0 ⟨_, _, h0, rfl, rfl, rfl, rfl, rfl, (hS.sel [0] (by decide))⟩ ?_; clear h0 hS; rintro m2 E ds w4 ⟨sum, v, h, rfl, hE5, hE14, hE15, hE16, hS⟩ again; replace h := hr m2 sum v h; clear hr; refine zs (zq (ycR hE16 hE15) (yaa (yae ?_))); by_cases hp2 : v < ((d.length : Nat) : Int)
    · replace h := h.1 hp2; refine zc hp2 (yah (yae (yak (zs ?_)))); obtain ⟨hx, h⟩ := h; refine zq (ybw hE14 hE16 underlying26 yag (yaQ (hS.rdr 0 rfl) hx)) (zq (yax (v := (ii (gi d v.toNat))) rfl underlying3 rfl (rd_1 (hS.rdr 0 rfl) hx (fun q => yaF q) rfl)) ?_); refine zq (za (ii (gi d v.toNat))) (yaa (zr (zq (yad hE5) (zq (zm (ii (gi d v.toNat))) ?_)))); obtain ⟨hi, h⟩ := h; refine zq (zA hi) (zq (za (ii (sum + (gi d v.toNat)))) (yaa (yaj (zr ?_)))); obtain ⟨hi2, h⟩ := h; refine zq (ybf hE16 rfl hi2) (zq (zm (ii (v + 1))) (yaa ?_)); obtain ⟨mq, hlt, h⟩ := h; exact again mq _ _ _ ⟨_, _, h, rfl, rfl, hE14, hE15, rfl, (hS.sel [0] (by decide))⟩ hlt
    · replace h := h.2 hp2; exact zd hp2 (yay rfl (zs (zq (yad hE5) (zq (za (ii sum)) (zq (za (ii 0)) (yaa (yaK rfl rfl rfl ⟨_, _, rfl, (hS.sel [] (by decide)), h⟩)))))))
  · replace h := h.2 hp; exact zf hp (zs (zq (zm (ii r)) (zq (za (ii 0)) (zq (za (ii r)) (yaa (yaK rfl rfl rfl ⟨_, _, rfl, (hS.sel [] (by decide)), h⟩))))))
def yde (g : Int) (g2 : List E3) (R : Bool → Prop) : Prop :=
ydC g g2 5 7 (fun r =>
R r)
theorem ygJ {O : Nat → Prop} {w : World} {g g2 Ag lg cg} {R : Bool → Prop} (h : yde g g2 R) (hO : ∀ k, O k → k < w.heap.size) (hA0 : (FP.sl c3 Ag lg cg g2).P O w) :
    Calls Try.prog 4 #[(.agg #[(ii g), (.slice Ag lg cg)])] w fun e w' => ∃ r2, e = .returned (.bool (r2)) ∧ Sep w no O w' (rl []) ∧ R r2 := by
  unfold yde at h; have hS : Sep w no O w (rl [Res.ro (FP.sl c3 Ag lg cg g2)]) := Sep.startl hO [(FP.sl c3 Ag lg cg g2)] ⟨hA0, trivial⟩; refine yan (l := [(.agg #[(ii g), (.slice Ag lg cg)])]) func4 rfl ntmps4 (Nat.le_of_ble_eq_true rfl) (zs (zn (ybO (v := (.agg #[(ii g), (.slice Ag lg cg)])) rfl ?_))); intro g3 w2 hN; replace hS : Sep w no O w2 (stl _ 1 (Res.box 24 g3 [(ii g), (.slice Ag lg cg)])) := hS.new 1 rfl hN; clear hN; refine zb (zq (za (.bool (false))) (yaa (zs (zq (yar (vs := [(ii g), (.slice Ag lg cg)]) rfl underlying24 rfl yap ⟨Row.cell (hS.bx 1 rfl) (i := 0) rfl, Row.cell (hS.bx 1 rfl) (i := 1) rfl, trivial⟩) (zn (yam rfl (am3 rfl rfl rfl) enter_10 ((pok_r08_small h (yaG _) (hS.rdr 0 rfl)).mono ?_))))))); rintro _ w3 ⟨r, rfl, hC, h⟩; replace hS := hS.pur hC.pure; clear hC; refine ⟨_, rfl, ?_⟩; exact zb (zq (za (.bool (r))) (yaa (yal rfl rfl ⟨_, rfl, (hS.sel [] (by decide)), h⟩)))
end Go.Proofs.Ytncilechkclmbaa

/- Pure forms of functions, made by program (pf.py), each with the proof that the code does so. -/
namespace Go.Proofs.Ytncilechkclmbaa
open Go Go.RowKit Go.Shelf Go.Proofs.Try
set_option linter.unusedVariables false
set_option maxRecDepth 100000
set_option maxHeartbeats 1000000
def ycT (g : Int) (g2 : List E3) (most : Int) (R : Int → (List E3) → Int → Prop) : Prop :=
ybN g g2 (fun r =>
((r = 0 →
(∃ I2 : Nat → Int → (List E3) → Prop, (∃ m0, I2 m0 0 ([])) ∧ ∀ m2 v out, I2 m2 v out → 
((v < ((g2.length : Nat) : Int) →
((0 ≤ v ∧ v < ((g2.length : Nat) : Int)) ∧
((((ge g2 v.toNat).1) = ((ge g2 v.toNat).2.1) →
(In64 (v + 1) ∧
∃ m3, m3 < m2 ∧ I2 m3 (v + 1) out)) ∧
(¬ (((ge g2 v.toNat).1) = ((ge g2 v.toNat).2.1)) →
(out.length + 1 ≤ 1000000000 ∧
(In64 (v + 1) ∧
∃ m4, m4 < m2 ∧ I2 m4 (v + 1) (out ++ [((ge g2 v.toNat).1, (ge g2 v.toNat).2.1, mnF ((ge g2 v.toNat).2.2) most)]))))))) ∧
(¬ (v < ((g2.length : Nat) : Int)) →
R g out 0)))) ∧
(¬ (r = 0) →
R 0 ([]) r)))
theorem ygs {O : Nat → Prop} {w : World} {g g2 most Ag lg cg} {R : Int → (List E3) → Int → Prop} (h : ycT g g2 most R) (hO : ∀ k, O k → k < w.heap.size) (hA0 : (FP.sl c3 Ag lg cg g2).P O w) :
    Calls Try.prog 71 #[(.agg #[(ii g), (.slice Ag lg cg)]), (ii most)] w fun e w' => ∃ r2 r3 r4 Ar lr cr, e = .returned (.tuple #[(.agg #[(ii r2), (.slice Ar lr cr)]), (ii r4)]) ∧ Sep w no O w' (rl [Res.own c3 51 Ar lr cr r3]) ∧ R r2 r3 r4 := by
  unfold ycT at h; have hS : Sep w no O w (rl [Res.ro (FP.sl c3 Ag lg cg g2)]) := Sep.startl hO [(FP.sl c3 Ag lg cg g2)] ⟨hA0, trivial⟩; refine yan (l := [(.agg #[(ii g), (.slice Ag lg cg)]), (ii most)]) func71 rfl ntmps71 (Nat.le_of_ble_eq_true rfl) (zs (zn (ybO (v := (.agg #[(ii g), (.slice Ag lg cg)])) rfl ?_))); intro g3 w2 hN; replace hS : Sep w no O w2 (stl _ 1 (Res.box 24 g3 [(ii g), (.slice Ag lg cg)])) := hS.new 1 rfl hN; clear hN; refine zb (zn (ya4 yap ?_)); intro g4 w3 hN; replace hS : Sep w no O w3 (stl _ 2 (Res.box 24 g4 [(ii 0), (.slice none 0 0)])) := hS.new 2 rfl hN; clear hN; refine zb (zq (za (ii 0)) (yaa (yae (zs (zq (yar (vs := [(ii g), (.slice Ag lg cg)]) rfl underlying24 rfl yap ⟨Row.cell (hS.bx 1 rfl) (i := 0) rfl, Row.cell (hS.bx 1 rfl) (i := 1) rfl, trivial⟩) (zn (yam rfl (am1 rfl) enter_72 ((ydX h (yaG _) (hS.rdr 0 rfl)).mono ?_)))))))); rintro _ w4 ⟨r, rfl, hC, h⟩; replace hS := hS.pur hC.pure; clear hC; refine ⟨_, rfl, ?_⟩; refine zb (zq (za (ii r)) (yaa (zs (zq (zm (ii r)) (zq zN (yaa ?_)))))); by_cases hp : r = 0
  · replace h := h.1 hp; refine ze hp (yah (zs (zq (yai rfl underlying24 rfl yag) (zq (zl underlying3 (Row.cell (hS.bx 1 rfl) (i := 0) rfl)) (zn (ydW (l := [(0, (ii g))]) (cells := [(ii g), (.slice none 0 0)]) (places := [(0, 1), (1, 1)]) (bp1 rfl) underlying24 yap (by kernel_rfl) rfl ?_)))))); refine zb (zn (ya4 yap ?_)); intro g5 w5 hN; replace hS : Sep w no O w5 (stl _ 3 (Res.box 24 g5 [(ii 0), (.slice none 0 0)])) := hS.new 3 rfl hN; clear hN; refine zb (zo (ybg (b := g5) (o := 0) (cells := #[(ii g), (.slice none 0 0)]) rfl rfl yap rfl rfl (yaY (hS.bx 3 rfl) (Nat.le_of_ble_eq_true rfl)) ?_)); intro w6 e1; replace hS := hS.bstn 3 rfl 0 [(ii g), (.slice none 0 0)] e1; clear e1; refine zb (yaa (yae (zs (zq (yai rfl underlying24 rfl yb0) (zq (zl underlying22 (Row.cell (hS.bx 1 rfl) (i := 1) rfl)) (zq (yaV (n := g2.length) rfl underlying22 (yaR (hS.rdr 0 rfl))) (zq (zm (ii 0)) (yaa (yak ?_))))))))); replace hS := hS.nil 4 rfl c3 51; obtain ⟨I2, ⟨m0, h0⟩, hr⟩ := h; refine yaC (fun m E ds w' => ∃ v out Aout lout cout, I2 m v out ∧ ds = [] ∧ E 1 = (ii most) ∧ E 4 = (Value.pointer (some (⟨g4, 0, none⟩ : Addr))) ∧ E 7 = (Value.pointer (some (⟨g5, 0, none⟩ : Addr))) ∧ E 20 = (Value.slice Ag lg cg) ∧ E 21 = (ii ((g2.length : Nat) : Int)) ∧ E 22 = (ii v) ∧ Sep w no O w' (rl [Res.box 24 g4 [(ii 0), (.slice none 0 0)], Res.box 24 g5 [(ii g), (.slice Aout lout cout)], Res.own c3 51 Aout lout cout out, Res.ro (FP.sl c3 Ag lg cg g2)])) m0 ⟨_, _, _, _, _, h0, rfl, rfl, rfl, rfl, rfl, rfl, rfl, (hS.sel [2, 3, 4, 0] (by decide))⟩ ?_; clear h0 hS; rintro m2 E ds w7 ⟨v, out, Aout, lout, cout, h, rfl, hE1, hE4, hE7, hE20, hE21, hE22, hS⟩ again; replace h := hr m2 v out h; clear hr; refine zs (zq (ycR hE22 hE21) (yaa (yae ?_))); by_cases hp2 : v < ((g2.length : Nat) : Int)
    · replace h := h.1 hp2; refine zc hp2 (yah (yae (yak (zs ?_)))); obtain ⟨hx, h⟩ := h; refine zq (ybw hE20 hE22 underlying22 yaE (yaQ (hS.rdr 3 rfl) hx)) (zq (yar (vs := [(ii ((ge g2 v.toNat).1)), (ii ((ge g2 v.toNat).2.1)), (ii ((ge g2 v.toNat).2.2))]) rfl underlying51 rfl yaE (rd_fs (hS.rdr 3 rfl) hx (fun q => ycN q))) ?_); refine zn (ya4 yaE ?_); intro g6 w8 hN; replace hS : Sep w no O w8 (stl _ 4 (Res.box 51 g6 [(ii 0), (ii 0), (ii 0)])) := hS.new 4 rfl hN; clear hN; refine zb (zo (ybg (b := g6) (o := 0) (cells := #[(ii ((ge g2 v.toNat).1)), (ii ((ge g2 v.toNat).2.1)), (ii ((ge g2 v.toNat).2.2))]) rfl rfl yaE rfl rfl (yaY (hS.bx 4 rfl) (Nat.le_of_ble_eq_true rfl)) ?_)); intro w9 e1; replace hS := hS.bstn 4 rfl 0 [(ii ((ge g2 v.toNat).1)), (ii ((ge g2 v.toNat).2.1)), (ii ((ge g2 v.toNat).2.2))] e1; clear e1; refine zb (yaa (zs (zq (yai rfl underlying51 rfl yag) (zq (zl underlying3 (Row.cell (hS.bx 4 rfl) (i := 0) rfl)) (zq (yai rfl underlying51 rfl yag) (zq (zl underlying3 (Row.cell (hS.bx 4 rfl) (i := 1) rfl)) (zq zN (yaa ?_)))))))); by_cases hp3 : ((ge g2 v.toNat).1) = ((ge g2 v.toNat).2.1)
      · replace h := h.1 hp3; refine ze hp3 (yah (yaj (zr ?_))); obtain ⟨hi, h⟩ := h; refine zq (ybf hE22 rfl hi) (zq (zm (ii (v + 1))) (yaa ?_)); obtain ⟨mq, hlt, h⟩ := h; exact again mq _ _ _ ⟨_, _, _, _, _, h, rfl, hE1, hE4, hE7, hE20, hE21, rfl, (hS.sel [0, 1, 2, 3] (by decide))⟩ hlt
      · replace h := h.2 hp3; refine zf hp3 (zs (zq (yai rfl underlying51 rfl yag) (zq (zl underlying3 (Row.cell (hS.bx 4 rfl) (i := 2) rfl)) (zq (yad hE1) (zq (yhi rfl rfl) (zq (yai rfl underlying51 rfl yag) (zo (zt (ii (mnF ((ge g2 v.toNat).2.2) most)) yag (hS.bwr 4 rfl (j := 2) rfl) ?_)))))))); intro w10 e1; replace hS := hS.bst 4 rfl 2 (ii (mnF ((ge g2 v.toNat).2.2) most)) e1; clear e1; refine zb (yaa (zr (zq (yai hE7 underlying24 rfl yb0) (zq (zl underlying22 (Row.cell (hS.bx 1 rfl) (i := 1) rfl)) (zq (yar (vs := [(ii ((ge g2 v.toNat).1)), (ii ((ge g2 v.toNat).2.1)), (ii (mnF ((ge g2 v.toNat).2.2) most))]) rfl underlying51 rfl yaE ⟨Row.cell (hS.bx 4 rfl) (i := 0) rfl, Row.cell (hS.bx 4 rfl) (i := 1) rfl, Row.cell (hS.bx 4 rfl) (i := 2) rfl, trivial⟩) (zn (ybd (l := [(0, (.agg #[(ii ((ge g2 v.toNat).1)), (ii ((ge g2 v.toNat).2.1)), (ii (mnF ((ge g2 v.toNat).2.2) most))]))]) (cells := [(ii ((ge g2 v.toNat).1)), (ii ((ge g2 v.toNat).2.1)), (ii (mnF ((ge g2 v.toNat).2.2) most))]) (bp1 rfl) underlying22 yaE rfl rfl ?_))))))); intro g7 w11 hN; replace hS := hS.litf (n := 1) 5 rfl (fP (fI .i64) (fP (fI .i64) (fI .i64))) hN ([((ge g2 v.toNat).1, (ge g2 v.toNat).2.1, mnF ((ge g2 v.toNat).2.2) most)] : List E3) rfl (by decide) rfl; clear hN; refine zb ?_; obtain ⟨hx2, h⟩ := h; refine zn (n_app (c := c3) rfl rfl underlying22 underlying22 yaE rfl rfl (by decide) hS 2 rfl (hS.yo 5 rfl) hx2 ?_); clear hS; intro A c w12 hS; refine zb (zq (yai hE7 underlying24 rfl yb0) (zo (zt (.slice A (lout + 1) c) yb0 (hS.bwr 1 rfl (j := 1) rfl) ?_))); intro w13 e1; replace hS := hS.bst 1 rfl 1 (.slice A (lout + 1) c) e1; clear e1; refine zb (yaa (yaj (zr ?_))); obtain ⟨hi2, h⟩ := h; refine zq (ybf hE22 rfl hi2) (zq (zm (ii (v + 1))) (yaa ?_)); obtain ⟨mq, hlt, h⟩ := h; exact again mq _ _ _ ⟨_, _, _, _, _, h, rfl, hE1, hE4, hE7, hE20, hE21, rfl, (hS.sel [0, 1, 2, 3] (by decide))⟩ hlt
    · replace h := h.2 hp2; refine zd hp2 (yay rfl (zs (zq (yar (vs := [(ii g), (.slice Aout lout cout)]) hE7 underlying24 rfl yap ⟨Row.cell (hS.bx 1 rfl) (i := 0) rfl, Row.cell (hS.bx 1 rfl) (i := 1) rfl, trivial⟩) (zo (ybg (b := g4) (o := 0) (cells := #[(ii g), (.slice Aout lout cout)]) hE4 rfl yap rfl rfl (yaY (hS.bx 0 rfl) (Nat.le_of_ble_eq_true rfl)) ?_))))); intro w14 e1; replace hS := hS.bstn 0 rfl 0 [(ii g), (.slice Aout lout cout)] e1; clear e1; exact zb (zq (za (ii 0)) (yaa (wt_retx2 rfl (rv_n (vs := [(ii g), (.slice Aout lout cout)]) hE4 underlying24 rfl yap ⟨Row.cell (hS.bx 0 rfl) (i := 0) rfl, Row.cell (hS.bx 0 rfl) (i := 1) rfl, trivial⟩) (rv_t rfl) ⟨_, _, _, _, _, _, rfl, (hS.sel [2] (by decide)), h⟩)))
  · replace h := h.2 hp; refine zf hp (zs (zn (ydW (l := []) (cells := [(ii 0), (.slice none 0 0)]) (places := [(0, 1), (1, 1)]) (bp0) underlying24 yap (by kernel_rfl) rfl ?_))); refine zb (zq (zm (ii r)) (zo (ybg (b := g4) (o := 0) (cells := #[(ii 0), (.slice none 0 0)]) rfl rfl yap rfl rfl (yaY (hS.bx 2 rfl) (Nat.le_of_ble_eq_true rfl)) ?_))); intro w15 e1; replace hS := hS.bstn 2 rfl 0 [(ii 0), (.slice none 0 0)] e1; clear e1; refine zb (zq (za (ii r)) (yaa ?_)); replace hS := hS.nil 3 rfl c3 51; exact wt_retx2 rfl (rv_n (vs := [(ii 0), (.slice none 0 0)]) rfl underlying24 rfl yap ⟨Row.cell (hS.bx 2 rfl) (i := 0) rfl, Row.cell (hS.bx 2 rfl) (i := 1) rfl, trivial⟩) (rv_t rfl) ⟨_, _, _, _, _, _, rfl, (hS.sel [3] (by decide)), h⟩
def ybX (g : Int) (g2 : List E3) (R : Int → (List E3) → Int → Prop) : Prop :=
ycT g g2 50 (fun r r2 r3 =>
R r r2 r3)
theorem yfQ {O : Nat → Prop} {w : World} {g g2 Ag lg cg} {R : Int → (List E3) → Int → Prop} (h : ybX g g2 R) (hO : ∀ k, O k → k < w.heap.size) (hA0 : (FP.sl c3 Ag lg cg g2).P O w) :
    Calls Try.prog 53 #[(.agg #[(ii g), (.slice Ag lg cg)])] w fun e w' => ∃ r4 r5 r6 Ar2 lr2 cr2, e = .returned (.tuple #[(.agg #[(ii r4), (.slice Ar2 lr2 cr2)]), (ii r6)]) ∧ Sep w no O w' (rl [Res.own c3 51 Ar2 lr2 cr2 r5]) ∧ R r4 r5 r6 := by
  unfold ybX at h; have hS : Sep w no O w (rl [Res.ro (FP.sl c3 Ag lg cg g2)]) := Sep.startl hO [(FP.sl c3 Ag lg cg g2)] ⟨hA0, trivial⟩; refine yan (l := [(.agg #[(ii g), (.slice Ag lg cg)])]) func53 rfl ntmps53 (Nat.le_of_ble_eq_true rfl) (zs (zn (ybO (v := (.agg #[(ii g), (.slice Ag lg cg)])) rfl ?_))); intro g3 w2 hN; replace hS : Sep w no O w2 (stl _ 1 (Res.box 24 g3 [(ii g), (.slice Ag lg cg)])) := hS.new 1 rfl hN; clear hN; refine zb (zn (ya4 yap ?_)); intro g4 w3 hN; replace hS : Sep w no O w3 (stl _ 2 (Res.box 24 g4 [(ii 0), (.slice none 0 0)])) := hS.new 2 rfl hN; clear hN; refine zb (zq (za (ii 0)) (yaa (zs (zq (yar (vs := [(ii g), (.slice Ag lg cg)]) rfl underlying24 rfl yap ⟨Row.cell (hS.bx 1 rfl) (i := 0) rfl, Row.cell (hS.bx 1 rfl) (i := 1) rfl, trivial⟩) (zn (yam rfl (am2 rfl rfl) enter_71 ((ygs h (yaG _) (hS.rdr 0 rfl)).mono ?_))))))); rintro _ w4 ⟨r, r2, r3, Ar, lr, cr, rfl, hC, h⟩; replace hS := hS.call1 (hC.widen (yea (ybh (fP (fI .i64) (fP (fI .i64) (fI .i64))) _ _ _ _ _) yfn) hS.blt) 3 0 rfl; clear hC; refine ⟨_, rfl, ?_⟩; refine zb (zq (zx (.agg #[(ii r), (.slice Ar lr cr)])) (zq (zx (ii r3)) (zo (ybg (b := g4) (o := 0) (cells := #[(ii r), (.slice Ar lr cr)]) rfl rfl yap rfl rfl (yaY (hS.bx 2 rfl) (Nat.le_of_ble_eq_true rfl)) ?_)))); intro w5 e1; replace hS := hS.bstn 2 rfl 0 [(ii r), (.slice Ar lr cr)] e1; clear e1; exact zb (zq (za (ii r3)) (yaa (wt_retx2 rfl (rv_n (vs := [(ii r), (.slice Ar lr cr)]) rfl underlying24 rfl yap ⟨Row.cell (hS.bx 2 rfl) (i := 0) rfl, Row.cell (hS.bx 2 rfl) (i := 1) rfl, trivial⟩) (rv_t rfl) ⟨_, _, _, _, _, _, rfl, (hS.sel [3] (by decide)), h⟩)))
def ydF (g : Int) (g2 : List E3) (R : Prop) : Prop :=
R
theorem yf1 {O : Nat → Prop} {w : World} {g g2 Ag lg cg} {R : Prop} (h : ydF g g2 R) (hO : ∀ k, O k → k < w.heap.size) (hA0 : (FP.sl c3 Ag lg cg g2).P O w) :
    Calls Try.prog 73 #[(.agg #[(ii g), (.slice Ag lg cg)])] w fun e w' => ∃ gr, e = .returned (.func (Fn.func 89) #[] #[(.pointer (some (⟨gr, 0, none⟩ : Addr)))]) ∧ Sep w no O w' (rl [Res.box 24 gr [(ii g), (.slice Ag lg cg)]]) ∧ R := by
  unfold ydF at h; have hS : Sep w no O w (rl [Res.ro (FP.sl c3 Ag lg cg g2)]) := Sep.startl hO [(FP.sl c3 Ag lg cg g2)] ⟨hA0, trivial⟩; refine yan (l := [(.agg #[(ii g), (.slice Ag lg cg)])]) func73 rfl ntmps73 (Nat.le_of_ble_eq_true rfl) (zs (zn (ybO (v := (.agg #[(ii g), (.slice Ag lg cg)])) rfl ?_))); intro g3 w2 hN; replace hS : Sep w no O w2 (stl _ 1 (Res.box 24 g3 [(ii g), (.slice Ag lg cg)])) := hS.new 1 rfl hN; clear hN; exact zb (zq (za Value.nilFunc) (yaa (zs (zq (v_func (am0) (am1 rfl)) (zq (za (.func (Fn.func 89) #[] #[(.pointer (some (⟨g3, 0, none⟩ : Addr)))])) (yaa (yal rfl rfl ⟨_, rfl, (hS.sel [1] (by decide)), h⟩)))))))
def ybC (cap : Int) (cap2 : List E3) (Pr R : List E3 → Prop) : Prop :=
(∃ I2 : Nat → (List E3) → Int → Int → Prop, (∃ m0, I2 m0 ([]) 0 0) ∧ ∀ m2 pre2 e2 v, I2 m2 pre2 e2 v → 
((v < ((cap2.length : Nat) : Int) →
((0 ≤ v ∧ v < ((cap2.length : Nat) : Int)) ∧
(∃ I3 : Nat → (List E3) → Int → Int → Prop, (∃ m0, I3 m0 pre2 e2 0) ∧ ∀ m3 pre3 e3 v2, I3 m3 pre3 e3 v2 → 
((v2 < ((ge cap2 v.toNat).2.2) →
(Pr (pre3 ++ [(e3, (ge cap2 v.toNat).1, (ge cap2 v.toNat).2.1)]) ∧
((In64 (e3 + 1) ∧
(In64 (v2 + 1) ∧
∃ m4, m4 < m3 ∧ I3 m4 (pre3 ++ [(e3, (ge cap2 v.toNat).1, (ge cap2 v.toNat).2.1)]) (e3 + 1) (v2 + 1))) ∧
True))) ∧
(¬ (v2 < ((ge cap2 v.toNat).2.2)) →
(In64 (v + 1) ∧
∃ m5, m5 < m2 ∧ I2 m5 pre3 e3 (v + 1))))))) ∧
(¬ (v < ((cap2.length : Nat) : Int)) →
R pre2)))
theorem yfA {w : World} {T0 G0 : BS} {cap cap2 gc Acap lcap ccap} {Pr R : List E3 → Prop} (h : ybC cap cap2 Pr R) (hS0 : Sep w G0 T0 w (rl [Res.box 24 gc [(Value.int .i64 cap), (Value.slice Acap lcap ccap)], Res.ro (FP.sl c3 Acap lcap ccap cap2)])) :
    GenSays Try.prog 89 #[(.pointer (some (⟨gc, 0, none⟩ : Addr)))] (fun (x : E3) => #[(ii x.1), (.agg #[(ii x.2.1), (ii x.2.2)])]) (fun _ => FP.tt) Pr R T0 G0 w := by
  unfold ybC at h; intro l J Jx T1 w1 hs hJ hp hT; obtain ⟨G, hJ, hS⟩ := gen_start hS0 hs hJ hp hT; clear hS0 hp hT; refine callsIn_gen (l := [(.func (.yield l) #[] #[]), (.pointer (some (⟨gc, 0, none⟩ : Addr)))]) func89 rfl ntmps89 (Nat.le_of_ble_eq_true rfl) rfl (zs (zq (za (ii 0)) (yaa (zs (zq (yai rfl underlying24 rfl yb0) (zq (zl underlying22 (Row.cell (hS.bx 0 rfl) (i := 1) rfl)) (zq (yaV (n := cap2.length) rfl underlying22 (yaR (hS.rdr 1 rfl))) (zq (zm (ii 0)) (yaa (yak ?_)))))))))); obtain ⟨I2, ⟨m0, h0⟩, hr⟩ := h; refine yaC (fun m E ds w' => ∃ pre2 e2 v, ∃ T2 : BS, ∃ G2 : BS, ∃ wb2 : World, I2 m pre2 e2 v ∧ ds = [] ∧ E 0 = (Value.func (.yield l) #[] #[]) ∧ E 3 = (ii e2) ∧ E 7 = (Value.slice Acap lcap ccap) ∧ E 8 = (ii ((cap2.length : Nat) : Int)) ∧ E 9 = (ii v) ∧ J T2 G2 pre2 wb2 ∧ Sep wb2 G2 T2 w' (rl [Res.ro (FP.sl c3 Acap lcap ccap cap2)])) m0 ⟨_, _, _, _, _, _, h0, rfl, rfl, rfl, rfl, rfl, rfl, hJ, (hS.sel [1] (by decide))⟩ ?_; clear h0 hS hJ; rintro m2 E ds w2 ⟨pre2, e2, v, T2, G2, wb2, h, rfl, hE0, hE3, hE7, hE8, hE9, hJ, hS⟩ again; replace h := hr m2 pre2 e2 v h; clear hr; refine zs (zq (ycR hE9 hE8) (yaa (yae ?_))); by_cases hp : v < ((cap2.length : Nat) : Int)
  · replace h := h.1 hp; refine zc hp (yah (yae (yak (zs ?_)))); obtain ⟨hx, h⟩ := h; refine zq (ybw hE7 hE9 underlying22 yaE (yaQ (hS.rdr 0 rfl) hx)) (zq (yar (vs := [(ii ((ge cap2 v.toNat).1)), (ii ((ge cap2 v.toNat).2.1)), (ii ((ge cap2 v.toNat).2.2))]) rfl underlying51 rfl yaE (rd_fs (hS.rdr 0 rfl) hx (fun q => ycN q))) ?_); refine zn (ya4 yaE ?_); intro g w3 hN; replace hS : Sep wb2 G2 T2 w3 (stl _ 1 (Res.box 51 g [(ii 0), (ii 0), (ii 0)])) := hS.new 1 rfl hN; clear hN; refine zb (zo (ybg (b := g) (o := 0) (cells := #[(ii ((ge cap2 v.toNat).1)), (ii ((ge cap2 v.toNat).2.1)), (ii ((ge cap2 v.toNat).2.2))]) rfl rfl yaE rfl rfl (yaY (hS.bx 1 rfl) (Nat.le_of_ble_eq_true rfl)) ?_)); intro w4 e1; replace hS := hS.bstn 1 rfl 0 [(ii ((ge cap2 v.toNat).1)), (ii ((ge cap2 v.toNat).2.1)), (ii ((ge cap2 v.toNat).2.2))] e1; clear e1; refine zb (yaa (zs (zq (yai rfl underlying51 rfl yag) (zq (zl underlying3 (Row.cell (hS.bx 1 rfl) (i := 2) rfl)) (zq (zm (ii 0)) (yaa (yak ?_))))))); obtain ⟨I3, ⟨m0, h0⟩, hr⟩ := h; refine yaC (fun m E ds w' => ∃ pre3 e3 v2, ∃ T3 : BS, ∃ G3 : BS, ∃ wb3 : World, I3 m pre3 e3 v2 ∧ ds = [] ∧ E 0 = (Value.func (.yield l) #[] #[]) ∧ E 3 = (ii e3) ∧ E 5 = (Value.pointer (some (⟨g, 0, none⟩ : Addr))) ∧ E 7 = (Value.slice Acap lcap ccap) ∧ E 8 = (ii ((cap2.length : Nat) : Int)) ∧ E 9 = (ii v) ∧ E 14 = (ii ((ge cap2 v.toNat).2.2)) ∧ E 15 = (ii v2) ∧ J T3 G3 pre3 wb3 ∧ Sep wb3 G3 T3 w' (rl [Res.box 51 g [(ii ((ge cap2 v.toNat).1)), (ii ((ge cap2 v.toNat).2.1)), (ii ((ge cap2 v.toNat).2.2))], Res.ro (FP.sl c3 Acap lcap ccap cap2)])) m0 ⟨_, _, _, _, _, _, h0, rfl, hE0, hE3, rfl, hE7, hE8, hE9, rfl, rfl, hJ, (hS.sel [1, 0] (by decide))⟩ ?_; clear h0 hS hJ; rintro m3 E ds w5 ⟨pre3, e3, v2, T3, G3, wb3, h, rfl, hE0, hE3, hE5, hE7, hE8, hE9, hE14, hE15, hJ, hS⟩ again2; replace h := hr m3 pre3 e3 v2 h; clear hr; refine zs (zq (ycR hE15 hE14) (yaa (yae ?_))); by_cases hp2 : v2 < ((ge cap2 v.toNat).2.2)
    · replace h := h.1 hp2; refine zc hp2 (yah (yae (yak (yae (zs (zq (yad hE0) (zq (yad hE3) (zq (yai hE5 underlying51 rfl yag) (zq (zl underlying3 (Row.cell (hS.bx 0 rfl) (i := 0) rfl)) (zq (yai hE5 underlying51 rfl yag) (zq (zl underlying3 (Row.cell (hS.bx 0 rfl) (i := 1) rfl)) (zn (ydW (l := [(0, (ii ((ge cap2 v.toNat).1))), (1, (ii ((ge cap2 v.toNat).2.1)))]) (cells := [(ii ((ge cap2 v.toNat).1)), (ii ((ge cap2 v.toNat).2.1))]) (places := [(0, 1), (1, 1)]) (bp2 rfl rfl) underlying123 ycE (by kernel_rfl) rfl ?_))))))))))))); refine zb ?_; obtain ⟨hPr, hyes, hno⟩ := h; refine zn (n_yield (m := 1) rfl (am2 rfl rfl) (gen_yield (x := (e3, (ge cap2 v.toNat).1, (ge cap2 v.toNat).2.1)) hs hJ hS hPr trivial ?_ ?_))
      · clear hno hJ hS; have h := hyes; clear hyes; intro T4 w6 hJ hS; generalize OwnB _ = G4 at hJ hS; refine ⟨_, rfl, ?_⟩; refine zb (zq (ydm rfl) (yaa (yaA (congrArg Value.bool (congrArg Bool.not rfl)) (yah (zr (zq (yad hE3) ?_)))))); obtain ⟨hi, h⟩ := h; refine zq (zA hi) (zq (za (ii (e3 + 1))) (yaa (yaj (zr ?_)))); obtain ⟨hi2, h⟩ := h; refine zq (ybf hE15 rfl hi2) (zq (zm (ii (v2 + 1))) (yaa ?_)); obtain ⟨mq, hlt, h⟩ := h; exact again2 mq _ _ _ ⟨_, _, _, _, _, _, h, rfl, hE0, rfl, hE5, hE7, hE8, hE9, hE14, rfl, hJ, (hS.sel [0, 1] (by decide))⟩ hlt
      · clear hyes hJ hS; have h := hno; clear hno; intro T5 w7 hJ hS; generalize OwnB _ = G5 at hJ hS; refine ⟨_, rfl, ?_⟩; exact zb (zq (ydm rfl) (yaa (yaq (congrArg Value.bool (congrArg Bool.not rfl)) (wt_ret0 rfl ⟨⟨_, rfl⟩, gen_endx hs hJ hS⟩))))
    · replace h := h.2 hp2; refine zd hp2 (yay rfl (yaj (zr ?_))); obtain ⟨hi3, h⟩ := h; refine zq (ybf hE9 rfl hi3) (zq (zm (ii (v + 1))) (yaa ?_)); obtain ⟨mq, hlt, h⟩ := h; exact again mq _ _ _ ⟨_, _, _, _, _, _, h, rfl, hE0, hE3, hE7, hE8, rfl, hJ, (hS.sel [1] (by decide))⟩ hlt
  · replace h := h.2 hp; exact zd hp (yay rfl (yhc rfl ⟨⟨_, rfl⟩, gen_end hs hJ hS h⟩))
def yba (f : List Int) (v : Int) (R : Int → Prop) : Prop :=
(∃ I2 : Nat → Int → Prop, (∃ m0, I2 m0 v) ∧ ∀ m2 v2, I2 m2 v2 → 
((0 ≤ v2 ∧ v2 < 12) ∧
(((gi f v2.toNat) = v2 →
R v2) ∧
(¬ ((gi f v2.toNat) = v2) →
∃ m3, m3 < m2 ∧ I2 m3 (gi f v2.toNat)))))
theorem ydx {S O : Nat → Prop} {w : World} {f v gc} {R : Int → Prop} (h : yba f v R) (hS : Sep w S O w (rl [Res.own cI 118 (some ⟨gc, 0, none⟩) 12 12 f])) :
    Calls Try.prog 74 #[(.pointer (some (⟨gc, 0, none⟩ : Addr))), (ii v)] w fun e w' => ∃ r, e = .returned (ii r) ∧ Sep w S O w' (rl [Res.own cI 118 (some ⟨gc, 0, none⟩) 12 12 f]) ∧ R r := by
  unfold yba at h; refine yan (l := [(.pointer (some (⟨gc, 0, none⟩ : Addr))), (ii v)]) func74 rfl ntmps74 (Nat.le_of_ble_eq_true rfl) (zs (zq (za (ii 0)) (yaa (yae (yak ?_))))); obtain ⟨I2, ⟨m0, h0⟩, hr⟩ := h; refine yaC (fun m E ds w' => ∃ v2, I2 m v2 ∧ ds = [] ∧ E 0 = (Value.pointer (some (⟨gc, 0, none⟩ : Addr))) ∧ E 1 = (ii v2) ∧ Sep w S O w' (rl [Res.own cI 118 (some ⟨gc, 0, none⟩) 12 12 f])) m0 ⟨_, h0, rfl, rfl, rfl, (hS.sel [0] (by decide))⟩ ?_; clear h0 hS; rintro m2 E ds w2 ⟨v2, h, rfl, hE0, hE1, hS⟩ again; replace h := hr m2 v2 h; clear hr; refine yae (zs (zq (yad (v := (.pointer (some (⟨gc, 0, none⟩ : Addr)))) hE0) (zq (yad hE1) (zq (ybm rfl) ?_)))); obtain ⟨hx, h⟩ := h; have hy := arr_ix (hS.rdo 0 rfl) hx; refine zq (yg1 rfl rfl underlying118 yag hx) (zq (yax (v := (ii (gi f v2.toNat))) rfl underlying3 rfl (rd_1 (hS.rdo 0 rfl) hy (fun q => yaF q) rfl)) ?_); refine zq (yad hE1) (zq zN (yaa ?_)); by_cases hp : (gi f v2.toNat) = v2
  · replace h := h.1 hp; exact ze hp (yay rfl (zs (zq (yad hE1) (zq (za (ii v2)) (yaa (yal rfl rfl ⟨_, rfl, (hS.sel [0] (by decide)), h⟩))))))
  · replace h := h.2 hp; refine zf hp (yah (yak (zr (zq (yad (v := (.pointer (some (⟨gc, 0, none⟩ : Addr)))) hE0) (zq (yad hE1) (zq (ybm rfl) ?_)))))); have hy2 := arr_ix (hS.rdo 0 rfl) hx; refine zq (yg1 rfl rfl underlying118 yag hx) (zq (yax (v := (ii (gi f v2.toNat))) rfl underlying3 rfl (rd_1 (hS.rdo 0 rfl) hy2 (fun q => yaF q) rfl)) ?_); refine zq (za (ii (gi f v2.toNat))) (yaa (yaj ?_)); obtain ⟨mq, hlt, h⟩ := h; exact again mq _ _ _ ⟨_, h, rfl, hE0, rfl, (hS.sel [0] (by decide))⟩ hlt
def ycP (g : Int) (g2 : List E3) (R : Int → Int → Prop) : Prop :=
ybN g g2 (fun r =>
((r = 0 →
(∃ I2 : Nat → Int → (List Int) → Prop, (∃ m0, I2 m0 0 (List.replicate 12 (0 : Int))) ∧ ∀ m2 v f, I2 m2 v f → 
((v < 12 →
((0 ≤ v ∧ v < 12) ∧
(In64 (v + 1) ∧
∃ m3, m3 < m2 ∧ I2 m3 (v + 1) (f.set v.toNat v)))) ∧
(¬ (v < 12) →
ydF g g2 ((∃ Pr Rr : List E3 → Prop, ybC g g2 Pr Rr ∧
(∃ I3 : List E3 → (List Int) → Int → Prop, I3 [] f 0 ∧
(∀ pre y y2 y3 f2 genus, I3 pre f2 genus → Pr (pre ++ [(y, y2, y3)]) →
yba f2 y2 (fun r2 =>
yba f2 y3 (fun r3 =>
(∃ J2 : Int → Prop, (∀ (genus2 : Int), J2 genus2 → ((0 ≤ (mxF r2 r3) ∧ (mxF r2 r3) < 12) ∧
I3 (pre ++ [(y, y2, y3)]) (f2.set (mxF r2 r3).toNat (mnF r2 r3)) genus2)) ∧
((r2 = r3 →
(In64 (genus + 1) ∧
J2 (genus + 1))) ∧
(¬ (r2 = r3) →
J2 genus)))))) ∧
(∀ ys f2 genus, I3 ys f2 genus → Rr ys →
R genus 0)))))))) ∧
(¬ (r = 0) →
R 0 r)))
theorem yhj {O : Nat → Prop} {w : World} {g g2 Ag lg cg} {R : Int → Int → Prop} (h : ycP g g2 R) (hO : ∀ k, O k → k < w.heap.size) (hA0 : (FP.sl c3 Ag lg cg g2).P O w) :
    Calls Try.prog 54 #[(.agg #[(ii g), (.slice Ag lg cg)])] w fun e w' => ∃ r4 r5, e = .returned (.tuple #[(ii r4), (ii r5)]) ∧ Sep w no O w' (rl []) ∧ R r4 r5 := by
  unfold ycP at h; have hS : Sep w no O w (rl [Res.ro (FP.sl c3 Ag lg cg g2)]) := Sep.startl hO [(FP.sl c3 Ag lg cg g2)] ⟨hA0, trivial⟩; refine yhg (l := [(.agg #[(ii g), (.slice Ag lg cg)])]) func54 rfl ntmps54 (Nat.le_of_ble_eq_true rfl) (zs (zn (ybO (v := (.agg #[(ii g), (.slice Ag lg cg)])) rfl ?_))); intro g3 w2 hN; replace hS : Sep w no O w2 (stl _ 1 (Res.box 24 g3 [(ii g), (.slice Ag lg cg)])) := hS.new 1 rfl hN; clear hN; refine zb (zq (za (ii 0)) (zq (za (ii 0)) (yaa (yae (zs (zq (yar (vs := [(ii g), (.slice Ag lg cg)]) rfl underlying24 rfl yap ⟨Row.cell (hS.bx 1 rfl) (i := 0) rfl, Row.cell (hS.bx 1 rfl) (i := 1) rfl, trivial⟩) (zn (yam rfl (am1 rfl) enter_72 ((ydX h (yaG _) (hS.rdr 0 rfl)).mono ?_))))))))); rintro _ w3 ⟨r, rfl, hC, h⟩; replace hS := hS.pur hC.pure; clear hC; refine ⟨_, rfl, ?_⟩; refine zb (zq (za (ii r)) (yaa (zs (zq (zm (ii r)) (zq zN (yaa ?_)))))); by_cases hp : r = 0
  · replace h := h.1 hp; refine ze hp (yah (zs (zn (ya4 info_118 ?_)))); intro g4 w4 hN; replace hS := hS.made (n := 12) 2 rfl cI (ii 0) (0 : Int) (fun _ _ => rfl) (hN : New _ _ _ (Array.replicate 12 (ii 0)) 118) (by decide); clear hN; refine zb (yaa (yae (zs (zq (zm (ii 0)) (yaa (yak ?_)))))); obtain ⟨I2, ⟨m0, h0⟩, hr⟩ := h; refine yaC (fun m E ds w' => ∃ v f, I2 m v f ∧ ds = [] ∧ E 1 = (Value.pointer (some (⟨g3, 0, none⟩ : Addr))) ∧ E 5 = (Value.pointer (some (⟨g4, 0, none⟩ : Addr))) ∧ E 17 = (ii v) ∧ Sep w no O w' (rl [Res.box 24 g3 [(ii g), (.slice Ag lg cg)], Res.ro (FP.sl c3 Ag lg cg g2), Res.own cI 118 (some ⟨g4, 0, none⟩) 12 12 f])) m0 ⟨_, _, h0, rfl, rfl, rfl, rfl, (hS.sel [1, 0, 2] (by decide))⟩ ?_; clear h0 hS; rintro m2 E ds w5 ⟨v, f, h, rfl, hE1, hE5, hE17, hS⟩ again; replace h := hr m2 v f h; clear hr; refine zs (zq (ycR hE17 rfl) (yaa (yae ?_))); by_cases hp2 : v < 12
    · replace h := h.1 hp2; refine zc hp2 (yah (yae (yak (zs (zq (yad hE17) (zq (za (ii v)) (yaa (zr (zq (zm (ii v)) (zq (zm (ii v)) ?_)))))))))); obtain ⟨hx, h⟩ := h; have hy := arr_ix (hS.rdo 2 rfl) hx; refine zq (yg1 hE5 rfl underlying118 yag hx) (zo (zt (ii v) yag (hS.wr 2 rfl rfl hy) ?_)); intro w6 e1; replace hS := hS.st 2 rfl rfl hy (x := v) rfl e1; clear e1; refine zb (yaa (yaj (zr ?_))); obtain ⟨hi, h⟩ := h; refine zq (ybf hE17 rfl hi) (zq (zm (ii (v + 1))) (yaa ?_)); obtain ⟨mq, hlt, h⟩ := h; exact again mq _ _ _ ⟨_, _, h, rfl, hE1, hE5, rfl, (hS.sel [0, 1, 2] (by decide))⟩ hlt
    · replace h := h.2 hp2; refine zd hp2 (yay rfl (zs (zn (ya4 yag ?_)))); intro g5 w7 hN; replace hS : Sep w no O w7 (stl _ 3 (Res.box 3 g5 [(ii 0)])) := hS.new 3 rfl hN; clear hN; refine zb (zo (zt (ii 0) yag (hS.bwr 3 rfl (j := 0) rfl) ?_)); intro w8 e1; replace hS := hS.bst 3 rfl 0 (ii 0) e1; clear e1; refine zb (yaa (yae (zs (zq (yar (vs := [(ii g), (.slice Ag lg cg)]) hE1 underlying24 rfl yap ⟨Row.cell (hS.bx 0 rfl) (i := 0) rfl, Row.cell (hS.bx 0 rfl) (i := 1) rfl, trivial⟩) (zn (yam rfl (am1 rfl) enter_73 ((yf1 h hS.blt (hS.ro 1 rfl)).mono ?_))))))); rintro _ w9 ⟨gc, rfl, hC, h⟩; replace hS := hS.call1 hC 4 0 rfl; clear hC; refine ⟨_, rfl, ?_⟩; refine zb (yaa (yak ?_)); obtain ⟨Pr, Rr, hgp, I3, h0, hb, h⟩ := h; refine wt_iterS hS [2, 3] [4, 1] (by decide) (by decide) ⟨.inl (by decide), .inr rfl, trivial⟩ rfl enter_89 (val := (fun (x : E3) => #[(ii x.1), (.agg #[(ii x.2.1), (ii x.2.2)])])) (pass := (fun _ => FP.tt)) (Pr := Pr) (R := Rr) (fun _ => rfl) rfl (fun pr LL => ∃ f2 genus, I3 pr f2 genus ∧ LL = [Res.own cI 118 (some ⟨g4, 0, none⟩) 12 12 f2, Res.box 3 g5 [(ii genus)]]) (fun _ _ _ => False) ⟨_, _, h0, rfl⟩ (fun T G hG => yfA hgp hG) ?_ ?_ (fun _ _ _ _ _ hx => hx.elim)
      · clear h h0 hS hgp; rintro ll rdy busy S O2 pre ⟨y, y2, y3⟩ w10 _ ⟨f2, genus, hI, rfl⟩ hPr hpass hS; have h := hb pre y y2 y3 f2 genus hI hPr; clear hb hI hPr; clear hpass; refine yda (yc7 ll) (zn (ya4 ycE ?_)); intro g6 w12 hN; replace hS : Sep w10 S O2 w12 (stl _ 3 (Res.box 123 g6 [(ii 0), (ii 0)])) := hS.new 3 rfl hN; clear hN; refine zb (zo (ybg (b := g6) (o := 0) (cells := #[(ii y2), (ii y3)]) rfl rfl ycE rfl rfl (yaY (hS.bx 3 rfl) (Nat.le_of_ble_eq_true rfl)) ?_)); intro w13 e1; replace hS := hS.bstn 3 rfl 0 [(ii y2), (ii y3)] e1; clear e1; refine zb (yaa (yhx fun a ra => ⟨rfl, _, _, ra, hS, ⟨2, rfl⟩, ?_⟩)); intro w14 hw; replace hS := hS.flip 2 rfl busy hw; clear hw ra a; refine yak (yae (ybi [0, 1, 3, 4, 2, 5, 6, 7] (fun i => match i with | 2 => [3, 4] | _ => []) (yc7 ll) (by kernel_rfl) (by kernel_rfl) ?_)); replace hS := hS.drew; refine zp (yai rfl underlying123 rfl yag) (zp (zl underlying3 (Row.cell (hS.bx 3 rfl) (i := 0) rfl)) (zp (yai rfl underlying123 rfl yag) (zp (zl underlying3 (Row.cell (hS.bx 3 rfl) (i := 1) rfl)) ?_))); have hB := hS.lend (asc [(0, 0)]) [0] (by decide) ⟨.inl (ycW rfl), trivial⟩; refine rp_n rfl rfl rfl rfl (yeS (vs := #[(.pointer (some (⟨g4, 0, none⟩ : Addr))), (ii y2)]) (us := #[]) rfl (am2 hE5 rfl) enter_74 ((ych (by simp) (ydx h hB)).mono ?_)); rintro _ w15 ⟨r2, rfl, hC, h⟩; replace hS := hS.back (asc [(0, 0)]) (yec (by decide)) hC; clear hC hB; refine ⟨_, rfl, ?_⟩; refine ⟨⟨fun _ => (zl underlying3 (Row.cell (hS.bx 3 rfl) (i := 1) rfl)), ⟨fun _ => (yai rfl underlying123 rfl yag), ⟨fun hh => Bool.noConfusion (show false = true from hh), ⟨fun hh => Bool.noConfusion (show false = true from hh), trivial⟩⟩⟩⟩, ?_⟩; have hB := hS.lend (asc [(0, 0)]) [0] (by decide) ⟨.inl (ycW rfl), trivial⟩; refine rp_n rfl rfl rfl rfl (yeS (vs := #[(.pointer (some (⟨g4, 0, none⟩ : Addr))), (ii y3)]) (us := #[]) rfl (am2 hE5 rfl) enter_74 ((ych (by simp) (ydx h hB)).mono ?_)); rintro _ w16 ⟨r3, rfl, hC, h⟩; replace hS := hS.back (asc [(0, 0)]) (yec (by decide)) hC; clear hC hB; refine ⟨_, rfl, ?_⟩; refine zb (zp (za (ii r2)) (zp (za (ii r3)) (ybz (yae (yae (yda (yc7 ll) (zq (zm (ii r2)) (zq (zm (ii r3)) (zq zE (yaa ?_)))))))))); obtain ⟨J2, hJ, h⟩ := h; refine yfP (fun E ds w' => ∃ genus2, J2 genus2 ∧ ds = [] ∧ E 5 = (Value.pointer (some (⟨g4, 0, none⟩ : Addr))) ∧ E 7 = (Value.pointer (some (⟨g5, 0, none⟩ : Addr))) ∧ E 10 = (ii r2) ∧ E 11 = (ii r3) ∧ Sep w10 S O2 w' (rl [Res.obj ll busy, Res.own cI 118 (some ⟨g4, 0, none⟩) 12 12 f2, Res.box 3 g5 [(ii genus2)]])) ?_ ?_
        · clear h hS; rintro E ds w17 ⟨genus2, h, rfl, hE5, hE7, hE10, hE11, hS⟩; replace h := hJ genus2 h; refine yda (yc7 ll) (zq (yad hE10) (zq (yad hE11) (zq (yhI rfl rfl) (zq (yad hE10) (zq (yad hE11) (zq (yhi rfl rfl) ?_)))))); obtain ⟨hx2, h⟩ := h; have hy2 := arr_ix (hS.rdo 1 rfl) hx2; refine zq (yg1 hE5 rfl underlying118 yag hx2) (zo (zt (ii (mnF r2 r3)) yag (hS.wr 1 rfl rfl hy2) ?_)); intro w18 e1; replace hS := hS.st 1 rfl rfl hy2 (x := mnF r2 r3) rfl e1; clear e1; exact zb (yaa (yaj (yhx fun a r => ⟨_, ⟨_, _, h, rfl⟩, (hS.sel [1, 2, 0] (by decide))⟩)))
        clear hJ; intro j; by_cases hp3 : r2 = r3
        · replace h := h.1 hp3; refine zc hp3 (yda (yc7 ll) (zq (zl underlying3 (Row.cell (hS.bx 1 rfl) (i := 0) rfl)) ?_)); obtain ⟨hi2, h⟩ := h; refine zq (zA hi2) (zo (zt (ii (genus + 1)) yag (hS.bwr 1 rfl (j := 0) rfl) ?_)); intro w19 e1; replace hS := hS.bst 1 rfl 0 (ii (genus + 1)) e1; clear e1; exact zb (yaa (j _ _ _ ⟨_, h, rfl, hE5, rfl, rfl, rfl, (hS.sel [2, 0, 1] (by decide))⟩))
        · replace h := h.2 hp3; exact zd hp3 (yah (j _ _ _ ⟨_, h, rfl, hE5, rfl, rfl, rfl, (hS.sel [2, 0, 1] (by decide))⟩))
      · clear hb h0 hS hgp; rintro D ys w11 _ hRr ⟨f2, genus, hI, rfl⟩ hS; replace h := h ys f2 genus hI hRr; clear hI hRr; exact yaj (zs (zq (zl underlying3 (Row.cell (hS.bx 1 rfl) (i := 0) rfl)) (zq (za (ii genus)) (zq (za (ii 0)) (yaa (wt_retk2 (rs := [D]) (by simp) (hS.marked 2 rfl) rfl rfl rfl (fun w9 hk => ⟨_, _, rfl, (hS.unmark [2] [] (by decide) (by decide) (unmark1 2 rfl) hk), h⟩)))))))
  · replace h := h.2 hp; exact zf hp (zs (zq (zm (ii r)) (zq (za (ii 0)) (zq (za (ii r)) (yaa (wt_retk2 (rs := []) (by simp) (by simp) rfl rfl rfl (fun w9 hk => ⟨_, _, rfl, (hS.unmark [] [] (by decide) (by decide) (by simp) hk), h⟩)))))))
def ydb (g : Int) (g2 : List E3) (l : List (List Int)) (R : Int → Prop) : Prop :=
ycM g g2 (fun r r2 =>
((r2 = 0 →
((r = true →
(∃ I2 : Nat → Int → Prop, (∃ m0, I2 m0 0) ∧ ∀ m2 v, I2 m2 v → 
((v < ((l.length : Nat) : Int) →
((0 ≤ v ∧ v < ((l.length : Nat) : Int)) ∧
ybQ (gx l v.toNat) g (fun r3 =>
((r3 = 0 →
(In64 (v + 1) ∧
∃ m3, m3 < m2 ∧ I2 m3 (v + 1))) ∧
(¬ (r3 = 0) →
R r3))))) ∧
(¬ (v < ((l.length : Nat) : Int)) →
R 0)))) ∧
(¬ (r = true) →
R 13))) ∧
(¬ (r2 = 0) →
R r2)))
theorem pok_rank_given {O : Nat → Prop} {w : World} {g g2 l Ag lg cg Al ll cl} {R : Int → Prop} (h : ydb g g2 l R) (hO : ∀ k, O k → k < w.heap.size) (hA0 : (FP.sl c3 Ag lg cg g2).P O w) (hA1 : (FP.sl (cL cI) Al ll cl l).P O w) :
    Calls Try.prog 33 #[(.agg #[(ii g), (.slice Ag lg cg)]), (.slice Al ll cl)] w fun e w' => ∃ r4, e = .returned (ii r4) ∧ Sep w no O w' (rl []) ∧ R r4 := by
  unfold ydb at h; have hS : Sep w no O w (rl [Res.ro (FP.sl c3 Ag lg cg g2), Res.ro (FP.sl (cL cI) Al ll cl l)]) := Sep.startl hO [(FP.sl c3 Ag lg cg g2), (FP.sl (cL cI) Al ll cl l)] ⟨hA0, hA1, trivial⟩; refine yan (l := [(.agg #[(ii g), (.slice Ag lg cg)]), (.slice Al ll cl)]) func33 rfl ntmps33 (Nat.le_of_ble_eq_true rfl) (zs (zn (ybO (v := (.agg #[(ii g), (.slice Ag lg cg)])) rfl ?_))); intro g3 w2 hN; replace hS : Sep w no O w2 (stl _ 2 (Res.box 24 g3 [(ii g), (.slice Ag lg cg)])) := hS.new 2 rfl hN; clear hN; refine zb (zq (za (ii 0)) (yaa (zs (zq (yar (vs := [(ii g), (.slice Ag lg cg)]) rfl underlying24 rfl yap ⟨Row.cell (hS.bx 2 rfl) (i := 0) rfl, Row.cell (hS.bx 2 rfl) (i := 1) rfl, trivial⟩) (zn (yam rfl (am1 rfl) enter_52 ((ydy h (yaG _) (hS.rdr 0 rfl)).mono ?_))))))); rintro _ w3 ⟨r, r2, rfl, hC, h⟩; replace hS := hS.pur hC.pure; clear hC; refine ⟨_, rfl, ?_⟩; refine zb (zq (zm (.tuple #[(.bool (r)), (ii r2)])) (zq (zx (.bool (r))) (zq (zx (ii r2)) (zq (za (.bool (r))) (zq (za (ii r2)) (yaa (yae (zs (zq (zm (ii r2)) (zq zN (yaa ?_))))))))))); by_cases hp : r2 = 0
  · replace h := h.1 hp; refine ze hp (yah (yae (zs (zq (zm (.bool (r))) (zq (ydm rfl) (yaa ?_)))))); by_cases hp2 : r = true
    · replace h := h.1 hp2; refine yaA (congrArg Value.bool (congrArg Bool.not hp2)) (yah (yae (zs (zq (zm (.slice Al ll cl)) (zq (yaV (n := l.length) rfl underlying90 (yaR (hS.rdr 1 rfl))) (zq (zm (ii 0)) (yaa (yak ?_)))))))); obtain ⟨I2, ⟨m0, h0⟩, hr⟩ := h; refine yaC (fun m E ds w' => ∃ v, I2 m v ∧ ds = [] ∧ E 2 = (Value.pointer (some (⟨g3, 0, none⟩ : Addr))) ∧ E 20 = (Value.slice Al ll cl) ∧ E 21 = (ii ((l.length : Nat) : Int)) ∧ E 22 = (ii v) ∧ Sep w no O w' (rl [Res.box 24 g3 [(ii g), (.slice Ag lg cg)], Res.ro (FP.sl c3 Ag lg cg g2), Res.ro (FP.sl (cL cI) Al ll cl l)])) m0 ⟨_, h0, rfl, rfl, rfl, rfl, rfl, (hS.sel [2, 0, 1] (by decide))⟩ ?_; clear h0 hS; rintro m2 E ds w4 ⟨v, h, rfl, hE2, hE20, hE21, hE22, hS⟩ again; replace h := hr m2 v h; clear hr; refine zs (zq (ycR hE22 hE21) (yaa (yae ?_))); by_cases hp3 : v < ((l.length : Nat) : Int)
      · replace h := h.1 hp3; refine zc hp3 (yah (yae (yak (zs ?_)))); obtain ⟨hx, h⟩ := h; refine zq (ybw hE20 hE22 underlying90 yco (yaQ (hS.rdr 2 rfl) hx)) ?_; obtain ⟨A, l2, c, hc, hq⟩ := hS.el 2 rfl hx 3 4 rfl rfl (by decide); replace hS := hq; clear hq; refine zq (yax (v := (.slice A l2 c)) rfl underlying26 rfl (hS.clr 4 rfl)) (zq (za (.slice A l2 c)) (yaa (zs (zq (zm (.slice A l2 c)) (zq (yai hE2 underlying24 rfl yag) (zq (zl underlying3 (Row.cell (hS.bx 0 rfl) (i := 0) rfl)) (zn (yam rfl (am2 rfl rfl) yfH ((ydY h (yaG _) (hS.rdr 3 rfl)).mono ?_))))))))); rintro _ w5 ⟨r3, rfl, hC, h⟩; replace hS := hS.pur hC.pure; clear hC; refine ⟨_, rfl, ?_⟩; refine zb (zq (za (ii r3)) (yaa (zs (zq (zm (ii r3)) (zq zN (yaa ?_)))))); by_cases hp4 : r3 = 0
        · replace h := h.1 hp4; refine ze hp4 (yah (yaj (zr ?_))); obtain ⟨hi, h⟩ := h; refine zq (ybf hE22 rfl hi) (zq (zm (ii (v + 1))) (yaa ?_)); obtain ⟨mq, hlt, h⟩ := h; exact again mq _ _ _ ⟨_, h, rfl, hE2, hE20, hE21, rfl, (hS.sel [0, 1, 2] (by decide))⟩ hlt
        · replace h := h.2 hp4; exact zf hp4 (zs (zq (zm (ii r3)) (zq (za (ii r3)) (yaa (yal rfl rfl ⟨_, rfl, (hS.sel [] (by decide)), h⟩)))))
      · replace h := h.2 hp3; exact zd hp3 (yay rfl (zs (zq (za (ii 0)) (yaa (yal rfl rfl ⟨_, rfl, (hS.sel [] (by decide)), h⟩)))))
    · replace h := h.2 hp2; exact yaq (congrArg Value.bool (congrArg Bool.not (Bool.eq_false_iff.2 hp2))) (zs (zq (za (ii 13)) (yaa (yal rfl rfl ⟨_, rfl, (hS.sel [] (by decide)), h⟩))))
  · replace h := h.2 hp; exact zf hp (zs (zq (zm (ii r2)) (zq (za (ii r2)) (yaa (yal rfl rfl ⟨_, rfl, (hS.sel [] (by decide)), h⟩)))))
def yeo (g : Int) (g2 : List E3) (R0 : Int → Prop) (R1 : Int → (List E3) → Int → (List (List Int × Int)) → Int → Prop) : Prop :=
ybX g g2 (fun r r2 r3 =>
((r3 = 0 →
ycP r r2 (fun r4 r5 =>
R1 g g2 r4 ([] : List (List Int × Int)) r5)) ∧
(¬ (r3 = 0) →
R0 r3)))
theorem pok_rank_of {O : Nat → Prop} {w : World} {g g2 Ag lg cg} {R0 : Int → Prop} {R1 : Int → (List E3) → Int → (List (List Int × Int)) → Int → Prop} (h : yeo g g2 R0 R1) (hO : ∀ k, O k → k < w.heap.size) (hA0 : (FP.sl c3 Ag lg cg g2).P O w) :
    Calls Try.prog 34 #[(.agg #[(ii g), (.slice Ag lg cg)])] w fun e w' => (∃ r6, e = .returned (.tuple #[(.pointer none), (ii r6)]) ∧ Sep w no O w' (rl []) ∧ R0 r6) ∨ (∃ f f2 f3 m2 r7 gr Af lf cf gm, e = .returned (.tuple #[(.pointer (some (⟨gr, 0, none⟩ : Addr))), (ii r7)]) ∧ Sep w no O w' (rl [Res.box 97 gr [(ii f), (.slice Af lf cf), (ii f3), (Value.map (some gm))], Res.ro (FP.sl c3 Af lf cf f2), Res.obj gm (mapO (.int .i64) m2)]) ∧ R1 f f2 f3 m2 r7) := by
  unfold yeo at h; have hS : Sep w no O w (rl [Res.ro (FP.sl c3 Ag lg cg g2)]) := Sep.startl hO [(FP.sl c3 Ag lg cg g2)] ⟨hA0, trivial⟩; refine yan (l := [(.agg #[(ii g), (.slice Ag lg cg)])]) func34 rfl ntmps34 (Nat.le_of_ble_eq_true rfl) (zs (zn (ybO (v := (.agg #[(ii g), (.slice Ag lg cg)])) rfl ?_))); intro g3 w2 hN; replace hS : Sep w no O w2 (stl _ 1 (Res.box 24 g3 [(ii g), (.slice Ag lg cg)])) := hS.new 1 rfl hN; clear hN; refine zb (zq (za (.pointer none)) (zq (za (ii 0)) (yaa (zs (zq (yar (vs := [(ii g), (.slice Ag lg cg)]) rfl underlying24 rfl yap ⟨Row.cell (hS.bx 1 rfl) (i := 0) rfl, Row.cell (hS.bx 1 rfl) (i := 1) rfl, trivial⟩) (zn (yam rfl (am1 rfl) enter_53 ((yfQ h (yaG _) (hS.rdr 0 rfl)).mono ?_)))))))); rintro _ w3 ⟨r, r2, r3, Ar, lr, cr, rfl, hC, h⟩; replace hS := hS.call1 (hC.widen (yea (ybh (fP (fI .i64) (fP (fI .i64) (fI .i64))) _ _ _ _ _) yfn) hS.blt) 2 0 rfl; clear hC; refine ⟨_, rfl, ?_⟩; refine zb (zq (zm (.tuple #[(.agg #[(ii r), (.slice Ar lr cr)]), (ii r3)])) (zq (zx (.agg #[(ii r), (.slice Ar lr cr)])) (zq (zx (ii r3)) (zn (ya4 yap ?_))))); intro g4 w4 hN; replace hS : Sep w no O w4 (stl _ 3 (Res.box 24 g4 [(ii 0), (.slice none 0 0)])) := hS.new 3 rfl hN; clear hN; refine zb (zo (ybg (b := g4) (o := 0) (cells := #[(ii r), (.slice Ar lr cr)]) rfl rfl yap rfl rfl (yaY (hS.bx 3 rfl) (Nat.le_of_ble_eq_true rfl)) ?_)); intro w5 e1; replace hS := hS.bstn 3 rfl 0 [(ii r), (.slice Ar lr cr)] e1; clear e1; refine zb (zq (za (ii r3)) (yaa (yae (zs (zq (zm (ii r3)) (zq zN (yaa ?_))))))); by_cases hp : r3 = 0
  · replace h := h.1 hp; refine ze hp (yah (zs (zq (yar (vs := [(ii r), (.slice Ar lr cr)]) rfl underlying24 rfl yap ⟨Row.cell (hS.bx 3 rfl) (i := 0) rfl, Row.cell (hS.bx 3 rfl) (i := 1) rfl, trivial⟩) (zn (yam rfl (am1 rfl) enter_54 ((yhj h (yaG _) (hS.rdo 2 rfl)).mono ?_)))))); rintro _ w6 ⟨r4, r5, rfl, hC, h⟩; replace hS := hS.pur hC.pure; clear hC; refine ⟨_, rfl, ?_⟩; refine zb (zq (zm (.tuple #[(ii r4), (ii r5)])) (zq (zx (ii r4)) (zq (zx (ii r5)) (zq (za (ii r4)) (zq (za (ii r5)) (yaa (zs (zq (yar (vs := [(ii g), (.slice Ag lg cg)]) rfl underlying24 rfl yap ⟨Row.cell (hS.bx 1 rfl) (i := 0) rfl, Row.cell (hS.bx 1 rfl) (i := 1) rfl, trivial⟩) (zq (zm (ii r4)) (zn (n_mkmap (vE := (.int .i64)) rfl ?_))))))))))); intro g5 w7 e1 e2; replace hS : Sep w no O w7 (stl _ 4 (Res.obj g5 (mapO (.int .i64) ([] : List (List Int × Int))))) := hS.newm 4 rfl e1 e2; clear e1 e2; refine zb (zn (ydW (l := [(0, (.agg #[(ii g), (.slice Ag lg cg)])), (1, (ii r4)), (2, (Value.map (some g5)))]) (cells := [(ii g), (.slice Ag lg cg), (ii r4), (Value.map (some g5))]) (places := [(0, 2), (2, 1), (3, 1)]) (bp3 rfl rfl rfl) underlying97 info_97 (by kernel_rfl) rfl ?_)); refine zb (zn (ybO (v := (.agg #[(ii g), (.slice Ag lg cg), (ii r4), (Value.map (some g5))])) rfl ?_)); intro g6 w8 hN; replace hS : Sep w no O w8 (stl _ 5 (Res.box 97 g6 [(ii g), (.slice Ag lg cg), (ii r4), (Value.map (some g5))])) := hS.new 5 rfl hN; clear hN; exact zb (zq (zm (ii r5)) (zq (za (.pointer (some (⟨g6, 0, none⟩ : Addr)))) (zq (za (ii r5)) (yaa (yaK rfl rfl rfl (.inr ⟨_, _, _, _, _, _, _, _, _, _, rfl, (hS.sel [5, 0, 4] (by decide)), h⟩))))))
  · replace h := h.2 hp; exact zf hp (zs (zq (zm (ii r3)) (zq (za (.pointer none)) (zq (za (ii r3)) (yaa (yaK rfl rfl rfl (.inl ⟨_, rfl, (hS.sel [] (by decide)), h⟩)))))))
def yaO (Rec : Int → (List E3) → Int → (List (List Int × Int)) → (List Int) → (Int → Int → (List (List Int × Int)) → Prop) → Prop) (d : Int) (d2 : List E3) (d3 : Int) (d4 : List (List Int × Int)) (i : List Int) (R : Int → Int → (List (List Int × Int)) → Prop) : Prop :=
ybT i (fun r r2 =>
((r2 = 0 →
((r < 0 →
R (-1) 0 d4) ∧
(¬ (r < 0) →
(In64 (2 * d3) ∧
(In64 ((2 * d3) - 2) ∧
((((2 * d3) - 2) < r →
(In64 (r - d3) ∧
R (r - d3) 0 d4)) ∧
(¬ (((2 * d3) - 2) < r) →
yaW d d2 i (fun r3 r4 r5 r6 =>
((r6 = 0 →
((r3 = true →
(0 < r4.length ∧
(KOk 12 d4 ∧
yeW 12 (cpy (List.replicate 12 (0 : Int)) r4) ∧
(((mget d4 (cpy (List.replicate 12 (0 : Int)) r4)).isSome = true →
R ((mget d4 (cpy (List.replicate 12 (0 : Int)) r4)).getD (0 : Int)) 0 d4) ∧
(¬ ((mget d4 (cpy (List.replicate 12 (0 : Int)) r4)).isSome = true) →
((((d4.length : Nat) : Int) = 16384 →
R 0 12 d4) ∧
(¬ (((d4.length : Nat) : Int) = 16384) →
(∃ I2 : Nat → Int → Int → (List (List Int × Int)) → (List Int) → Prop, (∃ m0, I2 m0 r 0 d4 r4) ∧ ∀ m2 v v2 d5 v3, I2 m2 v v2 d5 v3 → 
((v2 < ((r4.length : Nat) : Int) →
((0 ≤ v2 ∧ v2 < ((v3.length : Nat) : Int)) ∧
(In64 ((gi v3 v2.toNat) - 1) ∧
Rec d d2 d3 d5 (v3.set v2.toNat ((gi v3 v2.toNat) - 1)) (fun r7 r8 y =>
((0 ≤ v2 ∧ v2 < (((v3.set v2.toNat ((gi v3 v2.toNat) - 1)).length : Nat) : Int)) ∧
(In64 ((gi (v3.set v2.toNat ((gi v3 v2.toNat) - 1)) v2.toNat) + 1) ∧
((r8 = 0 →
(In64 (r7 + 1) ∧
(In64 (v2 + 1) ∧
∃ m3, m3 < m2 ∧ I2 m3 (mnF v (r7 + 1)) (v2 + 1) y ((v3.set v2.toNat ((gi v3 v2.toNat) - 1)).set v2.toNat ((gi (v3.set v2.toNat ((gi v3 v2.toNat) - 1)) v2.toNat) + 1))))) ∧
(¬ (r8 = 0) →
R 0 r8 y)))))))) ∧
(¬ (v2 < ((r4.length : Nat) : Int)) →
(KOk 12 d5 ∧
R v 0 (mput d5 (cpy (List.replicate 12 (0 : Int)) r4) v)))))))))))) ∧
(¬ (r3 = true) →
R (-1) 0 d4))) ∧
(¬ (r6 = 0) →
R 0 r6 d4)))))))))) ∧
(¬ (r2 = 0) →
R 0 r2 d4)))
def ya1 : Nat → Int → (List E3) → Int → (List (List Int × Int)) → (List Int) → (Int → Int → (List (List Int × Int)) → Prop) → Prop
  | 0 => fun _ _ _ _ _ _ => False
  | nf + 1 => fun d d2 d3 d4 i R => yaO (ya1 nf) d d2 d3 d4 i R
theorem yer {Rec : Int → (List E3) → Int → (List (List Int × Int)) → (List Int) → (Int → Int → (List (List Int × Int)) → Prop) → Prop} (hrec : ∀ {S O : Nat → Prop} {w : World} {d d2 d3 d4 i gc Ad ld cd gm Ai li ci} {R : Int → Int → (List (List Int × Int)) → Prop} (h : Rec d d2 d3 d4 i R) (hS : Sep w S O w (rl [Res.box 97 gc [(Value.int .i64 d), (Value.slice Ad ld cd), (Value.int .i64 d3), (Value.map (some gm))], Res.ro (FP.sl c3 Ad ld cd d2), Res.obj gm (mapO (Value.int .i64) d4), Res.own cI 3 Ai li ci i])), Calls Try.prog 35 #[(Value.pointer (some (⟨gc, 0, none⟩ : Addr))), (Value.slice Ai li ci)] w fun e w' => ∃ r9 r10 z, e = .returned (Value.tuple #[(Value.int .i64 r9), (Value.int .i64 r10)]) ∧ Sep w S O w' (rl [Res.box 97 gc [(Value.int .i64 d), (Value.slice Ad ld cd), (Value.int .i64 d3), (Value.map (some gm))], Res.obj gm (mapO (Value.int .i64) z), Res.own cI 3 Ai li ci i]) ∧ R r9 r10 z) {S O : Nat → Prop} {w : World} {d d2 d3 d4 i gc Ad ld cd gm Ai li ci} {R : Int → Int → (List (List Int × Int)) → Prop} (h : yaO Rec d d2 d3 d4 i R) (hS : Sep w S O w (rl [Res.box 97 gc [(Value.int .i64 d), (Value.slice Ad ld cd), (Value.int .i64 d3), (Value.map (some gm))], Res.ro (FP.sl c3 Ad ld cd d2), Res.obj gm (mapO (Value.int .i64) d4), Res.own cI 3 Ai li ci i])) :
    Calls Try.prog 35 #[(.pointer (some (⟨gc, 0, none⟩ : Addr))), (.slice Ai li ci)] w fun e w' => ∃ r9 r10 z, e = .returned (.tuple #[(ii r9), (ii r10)]) ∧ Sep w S O w' (rl [Res.box 97 gc [(ii d), (.slice Ad ld cd), (ii d3), (Value.map (some gm))], Res.obj gm (mapO (.int .i64) z), Res.own cI 3 Ai li ci i]) ∧ R r9 r10 z := by
  unfold yaO at h; refine yan (l := [(.pointer (some (⟨gc, 0, none⟩ : Addr))), (.slice Ai li ci)]) func35 rfl ntmps35 (Nat.le_of_ble_eq_true rfl) (zs (zq (za (ii 0)) (zq (za (ii 0)) (yaa (zs (zq (zm (.slice Ai li ci)) (zn (yam rfl (am1 rfl) enter_55 ((yeN h (yaG _) (hS.rdo 3 rfl)).mono ?_))))))))); rintro _ w2 ⟨r, r2, rfl, hC, h⟩; replace hS := hS.pur hC.pure; clear hC; refine ⟨_, rfl, ?_⟩; refine zb (zq (zm (.tuple #[(ii r), (ii r2)])) (zq (zx (ii r)) (zq (zx (ii r2)) (zq (za (ii r)) (zq (za (ii r2)) (yaa (yae (zs (zq (zm (ii r2)) (zq zN (yaa ?_))))))))))); by_cases hp : r2 = 0
  · replace h := h.1 hp; refine ze hp (yah (yae (zs (zq (zm (ii r)) (zq zL (yaa ?_)))))); by_cases hp2 : r < 0
    · replace h := h.1 hp2; exact zc hp2 (zs (zq (za (ii (-1))) (zq (za (ii 0)) (yaa (yaK rfl rfl rfl ⟨_, _, _, rfl, (hS.sel [0, 2, 3] (by decide)), h⟩)))))
    · replace h := h.2 hp2; refine zd hp2 (yah (yae (zs (zq (zm (ii r)) (zq (zm (.pointer (some (⟨gc, 0, none⟩ : Addr)))) (zq (ybm rfl) (zq (yai rfl underlying97 rfl yag) (zq (zl underlying3 (Row.cell (hS.bx 0 rfl) (i := 2) rfl)) ?_)))))))); obtain ⟨hi, h⟩ := h; refine zq (v_mul rfl rfl hi) ?_; obtain ⟨hi2, h⟩ := h; refine zq (zS hi2) (zq zG (yaa ?_)); by_cases hp3 : ((2 * d3) - 2) < r
      · replace h := h.1 hp3; refine zc hp3 (zs (zq (zm (ii r)) (zq (zm (.pointer (some (⟨gc, 0, none⟩ : Addr)))) (zq (ybm rfl) (zq (yai rfl underlying97 rfl yag) (zq (zl underlying3 (Row.cell (hS.bx 0 rfl) (i := 2) rfl)) ?_)))))); obtain ⟨hi3, h⟩ := h; exact zq (zS hi3) (zq (za (ii (r - d3))) (zq (za (ii 0)) (yaa (yaK rfl rfl rfl ⟨_, _, _, rfl, (hS.sel [0, 2, 3] (by decide)), h⟩))))
      · replace h := h.2 hp3; refine zd hp3 (yah (zs (zq (zm (.pointer (some (⟨gc, 0, none⟩ : Addr)))) (zq (ybm rfl) (zq (yai rfl underlying97 rfl yap) (zq (yar (vs := [(ii d), (.slice Ad ld cd)]) rfl underlying24 rfl yap ⟨Row.cell (hS.bx 0 rfl) (i := 0) rfl, Row.cell (hS.bx 0 rfl) (i := 1) rfl, trivial⟩) (zq (zm (.slice Ai li ci)) (zn (yam rfl (am2 rfl rfl) enter_25 ((yck h (yaG _) (hS.rdr 1 rfl) (hS.rdo 3 rfl)).mono ?_)))))))))); rintro _ w3 ⟨r3, r4, r5, r6, Ar, lr, cr, Ar2, lr2, cr2, rfl, hC, h⟩; replace hS := hS.call2 (hC.widen (yea (ybh (fI .i64) _ _ _ _ _) (yea (ybh (fI .i64) _ _ _ _ _) yfn)) hS.blt) 4 0 5 1 rfl rfl (by decide) (by decide); clear hC; refine ⟨_, rfl, ?_⟩; refine zb (zq (zm (.tuple #[(.bool (r3)), (.slice Ar lr cr), (.slice Ar2 lr2 cr2), (ii r6)])) (zq (zx (.bool (r3))) (zq (zx (.slice Ar lr cr)) (zq (zx (.slice Ar2 lr2 cr2)) (zq (zx (ii r6)) (zq (za (.bool (r3))) (zq (za (.slice Ar lr cr)) (zq (za (.slice Ar2 lr2 cr2)) (zq (za (ii r6)) (yaa (yae (zs (zq (zm (ii r6)) (zq zN (yaa ?_))))))))))))))); by_cases hp4 : r6 = 0
        · replace h := h.1 hp4; refine ze hp4 (yah (yae (zs (zq (zm (.bool (r3))) (zq (ydm rfl) (yaa ?_)))))); by_cases hp5 : r3 = true
          · replace h := h.1 hp5; refine yaA (congrArg Value.bool (congrArg Bool.not hp5)) (yah (zs (zn (ya4 ygj ?_)))); intro g w4 hN; replace hS := hS.made (n := 12) 6 rfl cI (ii 0) (0 : Int) (fun _ _ => rfl) (hN : New _ _ _ (Array.replicate 12 (ii 0)) 98) (by decide); clear hN; refine zb (yaa (zs (zq (yhG rfl underlying98 yag) (zq (zm (.slice Ar lr cr)) ?_)))); obtain ⟨hx, h⟩ := h; refine zn (n_cpy rfl rfl underlying25 yag hS 6 rfl (hS.rdo 4 rfl) hx ?_); clear hS; intro w5 hS; refine zb (yaa (yae (yae (ybi [0, 1, 2, 3, 4, 5, 6, 7, 8, 9, 10] st0 ybr (by kernel_rfl) (by kernel_rfl) ?_)))); replace hS := hS.drew; refine zp (zm (.pointer (some (⟨gc, 0, none⟩ : Addr)))) (zp (ybm rfl) (zp (yai rfl underlying97 rfl ygg) (zp (zl underlying95 (Row.cell (hS.bx 0 rfl) (i := 3) rfl)) (zp (yar (vs := (cpy (List.replicate 12 (0 : Int)) r4).map (.int .i64)) rfl underlying98 rfl (yd4 ygj (hS.rdo 6 rfl)) (ydE (hS.rdo 6 rfl))) ?_)))); obtain ⟨hx2, h⟩ := h; obtain ⟨hx3, h⟩ := h; refine rp_n rfl rfl rfl rfl (n_val (v_mget (vE := (.int .i64)) (x0 := (0 : Int)) (keyt_98) hx2 hx3 rfl rfl underlying95 yag (hS.mp 2 rfl)) ?_); refine zb (zp (zm (.tuple #[(ii ((mget d4 (cpy (List.replicate 12 (0 : Int)) r4)).getD (0 : Int))), (.bool ((mget d4 (cpy (List.replicate 12 (0 : Int)) r4)).isSome))])) (zp (zx (ii ((mget d4 (cpy (List.replicate 12 (0 : Int)) r4)).getD (0 : Int)))) (zp (zx (.bool ((mget d4 (cpy (List.replicate 12 (0 : Int)) r4)).isSome))) (zp (za (ii ((mget d4 (cpy (List.replicate 12 (0 : Int)) r4)).getD (0 : Int)))) (zp (za (.bool ((mget d4 (cpy (List.replicate 12 (0 : Int)) r4)).isSome))) (ybz (zs (zq (zm (.bool ((mget d4 (cpy (List.replicate 12 (0 : Int)) r4)).isSome))) (yaa ?_))))))))); by_cases hp6 : (mget d4 (cpy (List.replicate 12 (0 : Int)) r4)).isSome = true
            · replace h := h.1 hp6; exact yaq (congrArg Value.bool hp6) (zs (zq (zm (ii ((mget d4 (cpy (List.replicate 12 (0 : Int)) r4)).getD (0 : Int)))) (zq (za (ii ((mget d4 (cpy (List.replicate 12 (0 : Int)) r4)).getD (0 : Int)))) (zq (za (ii 0)) (yaa (yaK rfl rfl rfl ⟨_, _, _, rfl, (hS.sel [0, 2, 3] (by decide)), h⟩))))))
            · replace h := h.2 hp6; refine yaA (congrArg Value.bool (Bool.eq_false_iff.2 hp6)) (yah (yae (zs (zq (zm (.pointer (some (⟨gc, 0, none⟩ : Addr)))) (zq (ybm rfl) (zq (yai rfl underlying97 rfl ygg) (zq (zl underlying95 (Row.cell (hS.bx 0 rfl) (i := 3) rfl)) (zq (v_mlen rfl underlying95 (hS.mp 2 rfl)) (zq zE (yaa ?_)))))))))); by_cases hp7 : ((d4.length : Nat) : Int) = 16384
              · replace h := h.1 hp7; exact zc hp7 (zs (zq (za (ii 0)) (zq (za (ii 12)) (yaa (yaK rfl rfl rfl ⟨_, _, _, rfl, (hS.sel [0, 2, 3] (by decide)), h⟩)))))
              · replace h := h.2 hp7; refine zd hp7 (yah (zs (zq (zm (ii r)) (zq (za (ii r)) (yaa (yae (zs (zq (zm (.slice Ar lr cr)) (zq (yaV (n := r4.length) rfl underlying26 (yaR (hS.rdo 4 rfl))) (zq (zm (ii 0)) (yaa (yak ?_)))))))))))); obtain ⟨I2, ⟨m0, h0⟩, hr⟩ := h; refine yaC (fun m E ds w' => ∃ v v2 d5 v3 Av lv cv, I2 m v v2 d5 v3 ∧ ds = [] ∧ E 0 = (Value.pointer (some (⟨gc, 0, none⟩ : Addr))) ∧ E 1 = (Value.slice Ai li ci) ∧ E 9 = (Value.slice Av lv cv) ∧ E 11 = (Value.pointer (some (⟨g, 0, none⟩ : Addr))) ∧ E 14 = (ii v) ∧ E 80 = (ii ((r4.length : Nat) : Int)) ∧ E 81 = (ii v2) ∧ Sep w S O w' (rl [Res.box 97 gc [(ii d), (.slice Ad ld cd), (ii d3), (Value.map (some gm))], Res.ro (FP.sl c3 Ad ld cd d2), Res.obj gm (mapO (.int .i64) d5), Res.own cI 3 Ai li ci i, Res.own cI 3 Av lv cv v3, Res.own cI 98 (some ⟨g, 0, none⟩) 12 12 (cpy (List.replicate 12 (0 : Int)) r4)])) m0 ⟨_, _, _, _, _, _, _, h0, rfl, rfl, rfl, rfl, rfl, rfl, rfl, rfl, (hS.sel [0, 1, 2, 3, 4, 6] (by decide))⟩ ?_; clear h0 hS; rintro m2 E ds w6 ⟨v, v2, d5, v3, Av, lv, cv, h, rfl, hE0, hE1, hE9, hE11, hE14, hE80, hE81, hS⟩ again; replace h := hr m2 v v2 d5 v3 h; clear hr; refine zs (zq (ycR hE81 hE80) (yaa (yae ?_))); by_cases hp8 : v2 < ((r4.length : Nat) : Int)
                · replace h := h.1 hp8; refine zc hp8 (yah (yae (yak (zs (zq (yad hE81) (zq (za (ii v2)) (yaa (zs (zq (yad hE9) (zq (zm (ii v2)) ?_)))))))))); obtain ⟨hx4, h⟩ := h; refine zq (zi underlying26 yag (yaQ (hS.rdo 4 rfl) hx4)) (zq (yax (v := (ii (gi v3 v2.toNat))) rfl underlying3 rfl (rd_1 (hS.rdo 4 rfl) hx4 (fun q => yaF q) rfl)) ?_); obtain ⟨hi4, h⟩ := h; refine zq (zS hi4) (zq (zi underlying26 yag (yaQ (hS.rdo 4 rfl) hx4)) (zo (zt (ii ((gi v3 v2.toNat) - 1)) yag (hS.wr 4 rfl rfl hx4) ?_))); intro w7 e1; replace hS := hS.st 4 rfl rfl hx4 (x := (gi v3 v2.toNat) - 1) rfl e1; clear e1; refine zb (yaa (zs (zq (yad (v := (.pointer (some (⟨gc, 0, none⟩ : Addr)))) hE0) (zq (yad hE9) ?_)))); have hB := hS.lend (asc [(0, 0), (2, 1), (4, 2)]) [0, 1, 2, 4] (by decide) ⟨.inl (ycW rfl), .inr rfl, .inl (ycW rfl), .inl (ycW rfl), trivial⟩; refine zn (yeS (vs := #[(.pointer (some (⟨gc, 0, none⟩ : Addr))), (.slice Av lv cv)]) (us := #[]) rfl (am2 rfl rfl) enter_35 ((ych (by simp) (hrec h hB)).mono ?_)); rintro _ w8 ⟨r7, r8, y, rfl, hC, h⟩; replace hS := hS.back (asc [(0, 0), (2, 1), (4, 2)]) (yec (by decide)) hC; clear hC hB; refine ⟨_, rfl, ?_⟩; refine zb (zq (zm (.tuple #[(ii r7), (ii r8)])) (zq (zx (ii r7)) (zq (zx (ii r8)) (zq (za (ii r7)) (zq (za (ii r8)) (yaa (zs (zq (yad hE9) (zq (zm (ii v2)) ?_))))))))); obtain ⟨hx5, h⟩ := h; refine zq (zi underlying26 yag (yaQ (hS.rdo 4 rfl) hx5)) (zq (yax (v := (ii (gi (v3.set v2.toNat ((gi v3 v2.toNat) - 1)) v2.toNat))) rfl underlying3 rfl (rd_1 (hS.rdo 4 rfl) hx5 (fun q => yaF q) rfl)) ?_); obtain ⟨hi5, h⟩ := h; refine zq (zA hi5) (zq (zi underlying26 yag (yaQ (hS.rdo 4 rfl) hx5)) (zo (zt (ii ((gi (v3.set v2.toNat ((gi v3 v2.toNat) - 1)) v2.toNat) + 1)) yag (hS.wr 4 rfl rfl hx5) ?_))); intro w9 e1; replace hS := hS.st 4 rfl rfl hx5 (x := (gi (v3.set v2.toNat ((gi v3 v2.toNat) - 1)) v2.toNat) + 1) rfl e1; clear e1; refine zb (yaa (yae (zs (zq (zm (ii r8)) (zq zN (yaa ?_)))))); by_cases hp9 : r8 = 0
                  · replace h := h.1 hp9; refine ze hp9 (yah (zr (zq (yad hE14) (zq (zm (ii r7)) ?_)))); obtain ⟨hi6, h⟩ := h; refine zq (zA hi6) (zq (yhi rfl rfl) (zq (za (ii (mnF v (r7 + 1)))) (yaa (yaj (zr ?_))))); obtain ⟨hi7, h⟩ := h; refine zq (ybf hE81 rfl hi7) (zq (zm (ii (v2 + 1))) (yaa ?_)); obtain ⟨mq, hlt, h⟩ := h; exact again mq _ _ _ ⟨_, _, _, _, _, _, _, h, rfl, hE0, hE1, hE9, hE11, rfl, hE80, rfl, (hS.sel [0, 1, 2, 3, 4, 5] (by decide))⟩ hlt
                  · replace h := h.2 hp9; exact zf hp9 (zs (zq (zm (ii r8)) (zq (za (ii 0)) (zq (za (ii r8)) (yaa (yaK rfl rfl rfl ⟨_, _, _, rfl, (hS.sel [0, 2, 3] (by decide)), h⟩))))))
                · replace h := h.2 hp8; refine zd hp8 (yay rfl (yae (ybi [0, 1, 2, 3, 4, 5, 6] st0 ybr (by kernel_rfl) (by kernel_rfl) ?_))); replace hS := hS.drew; refine zp (yad (v := (.pointer (some (⟨gc, 0, none⟩ : Addr)))) hE0) (zp (ybm rfl) (zp (yai rfl underlying97 rfl ygg) (zp (zl underlying95 (Row.cell (hS.bx 0 rfl) (i := 3) rfl)) (zp (yar (vs := (cpy (List.replicate 12 (0 : Int)) r4).map (.int .i64)) hE11 underlying98 rfl (yd4 ygj (hS.rdo 5 rfl)) (ydE (hS.rdo 5 rfl))) (zp (yad hE14) ?_))))); obtain ⟨hx6, h⟩ := h; refine rp_n0 rfl rfl rfl (n_mput (vE := (.int .i64)) (keyt_98) hx6 hx3 (v := v) rfl rfl rfl underlying95 (hS.mp 2 rfl) ?_); intro w10 e1 e2; replace hS := hS.mst 2 rfl e1 e2; clear e1 e2; exact zb (ybz (zs (zq (yad hE14) (zq (za (ii v)) (zq (za (ii 0)) (yaa (yaK rfl rfl rfl ⟨_, _, _, rfl, (hS.sel [0, 2, 3] (by decide)), h⟩)))))))
          · replace h := h.2 hp5; exact yaq (congrArg Value.bool (congrArg Bool.not (Bool.eq_false_iff.2 hp5))) (zs (zq (za (ii (-1))) (zq (za (ii 0)) (yaa (yaK rfl rfl rfl ⟨_, _, _, rfl, (hS.sel [0, 2, 3] (by decide)), h⟩)))))
        · replace h := h.2 hp4; exact zf hp4 (zs (zq (zm (ii r6)) (zq (za (ii 0)) (zq (za (ii r6)) (yaa (yaK rfl rfl rfl ⟨_, _, _, rfl, (hS.sel [0, 2, 3] (by decide)), h⟩))))))
  · replace h := h.2 hp; exact zf hp (zs (zq (zm (ii r2)) (zq (za (ii 0)) (zq (za (ii r2)) (yaa (yaK rfl rfl rfl ⟨_, _, _, rfl, (hS.sel [0, 2, 3] (by decide)), h⟩))))))
theorem yeB {nf} : ∀ {S O : Nat → Prop} {w : World} {d d2 d3 d4 i gc Ad ld cd gm Ai li ci} {R : Int → Int → (List (List Int × Int)) → Prop} (h : ya1 nf d d2 d3 d4 i R) (hS : Sep w S O w (rl [Res.box 97 gc [(Value.int .i64 d), (Value.slice Ad ld cd), (Value.int .i64 d3), (Value.map (some gm))], Res.ro (FP.sl c3 Ad ld cd d2), Res.obj gm (mapO (Value.int .i64) d4), Res.own cI 3 Ai li ci i])), Calls Try.prog 35 #[(Value.pointer (some (⟨gc, 0, none⟩ : Addr))), (Value.slice Ai li ci)] w fun e w' => ∃ r9 r10 z, e = .returned (Value.tuple #[(Value.int .i64 r9), (Value.int .i64 r10)]) ∧ Sep w S O w' (rl [Res.box 97 gc [(Value.int .i64 d), (Value.slice Ad ld cd), (Value.int .i64 d3), (Value.map (some gm))], Res.obj gm (mapO (Value.int .i64) z), Res.own cI 3 Ai li ci i]) ∧ R r9 r10 z := by
  induction nf with
  | zero => intros; rename_i h _; exact h.elim
  | succ nf ih => intro S O w d d2 d3 d4 i gc Ad ld cd gm Ai li ci R h hS; exact yer ih h hS
def ycO (Rec : Int → (List E3) → Int → (List (List Int × Int)) → (List Int) → (Int → Int → (List (List Int × Int)) → Prop) → Prop) (d : Int) (d2 : List E3) (d3 : Int) (d4 : List (List Int × Int)) (i : List Int) (R : Int → Int → (List (List Int × Int)) → Prop) : Prop :=
ybT i (fun r r2 =>
((r2 = 0 →
((r < 0 →
R (-1) 0 d4) ∧
(¬ (r < 0) →
(In64 (2 * d3) ∧
(In64 ((2 * d3) - 2) ∧
((((2 * d3) - 2) < r →
(In64 (r - d3) ∧
R (r - d3) 0 d4)) ∧
(¬ (((2 * d3) - 2) < r) →
yaW d d2 i (fun r3 r4 r5 r6 =>
((r6 = 0 →
((r3 = true →
(0 < r4.length ∧
(KOk 12 d4 ∧
yeW 12 (cpy (List.replicate 12 (0 : Int)) r4) ∧
(((mget d4 (cpy (List.replicate 12 (0 : Int)) r4)).isSome = true →
R ((mget d4 (cpy (List.replicate 12 (0 : Int)) r4)).getD (0 : Int)) 0 d4) ∧
(¬ ((mget d4 (cpy (List.replicate 12 (0 : Int)) r4)).isSome = true) →
((((d4.length : Nat) : Int) = 16384 →
R 0 12 d4) ∧
(¬ (((d4.length : Nat) : Int) = 16384) →
(∃ I2 : Nat → Int → Int → (List (List Int × Int)) → (List Int) → Prop, (∃ m0, I2 m0 r 0 d4 r4) ∧ ∀ m2 v v2 d5 v3, I2 m2 v v2 d5 v3 → 
((v2 < ((r4.length : Nat) : Int) →
((0 ≤ v2 ∧ v2 < ((v3.length : Nat) : Int)) ∧
(In64 ((gi v3 v2.toNat) - 1) ∧
(∃ fu, ya1 fu d d2 d3 d5 (v3.set v2.toNat ((gi v3 v2.toNat) - 1)) (fun r7 r8 y =>
((0 ≤ v2 ∧ v2 < (((v3.set v2.toNat ((gi v3 v2.toNat) - 1)).length : Nat) : Int)) ∧
(In64 ((gi (v3.set v2.toNat ((gi v3 v2.toNat) - 1)) v2.toNat) + 1) ∧
((r8 = 0 →
(In64 (r7 + 1) ∧
(In64 (v2 + 1) ∧
∃ m3, m3 < m2 ∧ I2 m3 (mnF v (r7 + 1)) (v2 + 1) y ((v3.set v2.toNat ((gi v3 v2.toNat) - 1)).set v2.toNat ((gi (v3.set v2.toNat ((gi v3 v2.toNat) - 1)) v2.toNat) + 1))))) ∧
(¬ (r8 = 0) →
R 0 r8 y))))))))) ∧
(¬ (v2 < ((r4.length : Nat) : Int)) →
(KOk 12 d5 ∧
R v 0 (mput d5 (cpy (List.replicate 12 (0 : Int)) r4) v)))))))))))) ∧
(¬ (r3 = true) →
R (-1) 0 d4))) ∧
(¬ (r6 = 0) →
R 0 r6 d4)))))))))) ∧
(¬ (r2 = 0) →
R 0 r2 d4)))
def yb3 : Nat → Int → (List E3) → Int → (List (List Int × Int)) → (List Int) → (Int → Int → (List (List Int × Int)) → Prop) → Prop
  | 0 => fun _ _ _ _ _ _ => False
  | nf + 1 => fun d d2 d3 d4 i R => ycO (yb3 nf) d d2 d3 d4 i R
theorem yeU {Rec : Int → (List E3) → Int → (List (List Int × Int)) → (List Int) → (Int → Int → (List (List Int × Int)) → Prop) → Prop} (hrec : ∀ {S O : Nat → Prop} {w : World} {d d2 d3 d4 i gc Ad ld cd gm Ai li ci} {R : Int → Int → (List (List Int × Int)) → Prop} (h : Rec d d2 d3 d4 i R) (hS : Sep w S O w (rl [Res.box 97 gc [(Value.int .i64 d), (Value.slice Ad ld cd), (Value.int .i64 d3), (Value.map (some gm))], Res.ro (FP.sl c3 Ad ld cd d2), Res.obj gm (mapO (Value.int .i64) d4), Res.ro (FP.sl cI Ai li ci i)])), Calls Try.prog 35 #[(Value.pointer (some (⟨gc, 0, none⟩ : Addr))), (Value.slice Ai li ci)] w fun e w' => ∃ r9 r10 z, e = .returned (Value.tuple #[(Value.int .i64 r9), (Value.int .i64 r10)]) ∧ Sep w S O w' (rl [Res.box 97 gc [(Value.int .i64 d), (Value.slice Ad ld cd), (Value.int .i64 d3), (Value.map (some gm))], Res.obj gm (mapO (Value.int .i64) z)]) ∧ R r9 r10 z) {S O : Nat → Prop} {w : World} {d d2 d3 d4 i gc Ad ld cd gm Ai li ci} {R : Int → Int → (List (List Int × Int)) → Prop} (h : ycO Rec d d2 d3 d4 i R) (hS : Sep w S O w (rl [Res.box 97 gc [(Value.int .i64 d), (Value.slice Ad ld cd), (Value.int .i64 d3), (Value.map (some gm))], Res.ro (FP.sl c3 Ad ld cd d2), Res.obj gm (mapO (Value.int .i64) d4), Res.ro (FP.sl cI Ai li ci i)])) :
    Calls Try.prog 35 #[(.pointer (some (⟨gc, 0, none⟩ : Addr))), (.slice Ai li ci)] w fun e w' => ∃ r9 r10 z, e = .returned (.tuple #[(ii r9), (ii r10)]) ∧ Sep w S O w' (rl [Res.box 97 gc [(ii d), (.slice Ad ld cd), (ii d3), (Value.map (some gm))], Res.obj gm (mapO (.int .i64) z)]) ∧ R r9 r10 z := by
  unfold ycO at h; refine yan (l := [(.pointer (some (⟨gc, 0, none⟩ : Addr))), (.slice Ai li ci)]) func35 rfl ntmps35 (Nat.le_of_ble_eq_true rfl) (zs (zq (za (ii 0)) (zq (za (ii 0)) (yaa (zs (zq (zm (.slice Ai li ci)) (zn (yam rfl (am1 rfl) enter_55 ((yeN h (yaG _) (hS.rdr 3 rfl)).mono ?_))))))))); rintro _ w2 ⟨r, r2, rfl, hC, h⟩; replace hS := hS.pur hC.pure; clear hC; refine ⟨_, rfl, ?_⟩; refine zb (zq (zm (.tuple #[(ii r), (ii r2)])) (zq (zx (ii r)) (zq (zx (ii r2)) (zq (za (ii r)) (zq (za (ii r2)) (yaa (yae (zs (zq (zm (ii r2)) (zq zN (yaa ?_))))))))))); by_cases hp : r2 = 0
  · replace h := h.1 hp; refine ze hp (yah (yae (zs (zq (zm (ii r)) (zq zL (yaa ?_)))))); by_cases hp2 : r < 0
    · replace h := h.1 hp2; exact zc hp2 (zs (zq (za (ii (-1))) (zq (za (ii 0)) (yaa (yaK rfl rfl rfl ⟨_, _, _, rfl, (hS.sel [0, 2] (by decide)), h⟩)))))
    · replace h := h.2 hp2; refine zd hp2 (yah (yae (zs (zq (zm (ii r)) (zq (zm (.pointer (some (⟨gc, 0, none⟩ : Addr)))) (zq (ybm rfl) (zq (yai rfl underlying97 rfl yag) (zq (zl underlying3 (Row.cell (hS.bx 0 rfl) (i := 2) rfl)) ?_)))))))); obtain ⟨hi, h⟩ := h; refine zq (v_mul rfl rfl hi) ?_; obtain ⟨hi2, h⟩ := h; refine zq (zS hi2) (zq zG (yaa ?_)); by_cases hp3 : ((2 * d3) - 2) < r
      · replace h := h.1 hp3; refine zc hp3 (zs (zq (zm (ii r)) (zq (zm (.pointer (some (⟨gc, 0, none⟩ : Addr)))) (zq (ybm rfl) (zq (yai rfl underlying97 rfl yag) (zq (zl underlying3 (Row.cell (hS.bx 0 rfl) (i := 2) rfl)) ?_)))))); obtain ⟨hi3, h⟩ := h; exact zq (zS hi3) (zq (za (ii (r - d3))) (zq (za (ii 0)) (yaa (yaK rfl rfl rfl ⟨_, _, _, rfl, (hS.sel [0, 2] (by decide)), h⟩))))
      · replace h := h.2 hp3; refine zd hp3 (yah (zs (zq (zm (.pointer (some (⟨gc, 0, none⟩ : Addr)))) (zq (ybm rfl) (zq (yai rfl underlying97 rfl yap) (zq (yar (vs := [(ii d), (.slice Ad ld cd)]) rfl underlying24 rfl yap ⟨Row.cell (hS.bx 0 rfl) (i := 0) rfl, Row.cell (hS.bx 0 rfl) (i := 1) rfl, trivial⟩) (zq (zm (.slice Ai li ci)) (zn (yam rfl (am2 rfl rfl) enter_25 ((yck h (yaG _) (hS.rdr 1 rfl) (hS.rdr 3 rfl)).mono ?_)))))))))); rintro _ w3 ⟨r3, r4, r5, r6, Ar, lr, cr, Ar2, lr2, cr2, rfl, hC, h⟩; replace hS := hS.call2 (hC.widen (yea (ybh (fI .i64) _ _ _ _ _) (yea (ybh (fI .i64) _ _ _ _ _) yfn)) hS.blt) 4 0 5 1 rfl rfl (by decide) (by decide); clear hC; refine ⟨_, rfl, ?_⟩; refine zb (zq (zm (.tuple #[(.bool (r3)), (.slice Ar lr cr), (.slice Ar2 lr2 cr2), (ii r6)])) (zq (zx (.bool (r3))) (zq (zx (.slice Ar lr cr)) (zq (zx (.slice Ar2 lr2 cr2)) (zq (zx (ii r6)) (zq (za (.bool (r3))) (zq (za (.slice Ar lr cr)) (zq (za (.slice Ar2 lr2 cr2)) (zq (za (ii r6)) (yaa (yae (zs (zq (zm (ii r6)) (zq zN (yaa ?_))))))))))))))); by_cases hp4 : r6 = 0
        · replace h := h.1 hp4; refine ze hp4 (yah (yae (zs (zq (zm (.bool (r3))) (zq (ydm rfl) (yaa ?_)))))); by_cases hp5 : r3 = true
          · replace h := h.1 hp5; refine yaA (congrArg Value.bool (congrArg Bool.not hp5)) (yah (zs (zn (ya4 ygj ?_)))); intro g w4 hN; replace hS := hS.made (n := 12) 6 rfl cI (ii 0) (0 : Int) (fun _ _ => rfl) (hN : New _ _ _ (Array.replicate 12 (ii 0)) 98) (by decide); clear hN; refine zb (yaa (zs (zq (yhG rfl underlying98 yag) (zq (zm (.slice Ar lr cr)) ?_)))); obtain ⟨hx, h⟩ := h; refine zn (n_cpy rfl rfl underlying25 yag hS 6 rfl (hS.rdo 4 rfl) hx ?_); clear hS; intro w5 hS; refine zb (yaa (yae (yae (ybi [0, 1, 2, 3, 4, 5, 6, 7, 8, 9, 10] st0 ybr (by kernel_rfl) (by kernel_rfl) ?_)))); replace hS := hS.drew; refine zp (zm (.pointer (some (⟨gc, 0, none⟩ : Addr)))) (zp (ybm rfl) (zp (yai rfl underlying97 rfl ygg) (zp (zl underlying95 (Row.cell (hS.bx 0 rfl) (i := 3) rfl)) (zp (yar (vs := (cpy (List.replicate 12 (0 : Int)) r4).map (.int .i64)) rfl underlying98 rfl (yd4 ygj (hS.rdo 6 rfl)) (ydE (hS.rdo 6 rfl))) ?_)))); obtain ⟨hx2, h⟩ := h; obtain ⟨hx3, h⟩ := h; refine rp_n rfl rfl rfl rfl (n_val (v_mget (vE := (.int .i64)) (x0 := (0 : Int)) (keyt_98) hx2 hx3 rfl rfl underlying95 yag (hS.mp 2 rfl)) ?_); refine zb (zp (zm (.tuple #[(ii ((mget d4 (cpy (List.replicate 12 (0 : Int)) r4)).getD (0 : Int))), (.bool ((mget d4 (cpy (List.replicate 12 (0 : Int)) r4)).isSome))])) (zp (zx (ii ((mget d4 (cpy (List.replicate 12 (0 : Int)) r4)).getD (0 : Int)))) (zp (zx (.bool ((mget d4 (cpy (List.replicate 12 (0 : Int)) r4)).isSome))) (zp (za (ii ((mget d4 (cpy (List.replicate 12 (0 : Int)) r4)).getD (0 : Int)))) (zp (za (.bool ((mget d4 (cpy (List.replicate 12 (0 : Int)) r4)).isSome))) (ybz (zs (zq (zm (.bool ((mget d4 (cpy (List.replicate 12 (0 : Int)) r4)).isSome))) (yaa ?_))))))))); by_cases hp6 : (mget d4 (cpy (List.replicate 12 (0 : Int)) r4)).isSome = true
            · replace h := h.1 hp6; exact yaq (congrArg Value.bool hp6) (zs (zq (zm (ii ((mget d4 (cpy (List.replicate 12 (0 : Int)) r4)).getD (0 : Int)))) (zq (za (ii ((mget d4 (cpy (List.replicate 12 (0 : Int)) r4)).getD (0 : Int)))) (zq (za (ii 0)) (yaa (yaK rfl rfl rfl ⟨_, _, _, rfl, (hS.sel [0, 2] (by decide)), h⟩))))))
            · replace h := h.2 hp6; refine yaA (congrArg Value.bool (Bool.eq_false_iff.2 hp6)) (yah (yae (zs (zq (zm (.pointer (some (⟨gc, 0, none⟩ : Addr)))) (zq (ybm rfl) (zq (yai rfl underlying97 rfl ygg) (zq (zl underlying95 (Row.cell (hS.bx 0 rfl) (i := 3) rfl)) (zq (v_mlen rfl underlying95 (hS.mp 2 rfl)) (zq zE (yaa ?_)))))))))); by_cases hp7 : ((d4.length : Nat) : Int) = 16384
              · replace h := h.1 hp7; exact zc hp7 (zs (zq (za (ii 0)) (zq (za (ii 12)) (yaa (yaK rfl rfl rfl ⟨_, _, _, rfl, (hS.sel [0, 2] (by decide)), h⟩)))))
              · replace h := h.2 hp7; refine zd hp7 (yah (zs (zq (zm (ii r)) (zq (za (ii r)) (yaa (yae (zs (zq (zm (.slice Ar lr cr)) (zq (yaV (n := r4.length) rfl underlying26 (yaR (hS.rdo 4 rfl))) (zq (zm (ii 0)) (yaa (yak ?_)))))))))))); obtain ⟨I2, ⟨m0, h0⟩, hr⟩ := h; refine yaC (fun m E ds w' => ∃ v v2 d5 v3 Av lv cv, I2 m v v2 d5 v3 ∧ ds = [] ∧ E 0 = (Value.pointer (some (⟨gc, 0, none⟩ : Addr))) ∧ E 9 = (Value.slice Av lv cv) ∧ E 11 = (Value.pointer (some (⟨g, 0, none⟩ : Addr))) ∧ E 14 = (ii v) ∧ E 80 = (ii ((r4.length : Nat) : Int)) ∧ E 81 = (ii v2) ∧ Sep w S O w' (rl [Res.box 97 gc [(ii d), (.slice Ad ld cd), (ii d3), (Value.map (some gm))], Res.ro (FP.sl c3 Ad ld cd d2), Res.obj gm (mapO (.int .i64) d5), Res.own cI 3 Av lv cv v3, Res.own cI 98 (some ⟨g, 0, none⟩) 12 12 (cpy (List.replicate 12 (0 : Int)) r4)])) m0 ⟨_, _, _, _, _, _, _, h0, rfl, rfl, rfl, rfl, rfl, rfl, rfl, (hS.sel [0, 1, 2, 4, 6] (by decide))⟩ ?_; clear h0 hS; rintro m2 E ds w6 ⟨v, v2, d5, v3, Av, lv, cv, h, rfl, hE0, hE9, hE11, hE14, hE80, hE81, hS⟩ again; replace h := hr m2 v v2 d5 v3 h; clear hr; refine zs (zq (ycR hE81 hE80) (yaa (yae ?_))); by_cases hp8 : v2 < ((r4.length : Nat) : Int)
                · replace h := h.1 hp8; refine zc hp8 (yah (yae (yak (zs (zq (yad hE81) (zq (za (ii v2)) (yaa (zs (zq (yad hE9) (zq (zm (ii v2)) ?_)))))))))); obtain ⟨hx4, h⟩ := h; refine zq (zi underlying26 yag (yaQ (hS.rdo 3 rfl) hx4)) (zq (yax (v := (ii (gi v3 v2.toNat))) rfl underlying3 rfl (rd_1 (hS.rdo 3 rfl) hx4 (fun q => yaF q) rfl)) ?_); obtain ⟨hi4, h⟩ := h; refine zq (zS hi4) (zq (zi underlying26 yag (yaQ (hS.rdo 3 rfl) hx4)) (zo (zt (ii ((gi v3 v2.toNat) - 1)) yag (hS.wr 3 rfl rfl hx4) ?_))); intro w7 e1; replace hS := hS.st 3 rfl rfl hx4 (x := (gi v3 v2.toNat) - 1) rfl e1; clear e1; refine zb (yaa (zs (zq (yad (v := (.pointer (some (⟨gc, 0, none⟩ : Addr)))) hE0) (zq (yad hE9) ?_)))); obtain ⟨fu, h⟩ := h; have hB := hS.lend (asc [(0, 0), (2, 1), (3, 2)]) [0, 1, 2, 3] (by decide) ⟨.inl (ycW rfl), .inr rfl, .inl (ycW rfl), .inl (ycW rfl), trivial⟩; refine zn (yeS (vs := #[(.pointer (some (⟨gc, 0, none⟩ : Addr))), (.slice Av lv cv)]) (us := #[]) rfl (am2 rfl rfl) enter_35 ((ych (by simp) (yeB h hB)).mono ?_)); rintro _ w8 ⟨r7, r8, y, rfl, hC, h⟩; replace hS := hS.back (asc [(0, 0), (2, 1), (3, 2)]) (yec (by decide)) hC; clear hC hB; refine ⟨_, rfl, ?_⟩; refine zb (zq (zm (.tuple #[(ii r7), (ii r8)])) (zq (zx (ii r7)) (zq (zx (ii r8)) (zq (za (ii r7)) (zq (za (ii r8)) (yaa (zs (zq (yad hE9) (zq (zm (ii v2)) ?_))))))))); obtain ⟨hx5, h⟩ := h; refine zq (zi underlying26 yag (yaQ (hS.rdo 3 rfl) hx5)) (zq (yax (v := (ii (gi (v3.set v2.toNat ((gi v3 v2.toNat) - 1)) v2.toNat))) rfl underlying3 rfl (rd_1 (hS.rdo 3 rfl) hx5 (fun q => yaF q) rfl)) ?_); obtain ⟨hi5, h⟩ := h; refine zq (zA hi5) (zq (zi underlying26 yag (yaQ (hS.rdo 3 rfl) hx5)) (zo (zt (ii ((gi (v3.set v2.toNat ((gi v3 v2.toNat) - 1)) v2.toNat) + 1)) yag (hS.wr 3 rfl rfl hx5) ?_))); intro w9 e1; replace hS := hS.st 3 rfl rfl hx5 (x := (gi (v3.set v2.toNat ((gi v3 v2.toNat) - 1)) v2.toNat) + 1) rfl e1; clear e1; refine zb (yaa (yae (zs (zq (zm (ii r8)) (zq zN (yaa ?_)))))); by_cases hp9 : r8 = 0
                  · replace h := h.1 hp9; refine ze hp9 (yah (zr (zq (yad hE14) (zq (zm (ii r7)) ?_)))); obtain ⟨hi6, h⟩ := h; refine zq (zA hi6) (zq (yhi rfl rfl) (zq (za (ii (mnF v (r7 + 1)))) (yaa (yaj (zr ?_))))); obtain ⟨hi7, h⟩ := h; refine zq (ybf hE81 rfl hi7) (zq (zm (ii (v2 + 1))) (yaa ?_)); obtain ⟨mq, hlt, h⟩ := h; exact again mq _ _ _ ⟨_, _, _, _, _, _, _, h, rfl, hE0, hE9, hE11, rfl, hE80, rfl, (hS.sel [0, 1, 2, 3, 4] (by decide))⟩ hlt
                  · replace h := h.2 hp9; exact zf hp9 (zs (zq (zm (ii r8)) (zq (za (ii 0)) (zq (za (ii r8)) (yaa (yaK rfl rfl rfl ⟨_, _, _, rfl, (hS.sel [0, 2] (by decide)), h⟩))))))
                · replace h := h.2 hp8; refine zd hp8 (yay rfl (yae (ybi [0, 1, 2, 3, 4, 5, 6] st0 ybr (by kernel_rfl) (by kernel_rfl) ?_))); replace hS := hS.drew; refine zp (yad (v := (.pointer (some (⟨gc, 0, none⟩ : Addr)))) hE0) (zp (ybm rfl) (zp (yai rfl underlying97 rfl ygg) (zp (zl underlying95 (Row.cell (hS.bx 0 rfl) (i := 3) rfl)) (zp (yar (vs := (cpy (List.replicate 12 (0 : Int)) r4).map (.int .i64)) hE11 underlying98 rfl (yd4 ygj (hS.rdo 4 rfl)) (ydE (hS.rdo 4 rfl))) (zp (yad hE14) ?_))))); obtain ⟨hx6, h⟩ := h; refine rp_n0 rfl rfl rfl (n_mput (vE := (.int .i64)) (keyt_98) hx6 hx3 (v := v) rfl rfl rfl underlying95 (hS.mp 2 rfl) ?_); intro w10 e1 e2; replace hS := hS.mst 2 rfl e1 e2; clear e1 e2; exact zb (ybz (zs (zq (yad hE14) (zq (za (ii v)) (zq (za (ii 0)) (yaa (yaK rfl rfl rfl ⟨_, _, _, rfl, (hS.sel [0, 2] (by decide)), h⟩)))))))
          · replace h := h.2 hp5; exact yaq (congrArg Value.bool (congrArg Bool.not (Bool.eq_false_iff.2 hp5))) (zs (zq (za (ii (-1))) (zq (za (ii 0)) (yaa (yaK rfl rfl rfl ⟨_, _, _, rfl, (hS.sel [0, 2] (by decide)), h⟩)))))
        · replace h := h.2 hp4; exact zf hp4 (zs (zq (zm (ii r6)) (zq (za (ii 0)) (zq (za (ii r6)) (yaa (yaK rfl rfl rfl ⟨_, _, _, rfl, (hS.sel [0, 2] (by decide)), h⟩))))))
  · replace h := h.2 hp; exact zf hp (zs (zq (zm (ii r2)) (zq (za (ii 0)) (zq (za (ii r2)) (yaa (yaK rfl rfl rfl ⟨_, _, _, rfl, (hS.sel [0, 2] (by decide)), h⟩))))))
theorem yfl {nf} : ∀ {S O : Nat → Prop} {w : World} {d d2 d3 d4 i gc Ad ld cd gm Ai li ci} {R : Int → Int → (List (List Int × Int)) → Prop} (h : yb3 nf d d2 d3 d4 i R) (hS : Sep w S O w (rl [Res.box 97 gc [(Value.int .i64 d), (Value.slice Ad ld cd), (Value.int .i64 d3), (Value.map (some gm))], Res.ro (FP.sl c3 Ad ld cd d2), Res.obj gm (mapO (Value.int .i64) d4), Res.ro (FP.sl cI Ai li ci i)])), Calls Try.prog 35 #[(Value.pointer (some (⟨gc, 0, none⟩ : Addr))), (Value.slice Ai li ci)] w fun e w' => ∃ r9 r10 z, e = .returned (Value.tuple #[(Value.int .i64 r9), (Value.int .i64 r10)]) ∧ Sep w S O w' (rl [Res.box 97 gc [(Value.int .i64 d), (Value.slice Ad ld cd), (Value.int .i64 d3), (Value.map (some gm))], Res.obj gm (mapO (Value.int .i64) z)]) ∧ R r9 r10 z := by
  induction nf with
  | zero => intros; rename_i h _; exact h.elim
  | succ nf ih => intro S O w d d2 d3 d4 i gc Ad ld cd gm Ai li ci R h hS; exact yeU ih h hS
def yc1 (g : Int) (g2 : List E3) (d : List Int) (R : Int → Int → Prop) : Prop :=
ydb g g2 ([d]) (fun r =>
((r = 0 →
yeo g g2 (fun r2 =>
((r2 = 0 →
False) ∧
(¬ (r2 = 0) →
R 0 r2)))
(fun f f2 f3 m2 r3 =>
((r3 = 0 →
(∃ fu, yb3 fu f f2 f3 m2 d (fun r4 r5 y =>
R r4 r5))) ∧
(¬ (r3 = 0) →
R 0 r3)))) ∧
(¬ (r = 0) →
R 0 r)))
theorem pok_rank_Rank {O : Nat → Prop} {w : World} {g g2 d Ag lg cg Ad ld cd} {R : Int → Int → Prop} (h : yc1 g g2 d R) (hO : ∀ k, O k → k < w.heap.size) (hA0 : (FP.sl c3 Ag lg cg g2).P O w) (hA1 : (FP.sl cI Ad ld cd d).P O w) :
    Calls Try.prog 16 #[(.agg #[(ii g), (.slice Ag lg cg)]), (.slice Ad ld cd)] w fun e w' => ∃ r6 r7, e = .returned (.tuple #[(ii r6), (ii r7)]) ∧ Sep w no O w' (rl []) ∧ R r6 r7 := by
  unfold yc1 at h; have hS : Sep w no O w (rl [Res.ro (FP.sl c3 Ag lg cg g2), Res.ro (FP.sl cI Ad ld cd d)]) := Sep.startl hO [(FP.sl c3 Ag lg cg g2), (FP.sl cI Ad ld cd d)] ⟨hA0, hA1, trivial⟩; refine yan (l := [(.agg #[(ii g), (.slice Ag lg cg)]), (.slice Ad ld cd)]) func16 rfl ntmps16 (Nat.le_of_ble_eq_true rfl) (zs (zn (ybO (v := (.agg #[(ii g), (.slice Ag lg cg)])) rfl ?_))); intro g3 w2 hN; replace hS : Sep w no O w2 (stl _ 2 (Res.box 24 g3 [(ii g), (.slice Ag lg cg)])) := hS.new 2 rfl hN; clear hN; refine zb (zq (za (ii 0)) (zq (za (ii 0)) (yaa (yae (zs (zq (yar (vs := [(ii g), (.slice Ag lg cg)]) rfl underlying24 rfl yap ⟨Row.cell (hS.bx 2 rfl) (i := 0) rfl, Row.cell (hS.bx 2 rfl) (i := 1) rfl, trivial⟩) (zq (zm (.slice Ad ld cd)) (zn (ybd (l := [(0, (.slice Ad ld cd))]) (cells := [(.slice Ad ld cd)]) (bp1 rfl) underlying90 yco rfl rfl ?_))))))))); intro g4 w3 hN; replace hS := hS.lit (n := 1) (c := (cL cI)) 3 rfl hN ([d] : List (List Int)) rfl (by decide) ⟨[(.slice Ad ld cd)], _, rfl, (ro_R (hS.ro 1 rfl)), rfl⟩; clear hN; refine zb (zn (yam rfl (am2 rfl rfl) enter_33 ((pok_rank_given h (yaG _) (hS.rdr 0 rfl) (hS.rdo 3 rfl)).mono ?_))); rintro _ w4 ⟨r, rfl, hC, h⟩; replace hS := hS.pur hC.pure; clear hC; refine ⟨_, rfl, ?_⟩; refine zb (zq (za (ii r)) (yaa (zs (zq (zm (ii r)) (zq zN (yaa ?_)))))); by_cases hp : r = 0
  · replace h := h.1 hp; refine ze hp (yah (zs (zq (yar (vs := [(ii g), (.slice Ag lg cg)]) rfl underlying24 rfl yap ⟨Row.cell (hS.bx 2 rfl) (i := 0) rfl, Row.cell (hS.bx 2 rfl) (i := 1) rfl, trivial⟩) (zn (yam rfl (am1 rfl) enter_34 ((pok_rank_of h hS.blt (hS.ro 0 rfl)).mono ?_)))))); rintro _ w5 (⟨r2, rfl, hC, h⟩ | ⟨f, f2, f3, m2, r3, gr, Af, lf, cf, gm, rfl, hC, h⟩)
    · replace hS := hS.pur hC.pure; clear hC; refine ⟨_, rfl, ?_⟩; refine zb (zq (zm (.tuple #[(.pointer none), (ii r2)])) (zq (zx (.pointer none)) (zq (zx (ii r2)) (zq (za (.pointer none)) (zq (za (ii r2)) (yaa (yae (zs (zq (zm (ii r2)) (zq zN (yaa ?_))))))))))); by_cases hp2 : r2 = 0
      · replace h := h.1 hp2; exact ze hp2 (yah (zs (zq (zm (.pointer none)) (zq (zm (.slice Ad ld cd)) h.elim))))
      · replace h := h.2 hp2; exact zf hp2 (zs (zq (zm (ii r2)) (zq (za (ii 0)) (zq (za (ii r2)) (yaa (yaK rfl rfl rfl ⟨_, _, rfl, (hS.sel [] (by decide)), h⟩))))))
    · replace hS := hS.call3 hC 4 5 6 rfl rfl rfl (by decide) (by decide) (by decide); clear hC; refine ⟨_, rfl, ?_⟩; refine zb (zq (zm (.tuple #[(.pointer (some (⟨gr, 0, none⟩ : Addr))), (ii r3)])) (zq (zx (.pointer (some (⟨gr, 0, none⟩ : Addr)))) (zq (zx (ii r3)) (zq (za (.pointer (some (⟨gr, 0, none⟩ : Addr)))) (zq (za (ii r3)) (yaa (yae (zs (zq (zm (ii r3)) (zq zN (yaa ?_))))))))))); by_cases hp3 : r3 = 0
      · replace h := h.1 hp3; refine ze hp3 (yah (zs (zq (zm (.pointer (some (⟨gr, 0, none⟩ : Addr)))) (zq (zm (.slice Ad ld cd)) ?_)))); obtain ⟨fu, h⟩ := h; have hB := hS.lend (asc [(4, 0), (6, 1)]) [4, 5, 6, 1] (by decide) ⟨.inl (ycW rfl), .inr rfl, .inl (ycW rfl), .inr rfl, trivial⟩; refine zn (yeS (vs := #[(.pointer (some (⟨gr, 0, none⟩ : Addr))), (.slice Ad ld cd)]) (us := #[]) rfl (am2 rfl rfl) enter_35 ((ych (by simp) (yfl h hB)).mono ?_)); rintro _ w6 ⟨r4, r5, y, rfl, hC, h⟩; replace hS := hS.back (asc [(4, 0), (6, 1)]) (yec (by decide)) hC; clear hC hB; refine ⟨_, rfl, ?_⟩; exact zb (zq (zx (ii r4)) (zq (zx (ii r5)) (zq (za (ii r4)) (zq (za (ii r5)) (yaa (yaK rfl rfl rfl ⟨_, _, rfl, (hS.sel [] (by decide)), h⟩))))))
      · replace h := h.2 hp3; exact zf hp3 (zs (zq (zm (ii r3)) (zq (za (ii 0)) (zq (za (ii r3)) (yaa (yaK rfl rfl rfl ⟨_, _, rfl, (hS.sel [] (by decide)), h⟩))))))
  · replace h := h.2 hp; exact zf hp (zs (zq (zm (ii r)) (zq (za (ii 0)) (zq (za (ii r)) (yaa (yaK rfl rfl rfl ⟨_, _, rfl, (hS.sel [] (by decide)), h⟩))))))
end Go.Proofs.Ytncilechkclmbaa

/- Pure forms of functions, made by program (pf.py), each with the proof that the code does so. -/
namespace Go.Proofs.Ytncilechkclmbaa
open Go Go.RowKit Go.Shelf Go.Proofs.Try
set_option linter.unusedVariables false
set_option maxRecDepth 100000
set_option maxHeartbeats 1000000
end Go.Proofs.Ytncilechkclmbaa
