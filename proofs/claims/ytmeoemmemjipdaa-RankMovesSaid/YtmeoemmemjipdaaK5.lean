/- Texts laid together: Pa, Pb, Pt, Pe, Pg, PEa, PEb. -/
import Derived.Test.YtmeoemmemjipdaaK4
/- Pure forms of functions, made by program (pf.py), each with the proof that the code does so. -/
namespace Go.Proofs.Ytmeoemmemjipdaa
open Go Go.RowKit Go.Shelf Go.Proofs.Try
set_option linter.unusedVariables false
set_option maxRecDepth 100000
set_option maxHeartbeats 1000000
def ye3 (k : Int) (R : Bool → Prop) : Prop :=
(((-1048576) ≤ k →
R (decide (k ≤ 1048576))) ∧
(¬ ((-1048576) ≤ k) →
R false))
theorem pok_r17_In {O : Nat → Prop} {w : World} {k} {R : Bool → Prop} (h : ye3 k R) (hO : ∀ k, O k → k < w.heap.size) :
    Calls Try.prog 73 #[(ii k)] w fun e w' => ∃ r, e = .returned (.bool (r)) ∧ Sep w no O w' (rl []) ∧ R r := by
  unfold ye3 at h; have hS : Sep w no O w (rl []) := Sep.start w hO; refine yap (l := [(ii k)]) func73 rfl ntmps73 (Nat.le_of_ble_eq_true rfl) (zs (zq (za (.bool (false))) (yaa (zs (zq (zm (ii k)) (zq (v_geq rfl rfl) (zq (zm (.bool (decide ((-1048576) ≤ k)))) ?_))))))); by_cases hp : (-1048576) ≤ k
  · replace h := h.1 hp; exact rl_q (yad rfl (yaf rfl (congrArg Value.bool (decide_eq_true hp)))) rfl rfl (zm (ii k)) (rl_q (yad rfl (yaf rfl (congrArg Value.bool (decide_eq_true hp)))) rfl rfl (v_leq rfl rfl) (zq (yaw (v := (.bool (decide (k ≤ 1048576)))) (congrArg Value.bool (decide_eq_true hp)) rfl) (zq (za (.bool (decide (k ≤ 1048576)))) (yaa (yak rfl rfl ⟨_, rfl, (hS.sel [] (by decide)), h⟩)))))
  · replace h := h.2 hp; exact rl_p (yab rfl (yaf rfl (congrArg Value.bool (decide_eq_false hp))) rfl) rfl (rl_p (yab rfl (yaf rfl (congrArg Value.bool (decide_eq_false hp))) rfl) rfl (zq (yay (v := (.bool (false))) (congrArg Value.bool (decide_eq_false hp)) rfl) (zq (za (.bool (false))) (yaa (yak rfl rfl ⟨_, rfl, (hS.sel [] (by decide)), h⟩)))))
def ycB (d : List Int) (n : Int) (R : Int → Prop) : Prop :=
(∃ J2 : Prop, (J2 → ((((d.length : Nat) : Int) = n →
(∃ I2 : Nat → Int → Prop, (∃ m0, I2 m0 0) ∧ ∀ m2 v, I2 m2 v → 
((v < n →
((0 ≤ v ∧ v < ((d.length : Nat) : Int)) ∧
ye3 (gi d v.toNat) (fun r =>
((r = true →
(In64 (v + 1) ∧
∃ m3, m3 < m2 ∧ I2 m3 (v + 1))) ∧
(¬ (r = true) →
R 2))))) ∧
(¬ (v < n) →
R 0)))) ∧
(¬ (((d.length : Nat) : Int) = n) →
R 8))) ∧
((n < 1 →
R 2) ∧
(¬ (n < 1) →
((12 < n →
R 2) ∧
(¬ (12 < n) →
J2)))))
theorem yfL {O : Nat → Prop} {w : World} {d n Ad ld cd} {R : Int → Prop} (h : ycB d n R) (hO : ∀ k, O k → k < w.heap.size) (hA0 : (FP.sl cI Ad ld cd d).P O w) :
    Calls Try.prog 31 #[(.slice Ad ld cd), (ii n)] w fun e w' => ∃ r2, e = .returned (ii r2) ∧ Sep w no O w' (rl []) ∧ R r2 := by
  unfold ycB at h; have hS : Sep w no O w (rl [Res.ro (FP.sl cI Ad ld cd d)]) := Sep.startl hO [(FP.sl cI Ad ld cd d)] ⟨hA0, trivial⟩; refine yap (l := [(.slice Ad ld cd), (ii n)]) func31 rfl ntmps31 (Nat.le_of_ble_eq_true rfl) (zs (zq (za (ii 0)) (yaa (yae (yae ?_))))); obtain ⟨J2, hJ, h⟩ := h; refine ydX (fun E ds w' => J2 ∧ ds = [] ∧ E 0 = (Value.slice Ad ld cd) ∧ E 1 = (ii n) ∧ Sep w no O w' (rl [Res.ro (FP.sl cI Ad ld cd d)])) ?_ ?_
  · clear h hS; rintro E ds w2 ⟨h, rfl, hE0, hE1, hS⟩; replace h := hJ h; refine yae (zs (zq (yac hE0) (zq (yaZ (n := d.length) rfl underlying26 (yaS (hS.rdr 0 rfl))) (zq (yac hE1) (zq zN (yaa ?_)))))); by_cases hp : ((d.length : Nat) : Int) = n
    · replace h := h.1 hp; refine ze hp (yai (yae (zs (zq (za (ii 0)) (yaa (yam ?_)))))); obtain ⟨I2, ⟨m0, h0⟩, hr⟩ := h; refine yaC (fun m E ds w' => ∃ v, I2 m v ∧ ds = [] ∧ E 0 = (Value.slice Ad ld cd) ∧ E 1 = (ii n) ∧ E 5 = (ii v) ∧ Sep w no O w' (rl [Res.ro (FP.sl cI Ad ld cd d)])) m0 ⟨_, h0, rfl, hE0, hE1, rfl, (hS.sel [0] (by decide))⟩ ?_; clear h0 hS; rintro m2 E ds w3 ⟨v, h, rfl, hE0, hE1, hE5, hS⟩ again; replace h := hr m2 v h; clear hr; refine yae (zs (zq (yac hE5) (zq (yac hE1) (zq zL (yaa ?_))))); by_cases hp2 : v < n
      · replace h := h.1 hp2; refine zc hp2 (yai (yae (yam (zs (zq (yac hE0) (zq (yac hE5) ?_)))))); obtain ⟨hx, h⟩ := h; refine zq (zi underlying26 yah (yaM (hS.rdr 0 rfl) hx)) (zq (yag (v := (ii (gi d v.toNat))) rfl underlying3 rfl (rd_1 (hS.rdr 0 rfl) hx (fun q => yaH q) rfl)) ?_); refine zn (yan rfl (am1 rfl) enter_73 ((pok_r17_In h (yaK _)).mono ?_)); rintro _ w4 ⟨r, rfl, hC, h⟩; replace hS := hS.pur hC.pure; clear hC; refine ⟨_, rfl, ?_⟩; refine zb (zq (ycV rfl) (yaa ?_)); by_cases hp3 : r = true
        · replace h := h.1 hp3; refine yaz (congrArg Value.bool (congrArg Bool.not hp3)) (yai (yal (zr (zq (yac hE5) ?_)))); obtain ⟨hi, h⟩ := h; refine zq (zA hi) (zq (za (ii (v + 1))) (yaa ?_)); obtain ⟨mq, hlt, h⟩ := h; exact again mq _ _ _ ⟨_, h, rfl, hE0, hE1, rfl, (hS.sel [0] (by decide))⟩ hlt
        · replace h := h.2 hp3; exact yau (congrArg Value.bool (congrArg Bool.not (Bool.eq_false_iff.2 hp3))) (zs (zq (za (ii 2)) (yaa (yak rfl rfl ⟨_, rfl, (hS.sel [] (by decide)), h⟩))))
      · replace h := h.2 hp2; exact zd hp2 (yaA rfl (zs (zq (za (ii 0)) (yaa (yak rfl rfl ⟨_, rfl, (hS.sel [] (by decide)), h⟩)))))
    · replace h := h.2 hp; exact zf hp (zs (zq (za (ii 8)) (yaa (yak rfl rfl ⟨_, rfl, (hS.sel [] (by decide)), h⟩))))
  clear hJ; intro j; refine zr (zq (zm (ii n)) (zq zL (zq (zm (.bool (decide (n < 1)))) ?_))); by_cases hp4 : n < 1
  · replace h := h.1 hp4; exact rl_p (yab rfl (yaf rfl (congrArg Value.bool (decide_eq_true hp4))) rfl) rfl (rl_p (yab rfl (yaf rfl (congrArg Value.bool (decide_eq_true hp4))) rfl) rfl (zq (yaw (v := (.bool (true))) (congrArg Value.bool (decide_eq_true hp4)) rfl) (yaa (yau rfl (zs (zq (za (ii 2)) (yaa (yak rfl rfl ⟨_, rfl, (hS.sel [] (by decide)), h⟩))))))))
  · replace h := h.2 hp4; refine rl_q (yad rfl (yaf rfl (congrArg Value.bool (decide_eq_false hp4)))) rfl rfl (zm (ii n)) (rl_q (yad rfl (yaf rfl (congrArg Value.bool (decide_eq_false hp4)))) rfl rfl zG (zq (yay (v := (.bool (decide (12 < n)))) (congrArg Value.bool (decide_eq_false hp4)) rfl) (yaa ?_))); by_cases hp5 : 12 < n
    · replace h := h.1 hp5; exact zc hp5 (zs (zq (za (ii 2)) (yaa (yak rfl rfl ⟨_, rfl, (hS.sel [] (by decide)), h⟩))))
    · replace h := h.2 hp5; exact zd hp5 (yai (j _ _ _ ⟨h, rfl, rfl, rfl, (hS.sel [0] (by decide))⟩))
def yh9 (d : List Int) (R : Int → Prop) : Prop :=
(∃ I2 : Nat → Int → Int → Prop, (∃ m0, I2 m0 0 0) ∧ ∀ m2 n v, I2 m2 n v → 
((v < ((d.length : Nat) : Int) →
((0 ≤ v ∧ v < ((d.length : Nat) : Int)) ∧
(In64 (n + (gi d v.toNat)) ∧
(In64 (v + 1) ∧
∃ m3, m3 < m2 ∧ I2 m3 (n + (gi d v.toNat)) (v + 1))))) ∧
(¬ (v < ((d.length : Nat) : Int)) →
R n)))
theorem yiR {O : Nat → Prop} {w : World} {d Ad ld cd} {R : Int → Prop} (h : yh9 d R) (hO : ∀ k, O k → k < w.heap.size) (hA0 : (FP.sl cI Ad ld cd d).P O w) :
    Calls Try.prog 20 #[(.slice Ad ld cd)] w fun e w' => ∃ r, e = .returned (ii r) ∧ Sep w no O w' (rl []) ∧ R r := by
  unfold yh9 at h; have hS : Sep w no O w (rl [Res.ro (FP.sl cI Ad ld cd d)]) := Sep.startl hO [(FP.sl cI Ad ld cd d)] ⟨hA0, trivial⟩; refine yap (l := [(.slice Ad ld cd)]) func20 rfl ntmps20 (Nat.le_of_ble_eq_true rfl) (zs (zq (za (ii 0)) (yaa (zs (zq (za (ii 0)) (yaa (yae (zs (zq (za (ii 0)) (yaa (yam ?_))))))))))); obtain ⟨I2, ⟨m0, h0⟩, hr⟩ := h; refine yaC (fun m E ds w' => ∃ n v, I2 m n v ∧ ds = [] ∧ E 0 = (Value.slice Ad ld cd) ∧ E 3 = (ii n) ∧ E 4 = (ii v) ∧ Sep w no O w' (rl [Res.ro (FP.sl cI Ad ld cd d)])) m0 ⟨_, _, h0, rfl, rfl, rfl, rfl, (hS.sel [0] (by decide))⟩ ?_; clear h0 hS; rintro m2 E ds w2 ⟨n, v, h, rfl, hE0, hE3, hE4, hS⟩ again; replace h := hr m2 n v h; clear hr; refine yae (zs (zq (yac hE4) (zq (yac hE0) (zq (yaZ (n := d.length) rfl underlying26 (yaS (hS.rdr 0 rfl))) (zq zL (yaa ?_)))))); by_cases hp : v < ((d.length : Nat) : Int)
  · replace h := h.1 hp; refine zc hp (yai (yae (yam (zr (zq (yac hE3) (zq (yac hE0) (zq (yac hE4) ?_))))))); obtain ⟨hx, h⟩ := h; refine zq (zi underlying26 yah (yaM (hS.rdr 0 rfl) hx)) (zq (yag (v := (ii (gi d v.toNat))) rfl underlying3 rfl (rd_1 (hS.rdr 0 rfl) hx (fun q => yaH q) rfl)) ?_); obtain ⟨hi, h⟩ := h; refine zq (zA hi) (zq (za (ii (n + (gi d v.toNat)))) (yaa (yal (zr (zq (yac hE4) ?_))))); obtain ⟨hi2, h⟩ := h; refine zq (zA hi2) (zq (za (ii (v + 1))) (yaa ?_)); obtain ⟨mq, hlt, h⟩ := h; exact again mq _ _ _ ⟨_, _, h, rfl, hE0, rfl, rfl, (hS.sel [0] (by decide))⟩ hlt
  · replace h := h.2 hp; exact zd hp (yaA rfl (zs (zq (yac hE3) (zq (za (ii n)) (yaa (yak rfl rfl ⟨_, rfl, (hS.sel [] (by decide)), h⟩))))))
def yce (g : Int) (g2 : List E3) (v : Int) (R : Bool → Prop) : Prop :=
((0 ≤ v →
R (decide (v < g))) ∧
(¬ (0 ≤ v) →
R false))
theorem yfn {O : Nat → Prop} {w : World} {g g2 v Ag lg cg} {R : Bool → Prop} (h : yce g g2 v R) (hO : ∀ k, O k → k < w.heap.size) (hA0 : (FP.sl c3 Ag lg cg g2).P O w) :
    Calls Try.prog 158 #[(.agg #[(ii g), (.slice Ag lg cg)]), (ii v)] w fun e w' => ∃ r, e = .returned (.bool (r)) ∧ Sep w no O w' (rl []) ∧ R r := by
  unfold yce at h; have hS : Sep w no O w (rl [Res.ro (FP.sl c3 Ag lg cg g2)]) := Sep.startl hO [(FP.sl c3 Ag lg cg g2)] ⟨hA0, trivial⟩; refine yap (l := [(.agg #[(ii g), (.slice Ag lg cg)]), (ii v)]) func158 rfl ntmps158 (Nat.le_of_ble_eq_true rfl) (zs (zn (ybq (v := (.agg #[(ii g), (.slice Ag lg cg)])) rfl ?_))); intro g3 w2 hN; replace hS : Sep w no O w2 (stl _ 1 (Res.box 24 g3 [(ii g), (.slice Ag lg cg)])) := hS.new 1 rfl hN; clear hN; refine zb (zq (za (.bool (false))) (yaa (zs (zq (zm (ii v)) (zq (v_geq rfl rfl) (zq (zm (.bool (decide (0 ≤ v)))) ?_)))))); by_cases hp : 0 ≤ v
  · replace h := h.1 hp; exact rl_q (yad rfl (yaf rfl (congrArg Value.bool (decide_eq_true hp)))) rfl rfl (zm (ii v)) (rl_q (yad rfl (yaf rfl (congrArg Value.bool (decide_eq_true hp)))) rfl rfl (yaj rfl underlying24 rfl yah) (rl_q (yad rfl (yaf rfl (congrArg Value.bool (decide_eq_true hp)))) rfl rfl (zl underlying3 (Row.cell (hS.bx 1 rfl) (i := 0) rfl)) (rl_q (yad rfl (yaf rfl (congrArg Value.bool (decide_eq_true hp)))) rfl rfl zL (zq (yaw (v := (.bool (decide (v < g)))) (congrArg Value.bool (decide_eq_true hp)) rfl) (zq (za (.bool (decide (v < g)))) (yaa (yak rfl rfl ⟨_, rfl, (hS.sel [] (by decide)), h⟩)))))))
  · replace h := h.2 hp; exact rl_p (yab rfl (yaf rfl (congrArg Value.bool (decide_eq_false hp))) rfl) rfl (rl_p (yab rfl (yaf rfl (congrArg Value.bool (decide_eq_false hp))) rfl) rfl (rl_p (yab rfl (yaf rfl (congrArg Value.bool (decide_eq_false hp))) rfl) rfl (rl_p (yab rfl (yaf rfl (congrArg Value.bool (decide_eq_false hp))) rfl) rfl (zq (yay (v := (.bool (false))) (congrArg Value.bool (decide_eq_false hp)) rfl) (zq (za (.bool (false))) (yaa (yak rfl rfl ⟨_, rfl, (hS.sel [] (by decide)), h⟩)))))))
def ybf (g : Int) (g2 : List E3) (a : Int) (b : Int) (R : Int → Prop) : Prop :=
(∃ I2 : Nat → Int → Prop, (∃ m0, I2 m0 0) ∧ ∀ m2 i, I2 m2 i → 
((i < ((g2.length : Nat) : Int) →
((0 ≤ i ∧ i < ((g2.length : Nat) : Int)) ∧
((((ge g2 i.toNat).1) = (mnF a b) →
((((ge g2 i.toNat).2.1) = (mxF a b) →
R ((ge g2 i.toNat).2.2)) ∧
(¬ (((ge g2 i.toNat).2.1) = (mxF a b)) →
(In64 (i + 1) ∧
∃ m3, m3 < m2 ∧ I2 m3 (i + 1))))) ∧
(¬ (((ge g2 i.toNat).1) = (mnF a b)) →
(In64 (i + 1) ∧
∃ m4, m4 < m2 ∧ I2 m4 (i + 1)))))) ∧
(¬ (i < ((g2.length : Nat) : Int)) →
R 0)))
theorem ycE {O : Nat → Prop} {w : World} {g g2 a b Ag lg cg} {R : Int → Prop} (h : ybf g g2 a b R) (hO : ∀ k, O k → k < w.heap.size) (hA0 : (FP.sl c3 Ag lg cg g2).P O w) :
    Calls Try.prog 129 #[(.agg #[(ii g), (.slice Ag lg cg)]), (ii a), (ii b)] w fun e w' => ∃ r, e = .returned (ii r) ∧ Sep w no O w' (rl []) ∧ R r := by
  unfold ybf at h; have hS : Sep w no O w (rl [Res.ro (FP.sl c3 Ag lg cg g2)]) := Sep.startl hO [(FP.sl c3 Ag lg cg g2)] ⟨hA0, trivial⟩; refine yap (l := [(.agg #[(ii g), (.slice Ag lg cg)]), (ii a), (ii b)]) func129 rfl ntmps129 (Nat.le_of_ble_eq_true rfl) (zs (zn (ybq (v := (.agg #[(ii g), (.slice Ag lg cg)])) rfl ?_))); intro g3 w2 hN; replace hS : Sep w no O w2 (stl _ 1 (Res.box 24 g3 [(ii g), (.slice Ag lg cg)])) := hS.new 1 rfl hN; clear hN; refine zb (zq (za (ii 0)) (yaa (yae (zs (zq (za (ii 0)) (yaa (yam ?_))))))); obtain ⟨I2, ⟨m0, h0⟩, hr⟩ := h; refine yaC (fun m E ds w' => ∃ i, I2 m i ∧ ds = [] ∧ E 1 = (ii a) ∧ E 2 = (ii b) ∧ E 3 = (Value.pointer (some (⟨g3, 0, none⟩ : Addr))) ∧ E 7 = (ii i) ∧ Sep w no O w' (rl [Res.box 24 g3 [(ii g), (.slice Ag lg cg)], Res.ro (FP.sl c3 Ag lg cg g2)])) m0 ⟨_, h0, rfl, rfl, rfl, rfl, rfl, (hS.sel [1, 0] (by decide))⟩ ?_; clear h0 hS; rintro m2 E ds w3 ⟨i, h, rfl, hE1, hE2, hE3, hE7, hS⟩ again; replace h := hr m2 i h; clear hr; refine yae (zs (zq (yac hE7) (zq (yaj hE3 underlying24 rfl yca) (zq (zl underlying22 (Row.cell (hS.bx 0 rfl) (i := 1) rfl)) (zq (yaZ (n := g2.length) rfl underlying22 (yaS (hS.rdr 1 rfl))) (zq zL (yaa ?_))))))); by_cases hp : i < ((g2.length : Nat) : Int)
  · replace h := h.1 hp; refine zc hp (yai (yae (yam (zs (zq (yaj hE3 underlying24 rfl yca) (zq (zl underlying22 (Row.cell (hS.bx 0 rfl) (i := 1) rfl)) (zq (yac hE7) ?_))))))); obtain ⟨hx, h⟩ := h; refine zq (zi underlying22 yaF (yaM (hS.rdr 1 rfl) hx)) (zq (yas (vs := [(ii ((ge g2 i.toNat).1)), (ii ((ge g2 i.toNat).2.1)), (ii ((ge g2 i.toNat).2.2))]) rfl underlying83 rfl yaF (rd_fs (hS.rdr 1 rfl) hx (fun q => ycL q))) ?_); refine zn (ya7 yaF ?_); intro g4 w4 hN; replace hS : Sep w no O w4 (stl _ 2 (Res.box 83 g4 [(ii 0), (ii 0), (ii 0)])) := hS.new 2 rfl hN; clear hN; refine zb (zo (ybr (b := g4) (o := 0) (cells := #[(ii ((ge g2 i.toNat).1)), (ii ((ge g2 i.toNat).2.1)), (ii ((ge g2 i.toNat).2.2))]) rfl rfl yaF rfl rfl (yaY (hS.bx 2 rfl) (Nat.le_of_ble_eq_true rfl)) ?_)); intro w5 e1; replace hS := hS.bstn 2 rfl 0 [(ii ((ge g2 i.toNat).1)), (ii ((ge g2 i.toNat).2.1)), (ii ((ge g2 i.toNat).2.2))] e1; clear e1; refine zb (yaa (zs (zq (yaj rfl underlying83 rfl yah) (zq (zl underlying3 (Row.cell (hS.bx 2 rfl) (i := 0) rfl)) (zq (yac hE1) (zq (yac hE2) (zq (v_min2 rfl rfl) (zq zE (zq (zm (.bool (decide (((ge g2 i.toNat).1) = (mnF a b))))) ?_))))))))); by_cases hp2 : ((ge g2 i.toNat).1) = (mnF a b)
    · replace h := h.1 hp2; refine rl_q (yad rfl (yaf rfl (congrArg Value.bool (decide_eq_true hp2)))) rfl rfl (yaj rfl underlying83 rfl yah) (rl_q (yad rfl (yaf rfl (congrArg Value.bool (decide_eq_true hp2)))) rfl rfl (zl underlying3 (Row.cell (hS.bx 2 rfl) (i := 1) rfl)) (rl_q (yad rfl (yaf rfl (congrArg Value.bool (decide_eq_true hp2)))) rfl rfl (yac hE1) (rl_q (yad rfl (yaf rfl (congrArg Value.bool (decide_eq_true hp2)))) rfl rfl (yac hE2) (rl_q (yad rfl (yaf rfl (congrArg Value.bool (decide_eq_true hp2)))) rfl rfl (v_max2 rfl rfl) (rl_q (yad rfl (yaf rfl (congrArg Value.bool (decide_eq_true hp2)))) rfl rfl zE (zq (yaw (v := (.bool (decide (((ge g2 i.toNat).2.1) = (mxF a b))))) (congrArg Value.bool (decide_eq_true hp2)) rfl) (yaa ?_))))))); by_cases hp3 : ((ge g2 i.toNat).2.1) = (mxF a b)
      · replace h := h.1 hp3; exact zc hp3 (zs (zq (yaj rfl underlying83 rfl yah) (zq (zl underlying3 (Row.cell (hS.bx 2 rfl) (i := 2) rfl)) (zq (za (ii ((ge g2 i.toNat).2.2))) (yaa (yak rfl rfl ⟨_, rfl, (hS.sel [] (by decide)), h⟩))))))
      · replace h := h.2 hp3; refine zd hp3 (yai (yal (zr (zq (yac hE7) ?_)))); obtain ⟨hi, h⟩ := h; refine zq (zA hi) (zq (za (ii (i + 1))) (yaa ?_)); obtain ⟨mq, hlt, h⟩ := h; exact again mq _ _ _ ⟨_, h, rfl, hE1, hE2, hE3, rfl, (hS.sel [0, 1] (by decide))⟩ hlt
    · replace h := h.2 hp2; refine rl_p (yab rfl (yaf rfl (congrArg Value.bool (decide_eq_false hp2))) rfl) rfl (rl_p (yab rfl (yaf rfl (congrArg Value.bool (decide_eq_false hp2))) rfl) rfl (rl_p (yab rfl (yaf rfl (congrArg Value.bool (decide_eq_false hp2))) rfl) rfl (rl_p (yab rfl (yaf rfl (congrArg Value.bool (decide_eq_false hp2))) rfl) rfl (rl_p (yab rfl (yaf rfl (congrArg Value.bool (decide_eq_false hp2))) rfl) rfl (rl_p (yab rfl (yaf rfl (congrArg Value.bool (decide_eq_false hp2))) rfl) rfl (zq (yay (v := (.bool (false))) (congrArg Value.bool (decide_eq_false hp2)) rfl) (yaa (yaz rfl (yai (yal (zr (zq (yac hE7) ?_)))))))))))); obtain ⟨hi2, h⟩ := h; refine zq (zA hi2) (zq (za (ii (i + 1))) (yaa ?_)); obtain ⟨mq, hlt, h⟩ := h; exact again mq _ _ _ ⟨_, h, rfl, hE1, hE2, hE3, rfl, (hS.sel [0, 1] (by decide))⟩ hlt
  · replace h := h.2 hp; exact zd hp (yaA rfl (zs (zq (za (ii 0)) (yaa (yak rfl rfl ⟨_, rfl, (hS.sel [] (by decide)), h⟩)))))
def ydQ (d : Int) (d2 : List E3) (i : Int) (R : Int → Prop) : Prop :=
((0 ≤ i ∧ i < ((d2.length : Nat) : Int)) ∧
(∃ J2 : Prop, (J2 → ((((ge d2 i.toNat).2.1) < ((ge d2 i.toNat).1) →
R 9) ∧
(¬ (((ge d2 i.toNat).2.1) < ((ge d2 i.toNat).1)) →
((0 < i →
(In64 (i - 1) ∧
((0 ≤ (i - 1) ∧ (i - 1) < ((d2.length : Nat) : Int)) ∧
((((ge d2 i.toNat).1) < ((ge d2 (i - 1).toNat).1) →
R 9) ∧
(¬ (((ge d2 i.toNat).1) < ((ge d2 (i - 1).toNat).1)) →
((((ge d2 i.toNat).1) = ((ge d2 (i - 1).toNat).1) →
((((ge d2 i.toNat).2.1) ≤ ((ge d2 (i - 1).toNat).2.1) →
R 9) ∧
(¬ (((ge d2 i.toNat).2.1) ≤ ((ge d2 (i - 1).toNat).2.1)) →
R 0))) ∧
(¬ (((ge d2 i.toNat).1) = ((ge d2 (i - 1).toNat).1)) →
R 0))))))) ∧
(¬ (0 < i) →
R 0))))) ∧
yce d d2 ((ge d2 i.toNat).1) (fun r =>
((r = true →
yce d d2 ((ge d2 i.toNat).2.1) (fun r2 =>
((r2 = true →
((((ge d2 i.toNat).2.2) < 1 →
R 2) ∧
(¬ (((ge d2 i.toNat).2.2) < 1) →
((50 < ((ge d2 i.toNat).2.2) →
R 2) ∧
(¬ (50 < ((ge d2 i.toNat).2.2)) →
J2))))) ∧
(¬ (r2 = true) →
R 2)))) ∧
(¬ (r = true) →
R 2)))))
theorem pok_r08_edge {O : Nat → Prop} {w : World} {d d2 i Ad ld cd} {R : Int → Prop} (h : ydQ d d2 i R) (hO : ∀ k, O k → k < w.heap.size) (hA0 : (FP.sl c3 Ad ld cd d2).P O w) :
    Calls Try.prog 130 #[(.agg #[(ii d), (.slice Ad ld cd)]), (ii i)] w fun e w' => ∃ r3, e = .returned (ii r3) ∧ Sep w no O w' (rl []) ∧ R r3 := by
  unfold ydQ at h; have hS : Sep w no O w (rl [Res.ro (FP.sl c3 Ad ld cd d2)]) := Sep.startl hO [(FP.sl c3 Ad ld cd d2)] ⟨hA0, trivial⟩; refine yap (l := [(.agg #[(ii d), (.slice Ad ld cd)]), (ii i)]) func130 rfl ntmps130 (Nat.le_of_ble_eq_true rfl) (zs (zn (ybq (v := (.agg #[(ii d), (.slice Ad ld cd)])) rfl ?_))); intro g w2 hN; replace hS : Sep w no O w2 (stl _ 1 (Res.box 24 g [(ii d), (.slice Ad ld cd)])) := hS.new 1 rfl hN; clear hN; refine zb (zq (za (ii 0)) (yaa (zs (zq (yaj rfl underlying24 rfl yca) (zq (zl underlying22 (Row.cell (hS.bx 1 rfl) (i := 1) rfl)) (zq (zm (ii i)) ?_)))))); obtain ⟨hx, h⟩ := h; refine zq (zi underlying22 yaF (yaM (hS.rdr 0 rfl) hx)) (zq (yas (vs := [(ii ((ge d2 i.toNat).1)), (ii ((ge d2 i.toNat).2.1)), (ii ((ge d2 i.toNat).2.2))]) rfl underlying83 rfl yaF (rd_fs (hS.rdr 0 rfl) hx (fun q => ycL q))) ?_); refine zn (ya7 yaF ?_); intro g2 w3 hN; replace hS : Sep w no O w3 (stl _ 2 (Res.box 83 g2 [(ii 0), (ii 0), (ii 0)])) := hS.new 2 rfl hN; clear hN; refine zb (zo (ybr (b := g2) (o := 0) (cells := #[(ii ((ge d2 i.toNat).1)), (ii ((ge d2 i.toNat).2.1)), (ii ((ge d2 i.toNat).2.2))]) rfl rfl yaF rfl rfl (yaY (hS.bx 2 rfl) (Nat.le_of_ble_eq_true rfl)) ?_)); intro w4 e1; replace hS := hS.bstn 2 rfl 0 [(ii ((ge d2 i.toNat).1)), (ii ((ge d2 i.toNat).2.1)), (ii ((ge d2 i.toNat).2.2))] e1; clear e1; refine zb (yaa (yae (yae ?_))); obtain ⟨J2, hJ, h⟩ := h; refine ydX (fun E ds w' => J2 ∧ ds = [] ∧ E 1 = (ii i) ∧ E 2 = (Value.pointer (some (⟨g, 0, none⟩ : Addr))) ∧ E 5 = (Value.pointer (some (⟨g2, 0, none⟩ : Addr))) ∧ Sep w no O w' (rl [Res.box 24 g [(ii d), (.slice Ad ld cd)], Res.ro (FP.sl c3 Ad ld cd d2), Res.box 83 g2 [(ii ((ge d2 i.toNat).1)), (ii ((ge d2 i.toNat).2.1)), (ii ((ge d2 i.toNat).2.2))]])) ?_ ?_
  · clear h hS; rintro E ds w5 ⟨h, rfl, hE1, hE2, hE5, hS⟩; replace h := hJ h; refine yae (zs (zq (yaj hE5 underlying83 rfl yah) (zq (zl underlying3 (Row.cell (hS.bx 2 rfl) (i := 0) rfl)) (zq (yaj hE5 underlying83 rfl yah) (zq (zl underlying3 (Row.cell (hS.bx 2 rfl) (i := 1) rfl)) (zq zG (yaa ?_))))))); by_cases hp : ((ge d2 i.toNat).2.1) < ((ge d2 i.toNat).1)
    · replace h := h.1 hp; exact zc hp (zs (zq (za (ii 9)) (yaa (yak rfl rfl ⟨_, rfl, (hS.sel [] (by decide)), h⟩))))
    · replace h := h.2 hp; refine zd hp (yai (yae (zs (zq (yac hE1) (zq zG (yaa ?_)))))); by_cases hp2 : 0 < i
      · replace h := h.1 hp2; refine zc hp2 (zs (zq (yaj hE2 underlying24 rfl yca) (zq (zl underlying22 (Row.cell (hS.bx 0 rfl) (i := 1) rfl)) (zq (yac hE1) ?_)))); obtain ⟨hi, h⟩ := h; refine zq (zS hi) ?_; obtain ⟨hx2, h⟩ := h; refine zq (zi underlying22 yaF (yaM (hS.rdr 1 rfl) hx2)) (zq (yas (vs := [(ii ((ge d2 (i - 1).toNat).1)), (ii ((ge d2 (i - 1).toNat).2.1)), (ii ((ge d2 (i - 1).toNat).2.2))]) rfl underlying83 rfl yaF (rd_fs (hS.rdr 1 rfl) hx2 (fun q => ycL q))) ?_); refine zn (ya7 yaF ?_); intro g3 w6 hN; replace hS : Sep w no O w6 (stl _ 3 (Res.box 83 g3 [(ii 0), (ii 0), (ii 0)])) := hS.new 3 rfl hN; clear hN; refine zb (zo (ybr (b := g3) (o := 0) (cells := #[(ii ((ge d2 (i - 1).toNat).1)), (ii ((ge d2 (i - 1).toNat).2.1)), (ii ((ge d2 (i - 1).toNat).2.2))]) rfl rfl yaF rfl rfl (yaY (hS.bx 3 rfl) (Nat.le_of_ble_eq_true rfl)) ?_)); intro w7 e1; replace hS := hS.bstn 3 rfl 0 [(ii ((ge d2 (i - 1).toNat).1)), (ii ((ge d2 (i - 1).toNat).2.1)), (ii ((ge d2 (i - 1).toNat).2.2))] e1; clear e1; refine zb (yaa (zs (zq (yaj hE5 underlying83 rfl yah) (zq (zl underlying3 (Row.cell (hS.bx 2 rfl) (i := 0) rfl)) (zq (yaj rfl underlying83 rfl yah) (zq (zl underlying3 (Row.cell (hS.bx 3 rfl) (i := 0) rfl)) (zq zL (zq (zm (.bool (decide (((ge d2 i.toNat).1) < ((ge d2 (i - 1).toNat).1))))) ?_)))))))); by_cases hp3 : ((ge d2 i.toNat).1) < ((ge d2 (i - 1).toNat).1)
        · replace h := h.1 hp3; exact rl_p (yab rfl (yaf rfl (congrArg Value.bool (decide_eq_true hp3))) rfl) rfl (rl_p (yab rfl (yaf rfl (congrArg Value.bool (decide_eq_true hp3))) rfl) rfl (rl_p (yab rfl (yaf rfl (congrArg Value.bool (decide_eq_true hp3))) rfl) rfl (rl_p (yab rfl (yaf rfl (congrArg Value.bool (decide_eq_true hp3))) rfl) rfl (rl_p (yab rfl (yaf rfl (congrArg Value.bool (decide_eq_true hp3))) rfl) rfl (rl_p (yab rfl (yaf rfl (congrArg Value.bool (decide_eq_true hp3))) rfl) rfl (rl_p (yfB rfl rfl) rfl (rl_p (yfB rfl rfl) rfl (rl_p (yfB rfl rfl) rfl (rl_p (yfB rfl rfl) rfl (rl_p (yfB rfl rfl) rfl (rl_p (yab rfl (yaf rfl (congrArg Value.bool (decide_eq_true hp3))) rfl) rfl (zq (yaw (v := (.bool (true))) (congrArg Value.bool (decide_eq_true hp3)) rfl) (yaa (yau rfl (zs (zq (za (ii 9)) (yaa (yak rfl rfl ⟨_, rfl, (hS.sel [] (by decide)), h⟩))))))))))))))))))
        · replace h := h.2 hp3; refine rl_q (yad rfl (yaf rfl (congrArg Value.bool (decide_eq_false hp3)))) rfl rfl (yaj hE5 underlying83 rfl yah) (rl_q (yad rfl (yaf rfl (congrArg Value.bool (decide_eq_false hp3)))) rfl rfl (zl underlying3 (Row.cell (hS.bx 2 rfl) (i := 0) rfl)) (rl_q (yad rfl (yaf rfl (congrArg Value.bool (decide_eq_false hp3)))) rfl rfl (yaj rfl underlying83 rfl yah) (rl_q (yad rfl (yaf rfl (congrArg Value.bool (decide_eq_false hp3)))) rfl rfl (zl underlying3 (Row.cell (hS.bx 3 rfl) (i := 0) rfl)) (rl_q (yad rfl (yaf rfl (congrArg Value.bool (decide_eq_false hp3)))) rfl rfl zE (rl_q (yad rfl (yaf rfl (congrArg Value.bool (decide_eq_false hp3)))) rfl rfl (zm (.bool (decide (((ge d2 i.toNat).1) = ((ge d2 (i - 1).toNat).1))))) ?_))))); by_cases hp4 : ((ge d2 i.toNat).1) = ((ge d2 (i - 1).toNat).1)
          · replace h := h.1 hp4; refine rl_q (yad rfl (yaf rfl (congrArg Value.bool (decide_eq_true hp4)))) rfl rfl (yaj hE5 underlying83 rfl yah) (rl_q (yad rfl (yaf rfl (congrArg Value.bool (decide_eq_true hp4)))) rfl rfl (zl underlying3 (Row.cell (hS.bx 2 rfl) (i := 1) rfl)) (rl_q (yad rfl (yaf rfl (congrArg Value.bool (decide_eq_true hp4)))) rfl rfl (yaj rfl underlying83 rfl yah) (rl_q (yad rfl (yaf rfl (congrArg Value.bool (decide_eq_true hp4)))) rfl rfl (zl underlying3 (Row.cell (hS.bx 3 rfl) (i := 1) rfl)) (rl_q (yad rfl (yaf rfl (congrArg Value.bool (decide_eq_true hp4)))) rfl rfl (v_leq rfl rfl) (rl_q (yad rfl (yaf rfl (congrArg Value.bool (decide_eq_false hp3)))) rfl rfl (yaw (v := (.bool (decide (((ge d2 i.toNat).2.1) ≤ ((ge d2 (i - 1).toNat).2.1))))) (congrArg Value.bool (decide_eq_true hp4)) rfl) (zq (yay (v := (.bool (decide (((ge d2 i.toNat).2.1) ≤ ((ge d2 (i - 1).toNat).2.1))))) (congrArg Value.bool (decide_eq_false hp3)) rfl) (yaa ?_))))))); by_cases hp5 : ((ge d2 i.toNat).2.1) ≤ ((ge d2 (i - 1).toNat).2.1)
            · replace h := h.1 hp5; exact zc hp5 (zs (zq (za (ii 9)) (yaa (yak rfl rfl ⟨_, rfl, (hS.sel [] (by decide)), h⟩))))
            · replace h := h.2 hp5; exact zd hp5 (yai (zs (zq (za (ii 0)) (yaa (yak rfl rfl ⟨_, rfl, (hS.sel [] (by decide)), h⟩)))))
          · replace h := h.2 hp4; exact rl_p (yab rfl (yaf rfl (congrArg Value.bool (decide_eq_false hp4))) rfl) rfl (rl_p (yab rfl (yaf rfl (congrArg Value.bool (decide_eq_false hp4))) rfl) rfl (rl_p (yab rfl (yaf rfl (congrArg Value.bool (decide_eq_false hp4))) rfl) rfl (rl_p (yab rfl (yaf rfl (congrArg Value.bool (decide_eq_false hp4))) rfl) rfl (rl_p (yab rfl (yaf rfl (congrArg Value.bool (decide_eq_false hp4))) rfl) rfl (rl_q (yad rfl (yaf rfl (congrArg Value.bool (decide_eq_false hp3)))) rfl rfl (yay (v := (.bool (false))) (congrArg Value.bool (decide_eq_false hp4)) rfl) (zq (yay (v := (.bool (false))) (congrArg Value.bool (decide_eq_false hp3)) rfl) (yaa (yaz rfl (yai (zs (zq (za (ii 0)) (yaa (yak rfl rfl ⟨_, rfl, (hS.sel [] (by decide)), h⟩)))))))))))))
      · replace h := h.2 hp2; exact zd hp2 (yai (zs (zq (za (ii 0)) (yaa (yak rfl rfl ⟨_, rfl, (hS.sel [] (by decide)), h⟩)))))
  clear hJ; intro j; refine zr (zq (yas (vs := [(ii d), (.slice Ad ld cd)]) rfl underlying24 rfl yaq ⟨Row.cell (hS.bx 1 rfl) (i := 0) rfl, Row.cell (hS.bx 1 rfl) (i := 1) rfl, trivial⟩) (zq (yaj rfl underlying83 rfl yah) (zq (zl underlying3 (Row.cell (hS.bx 2 rfl) (i := 0) rfl)) (zn (yan rfl (am2 rfl rfl) enter_158 ((yfn h (yaK _) (hS.rdr 0 rfl)).mono ?_)))))); rintro _ w8 ⟨r, rfl, hC, h⟩; replace hS := hS.pur hC.pure; clear hC; refine ⟨_, rfl, ?_⟩; refine zb (zq (ycV rfl) (zq (zm (.bool (!(r)))) ?_)); by_cases hp6 : r = true
  · replace h := h.1 hp6; refine rl_q (yad rfl (yaf rfl (congrArg Value.bool (congrArg Bool.not hp6)))) rfl rfl (yas (vs := [(ii d), (.slice Ad ld cd)]) rfl underlying24 rfl yaq ⟨Row.cell (hS.bx 1 rfl) (i := 0) rfl, Row.cell (hS.bx 1 rfl) (i := 1) rfl, trivial⟩) (rl_q (yad rfl (yaf rfl (congrArg Value.bool (congrArg Bool.not hp6)))) rfl rfl (yaj rfl underlying83 rfl yah) (rl_q (yad rfl (yaf rfl (congrArg Value.bool (congrArg Bool.not hp6)))) rfl rfl (zl underlying3 (Row.cell (hS.bx 2 rfl) (i := 1) rfl)) (rl_n (yad rfl (yaf rfl (congrArg Value.bool (congrArg Bool.not hp6)))) rfl rfl rfl (yan rfl (am2 rfl rfl) enter_158 ((yfn h (yaK _) (hS.rdr 0 rfl)).mono ?_))))); rintro _ w9 ⟨r2, rfl, hC, h⟩; replace hS := hS.pur hC.pure; clear hC; refine ⟨_, rfl, ?_⟩; refine zb (rl_q (yad rfl (yaf rfl (congrArg Value.bool (congrArg Bool.not hp6)))) rfl rfl (ycV rfl) (zq (yay (v := (.bool (!(r2)))) (congrArg Value.bool (congrArg Bool.not hp6)) rfl) (zq (zm (.bool (!(r2)))) ?_))); by_cases hp7 : r2 = true
    · replace h := h.1 hp7; refine rl_q (yad rfl (yaf rfl (congrArg Value.bool (congrArg Bool.not hp7)))) rfl rfl (yaj rfl underlying83 rfl yah) (rl_q (yad rfl (yaf rfl (congrArg Value.bool (congrArg Bool.not hp7)))) rfl rfl (zl underlying3 (Row.cell (hS.bx 2 rfl) (i := 2) rfl)) (rl_q (yad rfl (yaf rfl (congrArg Value.bool (congrArg Bool.not hp7)))) rfl rfl zL (zq (yay (v := (.bool (decide (((ge d2 i.toNat).2.2) < 1)))) (congrArg Value.bool (congrArg Bool.not hp7)) rfl) (zq (zm (.bool (decide (((ge d2 i.toNat).2.2) < 1)))) ?_)))); by_cases hp8 : ((ge d2 i.toNat).2.2) < 1
      · replace h := h.1 hp8; exact rl_p (yab rfl (yaf rfl (congrArg Value.bool (decide_eq_true hp8))) rfl) rfl (rl_p (yab rfl (yaf rfl (congrArg Value.bool (decide_eq_true hp8))) rfl) rfl (rl_p (yab rfl (yaf rfl (congrArg Value.bool (decide_eq_true hp8))) rfl) rfl (zq (yaw (v := (.bool (true))) (congrArg Value.bool (decide_eq_true hp8)) rfl) (yaa (yau rfl (zs (zq (za (ii 2)) (yaa (yak rfl rfl ⟨_, rfl, (hS.sel [] (by decide)), h⟩)))))))))
      · replace h := h.2 hp8; refine rl_q (yad rfl (yaf rfl (congrArg Value.bool (decide_eq_false hp8)))) rfl rfl (yaj rfl underlying83 rfl yah) (rl_q (yad rfl (yaf rfl (congrArg Value.bool (decide_eq_false hp8)))) rfl rfl (zl underlying3 (Row.cell (hS.bx 2 rfl) (i := 2) rfl)) (rl_q (yad rfl (yaf rfl (congrArg Value.bool (decide_eq_false hp8)))) rfl rfl zG (zq (yay (v := (.bool (decide (50 < ((ge d2 i.toNat).2.2))))) (congrArg Value.bool (decide_eq_false hp8)) rfl) (yaa ?_)))); by_cases hp9 : 50 < ((ge d2 i.toNat).2.2)
        · replace h := h.1 hp9; exact zc hp9 (zs (zq (za (ii 2)) (yaa (yak rfl rfl ⟨_, rfl, (hS.sel [] (by decide)), h⟩))))
        · replace h := h.2 hp9; exact zd hp9 (yai (j _ _ _ ⟨h, rfl, rfl, rfl, rfl, (hS.sel [1, 0, 2] (by decide))⟩))
    · replace h := h.2 hp7; exact rl_p (yab rfl (yaf rfl (congrArg Value.bool (congrArg Bool.not (Bool.eq_false_iff.2 hp7)))) rfl) rfl (rl_p (yab rfl (yaf rfl (congrArg Value.bool (congrArg Bool.not (Bool.eq_false_iff.2 hp7)))) rfl) rfl (rl_p (yab rfl (yaf rfl (congrArg Value.bool (congrArg Bool.not (Bool.eq_false_iff.2 hp7)))) rfl) rfl (zq (yaw (v := (.bool (true))) (congrArg Value.bool (congrArg Bool.not (Bool.eq_false_iff.2 hp7))) rfl) (zq (zm (.bool (true))) (rl_p (yab rfl (yaf rfl rfl) rfl) rfl (rl_p (yab rfl (yaf rfl rfl) rfl) rfl (rl_p (yab rfl (yaf rfl rfl) rfl) rfl (zq (yaw (v := (.bool (true))) rfl rfl) (yaa (yau rfl (zs (zq (za (ii 2)) (yaa (yak rfl rfl ⟨_, rfl, (hS.sel [] (by decide)), h⟩))))))))))))))
  · replace h := h.2 hp6; exact rl_p (yab rfl (yaf rfl (congrArg Value.bool (congrArg Bool.not (Bool.eq_false_iff.2 hp6)))) rfl) rfl (rl_p (yab rfl (yaf rfl (congrArg Value.bool (congrArg Bool.not (Bool.eq_false_iff.2 hp6)))) rfl) rfl (rl_p (yab rfl (yaf rfl (congrArg Value.bool (congrArg Bool.not (Bool.eq_false_iff.2 hp6)))) rfl) rfl (rl_p (yab rfl (yaf rfl (congrArg Value.bool (congrArg Bool.not (Bool.eq_false_iff.2 hp6)))) rfl) rfl (rl_p (yab rfl (yaf rfl (congrArg Value.bool (congrArg Bool.not (Bool.eq_false_iff.2 hp6)))) rfl) rfl (zq (yaw (v := (.bool (true))) (congrArg Value.bool (congrArg Bool.not (Bool.eq_false_iff.2 hp6))) rfl) (zq (zm (.bool (true))) (rl_p (yab rfl (yaf rfl rfl) rfl) rfl (rl_p (yab rfl (yaf rfl rfl) rfl) rfl (rl_p (yab rfl (yaf rfl rfl) rfl) rfl (zq (yaw (v := (.bool (true))) rfl rfl) (zq (zm (.bool (true))) (rl_p (yab rfl (yaf rfl rfl) rfl) rfl (rl_p (yab rfl (yaf rfl rfl) rfl) rfl (rl_p (yab rfl (yaf rfl rfl) rfl) rfl (zq (yaw (v := (.bool (true))) rfl rfl) (yaa (yau rfl (zs (zq (za (ii 2)) (yaa (yak rfl rfl ⟨_, rfl, (hS.sel [] (by decide)), h⟩)))))))))))))))))))))
def ycA (g : Int) (g2 : List E3) (R : Int → Prop) : Prop :=
(∃ J2 : Prop, (J2 → (∃ I2 : Nat → Int → Prop, (∃ m0, I2 m0 0) ∧ ∀ m2 i, I2 m2 i → 
((i < ((g2.length : Nat) : Int) →
ydQ g g2 i (fun r =>
((r = 0 →
(In64 (i + 1) ∧
∃ m3, m3 < m2 ∧ I2 m3 (i + 1))) ∧
(¬ (r = 0) →
R r)))) ∧
(¬ (i < ((g2.length : Nat) : Int)) →
R 0)))) ∧
((g < 1 →
R 2) ∧
(¬ (g < 1) →
((12 < g →
R 2) ∧
(¬ (12 < g) →
J2)))))
theorem yfS {O : Nat → Prop} {w : World} {g g2 Ag lg cg} {R : Int → Prop} (h : ycA g g2 R) (hO : ∀ k, O k → k < w.heap.size) (hA0 : (FP.sl c3 Ag lg cg g2).P O w) :
    Calls Try.prog 91 #[(.agg #[(ii g), (.slice Ag lg cg)])] w fun e w' => ∃ r2, e = .returned (ii r2) ∧ Sep w no O w' (rl []) ∧ R r2 := by
  unfold ycA at h; have hS : Sep w no O w (rl [Res.ro (FP.sl c3 Ag lg cg g2)]) := Sep.startl hO [(FP.sl c3 Ag lg cg g2)] ⟨hA0, trivial⟩; refine yap (l := [(.agg #[(ii g), (.slice Ag lg cg)])]) func91 rfl ntmps91 (Nat.le_of_ble_eq_true rfl) (zs (zn (ybq (v := (.agg #[(ii g), (.slice Ag lg cg)])) rfl ?_))); intro g3 w2 hN; replace hS : Sep w no O w2 (stl _ 1 (Res.box 24 g3 [(ii g), (.slice Ag lg cg)])) := hS.new 1 rfl hN; clear hN; refine zb (zq (za (ii 0)) (yaa (yae (yae ?_)))); obtain ⟨J2, hJ, h⟩ := h; refine ydX (fun E ds w' => J2 ∧ ds = [] ∧ E 1 = (Value.pointer (some (⟨g3, 0, none⟩ : Addr))) ∧ Sep w no O w' (rl [Res.box 24 g3 [(ii g), (.slice Ag lg cg)], Res.ro (FP.sl c3 Ag lg cg g2)])) ?_ ?_
  · clear h hS; rintro E ds w3 ⟨h, rfl, hE1, hS⟩; replace h := hJ h; refine yae (zs (zq (za (ii 0)) (yaa (yam ?_)))); obtain ⟨I2, ⟨m0, h0⟩, hr⟩ := h; refine yaC (fun m E ds w' => ∃ i, I2 m i ∧ ds = [] ∧ E 1 = (Value.pointer (some (⟨g3, 0, none⟩ : Addr))) ∧ E 3 = (ii i) ∧ Sep w no O w' (rl [Res.box 24 g3 [(ii g), (.slice Ag lg cg)], Res.ro (FP.sl c3 Ag lg cg g2)])) m0 ⟨_, h0, rfl, hE1, rfl, (hS.sel [0, 1] (by decide))⟩ ?_; clear h0 hS; rintro m2 E ds w4 ⟨i, h, rfl, hE1, hE3, hS⟩ again; replace h := hr m2 i h; clear hr; refine yae (zs (zq (yac hE3) (zq (yaj hE1 underlying24 rfl yca) (zq (zl underlying22 (Row.cell (hS.bx 0 rfl) (i := 1) rfl)) (zq (yaZ (n := g2.length) rfl underlying22 (yaS (hS.rdr 1 rfl))) (zq zL (yaa ?_))))))); by_cases hp : i < ((g2.length : Nat) : Int)
    · replace h := h.1 hp; refine zc hp (yai (yae (yam (zs (zq (yas (vs := [(ii g), (.slice Ag lg cg)]) hE1 underlying24 rfl yaq ⟨Row.cell (hS.bx 0 rfl) (i := 0) rfl, Row.cell (hS.bx 0 rfl) (i := 1) rfl, trivial⟩) (zq (yac hE3) (zn (yan rfl (am2 rfl rfl) enter_130 ((pok_r08_edge h (yaK _) (hS.rdr 1 rfl)).mono ?_))))))))); rintro _ w5 ⟨r, rfl, hC, h⟩; replace hS := hS.pur hC.pure; clear hC; refine ⟨_, rfl, ?_⟩; refine zb (zq (za (ii r)) (yaa (zs (zq (zm (ii r)) (zq zN (yaa ?_)))))); by_cases hp2 : r = 0
      · replace h := h.1 hp2; refine ze hp2 (yai (yal (zr (zq (yac hE3) ?_)))); obtain ⟨hi, h⟩ := h; refine zq (zA hi) (zq (za (ii (i + 1))) (yaa ?_)); obtain ⟨mq, hlt, h⟩ := h; exact again mq _ _ _ ⟨_, h, rfl, hE1, rfl, (hS.sel [0, 1] (by decide))⟩ hlt
      · replace h := h.2 hp2; exact zf hp2 (zs (zq (zm (ii r)) (zq (za (ii r)) (yaa (yak rfl rfl ⟨_, rfl, (hS.sel [] (by decide)), h⟩)))))
    · replace h := h.2 hp; exact zd hp (yaA rfl (zs (zq (za (ii 0)) (yaa (yak rfl rfl ⟨_, rfl, (hS.sel [] (by decide)), h⟩)))))
  clear hJ; intro j; refine zr (zq (yaj rfl underlying24 rfl yah) (zq (zl underlying3 (Row.cell (hS.bx 1 rfl) (i := 0) rfl)) (zq zL (zq (zm (.bool (decide (g < 1)))) ?_)))); by_cases hp3 : g < 1
  · replace h := h.1 hp3; exact rl_p (yab rfl (yaf rfl (congrArg Value.bool (decide_eq_true hp3))) rfl) rfl (rl_p (yab rfl (yaf rfl (congrArg Value.bool (decide_eq_true hp3))) rfl) rfl (rl_p (yab rfl (yaf rfl (congrArg Value.bool (decide_eq_true hp3))) rfl) rfl (zq (yaw (v := (.bool (true))) (congrArg Value.bool (decide_eq_true hp3)) rfl) (yaa (yau rfl (zs (zq (za (ii 2)) (yaa (yak rfl rfl ⟨_, rfl, (hS.sel [] (by decide)), h⟩)))))))))
  · replace h := h.2 hp3; refine rl_q (yad rfl (yaf rfl (congrArg Value.bool (decide_eq_false hp3)))) rfl rfl (yaj rfl underlying24 rfl yah) (rl_q (yad rfl (yaf rfl (congrArg Value.bool (decide_eq_false hp3)))) rfl rfl (zl underlying3 (Row.cell (hS.bx 1 rfl) (i := 0) rfl)) (rl_q (yad rfl (yaf rfl (congrArg Value.bool (decide_eq_false hp3)))) rfl rfl zG (zq (yay (v := (.bool (decide (12 < g)))) (congrArg Value.bool (decide_eq_false hp3)) rfl) (yaa ?_)))); by_cases hp4 : 12 < g
    · replace h := h.1 hp4; exact zc hp4 (zs (zq (za (ii 2)) (yaa (yak rfl rfl ⟨_, rfl, (hS.sel [] (by decide)), h⟩))))
    · replace h := h.2 hp4; exact zd hp4 (yai (j _ _ _ ⟨h, rfl, rfl, (hS.sel [1, 0] (by decide))⟩))
def ydE (g : Int) (g2 : List E3) (R : (List (Int × Int)) → Prop) : Prop :=
(∃ I2 : Nat → (List (Int × Int)) → Int → Prop, (∃ m0, I2 m0 ([]) 0) ∧ ∀ m2 out i, I2 m2 out i → 
((i < ((g2.length : Nat) : Int) →
(∃ I3 : Nat → (List (Int × Int)) → Int → Prop, (∃ m0, I3 m0 out 0) ∧ ∀ m3 out2 k, I3 m3 out2 k → 
((0 ≤ i ∧ i < ((g2.length : Nat) : Int)) ∧
((k < ((ge g2 i.toNat).2.2) →
(out2.length + 1 ≤ 1000000000 ∧
(In64 (k + 1) ∧
∃ m4, m4 < m3 ∧ I3 m4 (out2 ++ [((ge g2 i.toNat).1, (ge g2 i.toNat).2.1)]) (k + 1)))) ∧
(¬ (k < ((ge g2 i.toNat).2.2)) →
(In64 (i + 1) ∧
∃ m5, m5 < m2 ∧ I2 m5 out2 (i + 1))))))) ∧
(¬ (i < ((g2.length : Nat) : Int)) →
R out)))
theorem pok_r08_Ends {O : Nat → Prop} {w : World} {g g2 Ag lg cg} {R : (List (Int × Int)) → Prop} (h : ydE g g2 R) (hO : ∀ k, O k → k < w.heap.size) (hA0 : (FP.sl c3 Ag lg cg g2).P O w) :
    Calls Try.prog 144 #[(.agg #[(ii g), (.slice Ag lg cg)])] w fun e w' => ∃ r Ar lr cr, e = .returned (.slice Ar lr cr) ∧ Sep w no O w' (rl [Res.own c2 187 Ar lr cr r]) ∧ R r := by
  unfold ydE at h; have hS : Sep w no O w (rl [Res.ro (FP.sl c3 Ag lg cg g2)]) := Sep.startl hO [(FP.sl c3 Ag lg cg g2)] ⟨hA0, trivial⟩; refine yap (l := [(.agg #[(ii g), (.slice Ag lg cg)])]) func144 rfl ntmps144 (Nat.le_of_ble_eq_true rfl) (zs (zn (ybq (v := (.agg #[(ii g), (.slice Ag lg cg)])) rfl ?_))); intro g3 w2 hN; replace hS : Sep w no O w2 (stl _ 1 (Res.box 24 g3 [(ii g), (.slice Ag lg cg)])) := hS.new 1 rfl hN; clear hN; refine zb (zq (za (.slice none 0 0)) (yaa (zs (zq (za (.slice none 0 0)) (yaa (yae (zs (zq (za (ii 0)) (yaa (yam ?_)))))))))); replace hS := hS.nil 2 rfl c2 187; obtain ⟨I2, ⟨m0, h0⟩, hr⟩ := h; refine yaC (fun m E ds w' => ∃ out i Aout lout cout, I2 m out i ∧ ds = [] ∧ E 1 = (Value.pointer (some (⟨g3, 0, none⟩ : Addr))) ∧ E 3 = (Value.slice Aout lout cout) ∧ E 4 = (ii i) ∧ Sep w no O w' (rl [Res.own c2 187 Aout lout cout out, Res.box 24 g3 [(ii g), (.slice Ag lg cg)], Res.ro (FP.sl c3 Ag lg cg g2)])) m0 ⟨_, _, _, _, _, h0, rfl, rfl, rfl, rfl, (hS.sel [2, 1, 0] (by decide))⟩ ?_; clear h0 hS; rintro m2 E ds w3 ⟨out, i, Aout, lout, cout, h, rfl, hE1, hE3, hE4, hS⟩ again; replace h := hr m2 out i h; clear hr; refine yae (zs (zq (yac hE4) (zq (yaj hE1 underlying24 rfl yca) (zq (zl underlying22 (Row.cell (hS.bx 1 rfl) (i := 1) rfl)) (zq (yaZ (n := g2.length) rfl underlying22 (yaS (hS.rdr 2 rfl))) (zq zL (yaa ?_))))))); by_cases hp : i < ((g2.length : Nat) : Int)
  · replace h := h.1 hp; refine zc hp (yai (yae (yam (zs (zq (za (ii 0)) (yaa (yam ?_))))))); obtain ⟨I3, ⟨m0, h0⟩, hr⟩ := h; refine yaC (fun m E ds w' => ∃ out2 k Aout2 lout2 cout2, I3 m out2 k ∧ ds = [] ∧ E 1 = (Value.pointer (some (⟨g3, 0, none⟩ : Addr))) ∧ E 3 = (Value.slice Aout2 lout2 cout2) ∧ E 4 = (ii i) ∧ E 5 = (ii k) ∧ Sep w no O w' (rl [Res.own c2 187 Aout2 lout2 cout2 out2, Res.box 24 g3 [(ii g), (.slice Ag lg cg)], Res.ro (FP.sl c3 Ag lg cg g2)])) m0 ⟨_, _, _, _, _, h0, rfl, hE1, hE3, hE4, rfl, (hS.sel [0, 1, 2] (by decide))⟩ ?_; clear h0 hS; rintro m3 E ds w4 ⟨out2, k, Aout2, lout2, cout2, h, rfl, hE1, hE3, hE4, hE5, hS⟩ again2; replace h := hr m3 out2 k h; clear hr; refine yae (zs (zq (yac hE5) (zq (yaj hE1 underlying24 rfl yca) (zq (zl underlying22 (Row.cell (hS.bx 1 rfl) (i := 1) rfl)) (zq (yac hE4) ?_))))); obtain ⟨hx, h⟩ := h; refine zq (zi underlying22 yaF (yaM (hS.rdr 2 rfl) hx)) (zq (yaj rfl underlying83 rfl yah) (zq (yag (v := (ii ((ge g2 i.toNat).2.2))) rfl underlying3 rfl (rd_f (hS.rdr 2 rfl) hx (fun q => ycL q) 2 rfl)) ?_)); refine zq zL (yaa ?_); by_cases hp2 : k < ((ge g2 i.toNat).2.2)
    · replace h := h.1 hp2; refine zc hp2 (yai (yae (yam (yba [0, 1, 2, 3, 4, 5, 6, 7, 8, 9, 10, 11, 12, 13, 14, 15, 16] (fun i => match i with | 13 => [0] | 14 => [0] | _ => []) ybn (by kernel_rfl) (by kernel_rfl) ?_)))); replace hS := hS.drew; refine zp (yac hE3) (zp (yaj hE1 underlying24 rfl yca) (zp (zl underlying22 (Row.cell (hS.bx 1 rfl) (i := 1) rfl)) (zp (yac hE4) (zp (zi underlying22 yaF (yaM (hS.rdr 2 rfl) hx)) (zp (yaj rfl underlying83 rfl yah) (zp (yag (v := (ii ((ge g2 i.toNat).1))) rfl underlying3 rfl (rd_f (hS.rdr 2 rfl) hx (fun q => ycL q) 0 rfl)) ?_)))))); refine zp (yaj hE1 underlying24 rfl yca) (zp (zl underlying22 (Row.cell (hS.bx 1 rfl) (i := 1) rfl)) (zp (yac hE4) (zp (zi underlying22 yaF (yaM (hS.rdr 2 rfl) hx)) (zp (yaj rfl underlying83 rfl yah) (zp (yag (v := (ii ((ge g2 i.toNat).2.1))) rfl underlying3 rfl (rd_f (hS.rdr 2 rfl) hx (fun q => ycL q) 1 rfl)) ?_))))); refine rp_n rfl rfl rfl rfl (n_builda (l := [(0, (ii ((ge g2 i.toNat).1))), (1, (ii ((ge g2 i.toNat).2.1)))]) (cells := [(ii ((ge g2 i.toNat).1)), (ii ((ge g2 i.toNat).2.1))]) (bp2 rfl rfl) underlying187 info_187 yah rfl ?_); refine ⟨⟨fun hh => Bool.noConfusion (show false = true from hh), ⟨fun hh => Bool.noConfusion (show false = true from hh), ⟨fun hh => Bool.noConfusion (show false = true from hh), ⟨fun hh => Bool.noConfusion (show false = true from hh), ⟨fun hh => Bool.noConfusion (show false = true from hh), ⟨fun hh => Bool.noConfusion (show false = true from hh), ⟨fun hh => Bool.noConfusion (show false = true from hh), ⟨fun hh => Bool.noConfusion (show false = true from hh), ⟨fun hh => Bool.noConfusion (show false = true from hh), ⟨fun hh => Bool.noConfusion (show false = true from hh), ⟨fun hh => Bool.noConfusion (show false = true from hh), ⟨fun hh => Bool.noConfusion (show false = true from hh), ⟨fun _ => (yac hE3), trivial⟩⟩⟩⟩⟩⟩⟩⟩⟩⟩⟩⟩⟩, ?_⟩; refine rp_n rfl rfl rfl rfl (ya8 (l := [(0, (.agg #[(ii ((ge g2 i.toNat).1)), (ii ((ge g2 i.toNat).2.1))]))]) (cells := [(ii ((ge g2 i.toNat).1)), (ii ((ge g2 i.toNat).2.1))]) (bp1 rfl) underlying181 info_187 rfl rfl ?_); intro g4 w5 hN; replace hS := hS.litf (n := 1) 3 rfl (fP (fI .i64) (fI .i64)) hN ([((ge g2 i.toNat).1, (ge g2 i.toNat).2.1)] : List (Int × Int)) rfl (by decide) rfl; clear hN; refine ⟨⟨fun hh => Bool.noConfusion (show false = true from hh), ⟨fun hh => Bool.noConfusion (show false = true from hh), ⟨fun hh => Bool.noConfusion (show false = true from hh), ⟨fun hh => Bool.noConfusion (show false = true from hh), ⟨fun hh => Bool.noConfusion (show false = true from hh), ⟨fun hh => Bool.noConfusion (show false = true from hh), ⟨fun hh => Bool.noConfusion (show false = true from hh), ⟨fun hh => Bool.noConfusion (show false = true from hh), ⟨fun hh => Bool.noConfusion (show false = true from hh), ⟨fun hh => Bool.noConfusion (show false = true from hh), ⟨fun hh => Bool.noConfusion (show false = true from hh), ⟨fun hh => Bool.noConfusion (show false = true from hh), ⟨fun _ => (yac hE3), trivial⟩⟩⟩⟩⟩⟩⟩⟩⟩⟩⟩⟩⟩, ?_⟩; obtain ⟨hx2, h⟩ := h; refine rp_n rfl rfl rfl rfl (n_app (c := c2) rfl rfl underlying181 underlying181 info_187 rfl rfl (by decide) hS 0 rfl (hS.yo 3 rfl) hx2 ?_); clear hS; intro A c w6 hS; refine zb (zp (za (.slice A (lout2 + 1) c)) (ybs (yal (zr (zq (yac hE5) ?_))))); obtain ⟨hi, h⟩ := h; refine zq (zA hi) (zq (za (ii (k + 1))) (yaa ?_)); obtain ⟨mq, hlt, h⟩ := h; exact again2 mq _ _ _ ⟨_, _, _, _, _, h, rfl, hE1, rfl, hE4, rfl, (hS.sel [0, 1, 2] (by decide))⟩ hlt
    · replace h := h.2 hp2; refine zd hp2 (yaA rfl (yal (zr (zq (yac hE4) ?_)))); obtain ⟨hi2, h⟩ := h; refine zq (zA hi2) (zq (za (ii (i + 1))) (yaa ?_)); obtain ⟨mq, hlt, h⟩ := h; exact again mq _ _ _ ⟨_, _, _, _, _, h, rfl, hE1, hE3, rfl, (hS.sel [0, 1, 2] (by decide))⟩ hlt
  · replace h := h.2 hp; exact zd hp (yaA rfl (zs (zq (yac hE3) (zq (za (.slice Aout lout cout)) (yaa (yak rfl rfl ⟨_, _, _, _, rfl, (hS.sel [0] (by decide)), h⟩))))))
def yeF (g : Int) (g2 : List E3) (R : Int → Prop) : Prop :=
ydE g g2 (fun r =>
R ((r.length : Nat) : Int))
theorem pok_r08_Size {O : Nat → Prop} {w : World} {g g2 Ag lg cg} {R : Int → Prop} (h : yeF g g2 R) (hO : ∀ k, O k → k < w.heap.size) (hA0 : (FP.sl c3 Ag lg cg g2).P O w) :
    Calls Try.prog 113 #[(.agg #[(ii g), (.slice Ag lg cg)])] w fun e w' => ∃ r2, e = .returned (ii r2) ∧ Sep w no O w' (rl []) ∧ R r2 := by
  unfold yeF at h; have hS : Sep w no O w (rl [Res.ro (FP.sl c3 Ag lg cg g2)]) := Sep.startl hO [(FP.sl c3 Ag lg cg g2)] ⟨hA0, trivial⟩; refine yap (l := [(.agg #[(ii g), (.slice Ag lg cg)])]) func113 rfl ntmps113 (Nat.le_of_ble_eq_true rfl) (zs (zn (ybq (v := (.agg #[(ii g), (.slice Ag lg cg)])) rfl ?_))); intro g3 w2 hN; replace hS : Sep w no O w2 (stl _ 1 (Res.box 24 g3 [(ii g), (.slice Ag lg cg)])) := hS.new 1 rfl hN; clear hN; refine zb (zq (za (ii 0)) (yaa (zs (zq (yas (vs := [(ii g), (.slice Ag lg cg)]) rfl underlying24 rfl yaq ⟨Row.cell (hS.bx 1 rfl) (i := 0) rfl, Row.cell (hS.bx 1 rfl) (i := 1) rfl, trivial⟩) (zn (yan rfl (am1 rfl) enter_144 ((pok_r08_Ends h (yaK _) (hS.rdr 0 rfl)).mono ?_))))))); rintro _ w3 ⟨r, Ar, lr, cr, rfl, hC, h⟩; replace hS := hS.call1 (hC.widen (yeo (ybk (fP (fI .i64) (fI .i64)) _ _ _ _ _) yfi) hS.blt) 2 0 rfl; clear hC; refine ⟨_, rfl, ?_⟩; exact zb (zq (yaZ (n := r.length) rfl underlying181 (yaS (hS.rdo 2 rfl))) (zq (za (ii ((r.length : Nat) : Int))) (yaa (yak rfl rfl ⟨_, rfl, (hS.sel [] (by decide)), h⟩))))
def ydn (g : Int) (g2 : List E3) (vertices : Int) (single : Int) (R : Bool → Prop) : Prop :=
((40 < ((g2.length : Nat) : Int) →
R false) ∧
(¬ (40 < ((g2.length : Nat) : Int)) →
ycA g g2 (fun r =>
((r = 0 →
((g ≤ vertices →
yeF g g2 (fun r2 =>
R (decide (r2 ≤ single)))) ∧
(¬ (g ≤ vertices) →
R false))) ∧
(¬ (r = 0) →
R true)))))
theorem pok_r08_small {O : Nat → Prop} {w : World} {g g2 vertices single Ag lg cg} {R : Bool → Prop} (h : ydn g g2 vertices single R) (hO : ∀ k, O k → k < w.heap.size) (hA0 : (FP.sl c3 Ag lg cg g2).P O w) :
    Calls Try.prog 76 #[(.agg #[(ii g), (.slice Ag lg cg)]), (ii vertices), (ii single)] w fun e w' => ∃ r3, e = .returned (.bool (r3)) ∧ Sep w no O w' (rl []) ∧ R r3 := by
  unfold ydn at h; have hS : Sep w no O w (rl [Res.ro (FP.sl c3 Ag lg cg g2)]) := Sep.startl hO [(FP.sl c3 Ag lg cg g2)] ⟨hA0, trivial⟩; refine yap (l := [(.agg #[(ii g), (.slice Ag lg cg)]), (ii vertices), (ii single)]) func76 rfl ntmps76 (Nat.le_of_ble_eq_true rfl) (zs (zn (ybq (v := (.agg #[(ii g), (.slice Ag lg cg)])) rfl ?_))); intro g3 w2 hN; replace hS : Sep w no O w2 (stl _ 1 (Res.box 24 g3 [(ii g), (.slice Ag lg cg)])) := hS.new 1 rfl hN; clear hN; refine zb (zq (za (.bool (false))) (yaa (yae (zs (zq (yaj rfl underlying24 rfl yca) (zq (zl underlying22 (Row.cell (hS.bx 1 rfl) (i := 1) rfl)) (zq (yaZ (n := g2.length) rfl underlying22 (yaS (hS.rdr 0 rfl))) (zq zG (yaa ?_))))))))); by_cases hp : 40 < ((g2.length : Nat) : Int)
  · replace h := h.1 hp; exact zc hp (zs (zq (za (.bool (false))) (yaa (yak rfl rfl ⟨_, rfl, (hS.sel [] (by decide)), h⟩))))
  · replace h := h.2 hp; refine zd hp (yai (yae (zs (zq (yas (vs := [(ii g), (.slice Ag lg cg)]) rfl underlying24 rfl yaq ⟨Row.cell (hS.bx 1 rfl) (i := 0) rfl, Row.cell (hS.bx 1 rfl) (i := 1) rfl, trivial⟩) (zn (yan rfl (am1 rfl) enter_91 ((yfS h (yaK _) (hS.rdr 0 rfl)).mono ?_))))))); rintro _ w3 ⟨r, rfl, hC, h⟩; replace hS := hS.pur hC.pure; clear hC; refine ⟨_, rfl, ?_⟩; refine zb (zq zN (yaa ?_)); by_cases hp2 : r = 0
    · replace h := h.1 hp2; refine ze hp2 (yai (zs (zq (yaj rfl underlying24 rfl yah) (zq (zl underlying3 (Row.cell (hS.bx 1 rfl) (i := 0) rfl)) (zq (zm (ii vertices)) (zq (v_leq rfl rfl) (zq (zm (.bool (decide (g ≤ vertices)))) ?_))))))); by_cases hp3 : g ≤ vertices
      · replace h := h.1 hp3; refine rl_q (yad rfl (yaf rfl (congrArg Value.bool (decide_eq_true hp3)))) rfl rfl (yas (vs := [(ii g), (.slice Ag lg cg)]) rfl underlying24 rfl yaq ⟨Row.cell (hS.bx 1 rfl) (i := 0) rfl, Row.cell (hS.bx 1 rfl) (i := 1) rfl, trivial⟩) (rl_n (yad rfl (yaf rfl (congrArg Value.bool (decide_eq_true hp3)))) rfl rfl rfl (yan rfl (am1 rfl) enter_113 ((pok_r08_Size h (yaK _) (hS.rdr 0 rfl)).mono ?_))); rintro _ w4 ⟨r2, rfl, hC, h⟩; replace hS := hS.pur hC.pure; clear hC; refine ⟨_, rfl, ?_⟩; exact zb (rl_q (yad rfl (yaf rfl (congrArg Value.bool (decide_eq_true hp3)))) rfl rfl (zm (ii single)) (rl_q (yad rfl (yaf rfl (congrArg Value.bool (decide_eq_true hp3)))) rfl rfl (v_leq rfl rfl) (zq (yaw (v := (.bool (decide (r2 ≤ single)))) (congrArg Value.bool (decide_eq_true hp3)) rfl) (zq (za (.bool (decide (r2 ≤ single)))) (yaa (yak rfl rfl ⟨_, rfl, (hS.sel [] (by decide)), h⟩))))))
      · replace h := h.2 hp3; exact rl_p (yab rfl (yaf rfl (congrArg Value.bool (decide_eq_false hp3))) rfl) rfl (rl_p (yab rfl (yaf rfl (congrArg Value.bool (decide_eq_false hp3))) rfl) rfl (rl_p (yab rfl (yaf rfl (congrArg Value.bool (decide_eq_false hp3))) rfl) rfl (rl_p (yab rfl (yaf rfl (congrArg Value.bool (decide_eq_false hp3))) rfl) rfl (zq (yay (v := (.bool (false))) (congrArg Value.bool (decide_eq_false hp3)) rfl) (zq (za (.bool (false))) (yaa (yak rfl rfl ⟨_, rfl, (hS.sel [] (by decide)), h⟩)))))))
    · replace h := h.2 hp2; exact zf hp2 (zs (zq (za (.bool (true))) (yaa (yak rfl rfl ⟨_, rfl, (hS.sel [] (by decide)), h⟩))))
def ycr (g : Int) (g2 : List E3) (v : Int) (R : (List Bool) → Prop) : Prop :=
((0 ≤ g ∧ g ≤ 1000000) ∧
((0 ≤ v ∧ v < (((List.replicate g.toNat false).length : Nat) : Int)) ∧
(∃ I2 : Nat → Int → (List Bool) → Prop, (∃ m0, I2 m0 0 ((List.replicate g.toNat false).set v.toNat true)) ∧ ∀ m2 round out, I2 m2 round out → 
((round < g →
(∃ I3 : Nat → Int → (List Bool) → Prop, (∃ m0, I3 m0 0 out) ∧ ∀ m3 a out2, I3 m3 a out2 → 
((a < g →
(∃ I4 : Nat → Int → (List Bool) → Prop, (∃ m0, I4 m0 0 out2) ∧ ∀ m4 b out3, I4 m4 b out3 → 
((b < g →
((0 ≤ a ∧ a < ((out3.length : Nat) : Int)) ∧
((gb out3 a.toNat = true →
ybf g g2 a b (fun r =>
((0 < r →
((0 ≤ b ∧ b < ((out3.length : Nat) : Int)) ∧
(In64 (b + 1) ∧
∃ m5, m5 < m4 ∧ I4 m5 (b + 1) (out3.set b.toNat true)))) ∧
(¬ (0 < r) →
(In64 (b + 1) ∧
∃ m6, m6 < m4 ∧ I4 m6 (b + 1) out3))))) ∧
(¬ (gb out3 a.toNat = true) →
(In64 (b + 1) ∧
∃ m7, m7 < m4 ∧ I4 m7 (b + 1) out3))))) ∧
(¬ (b < g) →
(In64 (a + 1) ∧
∃ m8, m8 < m3 ∧ I3 m8 (a + 1) out3))))) ∧
(¬ (a < g) →
(In64 (round + 1) ∧
∃ m9, m9 < m2 ∧ I2 m9 (round + 1) out2))))) ∧
(¬ (round < g) →
R out)))))
theorem yhw {O : Nat → Prop} {w : World} {g g2 v Ag lg cg} {R : (List Bool) → Prop} (h : ycr g g2 v R) (hO : ∀ k, O k → k < w.heap.size) (hA0 : (FP.sl c3 Ag lg cg g2).P O w) :
    Calls Try.prog 159 #[(.agg #[(ii g), (.slice Ag lg cg)]), (ii v)] w fun e w' => ∃ r2 Ar lr cr, e = .returned (.slice Ar lr cr) ∧ Sep w no O w' (rl [Res.own cB 4 Ar lr cr r2]) ∧ R r2 := by
  unfold ycr at h; have hS : Sep w no O w (rl [Res.ro (FP.sl c3 Ag lg cg g2)]) := Sep.startl hO [(FP.sl c3 Ag lg cg g2)] ⟨hA0, trivial⟩; refine yap (l := [(.agg #[(ii g), (.slice Ag lg cg)]), (ii v)]) func159 rfl ntmps159 (Nat.le_of_ble_eq_true rfl) (zs (zn (ybq (v := (.agg #[(ii g), (.slice Ag lg cg)])) rfl ?_))); intro g3 w2 hN; replace hS : Sep w no O w2 (stl _ 1 (Res.box 24 g3 [(ii g), (.slice Ag lg cg)])) := hS.new 1 rfl hN; clear hN; refine zb (zq (za (.slice none 0 0)) (yaa (zs (zq (yaj rfl underlying24 rfl yah) (zq (zl underlying3 (Row.cell (hS.bx 1 rfl) (i := 0) rfl)) ?_))))); obtain ⟨hx, h⟩ := h; refine zn (yfK rfl rfl underlying144 yct (by decide) rfl hx ?_); intro g4 w3 hN; replace hS := hS.made 2 rfl cB (.bool (false)) false (fun _ _ => rfl) hN (by omega); clear hN; refine zb (zq (za (.slice (some ⟨g4, 0, none⟩) g.toNat g.toNat)) (yaa (zs (zq (zm (.slice (some ⟨g4, 0, none⟩) g.toNat g.toNat)) (zq (zm (ii v)) ?_))))); obtain ⟨hx2, h⟩ := h; refine zq (zi underlying144 yct (yaM (hS.rdo 2 rfl) hx2)) (zo (zt (.bool (true)) yct (hS.wr 2 rfl rfl hx2) ?_)); intro w4 e1; replace hS := hS.st 2 rfl rfl hx2 (x := true) rfl e1; clear e1; refine zb (yaa (yae (zs (zq (za (ii 0)) (yaa (yam ?_)))))); obtain ⟨I2, ⟨m0, h0⟩, hr⟩ := h; refine yaC (fun m E ds w' => ∃ round out Aout lout cout, I2 m round out ∧ ds = [] ∧ E 2 = (Value.pointer (some (⟨g3, 0, none⟩ : Addr))) ∧ E 5 = (Value.slice Aout lout cout) ∧ E 6 = (ii round) ∧ Sep w no O w' (rl [Res.box 24 g3 [(ii g), (.slice Ag lg cg)], Res.ro (FP.sl c3 Ag lg cg g2), Res.own cB 4 Aout lout cout out])) m0 ⟨_, _, _, _, _, h0, rfl, rfl, rfl, rfl, (hS.sel [1, 0, 2] (by decide))⟩ ?_; clear h0 hS; rintro m2 E ds w5 ⟨round, out, Aout, lout, cout, h, rfl, hE2, hE5, hE6, hS⟩ again; replace h := hr m2 round out h; clear hr; refine yae (zs (zq (yac hE6) (zq (yaj hE2 underlying24 rfl yah) (zq (zl underlying3 (Row.cell (hS.bx 0 rfl) (i := 0) rfl)) (zq zL (yaa ?_)))))); by_cases hp : round < g
  · replace h := h.1 hp; refine zc hp (yai (yae (yam (zs (zq (za (ii 0)) (yaa (yam ?_))))))); obtain ⟨I3, ⟨m0, h0⟩, hr⟩ := h; refine yaC (fun m E ds w' => ∃ a out2 Aout2 lout2 cout2, I3 m a out2 ∧ ds = [] ∧ E 2 = (Value.pointer (some (⟨g3, 0, none⟩ : Addr))) ∧ E 5 = (Value.slice Aout2 lout2 cout2) ∧ E 6 = (ii round) ∧ E 7 = (ii a) ∧ Sep w no O w' (rl [Res.box 24 g3 [(ii g), (.slice Ag lg cg)], Res.ro (FP.sl c3 Ag lg cg g2), Res.own cB 4 Aout2 lout2 cout2 out2])) m0 ⟨_, _, _, _, _, h0, rfl, hE2, hE5, hE6, rfl, (hS.sel [0, 1, 2] (by decide))⟩ ?_; clear h0 hS; rintro m3 E ds w6 ⟨a, out2, Aout2, lout2, cout2, h, rfl, hE2, hE5, hE6, hE7, hS⟩ again2; replace h := hr m3 a out2 h; clear hr; refine yae (zs (zq (yac hE7) (zq (yaj hE2 underlying24 rfl yah) (zq (zl underlying3 (Row.cell (hS.bx 0 rfl) (i := 0) rfl)) (zq zL (yaa ?_)))))); by_cases hp2 : a < g
    · replace h := h.1 hp2; refine zc hp2 (yai (yae (yam (zs (zq (za (ii 0)) (yaa (yam ?_))))))); obtain ⟨I4, ⟨m0, h0⟩, hr⟩ := h; refine yaC (fun m E ds w' => ∃ b out3 Aout3 lout3 cout3, I4 m b out3 ∧ ds = [] ∧ E 2 = (Value.pointer (some (⟨g3, 0, none⟩ : Addr))) ∧ E 5 = (Value.slice Aout3 lout3 cout3) ∧ E 6 = (ii round) ∧ E 7 = (ii a) ∧ E 8 = (ii b) ∧ Sep w no O w' (rl [Res.box 24 g3 [(ii g), (.slice Ag lg cg)], Res.ro (FP.sl c3 Ag lg cg g2), Res.own cB 4 Aout3 lout3 cout3 out3])) m0 ⟨_, _, _, _, _, h0, rfl, hE2, hE5, hE6, hE7, rfl, (hS.sel [0, 1, 2] (by decide))⟩ ?_; clear h0 hS; rintro m4 E ds w7 ⟨b, out3, Aout3, lout3, cout3, h, rfl, hE2, hE5, hE6, hE7, hE8, hS⟩ again3; replace h := hr m4 b out3 h; clear hr; refine yae (zs (zq (yac hE8) (zq (yaj hE2 underlying24 rfl yah) (zq (zl underlying3 (Row.cell (hS.bx 0 rfl) (i := 0) rfl)) (zq zL (yaa ?_)))))); by_cases hp3 : b < g
      · replace h := h.1 hp3; refine zc hp3 (yai (yae (yam (zs (zq (yac hE5) (zq (yac hE7) ?_)))))); obtain ⟨hx3, h⟩ := h; refine zq (zi underlying144 yct (yaM (hS.rdo 2 rfl) hx3)) (zq (yag (v := (.bool (gb out3 a.toNat))) rfl underlying4 rfl (rd_1 (hS.rdo 2 rfl) hx3 (fun q => gb_some q) rfl)) ?_); refine zq (zm (.bool (gb out3 a.toNat))) ?_; by_cases hp4 : gb out3 a.toNat = true
        · replace h := h.1 hp4; refine rl_q (yad rfl (yaf rfl (congrArg Value.bool hp4))) rfl rfl (yas (vs := [(ii g), (.slice Ag lg cg)]) hE2 underlying24 rfl yaq ⟨Row.cell (hS.bx 0 rfl) (i := 0) rfl, Row.cell (hS.bx 0 rfl) (i := 1) rfl, trivial⟩) (rl_q (yad rfl (yaf rfl (congrArg Value.bool hp4))) rfl rfl (yac hE7) (rl_q (yad rfl (yaf rfl (congrArg Value.bool hp4))) rfl rfl (yac hE8) (rl_n (yad rfl (yaf rfl (congrArg Value.bool hp4))) rfl rfl rfl (yan rfl (am3 rfl rfl rfl) yfR ((ycE h (yaK _) (hS.rdr 1 rfl)).mono ?_))))); rintro _ w8 ⟨r, rfl, hC, h⟩; replace hS := hS.pur hC.pure; clear hC; refine ⟨_, rfl, ?_⟩; refine zb (rl_q (yad rfl (yaf rfl (congrArg Value.bool hp4))) rfl rfl zG (zq (yaw (v := (.bool (decide (0 < r)))) (congrArg Value.bool hp4) rfl) (yaa ?_))); by_cases hp5 : 0 < r
          · replace h := h.1 hp5; refine zc hp5 (zr (zq (yac hE5) (zq (yac hE8) ?_))); obtain ⟨hx4, h⟩ := h; refine zq (zi underlying144 yct (yaM (hS.rdo 2 rfl) hx4)) (zo (zt (.bool (true)) yct (hS.wr 2 rfl rfl hx4) ?_)); intro w9 e1; replace hS := hS.st 2 rfl rfl hx4 (x := true) rfl e1; clear e1; refine zb (yaa (yal (zr (zq (yac hE8) ?_)))); obtain ⟨hi, h⟩ := h; refine zq (zA hi) (zq (za (ii (b + 1))) (yaa ?_)); obtain ⟨mq, hlt, h⟩ := h; exact again3 mq _ _ _ ⟨_, _, _, _, _, h, rfl, hE2, hE5, hE6, hE7, rfl, (hS.sel [0, 1, 2] (by decide))⟩ hlt
          · replace h := h.2 hp5; refine zd hp5 (yai (yal (zr (zq (yac hE8) ?_)))); obtain ⟨hi2, h⟩ := h; refine zq (zA hi2) (zq (za (ii (b + 1))) (yaa ?_)); obtain ⟨mq, hlt, h⟩ := h; exact again3 mq _ _ _ ⟨_, _, _, _, _, h, rfl, hE2, hE5, hE6, hE7, rfl, (hS.sel [0, 1, 2] (by decide))⟩ hlt
        · replace h := h.2 hp4; refine rl_p (yab rfl (yaf rfl (congrArg Value.bool (Bool.eq_false_iff.2 hp4))) rfl) rfl (rl_p (yab rfl (yaf rfl (congrArg Value.bool (Bool.eq_false_iff.2 hp4))) rfl) rfl (rl_p (yab rfl (yaf rfl (congrArg Value.bool (Bool.eq_false_iff.2 hp4))) rfl) rfl (rl_p (yab rfl (yaf rfl (congrArg Value.bool (Bool.eq_false_iff.2 hp4))) rfl) rfl (rl_p (yab rfl (yaf rfl (congrArg Value.bool (Bool.eq_false_iff.2 hp4))) rfl) rfl (zq (yay (v := (.bool (false))) (congrArg Value.bool (Bool.eq_false_iff.2 hp4)) rfl) (yaa (yaz rfl (yai (yal (zr (zq (yac hE8) ?_))))))))))); obtain ⟨hi3, h⟩ := h; refine zq (zA hi3) (zq (za (ii (b + 1))) (yaa ?_)); obtain ⟨mq, hlt, h⟩ := h; exact again3 mq _ _ _ ⟨_, _, _, _, _, h, rfl, hE2, hE5, hE6, hE7, rfl, (hS.sel [0, 1, 2] (by decide))⟩ hlt
      · replace h := h.2 hp3; refine zd hp3 (yaA rfl (yal (zr (zq (yac hE7) ?_)))); obtain ⟨hi4, h⟩ := h; refine zq (zA hi4) (zq (za (ii (a + 1))) (yaa ?_)); obtain ⟨mq, hlt, h⟩ := h; exact again2 mq _ _ _ ⟨_, _, _, _, _, h, rfl, hE2, hE5, hE6, rfl, (hS.sel [0, 1, 2] (by decide))⟩ hlt
    · replace h := h.2 hp2; refine zd hp2 (yaA rfl (yal (zr (zq (yac hE6) ?_)))); obtain ⟨hi5, h⟩ := h; refine zq (zA hi5) (zq (za (ii (round + 1))) (yaa ?_)); obtain ⟨mq, hlt, h⟩ := h; exact again mq _ _ _ ⟨_, _, _, _, _, h, rfl, hE2, hE5, rfl, (hS.sel [0, 1, 2] (by decide))⟩ hlt
  · replace h := h.2 hp; exact zd hp (yaA rfl (zs (zq (yac hE5) (zq (za (.slice Aout lout cout)) (yaa (yak rfl rfl ⟨_, _, _, _, rfl, (hS.sel [2] (by decide)), h⟩))))))
def ydk (g : Int) (g2 : List E3) (R : Int → Prop) : Prop :=
((0 ≤ g ∧ g ≤ 1000000) ∧
(∃ I2 : Nat → Int → Int → (List Bool) → Prop, (∃ m0, I2 m0 0 0 (List.replicate g.toNat false)) ∧ ∀ m2 n v seen, I2 m2 n v seen → 
((v < g →
((0 ≤ v ∧ v < ((seen.length : Nat) : Int)) ∧
((gb seen v.toNat = true →
(In64 (v + 1) ∧
∃ m3, m3 < m2 ∧ I2 m3 n (v + 1) seen)) ∧
(¬ (gb seen v.toNat = true) →
(In64 (n + 1) ∧
ycr g g2 v (fun r =>
(∃ I3 : Nat → Int → (List Bool) → Prop, (∃ m0, I3 m0 0 seen) ∧ ∀ m4 u seen2, I3 m4 u seen2 → 
((u < g →
((0 ≤ u ∧ u < ((seen2.length : Nat) : Int)) ∧
((gb seen2 u.toNat = true →
(In64 (u + 1) ∧
∃ m5, m5 < m4 ∧ I3 m5 (u + 1) (seen2.set u.toNat true))) ∧
(¬ (gb seen2 u.toNat = true) →
((0 ≤ u ∧ u < ((r.length : Nat) : Int)) ∧
(In64 (u + 1) ∧
∃ m6, m6 < m4 ∧ I3 m6 (u + 1) (seen2.set u.toNat (gb r u.toNat)))))))) ∧
(¬ (u < g) →
(In64 (v + 1) ∧
∃ m7, m7 < m2 ∧ I2 m7 (n + 1) (v + 1) seen2)))))))))) ∧
(¬ (v < g) →
R n))))
theorem pok_r08_Parts {O : Nat → Prop} {w : World} {g g2 Ag lg cg} {R : Int → Prop} (h : ydk g g2 R) (hO : ∀ k, O k → k < w.heap.size) (hA0 : (FP.sl c3 Ag lg cg g2).P O w) :
    Calls Try.prog 131 #[(.agg #[(ii g), (.slice Ag lg cg)])] w fun e w' => ∃ r2, e = .returned (ii r2) ∧ Sep w no O w' (rl []) ∧ R r2 := by
  unfold ydk at h; have hS : Sep w no O w (rl [Res.ro (FP.sl c3 Ag lg cg g2)]) := Sep.startl hO [(FP.sl c3 Ag lg cg g2)] ⟨hA0, trivial⟩; refine yap (l := [(.agg #[(ii g), (.slice Ag lg cg)])]) func131 rfl ntmps131 (Nat.le_of_ble_eq_true rfl) (zs (zn (ybq (v := (.agg #[(ii g), (.slice Ag lg cg)])) rfl ?_))); intro g3 w2 hN; replace hS : Sep w no O w2 (stl _ 1 (Res.box 24 g3 [(ii g), (.slice Ag lg cg)])) := hS.new 1 rfl hN; clear hN; refine zb (zq (za (ii 0)) (yaa (zs (zq (za (ii 0)) (yaa (zs (zq (yaj rfl underlying24 rfl yah) (zq (zl underlying3 (Row.cell (hS.bx 1 rfl) (i := 0) rfl)) ?_)))))))); obtain ⟨hx, h⟩ := h; refine zn (yfK rfl rfl underlying144 yct (by decide) rfl hx ?_); intro g4 w3 hN; replace hS := hS.made 2 rfl cB (.bool (false)) false (fun _ _ => rfl) hN (by omega); clear hN; refine zb (zq (za (.slice (some ⟨g4, 0, none⟩) g.toNat g.toNat)) (yaa (yae (zs (zq (za (ii 0)) (yaa (yam ?_))))))); obtain ⟨I2, ⟨m0, h0⟩, hr⟩ := h; refine yaC (fun m E ds w' => ∃ n v seen Aseen lseen cseen, I2 m n v seen ∧ ds = [] ∧ E 1 = (Value.pointer (some (⟨g3, 0, none⟩ : Addr))) ∧ E 3 = (ii n) ∧ E 4 = (Value.slice Aseen lseen cseen) ∧ E 5 = (ii v) ∧ Sep w no O w' (rl [Res.box 24 g3 [(ii g), (.slice Ag lg cg)], Res.ro (FP.sl c3 Ag lg cg g2), Res.own cB 4 Aseen lseen cseen seen])) m0 ⟨_, _, _, _, _, _, h0, rfl, rfl, rfl, rfl, rfl, (hS.sel [1, 0, 2] (by decide))⟩ ?_; clear h0 hS; rintro m2 E ds w4 ⟨n, v, seen, Aseen, lseen, cseen, h, rfl, hE1, hE3, hE4, hE5, hS⟩ again; replace h := hr m2 n v seen h; clear hr; refine yae (zs (zq (yac hE5) (zq (yaj hE1 underlying24 rfl yah) (zq (zl underlying3 (Row.cell (hS.bx 0 rfl) (i := 0) rfl)) (zq zL (yaa ?_)))))); by_cases hp : v < g
  · replace h := h.1 hp; refine zc hp (yai (yae (yam (yae (zs (zq (yac hE4) (zq (yac hE5) ?_))))))); obtain ⟨hx2, h⟩ := h; refine zq (zi underlying144 yct (yaM (hS.rdo 2 rfl) hx2)) (zq (yag (v := (.bool (gb seen v.toNat))) rfl underlying4 rfl (rd_1 (hS.rdo 2 rfl) hx2 (fun q => gb_some q) rfl)) ?_); refine yaa ?_; by_cases hp2 : gb seen v.toNat = true
    · replace h := h.1 hp2; refine yau (congrArg Value.bool hp2) (yaA rfl (zr (zq (yac hE5) ?_))); obtain ⟨hi, h⟩ := h; refine zq (zA hi) (zq (za (ii (v + 1))) (yaa ?_)); obtain ⟨mq, hlt, h⟩ := h; exact again mq _ _ _ ⟨_, _, _, _, _, _, h, rfl, hE1, hE3, hE4, rfl, (hS.sel [0, 1, 2] (by decide))⟩ hlt
    · replace h := h.2 hp2; refine yaz (congrArg Value.bool (Bool.eq_false_iff.2 hp2)) (yai (zs (zq (yac hE3) ?_))); obtain ⟨hi2, h⟩ := h; refine zq (zA hi2) (zq (za (ii (n + 1))) (yaa (zs (zq (yas (vs := [(ii g), (.slice Ag lg cg)]) hE1 underlying24 rfl yaq ⟨Row.cell (hS.bx 0 rfl) (i := 0) rfl, Row.cell (hS.bx 0 rfl) (i := 1) rfl, trivial⟩) (zq (yac hE5) (zn (yan rfl (am2 rfl rfl) enter_159 ((yhw h (yaK _) (hS.rdr 1 rfl)).mono ?_)))))))); rintro _ w5 ⟨r, Ar, lr, cr, rfl, hC, h⟩; replace hS := hS.call1 (hC.widen (yeo (ybk fB _ _ _ _ _) yfi) hS.blt) 3 0 rfl; clear hC; refine ⟨_, rfl, ?_⟩; refine zb (zq (za (.slice Ar lr cr)) (yaa (zs (zq (za (ii 0)) (yaa (yam ?_)))))); obtain ⟨I3, ⟨m0, h0⟩, hr⟩ := h; refine yaC (fun m E ds w' => ∃ u seen2 Aseen2 lseen2 cseen2, I3 m u seen2 ∧ ds = [] ∧ E 1 = (Value.pointer (some (⟨g3, 0, none⟩ : Addr))) ∧ E 3 = (ii (n + 1)) ∧ E 4 = (Value.slice Aseen2 lseen2 cseen2) ∧ E 5 = (ii v) ∧ E 6 = (Value.slice Ar lr cr) ∧ E 7 = (ii u) ∧ Sep w no O w' (rl [Res.box 24 g3 [(ii g), (.slice Ag lg cg)], Res.ro (FP.sl c3 Ag lg cg g2), Res.own cB 4 Aseen2 lseen2 cseen2 seen2, Res.own cB 4 Ar lr cr r])) m0 ⟨_, _, _, _, _, h0, rfl, hE1, rfl, hE4, hE5, rfl, rfl, (hS.sel [0, 1, 2, 3] (by decide))⟩ ?_; clear h0 hS; rintro m4 E ds w6 ⟨u, seen2, Aseen2, lseen2, cseen2, h, rfl, hE1, hE3, hE4, hE5, hE6, hE7, hS⟩ again2; replace h := hr m4 u seen2 h; clear hr; refine yae (zs (zq (yac hE7) (zq (yaj hE1 underlying24 rfl yah) (zq (zl underlying3 (Row.cell (hS.bx 0 rfl) (i := 0) rfl)) (zq zL (yaa ?_)))))); by_cases hp3 : u < g
      · replace h := h.1 hp3; refine zc hp3 (yai (yae (yam (zr (zq (yac hE4) (zq (yac hE7) (zq (yac hE4) (zq (yac hE7) ?_)))))))); obtain ⟨hx3, h⟩ := h; refine zq (zi underlying144 yct (yaM (hS.rdo 2 rfl) hx3)) (zq (yag (v := (.bool (gb seen2 u.toNat))) rfl underlying4 rfl (rd_1 (hS.rdo 2 rfl) hx3 (fun q => gb_some q) rfl)) ?_); refine zq (zm (.bool (gb seen2 u.toNat))) ?_; by_cases hp4 : gb seen2 u.toNat = true
        · replace h := h.1 hp4; refine rl_p (yab rfl (yaf rfl (congrArg Value.bool hp4)) rfl) rfl (rl_p (yab rfl (yaf rfl (congrArg Value.bool hp4)) rfl) rfl (rl_p (yab rfl (yaf rfl (congrArg Value.bool hp4)) rfl) rfl (rl_p (yab rfl (yaf rfl (congrArg Value.bool hp4)) rfl) rfl (zq (yaw (v := (.bool (true))) (congrArg Value.bool hp4) rfl) (zq (zi underlying144 yct (yaM (hS.rdo 2 rfl) hx3)) (zo (zt (.bool (true)) yct (hS.wr 2 rfl rfl hx3) ?_))))))); intro w7 e1; replace hS := hS.st 2 rfl rfl hx3 (x := true) rfl e1; clear e1; refine zb (yaa (yal (zr (zq (yac hE7) ?_)))); obtain ⟨hi3, h⟩ := h; refine zq (zA hi3) (zq (za (ii (u + 1))) (yaa ?_)); obtain ⟨mq, hlt, h⟩ := h; exact again2 mq _ _ _ ⟨_, _, _, _, _, h, rfl, hE1, hE3, hE4, hE5, hE6, rfl, (hS.sel [0, 1, 2, 3] (by decide))⟩ hlt
        · replace h := h.2 hp4; refine rl_q (yad rfl (yaf rfl (congrArg Value.bool (Bool.eq_false_iff.2 hp4)))) rfl rfl (yac hE6) (rl_q (yad rfl (yaf rfl (congrArg Value.bool (Bool.eq_false_iff.2 hp4)))) rfl rfl (yac hE7) ?_); obtain ⟨hx4, h⟩ := h; refine rl_q (yad rfl (yaf rfl (congrArg Value.bool (Bool.eq_false_iff.2 hp4)))) rfl rfl (zi underlying144 yct (yaM (hS.rdo 3 rfl) hx4)) (rl_q (yad rfl (yaf rfl (congrArg Value.bool (Bool.eq_false_iff.2 hp4)))) rfl rfl (yag (v := (.bool (gb r u.toNat))) rfl underlying4 rfl (rd_1 (hS.rdo 3 rfl) hx4 (fun q => gb_some q) rfl)) ?_); refine zq (yay (v := (.bool (gb r u.toNat))) (congrArg Value.bool (Bool.eq_false_iff.2 hp4)) rfl) (zq (zi underlying144 yct (yaM (hS.rdo 2 rfl) hx3)) (zo (zt (.bool (gb r u.toNat)) yct (hS.wr 2 rfl rfl hx3) ?_))); intro w8 e1; replace hS := hS.st 2 rfl rfl hx3 (x := gb r u.toNat) rfl e1; clear e1; refine zb (yaa (yal (zr (zq (yac hE7) ?_)))); obtain ⟨hi4, h⟩ := h; refine zq (zA hi4) (zq (za (ii (u + 1))) (yaa ?_)); obtain ⟨mq, hlt, h⟩ := h; exact again2 mq _ _ _ ⟨_, _, _, _, _, h, rfl, hE1, hE3, hE4, hE5, hE6, rfl, (hS.sel [0, 1, 2, 3] (by decide))⟩ hlt
      · replace h := h.2 hp3; refine zd hp3 (yaA rfl (yal (zr (zq (yac hE5) ?_)))); obtain ⟨hi5, h⟩ := h; refine zq (zA hi5) (zq (za (ii (v + 1))) (yaa ?_)); obtain ⟨mq, hlt, h⟩ := h; exact again mq _ _ _ ⟨_, _, _, _, _, _, h, rfl, hE1, hE3, hE4, rfl, (hS.sel [0, 1, 2] (by decide))⟩ hlt
  · replace h := h.2 hp; exact zd hp (yaA rfl (zs (zq (yac hE3) (zq (za (ii n)) (yaa (yak rfl rfl ⟨_, rfl, (hS.sel [] (by decide)), h⟩))))))
def ycu (g : Int) (g2 : List E3) (R : Bool → Prop) : Prop :=
ydk g g2 (fun r =>
R (decide (r = 1)))
theorem ygl {O : Nat → Prop} {w : World} {g g2 Ag lg cg} {R : Bool → Prop} (h : ycu g g2 R) (hO : ∀ k, O k → k < w.heap.size) (hA0 : (FP.sl c3 Ag lg cg g2).P O w) :
    Calls Try.prog 92 #[(.agg #[(ii g), (.slice Ag lg cg)])] w fun e w' => ∃ r2, e = .returned (.bool (r2)) ∧ Sep w no O w' (rl []) ∧ R r2 := by
  unfold ycu at h; have hS : Sep w no O w (rl [Res.ro (FP.sl c3 Ag lg cg g2)]) := Sep.startl hO [(FP.sl c3 Ag lg cg g2)] ⟨hA0, trivial⟩; refine yap (l := [(.agg #[(ii g), (.slice Ag lg cg)])]) func92 rfl ntmps92 (Nat.le_of_ble_eq_true rfl) (zs (zn (ybq (v := (.agg #[(ii g), (.slice Ag lg cg)])) rfl ?_))); intro g3 w2 hN; replace hS : Sep w no O w2 (stl _ 1 (Res.box 24 g3 [(ii g), (.slice Ag lg cg)])) := hS.new 1 rfl hN; clear hN; refine zb (zq (za (.bool (false))) (yaa (zs (zq (yas (vs := [(ii g), (.slice Ag lg cg)]) rfl underlying24 rfl yaq ⟨Row.cell (hS.bx 1 rfl) (i := 0) rfl, Row.cell (hS.bx 1 rfl) (i := 1) rfl, trivial⟩) (zn (yan rfl (am1 rfl) enter_131 ((pok_r08_Parts h (yaK _) (hS.rdr 0 rfl)).mono ?_))))))); rintro _ w3 ⟨r, rfl, hC, h⟩; replace hS := hS.pur hC.pure; clear hC; refine ⟨_, rfl, ?_⟩; exact zb (zq zE (zq (za (.bool (decide (r = 1)))) (yaa (yak rfl rfl ⟨_, rfl, (hS.sel [] (by decide)), h⟩))))
def ycP (g : Int) (g2 : List E3) (R : Int → Prop) : Prop :=
ycA g g2 (fun r =>
((r = 0 →
ycu g g2 (fun r2 =>
((r2 = true →
R 0) ∧
(¬ (r2 = true) →
R 13)))) ∧
(¬ (r = 0) →
R r)))
theorem yir {O : Nat → Prop} {w : World} {g g2 Ag lg cg} {R : Int → Prop} (h : ycP g g2 R) (hO : ∀ k, O k → k < w.heap.size) (hA0 : (FP.sl c3 Ag lg cg g2).P O w) :
    Calls Try.prog 51 #[(.agg #[(ii g), (.slice Ag lg cg)])] w fun e w' => ∃ r3, e = .returned (ii r3) ∧ Sep w no O w' (rl []) ∧ R r3 := by
  unfold ycP at h; have hS : Sep w no O w (rl [Res.ro (FP.sl c3 Ag lg cg g2)]) := Sep.startl hO [(FP.sl c3 Ag lg cg g2)] ⟨hA0, trivial⟩; refine yap (l := [(.agg #[(ii g), (.slice Ag lg cg)])]) func51 rfl ntmps51 (Nat.le_of_ble_eq_true rfl) (zs (zn (ybq (v := (.agg #[(ii g), (.slice Ag lg cg)])) rfl ?_))); intro g3 w2 hN; replace hS : Sep w no O w2 (stl _ 1 (Res.box 24 g3 [(ii g), (.slice Ag lg cg)])) := hS.new 1 rfl hN; clear hN; refine zb (zq (za (ii 0)) (yaa (yae (zs (zq (yas (vs := [(ii g), (.slice Ag lg cg)]) rfl underlying24 rfl yaq ⟨Row.cell (hS.bx 1 rfl) (i := 0) rfl, Row.cell (hS.bx 1 rfl) (i := 1) rfl, trivial⟩) (zn (yan rfl (am1 rfl) enter_91 ((yfS h (yaK _) (hS.rdr 0 rfl)).mono ?_)))))))); rintro _ w3 ⟨r, rfl, hC, h⟩; replace hS := hS.pur hC.pure; clear hC; refine ⟨_, rfl, ?_⟩; refine zb (zq (za (ii r)) (yaa (zs (zq (zm (ii r)) (zq zN (yaa ?_)))))); by_cases hp : r = 0
  · replace h := h.1 hp; refine ze hp (yai (yae (zs (zq (yas (vs := [(ii g), (.slice Ag lg cg)]) rfl underlying24 rfl yaq ⟨Row.cell (hS.bx 1 rfl) (i := 0) rfl, Row.cell (hS.bx 1 rfl) (i := 1) rfl, trivial⟩) (zn (yan rfl (am1 rfl) enter_92 ((ygl h (yaK _) (hS.rdr 0 rfl)).mono ?_))))))); rintro _ w4 ⟨r2, rfl, hC, h⟩; replace hS := hS.pur hC.pure; clear hC; refine ⟨_, rfl, ?_⟩; refine zb (zq (ycV rfl) (yaa ?_)); by_cases hp2 : r2 = true
    · replace h := h.1 hp2; exact yaz (congrArg Value.bool (congrArg Bool.not hp2)) (yai (zs (zq (za (ii 0)) (yaa (yak rfl rfl ⟨_, rfl, (hS.sel [] (by decide)), h⟩)))))
    · replace h := h.2 hp2; exact yau (congrArg Value.bool (congrArg Bool.not (Bool.eq_false_iff.2 hp2))) (zs (zq (za (ii 13)) (yaa (yak rfl rfl ⟨_, rfl, (hS.sel [] (by decide)), h⟩))))
  · replace h := h.2 hp; exact zf hp (zs (zq (zm (ii r)) (zq (za (ii r)) (yaa (yak rfl rfl ⟨_, rfl, (hS.sel [] (by decide)), h⟩)))))
def yik (g : Int) (g2 : List E3) (d : List Int) (R : Bool → Prop) : Prop :=
((100 < ((d.length : Nat) : Int) →
R false) ∧
(¬ (100 < ((d.length : Nat) : Int)) →
ycB d g (fun r =>
((r = 0 →
(∃ I2 : Nat → Int → Prop, (∃ m0, I2 m0 0) ∧ ∀ m2 i, I2 m2 i → 
((i < ((d.length : Nat) : Int) →
((0 ≤ i ∧ i < ((d.length : Nat) : Int)) ∧
(((gi d i.toNat) < (-100) →
R false) ∧
(¬ ((gi d i.toNat) < (-100)) →
((100 < (gi d i.toNat) →
R false) ∧
(¬ (100 < (gi d i.toNat)) →
(In64 (i + 1) ∧
∃ m3, m3 < m2 ∧ I2 m3 (i + 1)))))))) ∧
(¬ (i < ((d.length : Nat) : Int)) →
R true)))) ∧
(¬ (r = 0) →
R true)))))
theorem pok_r34_Low {O : Nat → Prop} {w : World} {g g2 d Ag lg cg Ad ld cd} {R : Bool → Prop} (h : yik g g2 d R) (hO : ∀ k, O k → k < w.heap.size) (hA0 : (FP.sl c3 Ag lg cg g2).P O w) (hA1 : (FP.sl cI Ad ld cd d).P O w) :
    Calls Try.prog 43 #[(.agg #[(ii g), (.slice Ag lg cg)]), (.slice Ad ld cd)] w fun e w' => ∃ r2, e = .returned (.bool (r2)) ∧ Sep w no O w' (rl []) ∧ R r2 := by
  unfold yik at h; have hS : Sep w no O w (rl [Res.ro (FP.sl c3 Ag lg cg g2), Res.ro (FP.sl cI Ad ld cd d)]) := Sep.startl hO [(FP.sl c3 Ag lg cg g2), (FP.sl cI Ad ld cd d)] ⟨hA0, hA1, trivial⟩; refine yap (l := [(.agg #[(ii g), (.slice Ag lg cg)]), (.slice Ad ld cd)]) func43 rfl ntmps43 (Nat.le_of_ble_eq_true rfl) (zs (zn (ybq (v := (.agg #[(ii g), (.slice Ag lg cg)])) rfl ?_))); intro g3 w2 hN; replace hS : Sep w no O w2 (stl _ 2 (Res.box 24 g3 [(ii g), (.slice Ag lg cg)])) := hS.new 2 rfl hN; clear hN; refine zb (zq (za (.bool (false))) (yaa (yae (zs (zq (zm (.slice Ad ld cd)) (zq (yaZ (n := d.length) rfl underlying25 (yaS (hS.rdr 1 rfl))) (zq zG (yaa ?_)))))))); by_cases hp : 100 < ((d.length : Nat) : Int)
  · replace h := h.1 hp; exact zc hp (zs (zq (za (.bool (false))) (yaa (yak rfl rfl ⟨_, rfl, (hS.sel [] (by decide)), h⟩))))
  · replace h := h.2 hp; refine zd hp (yai (yae (zs (zq (zm (.slice Ad ld cd)) (zq (yaj rfl underlying24 rfl yah) (zq (zl underlying3 (Row.cell (hS.bx 2 rfl) (i := 0) rfl)) (zn (yan rfl (am2 rfl rfl) yji ((yfL h (yaK _) (hS.rdr 1 rfl)).mono ?_))))))))); rintro _ w3 ⟨r, rfl, hC, h⟩; replace hS := hS.pur hC.pure; clear hC; refine ⟨_, rfl, ?_⟩; refine zb (zq zN (yaa ?_)); by_cases hp2 : r = 0
    · replace h := h.1 hp2; refine ze hp2 (yai (yae (zs (zq (za (ii 0)) (yaa (yam ?_)))))); obtain ⟨I2, ⟨m0, h0⟩, hr⟩ := h; refine yaC (fun m E ds w' => ∃ i, I2 m i ∧ ds = [] ∧ E 1 = (Value.slice Ad ld cd) ∧ E 5 = (ii i) ∧ Sep w no O w' (rl [Res.ro (FP.sl cI Ad ld cd d)])) m0 ⟨_, h0, rfl, rfl, rfl, (hS.sel [1] (by decide))⟩ ?_; clear h0 hS; rintro m2 E ds w4 ⟨i, h, rfl, hE1, hE5, hS⟩ again; replace h := hr m2 i h; clear hr; refine yae (zs (zq (yac hE5) (zq (yac hE1) (zq (yaZ (n := d.length) rfl underlying25 (yaS (hS.rdr 0 rfl))) (zq zL (yaa ?_)))))); by_cases hp3 : i < ((d.length : Nat) : Int)
      · replace h := h.1 hp3; refine zc hp3 (yai (yae (yam (zs (zq (yac hE1) (zq (yac hE5) ?_)))))); obtain ⟨hx, h⟩ := h; refine zq (zi underlying25 yah (yaM (hS.rdr 0 rfl) hx)) (zq (yag (v := (ii (gi d i.toNat))) rfl underlying3 rfl (rd_1 (hS.rdr 0 rfl) hx (fun q => yaH q) rfl)) ?_); refine zq zL (zq (zm (.bool (decide ((gi d i.toNat) < (-100))))) ?_); by_cases hp4 : (gi d i.toNat) < (-100)
        · replace h := h.1 hp4; exact rl_p (yab rfl (yaf rfl (congrArg Value.bool (decide_eq_true hp4))) rfl) rfl (rl_p (yab rfl (yaf rfl (congrArg Value.bool (decide_eq_true hp4))) rfl) rfl (rl_p (yab rfl (yaf rfl (congrArg Value.bool (decide_eq_true hp4))) rfl) rfl (rl_p (yab rfl (yaf rfl (congrArg Value.bool (decide_eq_true hp4))) rfl) rfl (rl_p (yab rfl (yaf rfl (congrArg Value.bool (decide_eq_true hp4))) rfl) rfl (zq (yaw (v := (.bool (true))) (congrArg Value.bool (decide_eq_true hp4)) rfl) (yaa (yau rfl (zs (zq (za (.bool (false))) (yaa (yak rfl rfl ⟨_, rfl, (hS.sel [] (by decide)), h⟩)))))))))))
        · replace h := h.2 hp4; refine rl_q (yad rfl (yaf rfl (congrArg Value.bool (decide_eq_false hp4)))) rfl rfl (yac hE1) (rl_q (yad rfl (yaf rfl (congrArg Value.bool (decide_eq_false hp4)))) rfl rfl (yac hE5) (rl_q (yad rfl (yaf rfl (congrArg Value.bool (decide_eq_false hp4)))) rfl rfl (zi underlying25 yah (yaM (hS.rdr 0 rfl) hx)) (rl_q (yad rfl (yaf rfl (congrArg Value.bool (decide_eq_false hp4)))) rfl rfl (yag (v := (ii (gi d i.toNat))) rfl underlying3 rfl (rd_1 (hS.rdr 0 rfl) hx (fun q => yaH q) rfl)) ?_))); refine rl_q (yad rfl (yaf rfl (congrArg Value.bool (decide_eq_false hp4)))) rfl rfl zG (zq (yay (v := (.bool (decide (100 < (gi d i.toNat))))) (congrArg Value.bool (decide_eq_false hp4)) rfl) (yaa ?_)); by_cases hp5 : 100 < (gi d i.toNat)
          · replace h := h.1 hp5; exact zc hp5 (zs (zq (za (.bool (false))) (yaa (yak rfl rfl ⟨_, rfl, (hS.sel [] (by decide)), h⟩))))
          · replace h := h.2 hp5; refine zd hp5 (yai (yal (zr (zq (yac hE5) ?_)))); obtain ⟨hi, h⟩ := h; refine zq (zA hi) (zq (za (ii (i + 1))) (yaa ?_)); obtain ⟨mq, hlt, h⟩ := h; exact again mq _ _ _ ⟨_, h, rfl, hE1, rfl, (hS.sel [0] (by decide))⟩ hlt
      · replace h := h.2 hp3; exact zd hp3 (yaA rfl (zs (zq (za (.bool (true))) (yaa (yak rfl rfl ⟨_, rfl, (hS.sel [] (by decide)), h⟩)))))
    · replace h := h.2 hp2; exact zf hp2 (zs (zq (za (.bool (true))) (yaa (yak rfl rfl ⟨_, rfl, (hS.sel [] (by decide)), h⟩))))
end Go.Proofs.Ytmeoemmemjipdaa

/- Pure forms of functions, made by program (pf.py), each with the proof that the code does so. -/
namespace Go.Proofs.Ytmeoemmemjipdaa
open Go Go.RowKit Go.Shelf Go.Proofs.Try
set_option linter.unusedVariables false
set_option maxRecDepth 100000
set_option maxHeartbeats 1000000
def yaT (s1 : List Int) (s2 : List Int) (R : Bool → Prop) : Prop :=
((((s1.length : Nat) : Int) = ((s2.length : Nat) : Int) →
(∃ I2 : Nat → Int → Prop, (∃ m0, I2 m0 0) ∧ ∀ m2 v, I2 m2 v → 
((v < ((s1.length : Nat) : Int) →
((0 ≤ v ∧ v < ((s1.length : Nat) : Int)) ∧
((0 ≤ v ∧ v < ((s2.length : Nat) : Int)) ∧
(((gi s1 v.toNat) = (gi s2 v.toNat) →
(In64 (v + 1) ∧
∃ m3, m3 < m2 ∧ I2 m3 (v + 1))) ∧
(¬ ((gi s1 v.toNat) = (gi s2 v.toNat)) →
R false))))) ∧
(¬ (v < ((s1.length : Nat) : Int)) →
R true)))) ∧
(¬ (((s1.length : Nat) : Int) = ((s2.length : Nat) : Int)) →
R false))
theorem ycz {O : Nat → Prop} {w : World} {s1 s2 As1 ls1 cs1 As2 ls2 cs2} {R : Bool → Prop} (h : yaT s1 s2 R) (hO : ∀ k, O k → k < w.heap.size) (hA0 : (FP.sl cI As1 ls1 cs1 s1).P O w) (hA1 : (FP.sl cI As2 ls2 cs2 s2).P O w) :
    Calls Try.prog 18 #[(.slice As1 ls1 cs1), (.slice As2 ls2 cs2)] w fun e w' => ∃ r, e = .returned (.bool (r)) ∧ Sep w no O w' (rl []) ∧ R r := by
  unfold yaT at h; have hS : Sep w no O w (rl [Res.ro (FP.sl cI As1 ls1 cs1 s1), Res.ro (FP.sl cI As2 ls2 cs2 s2)]) := Sep.startl hO [(FP.sl cI As1 ls1 cs1 s1), (FP.sl cI As2 ls2 cs2 s2)] ⟨hA0, hA1, trivial⟩; refine yap (l := [(.slice As1 ls1 cs1), (.slice As2 ls2 cs2)]) func18 rfl ntmps18 (Nat.le_of_ble_eq_true rfl) (zs (zq (za (.bool (false))) (yaa (yae (zs (zq (zm (.slice As1 ls1 cs1)) (zq (yaZ (n := s1.length) rfl underlying26 (yaS (hS.rdr 0 rfl))) (zq (zm (.slice As2 ls2 cs2)) (zq (yaZ (n := s2.length) rfl underlying26 (yaS (hS.rdr 1 rfl))) (zq zN (yaa ?_))))))))))); by_cases hp : ((s1.length : Nat) : Int) = ((s2.length : Nat) : Int)
  · replace h := h.1 hp; refine ze hp (yai (yae (zs (zq (zm (.slice As1 ls1 cs1)) (zq (yaZ (n := s1.length) rfl underlying26 (yaS (hS.rdr 0 rfl))) (zq (zm (ii 0)) (yaa (yam ?_)))))))); obtain ⟨I2, ⟨m0, h0⟩, hr⟩ := h; refine yaC (fun m E ds w' => ∃ v, I2 m v ∧ ds = [] ∧ E 0 = (Value.slice As1 ls1 cs1) ∧ E 1 = (Value.slice As2 ls2 cs2) ∧ E 12 = (ii ((s1.length : Nat) : Int)) ∧ E 13 = (ii v) ∧ Sep w no O w' (rl [Res.ro (FP.sl cI As1 ls1 cs1 s1), Res.ro (FP.sl cI As2 ls2 cs2 s2)])) m0 ⟨_, h0, rfl, rfl, rfl, rfl, rfl, (hS.sel [0, 1] (by decide))⟩ ?_; clear h0 hS; rintro m2 E ds w2 ⟨v, h, rfl, hE0, hE1, hE12, hE13, hS⟩ again; replace h := hr m2 v h; clear hr; refine zs (zq (yaP hE13 hE12) (yaa (yae ?_))); by_cases hp2 : v < ((s1.length : Nat) : Int)
    · replace h := h.1 hp2; refine zc hp2 (yai (yae (yam (zs (zq (yac hE13) (zq (za (ii v)) (yaa (yae (yba [0, 1, 2, 3, 4, 5, 6, 7, 8] st0 ybn (by kernel_rfl) (by kernel_rfl) ?_))))))))); replace hS := hS.drew; refine zp (yac hE0) (zp (zm (ii v)) ?_); obtain ⟨hx, h⟩ := h; refine zp (zi underlying26 yah (yaM (hS.rdr 0 rfl) hx)) (zp (yag (v := (ii (gi s1 v.toNat))) rfl underlying3 rfl (rd_1 (hS.rdr 0 rfl) hx (fun q => yaH q) rfl)) ?_); refine zp (yac hE1) (zp (zm (ii v)) ?_); obtain ⟨hx2, h⟩ := h; refine zp (zi underlying26 yah (yaM (hS.rdr 1 rfl) hx2)) (zp (yag (v := (ii (gi s2 v.toNat))) rfl underlying3 rfl (rd_1 (hS.rdr 1 rfl) hx2 (fun q => yaH q) rfl)) ?_); refine zp zN (ybs ?_); by_cases hp3 : (gi s1 v.toNat) = (gi s2 v.toNat)
      · replace h := h.1 hp3; refine ze hp3 (yai (yal (zr ?_))); obtain ⟨hi, h⟩ := h; refine zq (yaG hE13 rfl hi) (zq (zm (ii (v + 1))) (yaa ?_)); obtain ⟨mq, hlt, h⟩ := h; exact again mq _ _ _ ⟨_, h, rfl, hE0, hE1, hE12, rfl, (hS.sel [0, 1] (by decide))⟩ hlt
      · replace h := h.2 hp3; exact zf hp3 (zs (zq (za (.bool (false))) (yaa (yak rfl rfl ⟨_, rfl, (hS.sel [] (by decide)), h⟩))))
    · replace h := h.2 hp2; exact zd hp2 (yaA rfl (zs (zq (za (.bool (true))) (yaa (yak rfl rfl ⟨_, rfl, (hS.sel [] (by decide)), h⟩)))))
  · replace h := h.2 hp; exact zf hp (zs (zq (za (.bool (false))) (yaa (yak rfl rfl ⟨_, rfl, (hS.sel [] (by decide)), h⟩))))
def yaU (s : List Int) (R : (List Int) → Prop) : Prop :=
(∀ nil : Bool, (nil = true → s = []) →
((nil = true →
R ([])) ∧
(¬ (nil = true) →
(0 + s.length ≤ 1000000000 ∧
R ([] ++ s)))))
theorem ycy {O : Nat → Prop} {w : World} {s As ls cs} {R : (List Int) → Prop} (h : yaU s R) (hO : ∀ k, O k → k < w.heap.size) (hA0 : (FP.sl cI As ls cs s).P O w) :
    Calls Try.prog 22 #[(.slice As ls cs)] w fun e w' => ∃ r Ar lr cr, e = .returned (.slice Ar lr cr) ∧ Sep w no O w' (rl [Res.own cI 3 Ar lr cr r]) ∧ R r := by
  unfold yaU at h; have hS : Sep w no O w (rl [Res.ro (FP.sl cI As ls cs s)]) := Sep.startl hO [(FP.sl cI As ls cs s)] ⟨hA0, trivial⟩; refine yap (l := [(.slice As ls cs)]) func22 rfl ntmps22 (Nat.le_of_ble_eq_true rfl) (zs (zq (za (.slice none 0 0)) (yaa (yae (zs (zq (zm (.slice As ls cs)) ?_)))))); obtain ⟨nil, hn⟩ : ∃ b, Option.isNone As = b := ⟨_, rfl⟩; replace h := h nil (by rw [← hn]; exact rd_nil (hS.rdr 0 rfl)); refine zq (v_seqlx rfl rfl underlying26 hn) (yaa ?_); by_cases hp : nil = true
  · replace h := h.1 hp; refine yau (congrArg Value.bool hp) (zs (zq (za (.slice none 0 0)) (yaa ?_))); replace hS := hS.nil 1 rfl cI 3; exact yak rfl rfl ⟨_, _, _, _, rfl, (hS.sel [1] (by decide)), h⟩
  · replace h := h.2 hp; refine yaz (congrArg Value.bool (Bool.eq_false_iff.2 hp)) (yai (zs (zn (ya8 (l := []) (cells := []) (bp0) underlying26 yah rfl rfl ?_)))); intro g w2 hN; replace hS := hS.litf (n := 0) 1 rfl (fI .i64) hN ([] : List Int) rfl (by decide) rfl; clear hN; refine zb (zq (zm (.slice As ls cs)) ?_); obtain ⟨hx, h⟩ := h; refine zn (n_app (c := cI) rfl rfl underlying26 underlying26 yah rfl rfl (by decide) hS 1 rfl (hS.yr 0 rfl) hx ?_); clear hS; intro A c w3 hS; exact zb (zq (za (.slice A (0 + ls) c)) (yaa (yak rfl rfl ⟨_, _, _, _, rfl, (hS.sel [1] (by decide)), h⟩)))
end Go.Proofs.Ytmeoemmemjipdaa

/- Pure forms of functions, made by program (pf.py), each with the proof that the code does so. -/
namespace Go.Proofs.Ytmeoemmemjipdaa
open Go Go.RowKit Go.Shelf Go.Proofs.Try
set_option linter.unusedVariables false
set_option maxRecDepth 100000
set_option maxHeartbeats 1000000
end Go.Proofs.Ytmeoemmemjipdaa

/- Pure forms of functions, made by program (pf.py), each with the proof that the code does so. -/
namespace Go.Proofs.Ytmeoemmemjipdaa
open Go Go.RowKit Go.Shelf Go.Proofs.Try
set_option linter.unusedVariables false
set_option maxRecDepth 100000
set_option maxHeartbeats 1000000
def yhU (s : List Int) (Ff : Int → (Bool → Prop) → Prop) (R : Int → Prop) : Prop :=
(∃ I2 : Nat → Int → Prop, (∃ m0, I2 m0 0) ∧ ∀ m2 v, I2 m2 v → 
((v < ((s.length : Nat) : Int) →
((0 ≤ v ∧ v < ((s.length : Nat) : Int)) ∧
Ff (gi s v.toNat) (fun (r : Bool) =>
((r = true →
R v) ∧
(¬ (r = true) →
(In64 (v + 1) ∧
∃ m3, m3 < m2 ∧ I2 m3 (v + 1))))))) ∧
(¬ (v < ((s.length : Nat) : Int)) →
R (-1))))
theorem yig {O : Nat → Prop} {w : World} {s : List Int} {Ff : Int → (Bool → Prop) → Prop} {As : Option Addr} {ls : Nat} {cs : Nat} {f : Value} {R : Int → Prop} (h : yhU s Ff R) (hO : ∀ k, O k → k < w.heap.size) (hA0 : (FP.sl cI As ls cs s).P O w) (hA1 : (FP.st fun w' => ∃ (fid : Nat) (us : Array Value), f = Value.func (.func fid) #[] us ∧ Enters Try.prog fid ∧ ∀ (x0 : Int) (R : Bool → Prop), Ff x0 R → Calls Try.prog fid (#[(Value.int .i64 x0)] ++ us) w' fun e w'' => ∃ r0 : Bool, e = .returned (Value.bool (r0)) ∧ Sep w' no no w'' (rl []) ∧ R r0).P O w) :
    Calls Try.prog 65 #[(.slice As ls cs), f] w fun e w' => ∃ r2, e = .returned (ii r2) ∧ Sep w no O w' (rl []) ∧ R r2 := by
  unfold yhU at h; have hS : Sep w no O w (rl [Res.ro (FP.sl cI As ls cs s), Res.ro (FP.st fun w' => ∃ (fid : Nat) (us : Array Value), f = Value.func (.func fid) #[] us ∧ Enters Try.prog fid ∧ ∀ (x0 : Int) (R : Bool → Prop), Ff x0 R → Calls Try.prog fid (#[(Value.int .i64 x0)] ++ us) w' fun e w'' => ∃ r0 : Bool, e = .returned (Value.bool (r0)) ∧ Sep w' no no w'' (rl []) ∧ R r0)]) := Sep.startl hO [(FP.sl cI As ls cs s), (FP.st fun w' => ∃ (fid : Nat) (us : Array Value), f = Value.func (.func fid) #[] us ∧ Enters Try.prog fid ∧ ∀ (x0 : Int) (R : Bool → Prop), Ff x0 R → Calls Try.prog fid (#[(Value.int .i64 x0)] ++ us) w' fun e w'' => ∃ r0 : Bool, e = .returned (Value.bool (r0)) ∧ Sep w' no no w'' (rl []) ∧ R r0)] ⟨hA0, hA1, trivial⟩; refine yap (l := [(Value.slice As ls cs), f]) func65 rfl ntmps65 (Nat.le_of_ble_eq_true rfl) ?_; refine yae ?_; refine ybg ybn ?_; refine rl_q rfl rfl rfl (yjx (v := (.int .i64 0)) rfl) ?_; refine yaa ?_; refine yae ?_; refine yae ?_; refine ybg ybn ?_; refine rl_q rfl rfl rfl (yac (v := (.slice As ls cs)) rfl) ?_; refine rl_q rfl rfl rfl (yaZ (n := s.length) rfl underlying55 (yaS (hS.rdr 0 rfl))) ?_; refine rl_q rfl rfl rfl (yac (v := (.int .i64 0)) rfl) ?_; refine yaa ?_; refine yam ?_; obtain ⟨I2, ⟨m0, h0⟩, hr⟩ := h; refine yaC (fun m E ds w' => ∃ v : Int, I2 m v ∧ ds = [] ∧ E 0 = (Value.slice As ls cs) ∧ E 1 = f ∧ E 7 = (Value.int .i64 ((s.length : Nat) : Int)) ∧ E 8 = (Value.int .i64 v) ∧ Sep w no O w' (rl [Res.ro (FP.sl cI As ls cs s), Res.ro (FP.st fun w' => ∃ (fid : Nat) (us : Array Value), f = Value.func (.func fid) #[] us ∧ Enters Try.prog fid ∧ ∀ (x0 : Int) (R : Bool → Prop), Ff x0 R → Calls Try.prog fid (#[(Value.int .i64 x0)] ++ us) w' fun e w'' => ∃ r0 : Bool, e = .returned (Value.bool (r0)) ∧ Sep w' no no w'' (rl []) ∧ R r0)])) m0 ⟨_, h0, rfl, rfl, rfl, rfl, rfl, (hS.sel [0, 1] (by decide))⟩ ?_; clear h0 hS; rintro m2 E ds w2 ⟨v, h, rfl, hE0, hE1, hE7, hE8, hS⟩ again; replace h := hr m2 v h; clear hr; refine yae ?_; refine ybg ybn ?_; refine rl_q rfl rfl rfl (yaP hE8 hE7) ?_; refine yaa ?_; refine yae ?_; by_cases hp : v < ((s.length : Nat) : Int)
  · replace h := h.1 hp; refine zc hp (yai (yae (yam (zs (zq (yac hE8) (zq (za (ii v)) (yaa (zs (zq (yac hE1) (zq (yac hE0) (zq (zm (ii v)) ?_))))))))))); obtain ⟨hx, h⟩ := h; refine zq (zi underlying55 yah (yaM (hS.rdr 0 rfl) hx)) (zq (yag (v := (ii (gi s v.toNat))) rfl underlying3 rfl (rd_1 (hS.rdr 0 rfl) hx (fun q => yaH q) rfl)) ?_); obtain ⟨fid, us, hf, he, hcl⟩ := hS.ro 1 rfl _ (Keeps.refl _ _); replace h := hcl _ _ h; clear hcl; refine zn (yhs (hf) (am1 rfl) he (h.mono ?_)); clear hf he; rintro _ w3 ⟨r, rfl, hC, h⟩; replace hS := hS.pur hC.pure; clear hC; refine ⟨_, rfl, ?_⟩; refine zb (yaa ?_); by_cases hp2 : r = true
    · replace h := h.1 hp2; exact yau (congrArg Value.bool hp2) (zs (zq (zm (ii v)) (zq (za (ii v)) (yaa (yak rfl rfl ⟨_, rfl, (hS.sel [] (by decide)), h⟩)))))
    · replace h := h.2 hp2; refine yaz (congrArg Value.bool (Bool.eq_false_iff.2 hp2)) (yai (yal (zr ?_))); obtain ⟨hi, h⟩ := h; refine zq (yaG hE8 rfl hi) (zq (zm (ii (v + 1))) (yaa ?_)); obtain ⟨mq, hlt, h⟩ := h; exact again mq _ _ _ ⟨_, h, rfl, hE0, hE1, hE7, rfl, (hS.sel [0, 1] (by decide))⟩ hlt
  · replace h := h.2 hp; exact zd hp (yaA rfl (zs (zq (za (ii (-1))) (yaa (yak rfl rfl ⟨_, rfl, (hS.sel [] (by decide)), h⟩)))))
def yhS (s : List Int) (Ff : Int → (Bool → Prop) → Prop) (R : Bool → Prop) : Prop :=
yhU s Ff (fun r =>
R (decide (0 ≤ r)))
theorem yia {O : Nat → Prop} {w : World} {s : List Int} {Ff : Int → (Bool → Prop) → Prop} {As : Option Addr} {ls : Nat} {cs : Nat} {f : Value} {R : Bool → Prop} (h : yhS s Ff R) (hO : ∀ k, O k → k < w.heap.size) (hA0 : (FP.sl cI As ls cs s).P O w) (hA1 : (FP.st fun w' => ∃ (fid : Nat) (us : Array Value), f = Value.func (.func fid) #[] us ∧ Enters Try.prog fid ∧ ∀ (x0 : Int) (R : Bool → Prop), Ff x0 R → Calls Try.prog fid (#[(Value.int .i64 x0)] ++ us) w' fun e w'' => ∃ r0 : Bool, e = .returned (Value.bool (r0)) ∧ Sep w' no no w'' (rl []) ∧ R r0).P O w) :
    Calls Try.prog 26 #[(.slice As ls cs), f] w fun e w' => ∃ r2, e = .returned (.bool (r2)) ∧ Sep w no O w' (rl []) ∧ R r2 := by
  unfold yhS at h; have hS : Sep w no O w (rl [Res.ro (FP.sl cI As ls cs s), Res.ro (FP.st fun w' => ∃ (fid : Nat) (us : Array Value), f = Value.func (.func fid) #[] us ∧ Enters Try.prog fid ∧ ∀ (x0 : Int) (R : Bool → Prop), Ff x0 R → Calls Try.prog fid (#[(Value.int .i64 x0)] ++ us) w' fun e w'' => ∃ r0 : Bool, e = .returned (Value.bool (r0)) ∧ Sep w' no no w'' (rl []) ∧ R r0)]) := Sep.startl hO [(FP.sl cI As ls cs s), (FP.st fun w' => ∃ (fid : Nat) (us : Array Value), f = Value.func (.func fid) #[] us ∧ Enters Try.prog fid ∧ ∀ (x0 : Int) (R : Bool → Prop), Ff x0 R → Calls Try.prog fid (#[(Value.int .i64 x0)] ++ us) w' fun e w'' => ∃ r0 : Bool, e = .returned (Value.bool (r0)) ∧ Sep w' no no w'' (rl []) ∧ R r0)] ⟨hA0, hA1, trivial⟩; refine yap (l := [(Value.slice As ls cs), f]) func26 rfl ntmps26 (Nat.le_of_ble_eq_true rfl) ?_; refine yae ?_; refine ybg ybn ?_; refine rl_q rfl rfl rfl (yjx (v := (.bool (false))) rfl) ?_; refine yaa ?_; refine yae ?_; refine ybg ybn ?_; refine rl_q rfl rfl rfl (yac (v := (.slice As ls cs)) rfl) ?_; refine rl_q rfl rfl rfl (yac (v := f) rfl) ?_; refine rl_n rfl rfl rfl rfl (yan rfl (am2 rfl rfl) enter_65 ((yig h (yaK _) (hS.rdr 0 rfl) (FP.sub _ (hS.ro 1 rfl) (fun _ _ h => h.elim) : FP.P _ no _)).mono ?_)); rintro _ w2 ⟨r, rfl, hC, h⟩; replace hS := hS.pur hC.pure; clear hC; refine ⟨_, rfl, ?_⟩; refine ⟨Stb.none _, ?_⟩; refine rl_q rfl rfl rfl (v_geq rfl rfl) ?_; refine rl_q rfl rfl rfl (yjx (v := (.bool (decide (0 ≤ r)))) rfl) ?_; refine yaa ?_; exact yak rfl rfl ⟨_, rfl, (hS.sel [] (by decide)), h⟩
def yhT (s : List Int) (Ff : Int → (Bool → Prop) → Prop) (R : Int → Prop) : Prop :=
(∃ I2 : Nat → Int → Prop, (∃ m0, I2 m0 0) ∧ ∀ m2 v, I2 m2 v → 
((v < ((s.length : Nat) : Int) →
((0 ≤ v ∧ v < ((s.length : Nat) : Int)) ∧
Ff (gi s v.toNat) (fun (r : Bool) =>
((r = true →
R v) ∧
(¬ (r = true) →
(In64 (v + 1) ∧
∃ m3, m3 < m2 ∧ I2 m3 (v + 1))))))) ∧
(¬ (v < ((s.length : Nat) : Int)) →
R (-1))))
theorem yif {O : Nat → Prop} {w : World} {s : List Int} {Ff : Int → (Bool → Prop) → Prop} {As : Option Addr} {ls : Nat} {cs : Nat} {f : Value} {R : Int → Prop} (h : yhT s Ff R) (hO : ∀ k, O k → k < w.heap.size) (hA0 : (FP.sl cI As ls cs s).P O w) (hA1 : (FP.st fun w' => ∃ (fid : Nat) (us : Array Value), f = Value.func (.func fid) #[] us ∧ Enters Try.prog fid ∧ ∀ (x0 : Int) (R : Bool → Prop), Ff x0 R → Calls Try.prog fid (#[(Value.int .i64 x0)] ++ us) w' fun e w'' => ∃ r0 : Bool, e = .returned (Value.bool (r0)) ∧ Sep w' no no w'' (rl []) ∧ R r0).P O w) :
    Calls Try.prog 135 #[(.slice As ls cs), f] w fun e w' => ∃ r2, e = .returned (ii r2) ∧ Sep w no O w' (rl []) ∧ R r2 := by
  unfold yhT at h; have hS : Sep w no O w (rl [Res.ro (FP.sl cI As ls cs s), Res.ro (FP.st fun w' => ∃ (fid : Nat) (us : Array Value), f = Value.func (.func fid) #[] us ∧ Enters Try.prog fid ∧ ∀ (x0 : Int) (R : Bool → Prop), Ff x0 R → Calls Try.prog fid (#[(Value.int .i64 x0)] ++ us) w' fun e w'' => ∃ r0 : Bool, e = .returned (Value.bool (r0)) ∧ Sep w' no no w'' (rl []) ∧ R r0)]) := Sep.startl hO [(FP.sl cI As ls cs s), (FP.st fun w' => ∃ (fid : Nat) (us : Array Value), f = Value.func (.func fid) #[] us ∧ Enters Try.prog fid ∧ ∀ (x0 : Int) (R : Bool → Prop), Ff x0 R → Calls Try.prog fid (#[(Value.int .i64 x0)] ++ us) w' fun e w'' => ∃ r0 : Bool, e = .returned (Value.bool (r0)) ∧ Sep w' no no w'' (rl []) ∧ R r0)] ⟨hA0, hA1, trivial⟩; refine yap (l := [(Value.slice As ls cs), f]) func135 rfl ntmps135 (Nat.le_of_ble_eq_true rfl) ?_; refine yae ?_; refine ybg ybn ?_; refine rl_q rfl rfl rfl (yjx (v := (.int .i64 0)) rfl) ?_; refine yaa ?_; refine yae ?_; refine yae ?_; refine ybg ybn ?_; refine rl_q rfl rfl rfl (yac (v := (.slice As ls cs)) rfl) ?_; refine rl_q rfl rfl rfl (yaZ (n := s.length) rfl underlying26 (yaS (hS.rdr 0 rfl))) ?_; refine rl_q rfl rfl rfl (yac (v := (.int .i64 0)) rfl) ?_; refine yaa ?_; refine yam ?_; obtain ⟨I2, ⟨m0, h0⟩, hr⟩ := h; refine yaC (fun m E ds w' => ∃ v : Int, I2 m v ∧ ds = [] ∧ E 0 = (Value.slice As ls cs) ∧ E 1 = f ∧ E 7 = (Value.int .i64 ((s.length : Nat) : Int)) ∧ E 8 = (Value.int .i64 v) ∧ Sep w no O w' (rl [Res.ro (FP.sl cI As ls cs s), Res.ro (FP.st fun w' => ∃ (fid : Nat) (us : Array Value), f = Value.func (.func fid) #[] us ∧ Enters Try.prog fid ∧ ∀ (x0 : Int) (R : Bool → Prop), Ff x0 R → Calls Try.prog fid (#[(Value.int .i64 x0)] ++ us) w' fun e w'' => ∃ r0 : Bool, e = .returned (Value.bool (r0)) ∧ Sep w' no no w'' (rl []) ∧ R r0)])) m0 ⟨_, h0, rfl, rfl, rfl, rfl, rfl, (hS.sel [0, 1] (by decide))⟩ ?_; clear h0 hS; rintro m2 E ds w2 ⟨v, h, rfl, hE0, hE1, hE7, hE8, hS⟩ again; replace h := hr m2 v h; clear hr; refine yae ?_; refine ybg ybn ?_; refine rl_q rfl rfl rfl (yaP hE8 hE7) ?_; refine yaa ?_; refine yae ?_; by_cases hp : v < ((s.length : Nat) : Int)
  · replace h := h.1 hp; refine zc hp (yai (yae (yam (zs (zq (yac hE8) (zq (za (ii v)) (yaa (zs (zq (yac hE1) (zq (yac hE0) (zq (zm (ii v)) ?_))))))))))); obtain ⟨hx, h⟩ := h; refine zq (zi underlying26 yah (yaM (hS.rdr 0 rfl) hx)) (zq (yag (v := (ii (gi s v.toNat))) rfl underlying3 rfl (rd_1 (hS.rdr 0 rfl) hx (fun q => yaH q) rfl)) ?_); obtain ⟨fid, us, hf, he, hcl⟩ := hS.ro 1 rfl _ (Keeps.refl _ _); replace h := hcl _ _ h; clear hcl; refine zn (yhs (hf) (am1 rfl) he (h.mono ?_)); clear hf he; rintro _ w3 ⟨r, rfl, hC, h⟩; replace hS := hS.pur hC.pure; clear hC; refine ⟨_, rfl, ?_⟩; refine zb (yaa ?_); by_cases hp2 : r = true
    · replace h := h.1 hp2; exact yau (congrArg Value.bool hp2) (zs (zq (zm (ii v)) (zq (za (ii v)) (yaa (yak rfl rfl ⟨_, rfl, (hS.sel [] (by decide)), h⟩)))))
    · replace h := h.2 hp2; refine yaz (congrArg Value.bool (Bool.eq_false_iff.2 hp2)) (yai (yal (zr ?_))); obtain ⟨hi, h⟩ := h; refine zq (yaG hE8 rfl hi) (zq (zm (ii (v + 1))) (yaa ?_)); obtain ⟨mq, hlt, h⟩ := h; exact again mq _ _ _ ⟨_, h, rfl, hE0, hE1, hE7, rfl, (hS.sel [0, 1] (by decide))⟩ hlt
  · replace h := h.2 hp; exact zd hp (yaA rfl (zs (zq (za (ii (-1))) (yaa (yak rfl rfl ⟨_, rfl, (hS.sel [] (by decide)), h⟩)))))
def yhR (s : List Int) (Ff : Int → (Bool → Prop) → Prop) (R : Bool → Prop) : Prop :=
yhT s Ff (fun r =>
R (decide (0 ≤ r)))
theorem yh7 {O : Nat → Prop} {w : World} {s : List Int} {Ff : Int → (Bool → Prop) → Prop} {As : Option Addr} {ls : Nat} {cs : Nat} {f : Value} {R : Bool → Prop} (h : yhR s Ff R) (hO : ∀ k, O k → k < w.heap.size) (hA0 : (FP.sl cI As ls cs s).P O w) (hA1 : (FP.st fun w' => ∃ (fid : Nat) (us : Array Value), f = Value.func (.func fid) #[] us ∧ Enters Try.prog fid ∧ ∀ (x0 : Int) (R : Bool → Prop), Ff x0 R → Calls Try.prog fid (#[(Value.int .i64 x0)] ++ us) w' fun e w'' => ∃ r0 : Bool, e = .returned (Value.bool (r0)) ∧ Sep w' no no w'' (rl []) ∧ R r0).P O w) :
    Calls Try.prog 101 #[(.slice As ls cs), f] w fun e w' => ∃ r2, e = .returned (.bool (r2)) ∧ Sep w no O w' (rl []) ∧ R r2 := by
  unfold yhR at h; have hS : Sep w no O w (rl [Res.ro (FP.sl cI As ls cs s), Res.ro (FP.st fun w' => ∃ (fid : Nat) (us : Array Value), f = Value.func (.func fid) #[] us ∧ Enters Try.prog fid ∧ ∀ (x0 : Int) (R : Bool → Prop), Ff x0 R → Calls Try.prog fid (#[(Value.int .i64 x0)] ++ us) w' fun e w'' => ∃ r0 : Bool, e = .returned (Value.bool (r0)) ∧ Sep w' no no w'' (rl []) ∧ R r0)]) := Sep.startl hO [(FP.sl cI As ls cs s), (FP.st fun w' => ∃ (fid : Nat) (us : Array Value), f = Value.func (.func fid) #[] us ∧ Enters Try.prog fid ∧ ∀ (x0 : Int) (R : Bool → Prop), Ff x0 R → Calls Try.prog fid (#[(Value.int .i64 x0)] ++ us) w' fun e w'' => ∃ r0 : Bool, e = .returned (Value.bool (r0)) ∧ Sep w' no no w'' (rl []) ∧ R r0)] ⟨hA0, hA1, trivial⟩; refine yap (l := [(Value.slice As ls cs), f]) func101 rfl ntmps101 (Nat.le_of_ble_eq_true rfl) ?_; refine yae ?_; refine ybg ybn ?_; refine rl_q rfl rfl rfl (yjx (v := (.bool (false))) rfl) ?_; refine yaa ?_; refine yae ?_; refine ybg ybn ?_; refine rl_q rfl rfl rfl (yac (v := (.slice As ls cs)) rfl) ?_; refine rl_q rfl rfl rfl (yac (v := f) rfl) ?_; refine rl_n rfl rfl rfl rfl (yan rfl (am2 rfl rfl) enter_135 ((yif h (yaK _) (hS.rdr 0 rfl) (FP.sub _ (hS.ro 1 rfl) (fun _ _ h => h.elim) : FP.P _ no _)).mono ?_)); rintro _ w2 ⟨r, rfl, hC, h⟩; replace hS := hS.pur hC.pure; clear hC; refine ⟨_, rfl, ?_⟩; refine ⟨Stb.none _, ?_⟩; refine rl_q rfl rfl rfl (v_geq rfl rfl) ?_; refine rl_q rfl rfl rfl (yjx (v := (.bool (decide (0 ≤ r)))) rfl) ?_; refine yaa ?_; exact yak rfl rfl ⟨_, rfl, (hS.sel [] (by decide)), h⟩
def yb0 (x : Int) (R : Bool → Prop) : Prop :=
R (!(decide (x = x)))
theorem yeb {O : Nat → Prop} {w : World} {x} {R : Bool → Prop} (h : yb0 x R) (hO : ∀ k, O k → k < w.heap.size) :
    Calls Try.prog 170 #[(ii x)] w fun e w' => ∃ r, e = .returned (.bool (r)) ∧ Sep w no O w' (rl []) ∧ R r := by
  unfold yb0 at h; have hS : Sep w no O w (rl []) := Sep.start w hO; exact yap (l := [(ii x)]) func170 rfl ntmps170 (Nat.le_of_ble_eq_true rfl) (zs (zq (za (.bool (false))) (yaa (zs (zq (zm (ii x)) (zq (zm (ii x)) (zq zN (zq (za (.bool (!(decide (x = x))))) (yaa (yak rfl rfl ⟨_, rfl, (hS.sel [] (by decide)), h⟩))))))))))
def ya3 (x : List Int) (R : Int → Prop) : Prop :=
(∃ J2 : Prop, (J2 → ((0 ≤ (0 : Int) ∧ (0 : Int) < ((x.length : Nat) : Int)) ∧
(∃ I2 : Nat → Int → Int → Prop, (∃ m0, I2 m0 (gi x (0 : Int).toNat) 1) ∧ ∀ m2 m3 i, I2 m2 m3 i → 
((i < ((x.length : Nat) : Int) →
((0 ≤ i ∧ i < ((x.length : Nat) : Int)) ∧
(In64 (i + 1) ∧
∃ m4, m4 < m2 ∧ I2 m4 (mnF m3 (gi x i.toNat)) (i + 1)))) ∧
(¬ (i < ((x.length : Nat) : Int)) →
R m3))))) ∧
((((x.length : Nat) : Int) < 1 →
False) ∧
(¬ (((x.length : Nat) : Int) < 1) →
J2)))
theorem ycY {O : Nat → Prop} {w : World} {x Ax lx cx} {R : Int → Prop} (h : ya3 x R) (hO : ∀ k, O k → k < w.heap.size) (hA0 : (FP.sl cI Ax lx cx x).P O w) :
    Calls Try.prog 58 #[(.slice Ax lx cx)] w fun e w' => ∃ r, e = .returned (ii r) ∧ Sep w no O w' (rl []) ∧ R r := by
  unfold ya3 at h; have hS : Sep w no O w (rl [Res.ro (FP.sl cI Ax lx cx x)]) := Sep.startl hO [(FP.sl cI Ax lx cx x)] ⟨hA0, trivial⟩; refine yap (l := [(.slice Ax lx cx)]) func58 rfl ntmps58 (Nat.le_of_ble_eq_true rfl) (zs (zq (za (ii 0)) (yaa (yae (zs (zq (zm (.slice Ax lx cx)) (zq (yaZ (n := x.length) rfl underlying26 (yaS (hS.rdr 0 rfl))) (zq zL (yaa ?_))))))))); obtain ⟨J2, hJ, h⟩ := h; refine ygT (fun E ds w' => J2 ∧ ds = [] ∧ E 0 = (Value.slice Ax lx cx) ∧ Sep w no O w' (rl [Res.ro (FP.sl cI Ax lx cx x)])) ?_ ?_
  · clear h hS; rintro E ds w2 ⟨h, rfl, hE0, hS⟩; replace h := hJ h; refine zs (zq (yac hE0) ?_); obtain ⟨hx, h⟩ := h; refine zq (zi underlying26 yah (yaM (hS.rdr 0 rfl) hx)) (zq (yag (v := (ii (gi x (0 : Int).toNat))) rfl underlying3 rfl (rd_1 (hS.rdr 0 rfl) hx (fun q => yaH q) rfl)) ?_); refine zq (za (ii (gi x (0 : Int).toNat))) (yaa (yae (zs (zq (za (ii 1)) (yaa (yam ?_)))))); obtain ⟨I2, ⟨m0, h0⟩, hr⟩ := h; refine yaC (fun m E ds w' => ∃ m3 i, I2 m m3 i ∧ ds = [] ∧ E 0 = (Value.slice Ax lx cx) ∧ E 3 = (ii m3) ∧ E 4 = (ii i) ∧ Sep w no O w' (rl [Res.ro (FP.sl cI Ax lx cx x)])) m0 ⟨_, _, h0, rfl, hE0, rfl, rfl, (hS.sel [0] (by decide))⟩ ?_; clear h0 hS; rintro m2 E ds w3 ⟨m3, i, h, rfl, hE0, hE3, hE4, hS⟩ again; replace h := hr m2 m3 i h; clear hr; refine yae (zs (zq (yac hE4) (zq (yac hE0) (zq (yaZ (n := x.length) rfl underlying26 (yaS (hS.rdr 0 rfl))) (zq zL (yaa ?_)))))); by_cases hp : i < ((x.length : Nat) : Int)
    · replace h := h.1 hp; refine zc hp (yai (yae (yam (zr (zq (yac hE3) (zq (yac hE0) (zq (yac hE4) ?_))))))); obtain ⟨hx2, h⟩ := h; refine zq (zi underlying26 yah (yaM (hS.rdr 0 rfl) hx2)) (zq (yag (v := (ii (gi x i.toNat))) rfl underlying3 rfl (rd_1 (hS.rdr 0 rfl) hx2 (fun q => yaH q) rfl)) ?_); refine zq (v_min2 rfl rfl) (zq (za (ii (mnF m3 (gi x i.toNat)))) (yaa (yal (zr (zq (yac hE4) ?_))))); obtain ⟨hi, h⟩ := h; refine zq (zA hi) (zq (za (ii (i + 1))) (yaa ?_)); obtain ⟨mq, hlt, h⟩ := h; exact again mq _ _ _ ⟨_, _, h, rfl, hE0, rfl, rfl, (hS.sel [0] (by decide))⟩ hlt
    · replace h := h.2 hp; exact zd hp (yaA rfl (zs (zq (yac hE3) (zq (za (ii m3)) (yaa (yak rfl rfl ⟨_, rfl, (hS.sel [] (by decide)), h⟩))))))
  clear hJ; intro j; by_cases hp2 : ((x.length : Nat) : Int) < 1
  · replace h := h.1 hp2; exact zc hp2 (zr h.elim)
  · replace h := h.2 hp2; exact zd hp2 (yai (j _ _ _ ⟨h, rfl, rfl, (hS.sel [0] (by decide))⟩))
end Go.Proofs.Ytmeoemmemjipdaa

/- Pure forms of functions, made by program (pf.py), each with the proof that the code does so. -/
namespace Go.Proofs.Ytmeoemmemjipdaa
open Go Go.RowKit Go.Shelf Go.Proofs.Try
set_option linter.unusedVariables false
set_option maxRecDepth 100000
set_option maxHeartbeats 1000000
def ycd (k : Int) (R : Bool → Prop) : Prop :=
(((-1048576) ≤ k →
R (decide (k ≤ 1048576))) ∧
(¬ ((-1048576) ≤ k) →
R false))
theorem ygI {O : Nat → Prop} {w : World} {k} {R : Bool → Prop} (h : ycd k R) (hO : ∀ k, O k → k < w.heap.size) :
    Calls Try.prog 95 #[(ii k)] w fun e w' => ∃ r, e = .returned (.bool (r)) ∧ Sep w no O w' (rl []) ∧ R r := by
  unfold ycd at h; have hS : Sep w no O w (rl []) := Sep.start w hO; refine yap (l := [(ii k)]) func95 rfl ntmps95 (Nat.le_of_ble_eq_true rfl) (zs (zq (za (.bool (false))) (yaa (zs (zq (zm (ii k)) (zq (v_geq rfl rfl) (zq (zm (.bool (decide ((-1048576) ≤ k)))) ?_))))))); by_cases hp : (-1048576) ≤ k
  · replace h := h.1 hp; exact rl_q (yad rfl (yaf rfl (congrArg Value.bool (decide_eq_true hp)))) rfl rfl (zm (ii k)) (rl_q (yad rfl (yaf rfl (congrArg Value.bool (decide_eq_true hp)))) rfl rfl (v_leq rfl rfl) (zq (yaw (v := (.bool (decide (k ≤ 1048576)))) (congrArg Value.bool (decide_eq_true hp)) rfl) (zq (za (.bool (decide (k ≤ 1048576)))) (yaa (yak rfl rfl ⟨_, rfl, (hS.sel [] (by decide)), h⟩)))))
  · replace h := h.2 hp; exact rl_p (yab rfl (yaf rfl (congrArg Value.bool (decide_eq_false hp))) rfl) rfl (rl_p (yab rfl (yaf rfl (congrArg Value.bool (decide_eq_false hp))) rfl) rfl (zq (yay (v := (.bool (false))) (congrArg Value.bool (decide_eq_false hp)) rfl) (zq (za (.bool (false))) (yaa (yak rfl rfl ⟨_, rfl, (hS.sel [] (by decide)), h⟩)))))
def yci (n : Int) (R : Int → Prop) : Prop :=
((n < 1 →
R 2) ∧
(¬ (n < 1) →
((12 < n →
R 2) ∧
(¬ (12 < n) →
R 0))))
theorem yf2 {O : Nat → Prop} {w : World} {n} {R : Int → Prop} (h : yci n R) (hO : ∀ k, O k → k < w.heap.size) :
    Calls Try.prog 97 #[(ii n)] w fun e w' => ∃ r, e = .returned (ii r) ∧ Sep w no O w' (rl []) ∧ R r := by
  unfold yci at h; have hS : Sep w no O w (rl []) := Sep.start w hO; refine yap (l := [(ii n)]) func97 rfl ntmps97 (Nat.le_of_ble_eq_true rfl) (zs (zq (za (ii 0)) (yaa (yae (zs (zq (zm (ii n)) (zq zL (zq (zm (.bool (decide (n < 1)))) ?_)))))))); by_cases hp : n < 1
  · replace h := h.1 hp; exact rl_p (yab rfl (yaf rfl (congrArg Value.bool (decide_eq_true hp))) rfl) rfl (rl_p (yab rfl (yaf rfl (congrArg Value.bool (decide_eq_true hp))) rfl) rfl (zq (yaw (v := (.bool (true))) (congrArg Value.bool (decide_eq_true hp)) rfl) (yaa (yau rfl (zs (zq (za (ii 2)) (yaa (yak rfl rfl ⟨_, rfl, (hS.sel [] (by decide)), h⟩))))))))
  · replace h := h.2 hp; refine rl_q (yad rfl (yaf rfl (congrArg Value.bool (decide_eq_false hp)))) rfl rfl (zm (ii n)) (rl_q (yad rfl (yaf rfl (congrArg Value.bool (decide_eq_false hp)))) rfl rfl zG (zq (yay (v := (.bool (decide (12 < n)))) (congrArg Value.bool (decide_eq_false hp)) rfl) (yaa ?_))); by_cases hp2 : 12 < n
    · replace h := h.1 hp2; exact zc hp2 (zs (zq (za (ii 2)) (yaa (yak rfl rfl ⟨_, rfl, (hS.sel [] (by decide)), h⟩))))
    · replace h := h.2 hp2; exact zd hp2 (yai (zs (zq (za (ii 0)) (yaa (yak rfl rfl ⟨_, rfl, (hS.sel [] (by decide)), h⟩)))))
def ybO (d : List Int) (n : Int) (R : Int → Prop) : Prop :=
yci n (fun r =>
((r = 0 →
((((d.length : Nat) : Int) = n →
(∃ I2 : Nat → Int → Prop, (∃ m0, I2 m0 0) ∧ ∀ m2 v, I2 m2 v → 
((v < ((d.length : Nat) : Int) →
((0 ≤ v ∧ v < ((d.length : Nat) : Int)) ∧
ycd (gi d v.toNat) (fun r2 =>
((r2 = true →
(In64 (v + 1) ∧
∃ m3, m3 < m2 ∧ I2 m3 (v + 1))) ∧
(¬ (r2 = true) →
R 2))))) ∧
(¬ (v < ((d.length : Nat) : Int)) →
R 0)))) ∧
(¬ (((d.length : Nat) : Int) = n) →
R 8))) ∧
(¬ (r = 0) →
R r)))
theorem ydS {O : Nat → Prop} {w : World} {d n Ad ld cd} {R : Int → Prop} (h : ybO d n R) (hO : ∀ k, O k → k < w.heap.size) (hA0 : (FP.sl cI Ad ld cd d).P O w) :
    Calls Try.prog 57 #[(.slice Ad ld cd), (ii n)] w fun e w' => ∃ r3, e = .returned (ii r3) ∧ Sep w no O w' (rl []) ∧ R r3 := by
  unfold ybO at h; have hS : Sep w no O w (rl [Res.ro (FP.sl cI Ad ld cd d)]) := Sep.startl hO [(FP.sl cI Ad ld cd d)] ⟨hA0, trivial⟩; refine yap (l := [(.slice Ad ld cd), (ii n)]) func57 rfl ntmps57 (Nat.le_of_ble_eq_true rfl) (zs (zq (za (ii 0)) (yaa (yae (zs (zq (zm (ii n)) (zn (yan rfl (am1 rfl) enter_97 ((yf2 h (yaK _)).mono ?_))))))))); rintro _ w2 ⟨r, rfl, hC, h⟩; replace hS := hS.pur hC.pure; clear hC; refine ⟨_, rfl, ?_⟩; refine zb (zq (za (ii r)) (yaa (zs (zq (zm (ii r)) (zq zN (yaa ?_)))))); by_cases hp : r = 0
  · replace h := h.1 hp; refine ze hp (yai (yae (zs (zq (zm (.slice Ad ld cd)) (zq (yaZ (n := d.length) rfl underlying26 (yaS (hS.rdr 0 rfl))) (zq (zm (ii n)) (zq zN (yaa ?_)))))))); by_cases hp2 : ((d.length : Nat) : Int) = n
    · replace h := h.1 hp2; refine ze hp2 (yai (yae (zs (zq (zm (.slice Ad ld cd)) (zq (yaZ (n := d.length) rfl underlying26 (yaS (hS.rdr 0 rfl))) (zq (zm (ii 0)) (yaa (yam ?_)))))))); obtain ⟨I2, ⟨m0, h0⟩, hr⟩ := h; refine yaC (fun m E ds w' => ∃ v, I2 m v ∧ ds = [] ∧ E 17 = (Value.slice Ad ld cd) ∧ E 18 = (ii ((d.length : Nat) : Int)) ∧ E 19 = (ii v) ∧ Sep w no O w' (rl [Res.ro (FP.sl cI Ad ld cd d)])) m0 ⟨_, h0, rfl, rfl, rfl, rfl, (hS.sel [0] (by decide))⟩ ?_; clear h0 hS; rintro m2 E ds w3 ⟨v, h, rfl, hE17, hE18, hE19, hS⟩ again; replace h := hr m2 v h; clear hr; refine zs (zq (yaP hE19 hE18) (yaa (yae ?_))); by_cases hp3 : v < ((d.length : Nat) : Int)
      · replace h := h.1 hp3; refine zc hp3 (yai (yae (yam (zs ?_)))); obtain ⟨hx, h⟩ := h; refine zq (yao hE17 hE19 underlying26 yah (yaM (hS.rdr 0 rfl) hx)) (zq (yag (v := (ii (gi d v.toNat))) rfl underlying3 rfl (rd_1 (hS.rdr 0 rfl) hx (fun q => yaH q) rfl)) ?_); refine zq (za (ii (gi d v.toNat))) (yaa (zs (zq (zm (ii (gi d v.toNat))) (zn (yan rfl (am1 rfl) enter_95 ((ygI h (yaK _)).mono ?_)))))); rintro _ w4 ⟨r2, rfl, hC, h⟩; replace hS := hS.pur hC.pure; clear hC; refine ⟨_, rfl, ?_⟩; refine zb (zq (ycV rfl) (yaa ?_)); by_cases hp4 : r2 = true
        · replace h := h.1 hp4; refine yaz (congrArg Value.bool (congrArg Bool.not hp4)) (yai (yal (zr ?_))); obtain ⟨hi, h⟩ := h; refine zq (yaG hE19 rfl hi) (zq (zm (ii (v + 1))) (yaa ?_)); obtain ⟨mq, hlt, h⟩ := h; exact again mq _ _ _ ⟨_, h, rfl, hE17, hE18, rfl, (hS.sel [0] (by decide))⟩ hlt
        · replace h := h.2 hp4; exact yau (congrArg Value.bool (congrArg Bool.not (Bool.eq_false_iff.2 hp4))) (zs (zq (za (ii 2)) (yaa (yak rfl rfl ⟨_, rfl, (hS.sel [] (by decide)), h⟩))))
      · replace h := h.2 hp3; exact zd hp3 (yaA rfl (zs (zq (za (ii 0)) (yaa (yak rfl rfl ⟨_, rfl, (hS.sel [] (by decide)), h⟩)))))
    · replace h := h.2 hp2; exact zf hp2 (zs (zq (za (ii 8)) (yaa (yak rfl rfl ⟨_, rfl, (hS.sel [] (by decide)), h⟩))))
  · replace h := h.2 hp; exact zf hp (zs (zq (zm (ii r)) (zq (za (ii r)) (yaa (yak rfl rfl ⟨_, rfl, (hS.sel [] (by decide)), h⟩)))))
def ybS (n : Int) (v : Int) (R : Bool → Prop) : Prop :=
((0 ≤ v →
R (decide (v < n))) ∧
(¬ (0 ≤ v) →
R false))
theorem yeK {O : Nat → Prop} {w : World} {n v} {R : Bool → Prop} (h : ybS n v R) (hO : ∀ k, O k → k < w.heap.size) :
    Calls Try.prog 133 #[(ii n), (ii v)] w fun e w' => ∃ r, e = .returned (.bool (r)) ∧ Sep w no O w' (rl []) ∧ R r := by
  unfold ybS at h; have hS : Sep w no O w (rl []) := Sep.start w hO; refine yap (l := [(ii n), (ii v)]) func133 rfl ntmps133 (Nat.le_of_ble_eq_true rfl) (zs (zq (za (.bool (false))) (yaa (zs (zq (zm (ii v)) (zq (v_geq rfl rfl) (zq (zm (.bool (decide (0 ≤ v)))) ?_))))))); by_cases hp : 0 ≤ v
  · replace h := h.1 hp; exact rl_q (yad rfl (yaf rfl (congrArg Value.bool (decide_eq_true hp)))) rfl rfl (zm (ii v)) (rl_q (yad rfl (yaf rfl (congrArg Value.bool (decide_eq_true hp)))) rfl rfl (zm (ii n)) (rl_q (yad rfl (yaf rfl (congrArg Value.bool (decide_eq_true hp)))) rfl rfl zL (zq (yaw (v := (.bool (decide (v < n)))) (congrArg Value.bool (decide_eq_true hp)) rfl) (zq (za (.bool (decide (v < n)))) (yaa (yak rfl rfl ⟨_, rfl, (hS.sel [] (by decide)), h⟩))))))
  · replace h := h.2 hp; exact rl_p (yab rfl (yaf rfl (congrArg Value.bool (decide_eq_false hp))) rfl) rfl (rl_p (yab rfl (yaf rfl (congrArg Value.bool (decide_eq_false hp))) rfl) rfl (rl_p (yab rfl (yaf rfl (congrArg Value.bool (decide_eq_false hp))) rfl) rfl (zq (yay (v := (.bool (false))) (congrArg Value.bool (decide_eq_false hp)) rfl) (zq (za (.bool (false))) (yaa (yak rfl rfl ⟨_, rfl, (hS.sel [] (by decide)), h⟩))))))
def ybl (x : Int) (y : Int) (R : Int → Prop) : Prop :=
yb0 x (fun r =>
yb0 y (fun r2 =>
((r = true →
((r2 = true →
R 0) ∧
(¬ (r2 = true) →
R (-1)))) ∧
(¬ (r = true) →
((r2 = true →
R 1) ∧
(¬ (r2 = true) →
((x < y →
R (-1)) ∧
(¬ (x < y) →
((y < x →
R 1) ∧
(¬ (y < x) →
R 0))))))))))
theorem ydM {O : Nat → Prop} {w : World} {x y} {R : Int → Prop} (h : ybl x y R) (hO : ∀ k, O k → k < w.heap.size) :
    Calls Try.prog 162 #[(ii x), (ii y)] w fun e w' => ∃ r3, e = .returned (ii r3) ∧ Sep w no O w' (rl []) ∧ R r3 := by
  unfold ybl at h; have hS : Sep w no O w (rl []) := Sep.start w hO; refine yap (l := [(ii x), (ii y)]) func162 rfl ntmps162 (Nat.le_of_ble_eq_true rfl) (zs (zq (za (ii 0)) (yaa (zs (zq (zm (ii x)) (zn (yan rfl (am1 rfl) enter_170 ((yeb h (yaK _)).mono ?_)))))))); rintro _ w2 ⟨r, rfl, hC, h⟩; replace hS := hS.pur hC.pure; clear hC; refine ⟨_, rfl, ?_⟩; refine zb (zq (za (.bool (r))) (yaa (zs (zq (zm (ii y)) (zn (yan rfl (am1 rfl) enter_170 ((yeb h (yaK _)).mono ?_))))))); rintro _ w3 ⟨r2, rfl, hC, h⟩; replace hS := hS.pur hC.pure; clear hC; refine ⟨_, rfl, ?_⟩; refine zb (zq (za (.bool (r2))) (yaa (yae (zs (zq (zm (.bool (r))) (yaa ?_)))))); by_cases hp : r = true
  · replace h := h.1 hp; refine yau (congrArg Value.bool hp) (yae (zs (zq (zm (.bool (r2))) (yaa ?_)))); by_cases hp2 : r2 = true
    · replace h := h.1 hp2; exact yau (congrArg Value.bool hp2) (zs (zq (za (ii 0)) (yaa (yak rfl rfl ⟨_, rfl, (hS.sel [] (by decide)), h⟩))))
    · replace h := h.2 hp2; exact yaz (congrArg Value.bool (Bool.eq_false_iff.2 hp2)) (yai (zs (zq (za (ii (-1))) (yaa (yak rfl rfl ⟨_, rfl, (hS.sel [] (by decide)), h⟩)))))
  · replace h := h.2 hp; refine yaz (congrArg Value.bool (Bool.eq_false_iff.2 hp)) (yai (yae (zs (zq (zm (.bool (r2))) (yaa ?_))))); by_cases hp3 : r2 = true
    · replace h := h.1 hp3; exact yau (congrArg Value.bool hp3) (zs (zq (za (ii 1)) (yaa (yak rfl rfl ⟨_, rfl, (hS.sel [] (by decide)), h⟩))))
    · replace h := h.2 hp3; refine yaz (congrArg Value.bool (Bool.eq_false_iff.2 hp3)) (yai (yae (zs (zq (zm (ii x)) (zq (zm (ii y)) (zq zL (yaa ?_))))))); by_cases hp4 : x < y
      · replace h := h.1 hp4; exact zc hp4 (zs (zq (za (ii (-1))) (yaa (yak rfl rfl ⟨_, rfl, (hS.sel [] (by decide)), h⟩))))
      · replace h := h.2 hp4; refine zd hp4 (yai (yae (zs (zq (zm (ii x)) (zq (zm (ii y)) (zq zG (yaa ?_))))))); by_cases hp5 : y < x
        · replace h := h.1 hp5; exact zc hp5 (zs (zq (za (ii 1)) (yaa (yak rfl rfl ⟨_, rfl, (hS.sel [] (by decide)), h⟩))))
        · replace h := h.2 hp5; exact zd hp5 (yai (zs (zq (za (ii 0)) (yaa (yak rfl rfl ⟨_, rfl, (hS.sel [] (by decide)), h⟩)))))
def ycS (vals : List Int) (R : Int → Prop) : Prop :=
(∃ I2 : Nat → Int → Prop, (∃ m0, I2 m0 0) ∧ ∀ m2 v, I2 m2 v → 
((v < ((vals.length : Nat) : Int) →
((0 ≤ v ∧ v < ((vals.length : Nat) : Int)) ∧
(((gi vals v.toNat) = 0 →
(In64 (v + 1) ∧
∃ m3, m3 < m2 ∧ I2 m3 (v + 1))) ∧
(¬ ((gi vals v.toNat) = 0) →
R (gi vals v.toNat))))) ∧
(¬ (v < ((vals.length : Nat) : Int)) →
R 0)))
theorem pok_cmp_Or_int {O : Nat → Prop} {w : World} {vals Avals lvals cvals} {R : Int → Prop} (h : ycS vals R) (hO : ∀ k, O k → k < w.heap.size) (hA0 : (FP.sl cI Avals lvals cvals vals).P O w) :
    Calls Try.prog 161 #[(.slice Avals lvals cvals)] w fun e w' => ∃ r, e = .returned (ii r) ∧ Sep w no O w' (rl []) ∧ R r := by
  unfold ycS at h; have hS : Sep w no O w (rl [Res.ro (FP.sl cI Avals lvals cvals vals)]) := Sep.startl hO [(FP.sl cI Avals lvals cvals vals)] ⟨hA0, trivial⟩; refine yap (l := [(.slice Avals lvals cvals)]) func161 rfl ntmps161 (Nat.le_of_ble_eq_true rfl) (zs (zq (za (ii 0)) (yaa (zs (zq (za (ii 0)) (yaa (yae (zs (zq (zm (.slice Avals lvals cvals)) (zq (yaZ (n := vals.length) rfl underlying25 (yaS (hS.rdr 0 rfl))) (zq (zm (ii 0)) (yaa (yam ?_))))))))))))); obtain ⟨I2, ⟨m0, h0⟩, hr⟩ := h; refine yaC (fun m E ds w' => ∃ v, I2 m v ∧ ds = [] ∧ E 3 = (ii 0) ∧ E 6 = (Value.slice Avals lvals cvals) ∧ E 7 = (ii ((vals.length : Nat) : Int)) ∧ E 8 = (ii v) ∧ Sep w no O w' (rl [Res.ro (FP.sl cI Avals lvals cvals vals)])) m0 ⟨_, h0, rfl, rfl, rfl, rfl, rfl, (hS.sel [0] (by decide))⟩ ?_; clear h0 hS; rintro m2 E ds w2 ⟨v, h, rfl, hE3, hE6, hE7, hE8, hS⟩ again; replace h := hr m2 v h; clear hr; refine zs (zq (yaP hE8 hE7) (yaa (yae ?_))); by_cases hp : v < ((vals.length : Nat) : Int)
  · replace h := h.1 hp; refine zc hp (yai (yae (yam (zs ?_)))); obtain ⟨hx, h⟩ := h; refine zq (yao hE6 hE8 underlying25 yah (yaM (hS.rdr 0 rfl) hx)) (zq (yag (v := (ii (gi vals v.toNat))) rfl underlying3 rfl (rd_1 (hS.rdr 0 rfl) hx (fun q => yaH q) rfl)) ?_); refine zq (za (ii (gi vals v.toNat))) (yaa (zs (zq (zm (ii (gi vals v.toNat))) (zq (yac hE3) (zq zN (yaa ?_)))))); by_cases hp2 : (gi vals v.toNat) = 0
    · replace h := h.1 hp2; refine ze hp2 (yai (yal (zr ?_))); obtain ⟨hi, h⟩ := h; refine zq (yaG hE8 rfl hi) (zq (zm (ii (v + 1))) (yaa ?_)); obtain ⟨mq, hlt, h⟩ := h; exact again mq _ _ _ ⟨_, h, rfl, hE3, hE6, hE7, rfl, (hS.sel [0] (by decide))⟩ hlt
    · replace h := h.2 hp2; exact zf hp2 (zs (zq (zm (ii (gi vals v.toNat))) (zq (za (ii (gi vals v.toNat))) (yaa (yak rfl rfl ⟨_, rfl, (hS.sel [] (by decide)), h⟩)))))
  · replace h := h.2 hp; exact zd hp (yaA rfl (zs (zq (yac hE3) (zq (za (ii 0)) (yaa (yak rfl rfl ⟨_, rfl, (hS.sel [] (by decide)), h⟩))))))
def ybE (p : Int) (p2 : Int) (q : Int) (q2 : Int) (R : Int → Prop) : Prop :=
ybl p q (fun r =>
ybl p2 q2 (fun r2 =>
ycS ([r, r2]) (fun r3 =>
R r3)))
theorem yeL {O : Nat → Prop} {w : World} {p p2 q q2} {R : Int → Prop} (h : ybE p p2 q q2 R) (hO : ∀ k, O k → k < w.heap.size) :
    Calls Try.prog 134 #[(.agg #[(ii p), (ii p2)]), (.agg #[(ii q), (ii q2)])] w fun e w' => ∃ r4, e = .returned (ii r4) ∧ Sep w no O w' (rl []) ∧ R r4 := by
  unfold ybE at h; have hS : Sep w no O w (rl []) := Sep.start w hO; refine yap (l := [(.agg #[(ii p), (ii p2)]), (.agg #[(ii q), (ii q2)])]) func134 rfl ntmps134 (Nat.le_of_ble_eq_true rfl) (zs (zn (ybq (v := (.agg #[(ii p), (ii p2)])) rfl ?_))); intro g w2 hN; replace hS : Sep w no O w2 (stl _ 0 (Res.box 167 g [(ii p), (ii p2)])) := hS.new 0 rfl hN; clear hN; refine zb (zn (ybq (v := (.agg #[(ii q), (ii q2)])) rfl ?_)); intro g2 w3 hN; replace hS : Sep w no O w3 (stl _ 1 (Res.box 167 g2 [(ii q), (ii q2)])) := hS.new 1 rfl hN; clear hN; refine zb (zq (za (ii 0)) (yaa (yae (yba [0, 1, 2, 3, 5, 6, 7, 8, 4, 9, 10, 11, 12] (fun i => match i with | 4 => [5, 6, 7, 8] | _ => []) ybn (by kernel_rfl) (by kernel_rfl) ?_)))); replace hS := hS.drew; refine zp (yaj rfl underlying167 rfl yah) (zp (zl underlying3 (Row.cell (hS.bx 0 rfl) (i := 0) rfl)) (zp (yaj rfl underlying167 rfl yah) (zp (zl underlying3 (Row.cell (hS.bx 1 rfl) (i := 0) rfl)) (zp (yaj rfl underlying167 rfl yah) (zp (zl underlying3 (Row.cell (hS.bx 0 rfl) (i := 1) rfl)) (zp (yaj rfl underlying167 rfl yah) (zp (zl underlying3 (Row.cell (hS.bx 1 rfl) (i := 1) rfl)) (rp_n rfl rfl rfl rfl (yan rfl (am2 rfl rfl) enter_162 ((ydM h (yaK _)).mono ?_)))))))))); rintro _ w4 ⟨r, rfl, hC, h⟩; replace hS := hS.pur hC.pure; clear hC; refine ⟨_, rfl, ?_⟩; refine ⟨⟨fun _ => (zl underlying3 (Row.cell (hS.bx 1 rfl) (i := 1) rfl)), ⟨fun _ => (yaj rfl underlying167 rfl yah), ⟨fun _ => (zl underlying3 (Row.cell (hS.bx 0 rfl) (i := 1) rfl)), ⟨fun _ => (yaj rfl underlying167 rfl yah), ⟨fun hh => Bool.noConfusion (show false = true from hh), ⟨fun hh => Bool.noConfusion (show false = true from hh), ⟨fun hh => Bool.noConfusion (show false = true from hh), ⟨fun hh => Bool.noConfusion (show false = true from hh), trivial⟩⟩⟩⟩⟩⟩⟩⟩, ?_⟩; refine rp_n rfl rfl rfl rfl (yan rfl (am2 rfl rfl) enter_162 ((ydM h (yaK _)).mono ?_)); rintro _ w5 ⟨r2, rfl, hC, h⟩; replace hS := hS.pur hC.pure; clear hC; refine ⟨_, rfl, ?_⟩; refine zb (rp_n rfl rfl rfl rfl (ya8 (l := [(0, (ii r)), (1, (ii r2))]) (cells := [(ii r), (ii r2)]) (bp2 rfl rfl) underlying25 yah rfl rfl ?_)); intro g3 w6 hN; replace hS := hS.litf (n := 2) 2 rfl (fI .i64) hN ([r, r2] : List Int) rfl (by decide) rfl; clear hN; refine zb (rp_n rfl rfl rfl rfl (yan rfl (am1 rfl) enter_161 ((pok_cmp_Or_int h (yaK _) (hS.rdo 2 rfl)).mono ?_))); rintro _ w7 ⟨r3, rfl, hC, h⟩; replace hS := hS.pur hC.pure; clear hC; refine ⟨_, rfl, ?_⟩; exact zb (zp (za (ii r3)) (ybs (yak rfl rfl ⟨_, rfl, (hS.sel [] (by decide)), h⟩)))
def yb2 (d : Int) (d2 : List E3) (R : Int → Prop) : Prop :=
(∃ J2 : Prop, (J2 → (∃ I2 : Nat → Int → Int → Int → Prop, (∃ m0, I2 m0 0 (-1) (-1)) ∧ ∀ m2 v v2 v3, I2 m2 v v2 v3 → 
((v < ((d2.length : Nat) : Int) →
((0 ≤ v ∧ v < ((d2.length : Nat) : Int)) ∧
(∃ J3 : Prop, (J3 → ((((ge d2 v.toNat).2.1) < ((ge d2 v.toNat).1) →
R 9) ∧
(¬ (((ge d2 v.toNat).2.1) < ((ge d2 v.toNat).1)) →
ybE v2 v3 ((ge d2 v.toNat).1) ((ge d2 v.toNat).2.1) (fun r =>
((0 ≤ r →
R 9) ∧
(¬ (0 ≤ r) →
(In64 (v + 1) ∧
∃ m3, m3 < m2 ∧ I2 m3 (v + 1) ((ge d2 v.toNat).1) ((ge d2 v.toNat).2.1)))))))) ∧
ybS d ((ge d2 v.toNat).1) (fun r2 =>
((r2 = true →
ybS d ((ge d2 v.toNat).2.1) (fun r3 =>
((r3 = true →
((((ge d2 v.toNat).2.2) < 1 →
R 2) ∧
(¬ (((ge d2 v.toNat).2.2) < 1) →
((50 < ((ge d2 v.toNat).2.2) →
R 2) ∧
(¬ (50 < ((ge d2 v.toNat).2.2)) →
J3))))) ∧
(¬ (r3 = true) →
R 2)))) ∧
(¬ (r2 = true) →
R 2)))))) ∧
(¬ (v < ((d2.length : Nat) : Int)) →
R 0)))) ∧
((d < 1 →
R 2) ∧
(¬ (d < 1) →
((12 < d →
R 2) ∧
(¬ (12 < d) →
J2)))))
theorem yeU {O : Nat → Prop} {w : World} {d d2 Ad ld cd} {R : Int → Prop} (h : yb2 d d2 R) (hO : ∀ k, O k → k < w.heap.size) (hA0 : (FP.sl c3 Ad ld cd d2).P O w) :
    Calls Try.prog 100 #[(.agg #[(ii d), (.slice Ad ld cd)])] w fun e w' => ∃ r4, e = .returned (ii r4) ∧ Sep w no O w' (rl []) ∧ R r4 := by
  unfold yb2 at h; have hS : Sep w no O w (rl [Res.ro (FP.sl c3 Ad ld cd d2)]) := Sep.startl hO [(FP.sl c3 Ad ld cd d2)] ⟨hA0, trivial⟩; refine yap (l := [(.agg #[(ii d), (.slice Ad ld cd)])]) func100 rfl ntmps100 (Nat.le_of_ble_eq_true rfl) (zs (zn (ybq (v := (.agg #[(ii d), (.slice Ad ld cd)])) rfl ?_))); intro g w2 hN; replace hS : Sep w no O w2 (stl _ 1 (Res.box 24 g [(ii d), (.slice Ad ld cd)])) := hS.new 1 rfl hN; clear hN; refine zb (zq (za (ii 0)) (yaa (yae (yae ?_)))); obtain ⟨J2, hJ, h⟩ := h; refine ydX (fun E ds w' => J2 ∧ ds = [] ∧ E 1 = (Value.pointer (some (⟨g, 0, none⟩ : Addr))) ∧ Sep w no O w' (rl [Res.box 24 g [(ii d), (.slice Ad ld cd)], Res.ro (FP.sl c3 Ad ld cd d2)])) ?_ ?_
  · clear h hS; rintro E ds w3 ⟨h, rfl, hE1, hS⟩; replace h := hJ h; refine zs (zn (ybp (l := [(0, (ii (-1))), (1, (ii (-1)))]) (cells := [(ii (-1)), (ii (-1))]) (places := [(0, 1), (1, 1)]) (bp2 rfl rfl) underlying167 ycg (by kernel_rfl) rfl ?_)); refine zb (zn (ya7 ycg ?_)); intro g2 w4 hN; replace hS : Sep w no O w4 (stl _ 2 (Res.box 167 g2 [(ii 0), (ii 0)])) := hS.new 2 rfl hN; clear hN; refine zb (zo (ybr (b := g2) (o := 0) (cells := #[(ii (-1)), (ii (-1))]) rfl rfl ycg rfl rfl (yaY (hS.bx 2 rfl) (Nat.le_of_ble_eq_true rfl)) ?_)); intro w5 e1; replace hS := hS.bstn 2 rfl 0 [(ii (-1)), (ii (-1))] e1; clear e1; refine zb (yaa (yae (zs (zq (yaj hE1 underlying24 rfl yca) (zq (zl underlying22 (Row.cell (hS.bx 0 rfl) (i := 1) rfl)) (zq (yaZ (n := d2.length) rfl underlying22 (yaS (hS.rdr 1 rfl))) (zq (zm (ii 0)) (yaa (yam ?_))))))))); obtain ⟨I2, ⟨m0, h0⟩, hr⟩ := h; refine yaC (fun m E ds w' => ∃ v v2 v3, I2 m v v2 v3 ∧ ds = [] ∧ E 1 = (Value.pointer (some (⟨g, 0, none⟩ : Addr))) ∧ E 3 = (Value.pointer (some (⟨g2, 0, none⟩ : Addr))) ∧ E 17 = (Value.slice Ad ld cd) ∧ E 18 = (ii ((d2.length : Nat) : Int)) ∧ E 19 = (ii v) ∧ Sep w no O w' (rl [Res.box 24 g [(ii d), (.slice Ad ld cd)], Res.ro (FP.sl c3 Ad ld cd d2), Res.box 167 g2 [(ii v2), (ii v3)]])) m0 ⟨_, _, _, h0, rfl, hE1, rfl, rfl, rfl, rfl, (hS.sel [0, 1, 2] (by decide))⟩ ?_; clear h0 hS; rintro m2 E ds w6 ⟨v, v2, v3, h, rfl, hE1, hE3, hE17, hE18, hE19, hS⟩ again; replace h := hr m2 v v2 v3 h; clear hr; refine zs (zq (yaP hE19 hE18) (yaa (yae ?_))); by_cases hp : v < ((d2.length : Nat) : Int)
    · replace h := h.1 hp; refine zc hp (yai (yae (yam (zs ?_)))); obtain ⟨hx, h⟩ := h; refine zq (yao hE17 hE19 underlying22 yaF (yaM (hS.rdr 1 rfl) hx)) (zq (yas (vs := [(ii ((ge d2 v.toNat).1)), (ii ((ge d2 v.toNat).2.1)), (ii ((ge d2 v.toNat).2.2))]) rfl underlying83 rfl yaF (rd_fs (hS.rdr 1 rfl) hx (fun q => ycL q))) ?_); refine zn (ya7 yaF ?_); intro g3 w7 hN; replace hS : Sep w no O w7 (stl _ 3 (Res.box 83 g3 [(ii 0), (ii 0), (ii 0)])) := hS.new 3 rfl hN; clear hN; refine zb (zo (ybr (b := g3) (o := 0) (cells := #[(ii ((ge d2 v.toNat).1)), (ii ((ge d2 v.toNat).2.1)), (ii ((ge d2 v.toNat).2.2))]) rfl rfl yaF rfl rfl (yaY (hS.bx 3 rfl) (Nat.le_of_ble_eq_true rfl)) ?_)); intro w8 e1; replace hS := hS.bstn 3 rfl 0 [(ii ((ge d2 v.toNat).1)), (ii ((ge d2 v.toNat).2.1)), (ii ((ge d2 v.toNat).2.2))] e1; clear e1; refine zb (yaa (zs (zq (yaj rfl underlying83 rfl yah) (zq (zl underlying3 (Row.cell (hS.bx 3 rfl) (i := 0) rfl)) (zq (yaj rfl underlying83 rfl yah) (zq (zl underlying3 (Row.cell (hS.bx 3 rfl) (i := 1) rfl)) (zn (ybp (l := [(0, (ii ((ge d2 v.toNat).1))), (1, (ii ((ge d2 v.toNat).2.1)))]) (cells := [(ii ((ge d2 v.toNat).1)), (ii ((ge d2 v.toNat).2.1))]) (places := [(0, 1), (1, 1)]) (bp2 rfl rfl) underlying167 ycg (by kernel_rfl) rfl ?_)))))))); refine zb (zn (ya7 ycg ?_)); intro g4 w9 hN; replace hS : Sep w no O w9 (stl _ 4 (Res.box 167 g4 [(ii 0), (ii 0)])) := hS.new 4 rfl hN; clear hN; refine zb (zo (ybr (b := g4) (o := 0) (cells := #[(ii ((ge d2 v.toNat).1)), (ii ((ge d2 v.toNat).2.1))]) rfl rfl ycg rfl rfl (yaY (hS.bx 4 rfl) (Nat.le_of_ble_eq_true rfl)) ?_)); intro w10 e1; replace hS := hS.bstn 4 rfl 0 [(ii ((ge d2 v.toNat).1)), (ii ((ge d2 v.toNat).2.1))] e1; clear e1; refine zb (yaa (yae (yam (yae ?_)))); obtain ⟨J3, hJ, h⟩ := h; refine wt_cutB1 (fun E ds w' => J3 ∧ ds = [] ∧ E 1 = (Value.pointer (some (⟨g, 0, none⟩ : Addr))) ∧ E 3 = (Value.pointer (some (⟨g2, 0, none⟩ : Addr))) ∧ E 5 = (Value.pointer (some (⟨g3, 0, none⟩ : Addr))) ∧ E 6 = (Value.pointer (some (⟨g4, 0, none⟩ : Addr))) ∧ E 17 = (Value.slice Ad ld cd) ∧ E 18 = (ii ((d2.length : Nat) : Int)) ∧ E 19 = (ii v) ∧ Sep w no O w' (rl [Res.box 24 g [(ii d), (.slice Ad ld cd)], Res.ro (FP.sl c3 Ad ld cd d2), Res.box 167 g2 [(ii v2), (ii v3)], Res.box 83 g3 [(ii ((ge d2 v.toNat).1)), (ii ((ge d2 v.toNat).2.1)), (ii ((ge d2 v.toNat).2.2))], Res.box 167 g4 [(ii ((ge d2 v.toNat).1)), (ii ((ge d2 v.toNat).2.1))]])) ?_ ?_
      · clear h hS; rintro E ds w11 ⟨h, rfl, hE1, hE3, hE5, hE6, hE17, hE18, hE19, hS⟩; replace h := hJ h; refine zs (zq (yaj hE5 underlying83 rfl yah) (zq (zl underlying3 (Row.cell (hS.bx 3 rfl) (i := 0) rfl)) (zq (yaj hE5 underlying83 rfl yah) (zq (zl underlying3 (Row.cell (hS.bx 3 rfl) (i := 1) rfl)) (zq zG (zq (zm (.bool (decide (((ge d2 v.toNat).2.1) < ((ge d2 v.toNat).1))))) ?_)))))); by_cases hp2 : ((ge d2 v.toNat).2.1) < ((ge d2 v.toNat).1)
        · replace h := h.1 hp2; exact rl_p (yab rfl (yaf rfl (congrArg Value.bool (decide_eq_true hp2))) rfl) rfl (rl_p (yab rfl (yaf rfl (congrArg Value.bool (decide_eq_true hp2))) rfl) rfl (rl_p (yab rfl (yaf rfl (congrArg Value.bool (decide_eq_true hp2))) rfl) rfl (rl_p (yab rfl (yaf rfl (congrArg Value.bool (decide_eq_true hp2))) rfl) rfl (zq (yaw (v := (.bool (true))) (congrArg Value.bool (decide_eq_true hp2)) rfl) (zq (za (.bool (true))) (yaa (yau rfl (zs (zq (za (ii 9)) (yaa (yak rfl rfl ⟨_, rfl, (hS.sel [] (by decide)), h⟩)))))))))))
        · replace h := h.2 hp2; refine rl_q (yad rfl (yaf rfl (congrArg Value.bool (decide_eq_false hp2)))) rfl rfl (yas (vs := [(ii v2), (ii v3)]) hE3 underlying167 rfl ycg ⟨Row.cell (hS.bx 2 rfl) (i := 0) rfl, Row.cell (hS.bx 2 rfl) (i := 1) rfl, trivial⟩) (rl_q (yad rfl (yaf rfl (congrArg Value.bool (decide_eq_false hp2)))) rfl rfl (yas (vs := [(ii ((ge d2 v.toNat).1)), (ii ((ge d2 v.toNat).2.1))]) hE6 underlying167 rfl ycg ⟨Row.cell (hS.bx 4 rfl) (i := 0) rfl, Row.cell (hS.bx 4 rfl) (i := 1) rfl, trivial⟩) (rl_n (yad rfl (yaf rfl (congrArg Value.bool (decide_eq_false hp2)))) rfl rfl rfl (yan rfl (am2 rfl rfl) enter_134 ((yeL h (yaK _)).mono ?_)))); rintro _ w12 ⟨r, rfl, hC, h⟩; replace hS := hS.pur hC.pure; clear hC; refine ⟨_, rfl, ?_⟩; refine zb (rl_q (yad rfl (yaf rfl (congrArg Value.bool (decide_eq_false hp2)))) rfl rfl (v_geq rfl rfl) (zq (yay (v := (.bool (decide (0 ≤ r)))) (congrArg Value.bool (decide_eq_false hp2)) rfl) (zq (za (.bool (decide (0 ≤ r)))) (yaa ?_)))); by_cases hp3 : 0 ≤ r
          · replace h := h.1 hp3; exact zc hp3 (zs (zq (za (ii 9)) (yaa (yak rfl rfl ⟨_, rfl, (hS.sel [] (by decide)), h⟩))))
          · replace h := h.2 hp3; refine zd hp3 (yai (yal (zr (zq (yas (vs := [(ii ((ge d2 v.toNat).1)), (ii ((ge d2 v.toNat).2.1))]) hE6 underlying167 rfl ycg ⟨Row.cell (hS.bx 4 rfl) (i := 0) rfl, Row.cell (hS.bx 4 rfl) (i := 1) rfl, trivial⟩) (zo (ybr (b := g2) (o := 0) (cells := #[(ii ((ge d2 v.toNat).1)), (ii ((ge d2 v.toNat).2.1))]) hE3 rfl ycg rfl rfl (yaY (hS.bx 2 rfl) (Nat.le_of_ble_eq_true rfl)) ?_)))))); intro w13 e1; replace hS := hS.bstn 2 rfl 0 [(ii ((ge d2 v.toNat).1)), (ii ((ge d2 v.toNat).2.1))] e1; clear e1; refine zb (yaa (yal (zr ?_))); obtain ⟨hi, h⟩ := h; refine zq (yaG hE19 rfl hi) (zq (zm (ii (v + 1))) (yaa ?_)); obtain ⟨mq, hlt, h⟩ := h; exact again mq _ _ _ ⟨_, _, _, h, rfl, hE1, hE3, hE17, hE18, rfl, (hS.sel [0, 1, 2] (by decide))⟩ hlt
      clear hJ; intro j2; refine zr (zq (yaj hE1 underlying24 rfl yah) (zq (zl underlying3 (Row.cell (hS.bx 0 rfl) (i := 0) rfl)) (zq (yaj rfl underlying83 rfl yah) (zq (zl underlying3 (Row.cell (hS.bx 3 rfl) (i := 0) rfl)) (zn (yan rfl (am2 rfl rfl) enter_133 ((yeK h (yaK _)).mono ?_))))))); rintro _ w14 ⟨r2, rfl, hC, h⟩; replace hS := hS.pur hC.pure; clear hC; refine ⟨_, rfl, ?_⟩; refine zb (zq (ycV rfl) (zq (zm (.bool (!(r2)))) ?_)); by_cases hp4 : r2 = true
      · replace h := h.1 hp4; refine rl_q (yad rfl (yaf rfl (congrArg Value.bool (congrArg Bool.not hp4)))) rfl rfl (yaj hE1 underlying24 rfl yah) (rl_q (yad rfl (yaf rfl (congrArg Value.bool (congrArg Bool.not hp4)))) rfl rfl (zl underlying3 (Row.cell (hS.bx 0 rfl) (i := 0) rfl)) (rl_q (yad rfl (yaf rfl (congrArg Value.bool (congrArg Bool.not hp4)))) rfl rfl (yaj rfl underlying83 rfl yah) (rl_q (yad rfl (yaf rfl (congrArg Value.bool (congrArg Bool.not hp4)))) rfl rfl (zl underlying3 (Row.cell (hS.bx 3 rfl) (i := 1) rfl)) (rl_n (yad rfl (yaf rfl (congrArg Value.bool (congrArg Bool.not hp4)))) rfl rfl rfl (yan rfl (am2 rfl rfl) enter_133 ((yeK h (yaK _)).mono ?_)))))); rintro _ w15 ⟨r3, rfl, hC, h⟩; replace hS := hS.pur hC.pure; clear hC; refine ⟨_, rfl, ?_⟩; refine zb (rl_q (yad rfl (yaf rfl (congrArg Value.bool (congrArg Bool.not hp4)))) rfl rfl (ycV rfl) (zq (yay (v := (.bool (!(r3)))) (congrArg Value.bool (congrArg Bool.not hp4)) rfl) (zq (zm (.bool (!(r3)))) ?_))); by_cases hp5 : r3 = true
        · replace h := h.1 hp5; refine rl_q (yad rfl (yaf rfl (congrArg Value.bool (congrArg Bool.not hp5)))) rfl rfl (yaj rfl underlying83 rfl yah) (rl_q (yad rfl (yaf rfl (congrArg Value.bool (congrArg Bool.not hp5)))) rfl rfl (zl underlying3 (Row.cell (hS.bx 3 rfl) (i := 2) rfl)) (rl_q (yad rfl (yaf rfl (congrArg Value.bool (congrArg Bool.not hp5)))) rfl rfl zL (zq (yay (v := (.bool (decide (((ge d2 v.toNat).2.2) < 1)))) (congrArg Value.bool (congrArg Bool.not hp5)) rfl) (zq (zm (.bool (decide (((ge d2 v.toNat).2.2) < 1)))) ?_)))); by_cases hp6 : ((ge d2 v.toNat).2.2) < 1
          · replace h := h.1 hp6; exact rl_p (yab rfl (yaf rfl (congrArg Value.bool (decide_eq_true hp6))) rfl) rfl (rl_p (yab rfl (yaf rfl (congrArg Value.bool (decide_eq_true hp6))) rfl) rfl (rl_p (yab rfl (yaf rfl (congrArg Value.bool (decide_eq_true hp6))) rfl) rfl (zq (yaw (v := (.bool (true))) (congrArg Value.bool (decide_eq_true hp6)) rfl) (zq (za (.bool (true))) (yaa (yau rfl (zs (zq (za (ii 2)) (yaa (yak rfl rfl ⟨_, rfl, (hS.sel [] (by decide)), h⟩))))))))))
          · replace h := h.2 hp6; refine rl_q (yad rfl (yaf rfl (congrArg Value.bool (decide_eq_false hp6)))) rfl rfl (yaj rfl underlying83 rfl yah) (rl_q (yad rfl (yaf rfl (congrArg Value.bool (decide_eq_false hp6)))) rfl rfl (zl underlying3 (Row.cell (hS.bx 3 rfl) (i := 2) rfl)) (rl_q (yad rfl (yaf rfl (congrArg Value.bool (decide_eq_false hp6)))) rfl rfl zG (zq (yay (v := (.bool (decide (50 < ((ge d2 v.toNat).2.2))))) (congrArg Value.bool (decide_eq_false hp6)) rfl) (zq (za (.bool (decide (50 < ((ge d2 v.toNat).2.2))))) (yaa ?_))))); by_cases hp7 : 50 < ((ge d2 v.toNat).2.2)
            · replace h := h.1 hp7; exact zc hp7 (zs (zq (za (ii 2)) (yaa (yak rfl rfl ⟨_, rfl, (hS.sel [] (by decide)), h⟩))))
            · replace h := h.2 hp7; exact zd hp7 (j2 _ _ _ ⟨h, rfl, hE1, hE3, rfl, rfl, hE17, hE18, hE19, (hS.sel [0, 1, 2, 3, 4] (by decide))⟩)
        · replace h := h.2 hp5; exact rl_p (yab rfl (yaf rfl (congrArg Value.bool (congrArg Bool.not (Bool.eq_false_iff.2 hp5)))) rfl) rfl (rl_p (yab rfl (yaf rfl (congrArg Value.bool (congrArg Bool.not (Bool.eq_false_iff.2 hp5)))) rfl) rfl (rl_p (yab rfl (yaf rfl (congrArg Value.bool (congrArg Bool.not (Bool.eq_false_iff.2 hp5)))) rfl) rfl (zq (yaw (v := (.bool (true))) (congrArg Value.bool (congrArg Bool.not (Bool.eq_false_iff.2 hp5))) rfl) (zq (zm (.bool (true))) (rl_p (yab rfl (yaf rfl rfl) rfl) rfl (rl_p (yab rfl (yaf rfl rfl) rfl) rfl (rl_p (yab rfl (yaf rfl rfl) rfl) rfl (zq (yaw (v := (.bool (true))) rfl rfl) (zq (za (.bool (true))) (yaa (yau rfl (zs (zq (za (ii 2)) (yaa (yak rfl rfl ⟨_, rfl, (hS.sel [] (by decide)), h⟩)))))))))))))))
      · replace h := h.2 hp4; exact rl_p (yab rfl (yaf rfl (congrArg Value.bool (congrArg Bool.not (Bool.eq_false_iff.2 hp4)))) rfl) rfl (rl_p (yab rfl (yaf rfl (congrArg Value.bool (congrArg Bool.not (Bool.eq_false_iff.2 hp4)))) rfl) rfl (rl_p (yab rfl (yaf rfl (congrArg Value.bool (congrArg Bool.not (Bool.eq_false_iff.2 hp4)))) rfl) rfl (rl_p (yab rfl (yaf rfl (congrArg Value.bool (congrArg Bool.not (Bool.eq_false_iff.2 hp4)))) rfl) rfl (rl_p (yab rfl (yaf rfl (congrArg Value.bool (congrArg Bool.not (Bool.eq_false_iff.2 hp4)))) rfl) rfl (rl_p (yab rfl (yaf rfl (congrArg Value.bool (congrArg Bool.not (Bool.eq_false_iff.2 hp4)))) rfl) rfl (zq (yaw (v := (.bool (true))) (congrArg Value.bool (congrArg Bool.not (Bool.eq_false_iff.2 hp4))) rfl) (zq (zm (.bool (true))) (rl_p (yab rfl (yaf rfl rfl) rfl) rfl (rl_p (yab rfl (yaf rfl rfl) rfl) rfl (rl_p (yab rfl (yaf rfl rfl) rfl) rfl (zq (yaw (v := (.bool (true))) rfl rfl) (zq (zm (.bool (true))) (rl_p (yab rfl (yaf rfl rfl) rfl) rfl (rl_p (yab rfl (yaf rfl rfl) rfl) rfl (rl_p (yab rfl (yaf rfl rfl) rfl) rfl (zq (yaw (v := (.bool (true))) rfl rfl) (zq (za (.bool (true))) (yaa (yau rfl (zs (zq (za (ii 2)) (yaa (yak rfl rfl ⟨_, rfl, (hS.sel [] (by decide)), h⟩)))))))))))))))))))))))
    · replace h := h.2 hp; exact zd hp (yaA rfl (zs (zq (za (ii 0)) (yaa (yak rfl rfl ⟨_, rfl, (hS.sel [] (by decide)), h⟩)))))
  clear hJ; intro j; refine zr (zq (yaj rfl underlying24 rfl yah) (zq (zl underlying3 (Row.cell (hS.bx 1 rfl) (i := 0) rfl)) (zq zL (zq (zm (.bool (decide (d < 1)))) ?_)))); by_cases hp8 : d < 1
  · replace h := h.1 hp8; exact rl_p (yab rfl (yaf rfl (congrArg Value.bool (decide_eq_true hp8))) rfl) rfl (rl_p (yab rfl (yaf rfl (congrArg Value.bool (decide_eq_true hp8))) rfl) rfl (rl_p (yab rfl (yaf rfl (congrArg Value.bool (decide_eq_true hp8))) rfl) rfl (zq (yaw (v := (.bool (true))) (congrArg Value.bool (decide_eq_true hp8)) rfl) (yaa (yau rfl (zs (zq (za (ii 2)) (yaa (yak rfl rfl ⟨_, rfl, (hS.sel [] (by decide)), h⟩)))))))))
  · replace h := h.2 hp8; refine rl_q (yad rfl (yaf rfl (congrArg Value.bool (decide_eq_false hp8)))) rfl rfl (yaj rfl underlying24 rfl yah) (rl_q (yad rfl (yaf rfl (congrArg Value.bool (decide_eq_false hp8)))) rfl rfl (zl underlying3 (Row.cell (hS.bx 1 rfl) (i := 0) rfl)) (rl_q (yad rfl (yaf rfl (congrArg Value.bool (decide_eq_false hp8)))) rfl rfl zG (zq (yay (v := (.bool (decide (12 < d)))) (congrArg Value.bool (decide_eq_false hp8)) rfl) (yaa ?_)))); by_cases hp9 : 12 < d
    · replace h := h.1 hp9; exact zc hp9 (zs (zq (za (ii 2)) (yaa (yak rfl rfl ⟨_, rfl, (hS.sel [] (by decide)), h⟩))))
    · replace h := h.2 hp9; exact zd hp9 (yai (j _ _ _ ⟨h, rfl, rfl, (hS.sel [1, 0] (by decide))⟩))
def yhX (g : Int) (g2 : List E3) (d : List Int) (R : Int → Prop) : Prop :=
yb2 g g2 (fun r =>
((r = 0 →
ybO d g (fun r2 =>
R r2)) ∧
(¬ (r = 0) →
R r)))
theorem yim {O : Nat → Prop} {w : World} {g g2 d Ag lg cg Ad ld cd} {R : Int → Prop} (h : yhX g g2 d R) (hO : ∀ k, O k → k < w.heap.size) (hA0 : (FP.sl c3 Ag lg cg g2).P O w) (hA1 : (FP.sl cI Ad ld cd d).P O w) :
    Calls Try.prog 66 #[(.agg #[(ii g), (.slice Ag lg cg)]), (.slice Ad ld cd)] w fun e w' => ∃ r3, e = .returned (ii r3) ∧ Sep w no O w' (rl []) ∧ R r3 := by
  unfold yhX at h; have hS : Sep w no O w (rl [Res.ro (FP.sl c3 Ag lg cg g2), Res.ro (FP.sl cI Ad ld cd d)]) := Sep.startl hO [(FP.sl c3 Ag lg cg g2), (FP.sl cI Ad ld cd d)] ⟨hA0, hA1, trivial⟩; refine yap (l := [(.agg #[(ii g), (.slice Ag lg cg)]), (.slice Ad ld cd)]) func66 rfl ntmps66 (Nat.le_of_ble_eq_true rfl) (zs (zn (ybq (v := (.agg #[(ii g), (.slice Ag lg cg)])) rfl ?_))); intro g3 w2 hN; replace hS : Sep w no O w2 (stl _ 2 (Res.box 24 g3 [(ii g), (.slice Ag lg cg)])) := hS.new 2 rfl hN; clear hN; refine zb (zq (za (ii 0)) (yaa (yae (zs (zq (yas (vs := [(ii g), (.slice Ag lg cg)]) rfl underlying24 rfl yaq ⟨Row.cell (hS.bx 2 rfl) (i := 0) rfl, Row.cell (hS.bx 2 rfl) (i := 1) rfl, trivial⟩) (zn (yan rfl (am1 rfl) yiI ((yeU h (yaK _) (hS.rdr 0 rfl)).mono ?_)))))))); rintro _ w3 ⟨r, rfl, hC, h⟩; replace hS := hS.pur hC.pure; clear hC; refine ⟨_, rfl, ?_⟩; refine zb (zq (za (ii r)) (yaa (zs (zq (zm (ii r)) (zq zN (yaa ?_)))))); by_cases hp : r = 0
  · replace h := h.1 hp; refine ze hp (yai (zs (zq (zm (.slice Ad ld cd)) (zq (yaj rfl underlying24 rfl yah) (zq (zl underlying3 (Row.cell (hS.bx 2 rfl) (i := 0) rfl)) (zn (yan rfl (am2 rfl rfl) yfY ((ydS h (yaK _) (hS.rdr 1 rfl)).mono ?_)))))))); rintro _ w4 ⟨r2, rfl, hC, h⟩; replace hS := hS.pur hC.pure; clear hC; refine ⟨_, rfl, ?_⟩; exact zb (zq (za (ii r2)) (yaa (yak rfl rfl ⟨_, rfl, (hS.sel [] (by decide)), h⟩)))
  · replace h := h.2 hp; exact zf hp (zs (zq (zm (ii r)) (zq (za (ii r)) (yaa (yak rfl rfl ⟨_, rfl, (hS.sel [] (by decide)), h⟩)))))
def yh5 (g : Int) (g2 : List E3) (s : List Int) (R : Int → Prop) : Prop :=
yhX g g2 s (fun r =>
R r)
theorem yix {O : Nat → Prop} {w : World} {g g2 s Ag lg cg As ls cs} {R : Int → Prop} (h : yh5 g g2 s R) (hO : ∀ k, O k → k < w.heap.size) (hA0 : (FP.sl c3 Ag lg cg g2).P O w) (hA1 : (FP.sl cI As ls cs s).P O w) :
    Calls Try.prog 67 #[(.agg #[(ii g), (.slice Ag lg cg)]), (.slice As ls cs)] w fun e w' => ∃ r2, e = .returned (ii r2) ∧ Sep w no O w' (rl []) ∧ R r2 := by
  unfold yh5 at h; have hS : Sep w no O w (rl [Res.ro (FP.sl c3 Ag lg cg g2), Res.ro (FP.sl cI As ls cs s)]) := Sep.startl hO [(FP.sl c3 Ag lg cg g2), (FP.sl cI As ls cs s)] ⟨hA0, hA1, trivial⟩; refine yap (l := [(.agg #[(ii g), (.slice Ag lg cg)]), (.slice As ls cs)]) func67 rfl ntmps67 (Nat.le_of_ble_eq_true rfl) (zs (zn (ybq (v := (.agg #[(ii g), (.slice Ag lg cg)])) rfl ?_))); intro g3 w2 hN; replace hS : Sep w no O w2 (stl _ 2 (Res.box 24 g3 [(ii g), (.slice Ag lg cg)])) := hS.new 2 rfl hN; clear hN; refine zb (zq (za (ii 0)) (yaa (zs (zq (yas (vs := [(ii g), (.slice Ag lg cg)]) rfl underlying24 rfl yaq ⟨Row.cell (hS.bx 2 rfl) (i := 0) rfl, Row.cell (hS.bx 2 rfl) (i := 1) rfl, trivial⟩) (zq (zm (.slice As ls cs)) (zn (yan rfl (am2 rfl rfl) enter_66 ((yim h (yaK _) (hS.rdr 0 rfl) (hS.rdr 1 rfl)).mono ?_)))))))); rintro _ w3 ⟨r, rfl, hC, h⟩; replace hS := hS.pur hC.pure; clear hC; refine ⟨_, rfl, ?_⟩; exact zb (zq (za (ii r)) (yaa (yak rfl rfl ⟨_, rfl, (hS.sel [] (by decide)), h⟩)))
def yhZ (k : Int) (R : Bool → Prop) : Prop :=
((k < (-1048576) →
R true) ∧
(¬ (k < (-1048576)) →
R (decide (1048576 < k))))
theorem yip {O : Nat → Prop} {w : World} {k} {R : Bool → Prop} (h : yhZ k R) (hO : ∀ k, O k → k < w.heap.size) :
    Calls Try.prog 102 #[(ii k)] w fun e w' => ∃ r, e = .returned (.bool (r)) ∧ Sep w no O w' (rl []) ∧ R r := by
  unfold yhZ at h; have hS : Sep w no O w (rl []) := Sep.start w hO; refine yap (l := [(ii k)]) func102 rfl ntmps102 (Nat.le_of_ble_eq_true rfl) (zs (zq (za (.bool (false))) (yaa (zs (zq (zm (ii k)) (zq zL (zq (zm (.bool (decide (k < (-1048576))))) ?_))))))); by_cases hp : k < (-1048576)
  · replace h := h.1 hp; exact rl_p (yab rfl (yaf rfl (congrArg Value.bool (decide_eq_true hp))) rfl) rfl (rl_p (yab rfl (yaf rfl (congrArg Value.bool (decide_eq_true hp))) rfl) rfl (zq (yaw (v := (.bool (true))) (congrArg Value.bool (decide_eq_true hp)) rfl) (zq (za (.bool (true))) (yaa (yak rfl rfl ⟨_, rfl, (hS.sel [] (by decide)), h⟩)))))
  · replace h := h.2 hp; exact rl_q (yad rfl (yaf rfl (congrArg Value.bool (decide_eq_false hp)))) rfl rfl (zm (ii k)) (rl_q (yad rfl (yaf rfl (congrArg Value.bool (decide_eq_false hp)))) rfl rfl zG (zq (yay (v := (.bool (decide (1048576 < k)))) (congrArg Value.bool (decide_eq_false hp)) rfl) (zq (za (.bool (decide (1048576 < k)))) (yaa (yak rfl rfl ⟨_, rfl, (hS.sel [] (by decide)), h⟩)))))
def yhY (d : List Int) (R : (List Int) → Int → Prop) : Prop :=
yhR d (fun x R => yhZ x R) (fun r =>
((r = true →
R ([]) 11) ∧
(¬ (r = true) →
R d 0)))
theorem yiv {O : Nat → Prop} {w : World} {d Ad ld cd} {R : (List Int) → Int → Prop} (h : yhY d R) (hO : ∀ k, O k → k < w.heap.size) (hA0 : (FP.sl cI Ad ld cd d).P O w) :
    Calls Try.prog 68 #[(.slice Ad ld cd)] w fun e w' => ∃ r2 r3 Ar lr cr, e = .returned (.tuple #[(.slice Ar lr cr), (ii r3)]) ∧ Sep w no O w' (rl [Res.ro (FP.sl cI Ar lr cr r2)]) ∧ R r2 r3 := by
  unfold yhY at h; have hS : Sep w no O w (rl [Res.ro (FP.sl cI Ad ld cd d)]) := Sep.startl hO [(FP.sl cI Ad ld cd d)] ⟨hA0, trivial⟩; refine yap (l := [(.slice Ad ld cd)]) func68 rfl ntmps68 (Nat.le_of_ble_eq_true rfl) (zs (zq (za (.slice none 0 0)) (zq (za (ii 0)) (yaa (yae (zs (zq (zm (.slice Ad ld cd)) (zn (yan rfl (am2 rfl rfl) enter_101 ((yh7 h (yaK _) (hS.rdr 0 rfl) (fun w' hk => ⟨102, #[], rfl, enter_102, fun x R hF => ydD (by simp) (yip hF (yaK _))⟩)).mono ?_)))))))))); rintro _ w2 ⟨r, rfl, hC, h⟩; replace hS := hS.pur hC.pure; clear hC; refine ⟨_, rfl, ?_⟩; refine zb (yaa ?_); by_cases hp : r = true
  · replace h := h.1 hp; refine yau (congrArg Value.bool hp) (zs (zq (za (.slice none 0 0)) (zq (za (ii 11)) (yaa ?_)))); replace hS := hS.addro 1 rfl _ (yiJ cI _ _); exact ya2 rfl rfl rfl ⟨_, _, _, _, _, rfl, (hS.sel [1] (by decide)), h⟩
  · replace h := h.2 hp; exact yaz (congrArg Value.bool (Bool.eq_false_iff.2 hp)) (yai (zs (zq (zm (.slice Ad ld cd)) (zq (za (.slice Ad ld cd)) (zq (za (ii 0)) (yaa (ya2 rfl rfl rfl ⟨_, _, _, _, _, rfl, (hS.sel [0] (by decide)), h⟩)))))))
def yhW (x : Int) (x2 : Int) (x3 : Int) (cap : List Int) (cap2 : List Int) (R : (List Int) → Prop) : Prop :=
((0 ≤ x ∧ x < ((cap.length : Nat) : Int)) ∧
((0 ≤ x2 ∧ x2 < ((cap.length : Nat) : Int)) ∧
(In64 ((gi cap x.toNat) - (gi cap x2.toNat)) ∧
(In64 (x3 * ((gi cap x.toNat) - (gi cap x2.toNat))) ∧
((0 ≤ x ∧ x < ((cap2.length : Nat) : Int)) ∧
(In64 ((gi cap2 x.toNat) - (x3 * ((gi cap x.toNat) - (gi cap x2.toNat)))) ∧
((0 ≤ x2 ∧ x2 < (((cap2.set x.toNat ((gi cap2 x.toNat) - (x3 * ((gi cap x.toNat) - (gi cap x2.toNat))))).length : Nat) : Int)) ∧
(In64 ((gi (cap2.set x.toNat ((gi cap2 x.toNat) - (x3 * ((gi cap x.toNat) - (gi cap x2.toNat))))) x2.toNat) + (x3 * ((gi cap x.toNat) - (gi cap x2.toNat)))) ∧
R ((cap2.set x.toNat ((gi cap2 x.toNat) - (x3 * ((gi cap x.toNat) - (gi cap x2.toNat))))).set x2.toNat ((gi (cap2.set x.toNat ((gi cap2 x.toNat) - (x3 * ((gi cap x.toNat) - (gi cap x2.toNat))))) x2.toNat) + (x3 * ((gi cap x.toNat) - (gi cap x2.toNat)))))))))))))
theorem yin {S O : Nat → Prop} {w : World} {x x2 x3 cap cap2 gc Acap lcap ccap gc2 Acap2 lcap2 ccap2} {R : (List Int) → Prop} (h : yhW x x2 x3 cap cap2 R) (hS : Sep w S O w (rl [Res.box 55 gc [(Value.slice Acap lcap ccap)], Res.ro (FP.sl cI Acap lcap ccap cap), Res.box 26 gc2 [(Value.slice Acap2 lcap2 ccap2)], Res.own cI 3 Acap2 lcap2 ccap2 cap2])) :
    Calls Try.prog 103 #[(.agg #[(ii x), (ii x2), (ii x3)]), (.pointer (some (⟨gc, 0, none⟩ : Addr))), (.pointer (some (⟨gc2, 0, none⟩ : Addr)))] w fun e w' => ∃ z, e = .returned (.tuple #[]) ∧ Sep w S O w' (rl [Res.box 55 gc [(.slice Acap lcap ccap)], Res.box 26 gc2 [(.slice Acap2 lcap2 ccap2)], Res.own cI 3 Acap2 lcap2 ccap2 z]) ∧ R z := by
  unfold yhW at h; refine yap (l := [(.agg #[(ii x), (ii x2), (ii x3)]), (.pointer (some (⟨gc, 0, none⟩ : Addr))), (.pointer (some (⟨gc2, 0, none⟩ : Addr)))]) func103 rfl ntmps103 (Nat.le_of_ble_eq_true rfl) (zs (zn (ybq (v := (.agg #[(ii x), (ii x2), (ii x3)])) rfl ?_))); intro g w2 hN; replace hS : Sep w S O w2 (stl _ 4 (Res.box 83 g [(ii x), (ii x2), (ii x3)])) := hS.new 4 rfl hN; clear hN; refine zb (yaa (yae (yba [0, 1, 2, 3, 4, 5, 6, 7, 8, 9, 10, 11, 12, 13, 14] st0 ybn (by kernel_rfl) (by kernel_rfl) ?_))); replace hS := hS.drew; refine zp (yaj rfl underlying83 rfl yah) (zp (zl underlying3 (Row.cell (hS.bx 4 rfl) (i := 2) rfl)) (zp (zl underlying55 (Row.cell (hS.bx 0 rfl) (i := 0) rfl)) (zp (yaj rfl underlying83 rfl yah) (zp (zl underlying3 (Row.cell (hS.bx 4 rfl) (i := 0) rfl)) ?_)))); obtain ⟨hx, h⟩ := h; refine zp (zi underlying55 yah (yaM (hS.rdr 1 rfl) hx)) (zp (yag (v := (ii (gi cap x.toNat))) rfl underlying3 rfl (rd_1 (hS.rdr 1 rfl) hx (fun q => yaH q) rfl)) ?_); refine zp (zl underlying55 (Row.cell (hS.bx 0 rfl) (i := 0) rfl)) (zp (yaj rfl underlying83 rfl yah) (zp (zl underlying3 (Row.cell (hS.bx 4 rfl) (i := 1) rfl)) ?_)); obtain ⟨hx2, h⟩ := h; refine zp (zi underlying55 yah (yaM (hS.rdr 1 rfl) hx2)) (zp (yag (v := (ii (gi cap x2.toNat))) rfl underlying3 rfl (rd_1 (hS.rdr 1 rfl) hx2 (fun q => yaH q) rfl)) ?_); obtain ⟨hi, h⟩ := h; refine zp (zS hi) ?_; obtain ⟨hi2, h⟩ := h; refine zp (v_mul rfl rfl hi2) (zp (za (ii (x3 * ((gi cap x.toNat) - (gi cap x2.toNat))))) (ybs (zs (zq (zl underlying26 (Row.cell (hS.bx 2 rfl) (i := 0) rfl)) (zq (yaj rfl underlying83 rfl yah) (zq (zl underlying3 (Row.cell (hS.bx 4 rfl) (i := 0) rfl)) ?_)))))); obtain ⟨hx3, h⟩ := h; refine zq (zi underlying26 yah (yaM (hS.rdo 3 rfl) hx3)) (zq (yag (v := (ii (gi cap2 x.toNat))) rfl underlying3 rfl (rd_1 (hS.rdo 3 rfl) hx3 (fun q => yaH q) rfl)) ?_); refine zq (zm (ii (x3 * ((gi cap x.toNat) - (gi cap x2.toNat))))) ?_; obtain ⟨hi3, h⟩ := h; refine zq (zS hi3) (zq (zi underlying26 yah (yaM (hS.rdo 3 rfl) hx3)) (zo (zt (ii ((gi cap2 x.toNat) - (x3 * ((gi cap x.toNat) - (gi cap x2.toNat))))) yah (hS.wr 3 rfl rfl hx3) ?_))); intro w3 e1; replace hS := hS.st 3 rfl rfl hx3 (x := (gi cap2 x.toNat) - (x3 * ((gi cap x.toNat) - (gi cap x2.toNat)))) rfl e1; clear e1; refine zb (yaa (zr (zq (zl underlying26 (Row.cell (hS.bx 2 rfl) (i := 0) rfl)) (zq (yaj rfl underlying83 rfl yah) (zq (zl underlying3 (Row.cell (hS.bx 4 rfl) (i := 1) rfl)) ?_))))); obtain ⟨hx4, h⟩ := h; refine zq (zi underlying26 yah (yaM (hS.rdo 3 rfl) hx4)) (zq (yag (v := (ii (gi (cap2.set x.toNat ((gi cap2 x.toNat) - (x3 * ((gi cap x.toNat) - (gi cap x2.toNat))))) x2.toNat))) rfl underlying3 rfl (rd_1 (hS.rdo 3 rfl) hx4 (fun q => yaH q) rfl)) ?_); refine zq (zm (ii (x3 * ((gi cap x.toNat) - (gi cap x2.toNat))))) ?_; obtain ⟨hi4, h⟩ := h; refine zq (zA hi4) (zq (zi underlying26 yah (yaM (hS.rdo 3 rfl) hx4)) (zo (zt (ii ((gi (cap2.set x.toNat ((gi cap2 x.toNat) - (x3 * ((gi cap x.toNat) - (gi cap x2.toNat))))) x2.toNat) + (x3 * ((gi cap x.toNat) - (gi cap x2.toNat))))) yah (hS.wr 3 rfl rfl hx4) ?_))); intro w4 e1; replace hS := hS.st 3 rfl rfl hx4 (x := (gi (cap2.set x.toNat ((gi cap2 x.toNat) - (x3 * ((gi cap x.toNat) - (gi cap x2.toNat))))) x2.toNat) + (x3 * ((gi cap x.toNat) - (gi cap x2.toNat)))) rfl e1; clear e1; exact zb (yaa (yhG rfl ⟨_, rfl, (hS.sel [0, 2, 3] (by decide)), h⟩))
def yh2 (g : Int) (g2 : List E3) (d : List Int) (s : List Int) (R : (List Int) → Prop) : Prop :=
yaU d (fun r =>
(∃ I2 : Nat → Int → (List Int) → Prop, (∃ m0, I2 m0 0 r) ∧ ∀ m2 v out, I2 m2 v out → 
((v < ((g2.length : Nat) : Int) →
((0 ≤ v ∧ v < ((g2.length : Nat) : Int)) ∧
yhW ((ge g2 v.toNat).1) ((ge g2 v.toNat).2.1) ((ge g2 v.toNat).2.2) s out (fun y =>
(In64 (v + 1) ∧
∃ m3, m3 < m2 ∧ I2 m3 (v + 1) y)))) ∧
(¬ (v < ((g2.length : Nat) : Int)) →
R out))))
theorem yiy {O : Nat → Prop} {w : World} {g g2 d s Ag lg cg Ad ld cd As ls cs} {R : (List Int) → Prop} (h : yh2 g g2 d s R) (hO : ∀ k, O k → k < w.heap.size) (hA0 : (FP.sl c3 Ag lg cg g2).P O w) (hA1 : (FP.sl cI Ad ld cd d).P O w) (hA2 : (FP.sl cI As ls cs s).P O w) :
    Calls Try.prog 69 #[(.agg #[(ii g), (.slice Ag lg cg)]), (.slice Ad ld cd), (.slice As ls cs)] w fun e w' => ∃ r2 Ar2 lr2 cr2, e = .returned (.slice Ar2 lr2 cr2) ∧ Sep w no O w' (rl [Res.own cI 3 Ar2 lr2 cr2 r2]) ∧ R r2 := by
  unfold yh2 at h; have hS : Sep w no O w (rl [Res.ro (FP.sl c3 Ag lg cg g2), Res.ro (FP.sl cI Ad ld cd d), Res.ro (FP.sl cI As ls cs s)]) := Sep.startl hO [(FP.sl c3 Ag lg cg g2), (FP.sl cI Ad ld cd d), (FP.sl cI As ls cs s)] ⟨hA0, hA1, hA2, trivial⟩; refine yap (l := [(.agg #[(ii g), (.slice Ag lg cg)]), (.slice Ad ld cd), (.slice As ls cs)]) func69 rfl ntmps69 (Nat.le_of_ble_eq_true rfl) (zs (zn (ybq (v := (.agg #[(ii g), (.slice Ag lg cg)])) rfl ?_))); intro g3 w2 hN; replace hS : Sep w no O w2 (stl _ 3 (Res.box 24 g3 [(ii g), (.slice Ag lg cg)])) := hS.new 3 rfl hN; clear hN; refine zb (zn (ybq (v := (.slice As ls cs)) rfl ?_)); intro g4 w3 hN; replace hS : Sep w no O w3 (stl _ 4 (Res.box 55 g4 [(.slice As ls cs)])) := hS.new 4 rfl hN; clear hN; refine zb (zq (za (.slice none 0 0)) (yaa (zs (zq (zm (.slice Ad ld cd)) (zn (yan rfl (am1 rfl) enter_22 ((ycy h (yaK _) (hS.rdr 1 rfl)).mono ?_))))))); rintro _ w4 ⟨r, Ar, lr, cr, rfl, hC, h⟩; replace hS := hS.call1 (hC.widen (yeo (ybk (fI .i64) _ _ _ _ _) yfi) hS.blt) 5 0 rfl; clear hC; refine ⟨_, rfl, ?_⟩; refine zb (zn (ya7 ybb ?_)); intro g5 w5 hN; replace hS : Sep w no O w5 (stl _ 6 (Res.box 26 g5 [(.slice none 0 0)])) := hS.new 6 rfl hN; clear hN; refine zb (zo (zt (.slice Ar lr cr) ybb (hS.bwr 6 rfl (j := 0) rfl) ?_)); intro w6 e1; replace hS := hS.bst 6 rfl 0 (.slice Ar lr cr) e1; clear e1; refine zb (yaa (zs (zq (yiL (am0) (am2 rfl rfl)) (zq (za (.func (Fn.func 103) #[] #[(.pointer (some (⟨g4, 0, none⟩ : Addr))), (.pointer (some (⟨g5, 0, none⟩ : Addr)))])) (yaa (yae (zs (zq (yaj rfl underlying24 rfl yca) (zq (zl underlying22 (Row.cell (hS.bx 3 rfl) (i := 1) rfl)) (zq (yaZ (n := g2.length) rfl underlying22 (yaS (hS.rdr 0 rfl))) (zq (zm (ii 0)) (yaa (yam ?_))))))))))))); obtain ⟨I2, ⟨m0, h0⟩, hr⟩ := h; refine yaC (fun m E ds w' => ∃ v out Aout lout cout, I2 m v out ∧ ds = [] ∧ E 7 = (Value.pointer (some (⟨g5, 0, none⟩ : Addr))) ∧ E 8 = (Value.func (Fn.func 103) #[] #[(.pointer (some (⟨g4, 0, none⟩ : Addr))), (.pointer (some (⟨g5, 0, none⟩ : Addr)))]) ∧ E 15 = (Value.slice Ag lg cg) ∧ E 16 = (ii ((g2.length : Nat) : Int)) ∧ E 17 = (ii v) ∧ Sep w no O w' (rl [Res.box 26 g5 [(.slice Aout lout cout)], Res.own cI 3 Aout lout cout out, Res.box 55 g4 [(.slice As ls cs)], Res.ro (FP.sl cI As ls cs s), Res.ro (FP.sl c3 Ag lg cg g2)])) m0 ⟨_, _, _, _, _, h0, rfl, rfl, rfl, rfl, rfl, rfl, (hS.sel [6, 5, 4, 2, 0] (by decide))⟩ ?_; clear h0 hS; rintro m2 E ds w7 ⟨v, out, Aout, lout, cout, h, rfl, hE7, hE8, hE15, hE16, hE17, hS⟩ again; replace h := hr m2 v out h; clear hr; refine zs (zq (yaP hE17 hE16) (yaa (yae ?_))); by_cases hp : v < ((g2.length : Nat) : Int)
  · replace h := h.1 hp; refine zc hp (yai (yae (yam (zs ?_)))); obtain ⟨hx, h⟩ := h; refine zq (yao hE15 hE17 underlying22 yaF (yaM (hS.rdr 4 rfl) hx)) (zq (yas (vs := [(ii ((ge g2 v.toNat).1)), (ii ((ge g2 v.toNat).2.1)), (ii ((ge g2 v.toNat).2.2))]) rfl underlying83 rfl yaF (rd_fs (hS.rdr 4 rfl) hx (fun q => ycL q))) ?_); refine zn (ya7 yaF ?_); intro g6 w8 hN; replace hS : Sep w no O w8 (stl _ 5 (Res.box 83 g6 [(ii 0), (ii 0), (ii 0)])) := hS.new 5 rfl hN; clear hN; refine zb (zo (ybr (b := g6) (o := 0) (cells := #[(ii ((ge g2 v.toNat).1)), (ii ((ge g2 v.toNat).2.1)), (ii ((ge g2 v.toNat).2.2))]) rfl rfl yaF rfl rfl (yaY (hS.bx 5 rfl) (Nat.le_of_ble_eq_true rfl)) ?_)); intro w9 e1; replace hS := hS.bstn 5 rfl 0 [(ii ((ge g2 v.toNat).1)), (ii ((ge g2 v.toNat).2.1)), (ii ((ge g2 v.toNat).2.2))] e1; clear e1; refine zb (yaa (zr (zq (yac (v := (Value.func (Fn.func 103) #[] #[(.pointer (some (⟨g4, 0, none⟩ : Addr))), (.pointer (some (⟨g5, 0, none⟩ : Addr)))])) hE8) (zq (yas (vs := [(ii ((ge g2 v.toNat).1)), (ii ((ge g2 v.toNat).2.1)), (ii ((ge g2 v.toNat).2.2))]) rfl underlying83 rfl yaF ⟨Row.cell (hS.bx 5 rfl) (i := 0) rfl, Row.cell (hS.bx 5 rfl) (i := 1) rfl, Row.cell (hS.bx 5 rfl) (i := 2) rfl, trivial⟩) ?_)))); have hB := hS.lend (asc [(2, 0), (0, 1), (1, 2)]) [2, 3, 0, 1] (by decide) ⟨.inl (ydN rfl), .inr rfl, .inl (ydN rfl), .inl (ydN rfl), trivial⟩; refine zn (yhs (vs := #[(.agg #[(ii ((ge g2 v.toNat).1)), (ii ((ge g2 v.toNat).2.1)), (ii ((ge g2 v.toNat).2.2))])]) (us := #[(.pointer (some (⟨g4, 0, none⟩ : Addr))), (.pointer (some (⟨g5, 0, none⟩ : Addr)))]) rfl (am1 rfl) enter_103 ((ydD (by simp) (yin h hB)).mono ?_)); rintro _ w10 ⟨y, rfl, hC, h⟩; replace hS := hS.back (asc [(2, 0), (0, 1), (1, 2)]) (yf9 (by decide)) hC; clear hC hB; refine ⟨_, rfl, ?_⟩; refine zb (yaa (yal (zr ?_))); obtain ⟨hi, h⟩ := h; refine zq (yaG hE17 rfl hi) (zq (zm (ii (v + 1))) (yaa ?_)); obtain ⟨mq, hlt, h⟩ := h; exact again mq _ _ _ ⟨_, _, _, _, _, h, rfl, hE7, hE8, hE15, hE16, rfl, (hS.sel [0, 1, 2, 3, 4] (by decide))⟩ hlt
  · replace h := h.2 hp; exact zd hp (yaA rfl (zs (zq (yag hE7 underlying26 rfl (Row.cell (hS.bx 0 rfl) (i := 0) rfl)) (zq (za (.slice Aout lout cout)) (yaa (yak rfl rfl ⟨_, _, _, _, rfl, (hS.sel [1] (by decide)), h⟩))))))
def yh1 (g : Int) (g2 : List E3) (d : List Int) (s : List Int) (R : (List Int) → Int → Prop) : Prop :=
yhX g g2 d (fun r =>
((r = 0 →
yh5 g g2 s (fun r2 =>
((r2 = 0 →
yh2 g g2 d s (fun r3 =>
yhY r3 (fun r4 r5 =>
R r4 r5))) ∧
(¬ (r2 = 0) →
R ([]) r2)))) ∧
(¬ (r = 0) →
R ([]) r)))
theorem yiA {O : Nat → Prop} {w : World} {g g2 d s Ag lg cg Ad ld cd As ls cs} {R : (List Int) → Int → Prop} (h : yh1 g g2 d s R) (hO : ∀ k, O k → k < w.heap.size) (hA0 : (FP.sl c3 Ag lg cg g2).P O w) (hA1 : (FP.sl cI Ad ld cd d).P O w) (hA2 : (FP.sl cI As ls cs s).P O w) :
    Calls Try.prog 28 #[(.agg #[(ii g), (.slice Ag lg cg)]), (.slice Ad ld cd), (.slice As ls cs)] w fun e w' => ∃ r6 r7 Ar3 lr3 cr3, e = .returned (.tuple #[(.slice Ar3 lr3 cr3), (ii r7)]) ∧ Sep w no O w' (rl [Res.ro (FP.sl cI Ar3 lr3 cr3 r6)]) ∧ R r6 r7 := by
  unfold yh1 at h; have hS : Sep w no O w (rl [Res.ro (FP.sl c3 Ag lg cg g2), Res.ro (FP.sl cI Ad ld cd d), Res.ro (FP.sl cI As ls cs s)]) := Sep.startl hO [(FP.sl c3 Ag lg cg g2), (FP.sl cI Ad ld cd d), (FP.sl cI As ls cs s)] ⟨hA0, hA1, hA2, trivial⟩; refine yap (l := [(.agg #[(ii g), (.slice Ag lg cg)]), (.slice Ad ld cd), (.slice As ls cs)]) func28 rfl ntmps28 (Nat.le_of_ble_eq_true rfl) (zs (zn (ybq (v := (.agg #[(ii g), (.slice Ag lg cg)])) rfl ?_))); intro g3 w2 hN; replace hS : Sep w no O w2 (stl _ 3 (Res.box 24 g3 [(ii g), (.slice Ag lg cg)])) := hS.new 3 rfl hN; clear hN; refine zb (zq (za (.slice none 0 0)) (zq (za (ii 0)) (yaa (yae (zs (zq (yas (vs := [(ii g), (.slice Ag lg cg)]) rfl underlying24 rfl yaq ⟨Row.cell (hS.bx 3 rfl) (i := 0) rfl, Row.cell (hS.bx 3 rfl) (i := 1) rfl, trivial⟩) (zq (zm (.slice Ad ld cd)) (zn (yan rfl (am2 rfl rfl) enter_66 ((yim h (yaK _) (hS.rdr 0 rfl) (hS.rdr 1 rfl)).mono ?_)))))))))); rintro _ w3 ⟨r, rfl, hC, h⟩; replace hS := hS.pur hC.pure; clear hC; refine ⟨_, rfl, ?_⟩; refine zb (zq (za (ii r)) (yaa (zs (zq (zm (ii r)) (zq zN (yaa ?_)))))); by_cases hp : r = 0
  · replace h := h.1 hp; refine ze hp (yai (yae (zs (zq (yas (vs := [(ii g), (.slice Ag lg cg)]) rfl underlying24 rfl yaq ⟨Row.cell (hS.bx 3 rfl) (i := 0) rfl, Row.cell (hS.bx 3 rfl) (i := 1) rfl, trivial⟩) (zq (zm (.slice As ls cs)) (zn (yan rfl (am2 rfl rfl) enter_67 ((yix h (yaK _) (hS.rdr 0 rfl) (hS.rdr 2 rfl)).mono ?_)))))))); rintro _ w4 ⟨r2, rfl, hC, h⟩; replace hS := hS.pur hC.pure; clear hC; refine ⟨_, rfl, ?_⟩; refine zb (zq (za (ii r2)) (yaa (zs (zq (zm (ii r2)) (zq zN (yaa ?_)))))); by_cases hp2 : r2 = 0
    · replace h := h.1 hp2; refine ze hp2 (yai (zs (zq (yas (vs := [(ii g), (.slice Ag lg cg)]) rfl underlying24 rfl yaq ⟨Row.cell (hS.bx 3 rfl) (i := 0) rfl, Row.cell (hS.bx 3 rfl) (i := 1) rfl, trivial⟩) (zq (zm (.slice Ad ld cd)) (zq (zm (.slice As ls cs)) (zn (yan rfl (am3 rfl rfl rfl) enter_69 ((yiy h (yaK _) (hS.rdr 0 rfl) (hS.rdr 1 rfl) (hS.rdr 2 rfl)).mono ?_)))))))); rintro _ w5 ⟨r3, Ar, lr, cr, rfl, hC, h⟩; replace hS := hS.call1 (hC.widen (yeo (ybk (fI .i64) _ _ _ _ _) yfi) hS.blt) 4 0 rfl; clear hC; refine ⟨_, rfl, ?_⟩; refine zb ?_; replace hS := hS.frz 4 rfl; refine zn (yan rfl (am1 rfl) enter_68 ((yiv h hS.blt (hS.ro 4 rfl)).mono ?_)); rintro _ w6 ⟨r4, r5, Ar2, lr2, cr2, rfl, hC, h⟩; replace hS := hS.call1 hC 5 0 rfl; clear hC; refine ⟨_, rfl, ?_⟩; exact zb (zq (zx (.slice Ar2 lr2 cr2)) (zq (zx (ii r5)) (zq (za (.slice Ar2 lr2 cr2)) (zq (za (ii r5)) (yaa (ya2 rfl rfl rfl ⟨_, _, _, _, _, rfl, (hS.sel [5] (by decide)), h⟩))))))
    · replace h := h.2 hp2; refine zf hp2 (zs (zq (zm (ii r2)) (zq (za (.slice none 0 0)) (zq (za (ii r2)) (yaa ?_))))); replace hS := hS.addro 4 rfl _ (yiJ cI _ _); exact ya2 rfl rfl rfl ⟨_, _, _, _, _, rfl, (hS.sel [4] (by decide)), h⟩
  · replace h := h.2 hp; refine zf hp (zs (zq (zm (ii r)) (zq (za (.slice none 0 0)) (zq (za (ii r)) (yaa ?_))))); replace hS := hS.addro 4 rfl _ (yiJ cI _ _); exact ya2 rfl rfl rfl ⟨_, _, _, _, _, rfl, (hS.sel [4] (by decide)), h⟩
end Go.Proofs.Ytmeoemmemjipdaa

/- Pure forms of functions, made by program (pf.py), each with the proof that the code does so. -/
namespace Go.Proofs.Ytmeoemmemjipdaa
open Go Go.RowKit Go.Shelf Go.Proofs.Try
set_option linter.unusedVariables false
set_option maxRecDepth 100000
set_option maxHeartbeats 1000000
def yaQ (g : Int) (g2 : List E3) (d : List Int) (R : Bool → (List Int) → (List Int) → Int → Prop) : Prop :=
yer g g2 0 d (fun r r2 r3 =>
((r3 = 0 →
((0 ≤ (0 : Int) ∧ (0 : Int) < ((r.length : Nat) : Int)) ∧
R (decide (0 ≤ (gi r (0 : Int).toNat))) r r2 0)) ∧
(¬ (r3 = 0) →
R false ([]) ([]) r3)))
theorem yb5 {O : Nat → Prop} {w : World} {g g2 d Ag lg cg Ad ld cd} {R : Bool → (List Int) → (List Int) → Int → Prop} (h : yaQ g g2 d R) (hO : ∀ k, O k → k < w.heap.size) (hA0 : (FP.sl c3 Ag lg cg g2).P O w) (hA1 : (FP.sl cI Ad ld cd d).P O w) :
    Calls Try.prog 34 #[(.agg #[(ii g), (.slice Ag lg cg)]), (.slice Ad ld cd)] w fun e w' => ∃ r4 r5 r6 r7 Ar3 lr3 cr3 Ar4 lr4 cr4, e = .returned (.tuple #[(.bool (r4)), (.slice Ar3 lr3 cr3), (.slice Ar4 lr4 cr4), (ii r7)]) ∧ Sep w no O w' (rl [Res.own cI 3 Ar3 lr3 cr3 r5, Res.own cI 3 Ar4 lr4 cr4 r6]) ∧ R r4 r5 r6 r7 := by
  unfold yaQ at h; have hS : Sep w no O w (rl [Res.ro (FP.sl c3 Ag lg cg g2), Res.ro (FP.sl cI Ad ld cd d)]) := Sep.startl hO [(FP.sl c3 Ag lg cg g2), (FP.sl cI Ad ld cd d)] ⟨hA0, hA1, trivial⟩; refine yap (l := [(.agg #[(ii g), (.slice Ag lg cg)]), (.slice Ad ld cd)]) func34 rfl ntmps34 (Nat.le_of_ble_eq_true rfl) (zs (zn (ybq (v := (.agg #[(ii g), (.slice Ag lg cg)])) rfl ?_))); intro g3 w2 hN; replace hS : Sep w no O w2 (stl _ 2 (Res.box 24 g3 [(ii g), (.slice Ag lg cg)])) := hS.new 2 rfl hN; clear hN; refine zb (zq (za (.bool (false))) (zq (za (.slice none 0 0)) (zq (za (.slice none 0 0)) (zq (za (ii 0)) (yaa (zs (zq (yas (vs := [(ii g), (.slice Ag lg cg)]) rfl underlying24 rfl yaq ⟨Row.cell (hS.bx 2 rfl) (i := 0) rfl, Row.cell (hS.bx 2 rfl) (i := 1) rfl, trivial⟩) (zq (zm (.slice Ad ld cd)) (zn (yan rfl (am3 rfl rfl rfl) enter_75 ((yfG h (yaK _) (hS.rdr 0 rfl) (hS.rdr 1 rfl)).mono ?_))))))))))); rintro _ w3 ⟨r, r2, r3, Ar, lr, cr, Ar2, lr2, cr2, rfl, hC, h⟩; replace hS := hS.call2 (hC.widen (yeo (ybk (fI .i64) _ _ _ _ _) (yeo (ybk (fI .i64) _ _ _ _ _) yfi)) hS.blt) 3 0 4 1 rfl rfl (by decide) (by decide); clear hC; refine ⟨_, rfl, ?_⟩; refine zb (zq (zm (.tuple #[(.slice Ar lr cr), (.slice Ar2 lr2 cr2), (ii r3)])) (zq (zx (.slice Ar lr cr)) (zq (zx (.slice Ar2 lr2 cr2)) (zq (zx (ii r3)) (zq (za (.slice Ar lr cr)) (zq (za (.slice Ar2 lr2 cr2)) (zq (za (ii r3)) (yaa (yae (zs (zq (zm (ii r3)) (zq zN (yaa ?_))))))))))))); by_cases hp : r3 = 0
  · replace h := h.1 hp; refine ze hp (yai (zs (zq (zm (.slice Ar lr cr)) ?_))); obtain ⟨hx, h⟩ := h; refine zq (zi underlying26 yah (yaM (hS.rdo 3 rfl) hx)) (zq (yag (v := (ii (gi r (0 : Int).toNat))) rfl underlying3 rfl (rd_1 (hS.rdo 3 rfl) hx (fun q => yaH q) rfl)) ?_); exact zq (v_geq rfl rfl) (zq (zm (.slice Ar lr cr)) (zq (zm (.slice Ar2 lr2 cr2)) (zq (za (.bool (decide (0 ≤ (gi r (0 : Int).toNat))))) (zq (za (.slice Ar lr cr)) (zq (za (.slice Ar2 lr2 cr2)) (zq (za (ii 0)) (yaa (wt_ret4 rfl rfl rfl rfl rfl ⟨_, _, _, _, _, _, _, _, _, _, rfl, (hS.sel [3, 4] (by decide)), h⟩))))))))
  · replace h := h.2 hp; refine zf hp (zs (zq (zm (ii r3)) (zq (za (.bool (false))) (zq (za (.slice none 0 0)) (zq (za (.slice none 0 0)) (zq (za (ii r3)) (yaa ?_))))))); replace hS := hS.nil 5 rfl cI 3; replace hS := hS.nil 6 rfl cI 3; exact wt_ret4 rfl rfl rfl rfl rfl ⟨_, _, _, _, _, _, _, _, _, _, rfl, (hS.sel [5, 6] (by decide)), h⟩
def ydf (g : Int) (g2 : List E3) (d : List Int) (R : Int → Prop) : Prop :=
ycP g g2 (fun r =>
((r = 0 →
ycB d g (fun r2 =>
R r2)) ∧
(¬ (r = 0) →
R r)))
theorem pok_r35_Given {O : Nat → Prop} {w : World} {g g2 d Ag lg cg Ad ld cd} {R : Int → Prop} (h : ydf g g2 d R) (hO : ∀ k, O k → k < w.heap.size) (hA0 : (FP.sl c3 Ag lg cg g2).P O w) (hA1 : (FP.sl cI Ad ld cd d).P O w) :
    Calls Try.prog 42 #[(.agg #[(ii g), (.slice Ag lg cg)]), (.slice Ad ld cd)] w fun e w' => ∃ r3, e = .returned (ii r3) ∧ Sep w no O w' (rl []) ∧ R r3 := by
  unfold ydf at h; have hS : Sep w no O w (rl [Res.ro (FP.sl c3 Ag lg cg g2), Res.ro (FP.sl cI Ad ld cd d)]) := Sep.startl hO [(FP.sl c3 Ag lg cg g2), (FP.sl cI Ad ld cd d)] ⟨hA0, hA1, trivial⟩; refine yap (l := [(.agg #[(ii g), (.slice Ag lg cg)]), (.slice Ad ld cd)]) func42 rfl ntmps42 (Nat.le_of_ble_eq_true rfl) (zs (zn (ybq (v := (.agg #[(ii g), (.slice Ag lg cg)])) rfl ?_))); intro g3 w2 hN; replace hS : Sep w no O w2 (stl _ 2 (Res.box 24 g3 [(ii g), (.slice Ag lg cg)])) := hS.new 2 rfl hN; clear hN; refine zb (zq (za (ii 0)) (yaa (yae (zs (zq (yas (vs := [(ii g), (.slice Ag lg cg)]) rfl underlying24 rfl yaq ⟨Row.cell (hS.bx 2 rfl) (i := 0) rfl, Row.cell (hS.bx 2 rfl) (i := 1) rfl, trivial⟩) (zn (yan rfl (am1 rfl) enter_51 ((yir h (yaK _) (hS.rdr 0 rfl)).mono ?_)))))))); rintro _ w3 ⟨r, rfl, hC, h⟩; replace hS := hS.pur hC.pure; clear hC; refine ⟨_, rfl, ?_⟩; refine zb (zq (za (ii r)) (yaa (zs (zq (zm (ii r)) (zq zN (yaa ?_)))))); by_cases hp : r = 0
  · replace h := h.1 hp; refine ze hp (yai (zs (zq (zm (.slice Ad ld cd)) (zq (yaj rfl underlying24 rfl yah) (zq (zl underlying3 (Row.cell (hS.bx 2 rfl) (i := 0) rfl)) (zn (yan rfl (am2 rfl rfl) yji ((yfL h (yaK _) (hS.rdr 1 rfl)).mono ?_)))))))); rintro _ w4 ⟨r2, rfl, hC, h⟩; replace hS := hS.pur hC.pure; clear hC; refine ⟨_, rfl, ?_⟩; exact zb (zq (za (ii r2)) (yaa (yak rfl rfl ⟨_, rfl, (hS.sel [] (by decide)), h⟩)))
  · replace h := h.2 hp; exact zf hp (zs (zq (zm (ii r)) (zq (za (ii r)) (yaa (yak rfl rfl ⟨_, rfl, (hS.sel [] (by decide)), h⟩)))))
end Go.Proofs.Ytmeoemmemjipdaa

/- Pure forms of functions, made by program (pf.py), each with the proof that the code does so. -/
namespace Go.Proofs.Ytmeoemmemjipdaa
open Go Go.RowKit Go.Shelf Go.Proofs.Try
set_option linter.unusedVariables false
set_option maxRecDepth 100000
set_option maxHeartbeats 1000000
def yhV (s : List (List Int)) (Ff : (List Int) → (Bool → Prop) → Prop) (R : Int → Prop) : Prop :=
(∃ I2 : Nat → Int → Prop, (∃ m0, I2 m0 0) ∧ ∀ m2 v, I2 m2 v → 
((v < ((s.length : Nat) : Int) →
((0 ≤ v ∧ v < ((s.length : Nat) : Int)) ∧
Ff (gx s v.toNat) (fun (r : Bool) =>
((r = true →
R v) ∧
(¬ (r = true) →
(In64 (v + 1) ∧
∃ m3, m3 < m2 ∧ I2 m3 (v + 1))))))) ∧
(¬ (v < ((s.length : Nat) : Int)) →
R (-1))))
theorem yic {O : Nat → Prop} {w : World} {s : List (List Int)} {Ff : (List Int) → (Bool → Prop) → Prop} {As : Option Addr} {ls : Nat} {cs : Nat} {f : Value} {R : Int → Prop} (h : yhV s Ff R) (hO : ∀ k, O k → k < w.heap.size) (hA0 : (FP.sl (cL cI) As ls cs s).P O w) (hA1 : (FP.st fun w' => ∃ (fid : Nat) (us : Array Value), f = Value.func (.func fid) #[] us ∧ Enters Try.prog fid ∧ ∀ (x0 : List Int) (Ax0 : Option Addr) (lx0 : Nat) (cx0 : Nat) (R : Bool → Prop), Ff x0 R → (FP.sl cI Ax0 lx0 cx0 x0).P no w' → Calls Try.prog fid (#[(Value.slice Ax0 lx0 cx0)] ++ us) w' fun e w'' => ∃ r0 : Bool, e = .returned (Value.bool (r0)) ∧ Sep w' no no w'' (rl []) ∧ R r0).P O w) :
    Calls Try.prog 93 #[(.slice As ls cs), f] w fun e w' => ∃ r2, e = .returned (ii r2) ∧ Sep w no O w' (rl []) ∧ R r2 := by
  unfold yhV at h; have hS : Sep w no O w (rl [Res.ro (FP.sl (cL cI) As ls cs s), Res.ro (FP.st fun w' => ∃ (fid : Nat) (us : Array Value), f = Value.func (.func fid) #[] us ∧ Enters Try.prog fid ∧ ∀ (x0 : List Int) (Ax0 : Option Addr) (lx0 : Nat) (cx0 : Nat) (R : Bool → Prop), Ff x0 R → (FP.sl cI Ax0 lx0 cx0 x0).P no w' → Calls Try.prog fid (#[(Value.slice Ax0 lx0 cx0)] ++ us) w' fun e w'' => ∃ r0 : Bool, e = .returned (Value.bool (r0)) ∧ Sep w' no no w'' (rl []) ∧ R r0)]) := Sep.startl hO [(FP.sl (cL cI) As ls cs s), (FP.st fun w' => ∃ (fid : Nat) (us : Array Value), f = Value.func (.func fid) #[] us ∧ Enters Try.prog fid ∧ ∀ (x0 : List Int) (Ax0 : Option Addr) (lx0 : Nat) (cx0 : Nat) (R : Bool → Prop), Ff x0 R → (FP.sl cI Ax0 lx0 cx0 x0).P no w' → Calls Try.prog fid (#[(Value.slice Ax0 lx0 cx0)] ++ us) w' fun e w'' => ∃ r0 : Bool, e = .returned (Value.bool (r0)) ∧ Sep w' no no w'' (rl []) ∧ R r0)] ⟨hA0, hA1, trivial⟩; refine yap (l := [(Value.slice As ls cs), f]) func93 rfl ntmps93 (Nat.le_of_ble_eq_true rfl) ?_; refine yae ?_; refine ybg ybn ?_; refine rl_q rfl rfl rfl (yjx (v := (.int .i64 0)) rfl) ?_; refine yaa ?_; refine yae ?_; refine yae ?_; refine ybg ybn ?_; refine rl_q rfl rfl rfl (yac (v := (.slice As ls cs)) rfl) ?_; refine rl_q rfl rfl rfl (yaZ (n := s.length) rfl underlying97 (yaS (hS.rdr 0 rfl))) ?_; refine rl_q rfl rfl rfl (yac (v := (.int .i64 0)) rfl) ?_; refine yaa ?_; refine yam ?_; obtain ⟨I2, ⟨m0, h0⟩, hr⟩ := h; refine yaC (fun m E ds w' => ∃ v : Int, I2 m v ∧ ds = [] ∧ E 0 = (Value.slice As ls cs) ∧ E 1 = f ∧ E 7 = (Value.int .i64 ((s.length : Nat) : Int)) ∧ E 8 = (Value.int .i64 v) ∧ Sep w no O w' (rl [Res.ro (FP.sl (cL cI) As ls cs s), Res.ro (FP.st fun w' => ∃ (fid : Nat) (us : Array Value), f = Value.func (.func fid) #[] us ∧ Enters Try.prog fid ∧ ∀ (x0 : List Int) (Ax0 : Option Addr) (lx0 : Nat) (cx0 : Nat) (R : Bool → Prop), Ff x0 R → (FP.sl cI Ax0 lx0 cx0 x0).P no w' → Calls Try.prog fid (#[(Value.slice Ax0 lx0 cx0)] ++ us) w' fun e w'' => ∃ r0 : Bool, e = .returned (Value.bool (r0)) ∧ Sep w' no no w'' (rl []) ∧ R r0)])) m0 ⟨_, h0, rfl, rfl, rfl, rfl, rfl, (hS.sel [0, 1] (by decide))⟩ ?_; clear h0 hS; rintro m2 E ds w2 ⟨v, h, rfl, hE0, hE1, hE7, hE8, hS⟩ again; replace h := hr m2 v h; clear hr; refine yae ?_; refine ybg ybn ?_; refine rl_q rfl rfl rfl (yaP hE8 hE7) ?_; refine yaa ?_; refine yae ?_; by_cases hp : v < ((s.length : Nat) : Int)
  · replace h := h.1 hp; refine zc hp (yai (yae (yam (zs (zq (yac hE8) (zq (za (ii v)) (yaa (zs (zq (yac hE1) (zq (yac hE0) (zq (zm (ii v)) ?_))))))))))); obtain ⟨hx, h⟩ := h; refine zq (zi underlying97 ybb (yaM (hS.rdr 0 rfl) hx)) ?_; obtain ⟨A, l, c, hc, hq⟩ := hS.el 0 rfl hx 2 3 rfl rfl (by decide); replace hS := hq; clear hq; refine zq (yag (v := (.slice A l c)) rfl underlying26 rfl (hS.clr 3 rfl)) ?_; obtain ⟨fid, us, hf, he, hcl⟩ := hS.ro 1 rfl _ (Keeps.refl _ _); replace h := hcl _ _ _ _ _ h (hS.rdr 2 rfl); clear hcl; refine zn (yhs (hf) (am1 rfl) he (h.mono ?_)); clear hf he; rintro _ w3 ⟨r, rfl, hC, h⟩; replace hS := hS.pur hC.pure; clear hC; refine ⟨_, rfl, ?_⟩; refine zb (yaa ?_); by_cases hp2 : r = true
    · replace h := h.1 hp2; exact yau (congrArg Value.bool hp2) (zs (zq (zm (ii v)) (zq (za (ii v)) (yaa (yak rfl rfl ⟨_, rfl, (hS.sel [] (by decide)), h⟩)))))
    · replace h := h.2 hp2; refine yaz (congrArg Value.bool (Bool.eq_false_iff.2 hp2)) (yai (yal (zr ?_))); obtain ⟨hi, h⟩ := h; refine zq (yaG hE8 rfl hi) (zq (zm (ii (v + 1))) (yaa ?_)); obtain ⟨mq, hlt, h⟩ := h; exact again mq _ _ _ ⟨_, h, rfl, hE0, hE1, hE7, rfl, (hS.sel [0, 1] (by decide))⟩ hlt
  · replace h := h.2 hp; exact zd hp (yaA rfl (zs (zq (za (ii (-1))) (yaa (yak rfl rfl ⟨_, rfl, (hS.sel [] (by decide)), h⟩)))))
def yes (s : List (List Int)) (Ff : (List Int) → (Bool → Prop) → Prop) (R : Bool → Prop) : Prop :=
yhV s Ff (fun r =>
R (decide (0 ≤ r)))
theorem yh6 {O : Nat → Prop} {w : World} {s : List (List Int)} {Ff : (List Int) → (Bool → Prop) → Prop} {As : Option Addr} {ls : Nat} {cs : Nat} {f : Value} {R : Bool → Prop} (h : yes s Ff R) (hO : ∀ k, O k → k < w.heap.size) (hA0 : (FP.sl (cL cI) As ls cs s).P O w) (hA1 : (FP.st fun w' => ∃ (fid : Nat) (us : Array Value), f = Value.func (.func fid) #[] us ∧ Enters Try.prog fid ∧ ∀ (x0 : List Int) (Ax0 : Option Addr) (lx0 : Nat) (cx0 : Nat) (R : Bool → Prop), Ff x0 R → (FP.sl cI Ax0 lx0 cx0 x0).P no w' → Calls Try.prog fid (#[(Value.slice Ax0 lx0 cx0)] ++ us) w' fun e w'' => ∃ r0 : Bool, e = .returned (Value.bool (r0)) ∧ Sep w' no no w'' (rl []) ∧ R r0).P O w) :
    Calls Try.prog 52 #[(.slice As ls cs), f] w fun e w' => ∃ r2, e = .returned (.bool (r2)) ∧ Sep w no O w' (rl []) ∧ R r2 := by
  unfold yes at h; have hS : Sep w no O w (rl [Res.ro (FP.sl (cL cI) As ls cs s), Res.ro (FP.st fun w' => ∃ (fid : Nat) (us : Array Value), f = Value.func (.func fid) #[] us ∧ Enters Try.prog fid ∧ ∀ (x0 : List Int) (Ax0 : Option Addr) (lx0 : Nat) (cx0 : Nat) (R : Bool → Prop), Ff x0 R → (FP.sl cI Ax0 lx0 cx0 x0).P no w' → Calls Try.prog fid (#[(Value.slice Ax0 lx0 cx0)] ++ us) w' fun e w'' => ∃ r0 : Bool, e = .returned (Value.bool (r0)) ∧ Sep w' no no w'' (rl []) ∧ R r0)]) := Sep.startl hO [(FP.sl (cL cI) As ls cs s), (FP.st fun w' => ∃ (fid : Nat) (us : Array Value), f = Value.func (.func fid) #[] us ∧ Enters Try.prog fid ∧ ∀ (x0 : List Int) (Ax0 : Option Addr) (lx0 : Nat) (cx0 : Nat) (R : Bool → Prop), Ff x0 R → (FP.sl cI Ax0 lx0 cx0 x0).P no w' → Calls Try.prog fid (#[(Value.slice Ax0 lx0 cx0)] ++ us) w' fun e w'' => ∃ r0 : Bool, e = .returned (Value.bool (r0)) ∧ Sep w' no no w'' (rl []) ∧ R r0)] ⟨hA0, hA1, trivial⟩; refine yap (l := [(Value.slice As ls cs), f]) func52 rfl ntmps52 (Nat.le_of_ble_eq_true rfl) ?_; refine yae ?_; refine ybg ybn ?_; refine rl_q rfl rfl rfl (yjx (v := (.bool (false))) rfl) ?_; refine yaa ?_; refine yae ?_; refine ybg ybn ?_; refine rl_q rfl rfl rfl (yac (v := (.slice As ls cs)) rfl) ?_; refine rl_q rfl rfl rfl (yac (v := f) rfl) ?_; refine rl_n rfl rfl rfl rfl (yan rfl (am2 rfl rfl) enter_93 ((yic h (yaK _) (hS.rdr 0 rfl) (FP.sub _ (hS.ro 1 rfl) (fun _ _ h => h.elim) : FP.P _ no _)).mono ?_)); rintro _ w2 ⟨r, rfl, hC, h⟩; replace hS := hS.pur hC.pure; clear hC; refine ⟨_, rfl, ?_⟩; refine ⟨Stb.none _, ?_⟩; refine rl_q rfl rfl rfl (v_geq rfl rfl) ?_; refine rl_q rfl rfl rfl (yjx (v := (.bool (decide (0 ≤ r)))) rfl) ?_; refine yaa ?_; exact yak rfl rfl ⟨_, rfl, (hS.sel [] (by decide)), h⟩
def ydb (l : List (List Int)) (R : Int → Prop) : Prop :=
(∃ I2 : Nat → Int → Prop, (∃ m0, I2 m0 0) ∧ ∀ m2 v, I2 m2 v → 
((v < ((l.length : Nat) : Int) →
((0 ≤ v ∧ v < ((l.length : Nat) : Int)) ∧
ybO (gx l v.toNat) (((gx l v.toNat).length : Nat) : Int) (fun r =>
((r = 0 →
(In64 (v + 1) ∧
∃ m3, m3 < m2 ∧ I2 m3 (v + 1))) ∧
(¬ (r = 0) →
R r))))) ∧
(¬ (v < ((l.length : Nat) : Int)) →
(∃ I3 : Nat → Int → Prop, (∃ m0, I3 m0 0) ∧ ∀ m4 v2, I3 m4 v2 → 
((v2 < ((l.length : Nat) : Int) →
((0 ≤ v2 ∧ v2 < ((l.length : Nat) : Int)) ∧
((0 ≤ (0 : Int) ∧ (0 : Int) < ((l.length : Nat) : Int)) ∧
(((((gx l v2.toNat).length : Nat) : Int) = (((gx l (0 : Int).toNat).length : Nat) : Int) →
(In64 (v2 + 1) ∧
∃ m5, m5 < m4 ∧ I3 m5 (v2 + 1))) ∧
(¬ ((((gx l v2.toNat).length : Nat) : Int) = (((gx l (0 : Int).toNat).length : Nat) : Int)) →
R 8))))) ∧
(¬ (v2 < ((l.length : Nat) : Int)) →
R 0))))))
theorem yiS {O : Nat → Prop} {w : World} {l Al ll cl} {R : Int → Prop} (h : ydb l R) (hO : ∀ k, O k → k < w.heap.size) (hA0 : (FP.sl (cL cI) Al ll cl l).P O w) :
    Calls Try.prog 94 #[(.slice Al ll cl)] w fun e w' => ∃ r2, e = .returned (ii r2) ∧ Sep w no O w' (rl []) ∧ R r2 := by
  unfold ydb at h; have hS : Sep w no O w (rl [Res.ro (FP.sl (cL cI) Al ll cl l)]) := Sep.startl hO [(FP.sl (cL cI) Al ll cl l)] ⟨hA0, trivial⟩; refine yap (l := [(.slice Al ll cl)]) func94 rfl ntmps94 (Nat.le_of_ble_eq_true rfl) (zs (zq (za (ii 0)) (yaa (yae (zs (zq (zm (.slice Al ll cl)) (zq (yaZ (n := l.length) rfl underlying97 (yaS (hS.rdr 0 rfl))) (zq (zm (ii 0)) (yaa (yam ?_)))))))))); obtain ⟨I2, ⟨m0, h0⟩, hr⟩ := h; refine yaC (fun m E ds w' => ∃ v, I2 m v ∧ ds = [] ∧ E 0 = (Value.slice Al ll cl) ∧ E 8 = (Value.slice Al ll cl) ∧ E 9 = (ii ((l.length : Nat) : Int)) ∧ E 10 = (ii v) ∧ Sep w no O w' (rl [Res.ro (FP.sl (cL cI) Al ll cl l)])) m0 ⟨_, h0, rfl, rfl, rfl, rfl, rfl, (hS.sel [0] (by decide))⟩ ?_; clear h0 hS; rintro m2 E ds w2 ⟨v, h, rfl, hE0, hE8, hE9, hE10, hS⟩ again; replace h := hr m2 v h; clear hr; refine zs (zq (yaP hE10 hE9) (yaa (yae ?_))); by_cases hp : v < ((l.length : Nat) : Int)
  · replace h := h.1 hp; refine zc hp (yai (yae (yam (zs ?_)))); obtain ⟨hx, h⟩ := h; refine zq (yao hE8 hE10 underlying97 ybb (yaM (hS.rdr 0 rfl) hx)) ?_; obtain ⟨A, l2, c, hc, hq⟩ := hS.el 0 rfl hx 1 2 rfl rfl (by decide); replace hS := hq; clear hq; refine zq (yag (v := (.slice A l2 c)) rfl underlying26 rfl (hS.clr 2 rfl)) (zq (za (.slice A l2 c)) (yaa (zs (zq (zm (.slice A l2 c)) (zq (zm (.slice A l2 c)) (zq (yaZ (n := (gx l v.toNat).length) rfl underlying26 (yaS (hS.rdr 1 rfl))) (zn (yan rfl (am2 rfl rfl) yfY ((ydS h (yaK _) (hS.rdr 1 rfl)).mono ?_))))))))); rintro _ w3 ⟨r, rfl, hC, h⟩; replace hS := hS.pur hC.pure; clear hC; refine ⟨_, rfl, ?_⟩; refine zb (zq (za (ii r)) (yaa (zs (zq (zm (ii r)) (zq zN (yaa ?_)))))); by_cases hp2 : r = 0
    · replace h := h.1 hp2; refine ze hp2 (yai (yal (zr ?_))); obtain ⟨hi, h⟩ := h; refine zq (yaG hE10 rfl hi) (zq (zm (ii (v + 1))) (yaa ?_)); obtain ⟨mq, hlt, h⟩ := h; exact again mq _ _ _ ⟨_, h, rfl, hE0, hE8, hE9, rfl, (hS.sel [0] (by decide))⟩ hlt
    · replace h := h.2 hp2; exact zf hp2 (zs (zq (zm (ii r)) (zq (za (ii r)) (yaa (yak rfl rfl ⟨_, rfl, (hS.sel [] (by decide)), h⟩)))))
  · replace h := h.2 hp; refine zd hp (yaA rfl (yae (zs (zq (yac hE0) (zq (yaZ (n := l.length) rfl underlying97 (yaS (hS.rdr 0 rfl))) (zq (zm (ii 0)) (yaa (yam ?_)))))))); obtain ⟨I3, ⟨m0, h0⟩, hr⟩ := h; refine yaC (fun m E ds w' => ∃ v2, I3 m v2 ∧ ds = [] ∧ E 0 = (Value.slice Al ll cl) ∧ E 22 = (Value.slice Al ll cl) ∧ E 23 = (ii ((l.length : Nat) : Int)) ∧ E 24 = (ii v2) ∧ Sep w no O w' (rl [Res.ro (FP.sl (cL cI) Al ll cl l)])) m0 ⟨_, h0, rfl, hE0, rfl, rfl, rfl, (hS.sel [0] (by decide))⟩ ?_; clear h0 hS; rintro m4 E ds w4 ⟨v2, h, rfl, hE0, hE22, hE23, hE24, hS⟩ again2; replace h := hr m4 v2 h; clear hr; refine zs (zq (yaP hE24 hE23) (yaa (yae ?_))); by_cases hp3 : v2 < ((l.length : Nat) : Int)
    · replace h := h.1 hp3; refine zc hp3 (yai (yae (yam (zs ?_)))); obtain ⟨hx2, h⟩ := h; refine zq (yao hE22 hE24 underlying97 ybb (yaM (hS.rdr 0 rfl) hx2)) ?_; obtain ⟨A2, l3, c2, hc2, hq⟩ := hS.el 0 rfl hx2 1 2 rfl rfl (by decide); replace hS := hq; clear hq; refine zq (yag (v := (.slice A2 l3 c2)) rfl underlying26 rfl (hS.clr 2 rfl)) (zq (za (.slice A2 l3 c2)) (yaa (zs (zq (zm (.slice A2 l3 c2)) (zq (yaZ (n := (gx l v2.toNat).length) rfl underlying26 (yaS (hS.rdr 1 rfl))) (zq (yac hE0) ?_)))))); obtain ⟨hx3, h⟩ := h; refine zq (zi underlying97 ybb (yaM (hS.rdr 0 rfl) hx3)) ?_; obtain ⟨A3, l4, c3, hc3, hq⟩ := hS.el 0 rfl hx3 3 4 rfl rfl (by decide); replace hS := hq; clear hq; refine zq (yag (v := (.slice A3 l4 c3)) rfl underlying26 rfl (hS.clr 4 rfl)) (zq (yaZ (n := (gx l (0 : Int).toNat).length) rfl underlying26 (yaS (hS.rdr 3 rfl))) (zq zN (yaa ?_))); by_cases hp4 : (((gx l v2.toNat).length : Nat) : Int) = (((gx l (0 : Int).toNat).length : Nat) : Int)
      · replace h := h.1 hp4; refine ze hp4 (yai (yal (zr ?_))); obtain ⟨hi2, h⟩ := h; refine zq (yaG hE24 rfl hi2) (zq (zm (ii (v2 + 1))) (yaa ?_)); obtain ⟨mq, hlt, h⟩ := h; exact again2 mq _ _ _ ⟨_, h, rfl, hE0, hE22, hE23, rfl, (hS.sel [0] (by decide))⟩ hlt
      · replace h := h.2 hp4; exact zf hp4 (zs (zq (za (ii 8)) (yaa (yak rfl rfl ⟨_, rfl, (hS.sel [] (by decide)), h⟩))))
    · replace h := h.2 hp3; exact zd hp3 (yaA rfl (zs (zq (za (ii 0)) (yaa (yak rfl rfl ⟨_, rfl, (hS.sel [] (by decide)), h⟩)))))
def ybx (d : List Int) (R : Int → Int → Prop) : Prop :=
ydb ([d]) (fun r =>
((r = 0 →
(∃ I2 : Nat → Int → Int → Prop, (∃ m0, I2 m0 0 0) ∧ ∀ m2 sum v, I2 m2 sum v → 
((v < ((d.length : Nat) : Int) →
((0 ≤ v ∧ v < ((d.length : Nat) : Int)) ∧
(In64 (sum + (gi d v.toNat)) ∧
(In64 (v + 1) ∧
∃ m3, m3 < m2 ∧ I2 m3 (sum + (gi d v.toNat)) (v + 1))))) ∧
(¬ (v < ((d.length : Nat) : Int)) →
R sum 0)))) ∧
(¬ (r = 0) →
R 0 r)))
theorem ydo {O : Nat → Prop} {w : World} {d Ad ld cd} {R : Int → Int → Prop} (h : ybx d R) (hO : ∀ k, O k → k < w.heap.size) (hA0 : (FP.sl cI Ad ld cd d).P O w) :
    Calls Try.prog 87 #[(.slice Ad ld cd)] w fun e w' => ∃ r2 r3, e = .returned (.tuple #[(ii r2), (ii r3)]) ∧ Sep w no O w' (rl []) ∧ R r2 r3 := by
  unfold ybx at h; have hS : Sep w no O w (rl [Res.ro (FP.sl cI Ad ld cd d)]) := Sep.startl hO [(FP.sl cI Ad ld cd d)] ⟨hA0, trivial⟩; refine yap (l := [(.slice Ad ld cd)]) func87 rfl ntmps87 (Nat.le_of_ble_eq_true rfl) (zs (zq (za (ii 0)) (zq (za (ii 0)) (yaa (yae (zs (zq (zm (.slice Ad ld cd)) (zn (ya8 (l := [(0, (.slice Ad ld cd))]) (cells := [(.slice Ad ld cd)]) (bp1 rfl) underlying97 ybb rfl rfl ?_))))))))); intro g w2 hN; replace hS := hS.lit (n := 1) (c := (cL cI)) 1 rfl hN ([d] : List (List Int)) rfl (by decide) ⟨[(.slice Ad ld cd)], _, rfl, (ro_R (hS.ro 0 rfl)), rfl⟩; clear hN; refine zb (zn (yan rfl (am1 rfl) enter_94 ((yiS h (yaK _) (hS.rdo 1 rfl)).mono ?_))); rintro _ w3 ⟨r, rfl, hC, h⟩; replace hS := hS.pur hC.pure; clear hC; refine ⟨_, rfl, ?_⟩; refine zb (zq (za (ii r)) (yaa (zs (zq (zm (ii r)) (zq zN (yaa ?_)))))); by_cases hp : r = 0
  · replace h := h.1 hp; refine ze hp (yai (zs (zq (za (ii 0)) (yaa (yae (zs (zq (zm (.slice Ad ld cd)) (zq (yaZ (n := d.length) rfl underlying26 (yaS (hS.rdr 0 rfl))) (zq (zm (ii 0)) (yaa (yam ?_))))))))))); obtain ⟨I2, ⟨m0, h0⟩, hr⟩ := h; refine yaC (fun m E ds w' => ∃ sum v, I2 m sum v ∧ ds = [] ∧ E 5 = (ii sum) ∧ E 14 = (Value.slice Ad ld cd) ∧ E 15 = (ii ((d.length : Nat) : Int)) ∧ E 16 = (ii v) ∧ Sep w no O w' (rl [Res.ro (FP.sl cI Ad ld cd d)])) m0 ⟨_, _, h0, rfl, rfl, rfl, rfl, rfl, (hS.sel [0] (by decide))⟩ ?_; clear h0 hS; rintro m2 E ds w4 ⟨sum, v, h, rfl, hE5, hE14, hE15, hE16, hS⟩ again; replace h := hr m2 sum v h; clear hr; refine zs (zq (yaP hE16 hE15) (yaa (yae ?_))); by_cases hp2 : v < ((d.length : Nat) : Int)
    · replace h := h.1 hp2; refine zc hp2 (yai (yae (yam (zs ?_)))); obtain ⟨hx, h⟩ := h; refine zq (yao hE14 hE16 underlying26 yah (yaM (hS.rdr 0 rfl) hx)) (zq (yag (v := (ii (gi d v.toNat))) rfl underlying3 rfl (rd_1 (hS.rdr 0 rfl) hx (fun q => yaH q) rfl)) ?_); refine zq (za (ii (gi d v.toNat))) (yaa (zr (zq (yac hE5) (zq (zm (ii (gi d v.toNat))) ?_)))); obtain ⟨hi, h⟩ := h; refine zq (zA hi) (zq (za (ii (sum + (gi d v.toNat)))) (yaa (yal (zr ?_)))); obtain ⟨hi2, h⟩ := h; refine zq (yaG hE16 rfl hi2) (zq (zm (ii (v + 1))) (yaa ?_)); obtain ⟨mq, hlt, h⟩ := h; exact again mq _ _ _ ⟨_, _, h, rfl, rfl, hE14, hE15, rfl, (hS.sel [0] (by decide))⟩ hlt
    · replace h := h.2 hp2; exact zd hp2 (yaA rfl (zs (zq (yac hE5) (zq (za (ii sum)) (zq (za (ii 0)) (yaa (ya2 rfl rfl rfl ⟨_, _, rfl, (hS.sel [] (by decide)), h⟩)))))))
  · replace h := h.2 hp; exact zf hp (zs (zq (zm (ii r)) (zq (za (ii 0)) (zq (za (ii r)) (yaa (ya2 rfl rfl rfl ⟨_, _, rfl, (hS.sel [] (by decide)), h⟩))))))
def yih (g : Int) (g2 : List E3) (R : Bool → Prop) : Prop :=
ydn g g2 5 7 (fun r =>
R r)
theorem yiB {O : Nat → Prop} {w : World} {g g2 Ag lg cg} {R : Bool → Prop} (h : yih g g2 R) (hO : ∀ k, O k → k < w.heap.size) (hA0 : (FP.sl c3 Ag lg cg g2).P O w) :
    Calls Try.prog 36 #[(.agg #[(ii g), (.slice Ag lg cg)])] w fun e w' => ∃ r2, e = .returned (.bool (r2)) ∧ Sep w no O w' (rl []) ∧ R r2 := by
  unfold yih at h; have hS : Sep w no O w (rl [Res.ro (FP.sl c3 Ag lg cg g2)]) := Sep.startl hO [(FP.sl c3 Ag lg cg g2)] ⟨hA0, trivial⟩; refine yap (l := [(.agg #[(ii g), (.slice Ag lg cg)])]) func36 rfl ntmps36 (Nat.le_of_ble_eq_true rfl) (zs (zn (ybq (v := (.agg #[(ii g), (.slice Ag lg cg)])) rfl ?_))); intro g3 w2 hN; replace hS : Sep w no O w2 (stl _ 1 (Res.box 24 g3 [(ii g), (.slice Ag lg cg)])) := hS.new 1 rfl hN; clear hN; refine zb (zq (za (.bool (false))) (yaa (zs (zq (yas (vs := [(ii g), (.slice Ag lg cg)]) rfl underlying24 rfl yaq ⟨Row.cell (hS.bx 1 rfl) (i := 0) rfl, Row.cell (hS.bx 1 rfl) (i := 1) rfl, trivial⟩) (zn (yan rfl (am3 rfl rfl rfl) enter_76 ((pok_r08_small h (yaK _) (hS.rdr 0 rfl)).mono ?_))))))); rintro _ w3 ⟨r, rfl, hC, h⟩; replace hS := hS.pur hC.pure; clear hC; refine ⟨_, rfl, ?_⟩; exact zb (zq (za (.bool (r))) (yaa (yak rfl rfl ⟨_, rfl, (hS.sel [] (by decide)), h⟩)))
end Go.Proofs.Ytmeoemmemjipdaa
