/- Texts laid together: Pa, Pt, Pd, SpA, SpB, SpD, Pb, SpC, SpT, SpS, L34. -/
import Derived.Test.YtmeoemmemjipdaaGreatK4
/- Pure forms of functions, made by program (pf.py), each with the proof that the code does so. -/
namespace Go.Proofs.YtmeoemmemjipdaaGreat
open Go Go.RowKit Go.Shelf Go.Proofs.Tryz
set_option linter.unusedVariables false
set_option maxRecDepth 100000
set_option maxHeartbeats 1000000
def yfB (k : Int) (R : Bool → Prop) : Prop :=
(((-1048576) ≤ k →
R (decide (k ≤ 1048576))) ∧
(¬ ((-1048576) ≤ k) →
R false))
theorem pok_r17_In {O : Nat → Prop} {w : World} {k} {R : Bool → Prop} (h : yfB k R) (hO : ∀ k, O k → k < w.heap.size) :
    Calls Tryz.prog 57 #[(ii k)] w fun e w' => ∃ r, e = .returned (.bool (r)) ∧ Sep w no O w' (rl []) ∧ R r := by
  unfold yfB at h; have hS : Sep w no O w (rl []) := Sep.start w hO; refine yar (l := [(ii k)]) func57 rfl ntmps57 (Nat.le_of_ble_eq_true rfl) (zs (zq (za (.bool (false))) (yaa (zs (zq (zm (ii k)) (zq (v_geq rfl rfl) (zq (zm (.bool (decide ((-1048576) ≤ k)))) ?_))))))); by_cases hp : (-1048576) ≤ k
  · replace h := h.1 hp; exact rl_q (yae rfl (yaj rfl (congrArg Value.bool (decide_eq_true hp)))) rfl rfl (zm (ii k)) (rl_q (yae rfl (yaj rfl (congrArg Value.bool (decide_eq_true hp)))) rfl rfl (v_leq rfl rfl) (zq (yaB (v := (.bool (decide (k ≤ 1048576)))) (congrArg Value.bool (decide_eq_true hp)) rfl) (zq (za (.bool (decide (k ≤ 1048576)))) (yaa (yal rfl rfl ⟨_, rfl, (hS.sel [] (by decide)), h⟩)))))
  · replace h := h.2 hp; exact rl_p (yad rfl (yaj rfl (congrArg Value.bool (decide_eq_false hp))) rfl) rfl (rl_p (yad rfl (yaj rfl (congrArg Value.bool (decide_eq_false hp))) rfl) rfl (zq (yaz (v := (.bool (false))) (congrArg Value.bool (decide_eq_false hp)) rfl) (zq (za (.bool (false))) (yaa (yal rfl rfl ⟨_, rfl, (hS.sel [] (by decide)), h⟩)))))
def ycP (d : List Int) (n : Int) (R : Int → Prop) : Prop :=
(∃ J2 : Prop, (J2 → ((((d.length : Nat) : Int) = n →
(∃ I2 : Nat → Int → Prop, (∃ m0, I2 m0 0) ∧ ∀ m2 v, I2 m2 v → 
((v < n →
((0 ≤ v ∧ v < ((d.length : Nat) : Int)) ∧
yfB (gi d v.toNat) (fun r =>
((r = true →
(In64 (v + 1) ∧
∃ m3, m3 < m2 ∧ I2 m3 (v + 1))) ∧
(¬ (r = true) →
R 2))))) ∧
(¬ (v < n) →
R 0)))) ∧
(¬ (((d.length : Nat) : Int) = n) →
R 8))) ∧
((n < 1 →
R 2) ∧
(¬ (n < 1) →
((12 < n →
R 2) ∧
(¬ (12 < n) →
J2)))))
theorem ygX {O : Nat → Prop} {w : World} {d n Ad ld cd} {R : Int → Prop} (h : ycP d n R) (hO : ∀ k, O k → k < w.heap.size) (hA0 : (FP.sl cI Ad ld cd d).P O w) :
    Calls Tryz.prog 20 #[(.slice Ad ld cd), (ii n)] w fun e w' => ∃ r2, e = .returned (ii r2) ∧ Sep w no O w' (rl []) ∧ R r2 := by
  unfold ycP at h; have hS : Sep w no O w (rl [Res.ro (FP.sl cI Ad ld cd d)]) := Sep.startl hO [(FP.sl cI Ad ld cd d)] ⟨hA0, trivial⟩; refine yar (l := [(.slice Ad ld cd), (ii n)]) func20 rfl ntmps20 (Nat.le_of_ble_eq_true rfl) (zs (zq (za (ii 0)) (yaa (yac (yac ?_))))); obtain ⟨J2, hJ, h⟩ := h; refine ydO (fun E ds w' => J2 ∧ ds = [] ∧ E 0 = (Value.slice Ad ld cd) ∧ E 1 = (ii n) ∧ Sep w no O w' (rl [Res.ro (FP.sl cI Ad ld cd d)])) ?_ ?_
  · clear h hS; rintro E ds w2 ⟨h, rfl, hE0, hE1, hS⟩; replace h := hJ h; refine yac (zs (zq (yab hE0) (zq (yaO (n := d.length) rfl underlying26 (yaL (hS.rdr 0 rfl))) (zq (yab hE1) (zq zN (yaa ?_)))))); by_cases hp : ((d.length : Nat) : Int) = n
    · replace h := h.1 hp; refine ze hp (yaf (yac (zs (zq (za (ii 0)) (yaa (yak ?_)))))); obtain ⟨I2, ⟨m0, h0⟩, hr⟩ := h; refine yaw (fun m E ds w' => ∃ v, I2 m v ∧ ds = [] ∧ E 0 = (Value.slice Ad ld cd) ∧ E 1 = (ii n) ∧ E 5 = (ii v) ∧ Sep w no O w' (rl [Res.ro (FP.sl cI Ad ld cd d)])) m0 ⟨_, h0, rfl, hE0, hE1, rfl, (hS.sel [0] (by decide))⟩ ?_; clear h0 hS; rintro m2 E ds w3 ⟨v, h, rfl, hE0, hE1, hE5, hS⟩ again; replace h := hr m2 v h; clear hr; refine yac (zs (zq (yab hE5) (zq (yab hE1) (zq zL (yaa ?_))))); by_cases hp2 : v < n
      · replace h := h.1 hp2; refine zc hp2 (yaf (yac (yak (zs (zq (yab hE0) (zq (yab hE5) ?_)))))); obtain ⟨hx, h⟩ := h; refine zq (zi underlying26 yag (yaG (hS.rdr 0 rfl) hx)) (zq (yah (v := (ii (gi d v.toNat))) rfl underlying3 rfl (rd_1 (hS.rdr 0 rfl) hx (fun q => yaI q) rfl)) ?_); refine zn (yan rfl (am1 rfl) enter_57 ((pok_r17_In h (yaF _)).mono ?_)); rintro _ w4 ⟨r, rfl, hC, h⟩; replace hS := hS.pur hC.pure; clear hC; refine ⟨_, rfl, ?_⟩; refine zb (zq (ydA rfl) (yaa ?_)); by_cases hp3 : r = true
        · replace h := h.1 hp3; refine yay (congrArg Value.bool (congrArg Bool.not hp3)) (yaf (yai (zr (zq (yab hE5) ?_)))); obtain ⟨hi, h⟩ := h; refine zq (zA hi) (zq (za (ii (v + 1))) (yaa ?_)); obtain ⟨mq, hlt, h⟩ := h; exact again mq _ _ _ ⟨_, h, rfl, hE0, hE1, rfl, (hS.sel [0] (by decide))⟩ hlt
        · replace h := h.2 hp3; exact yau (congrArg Value.bool (congrArg Bool.not (Bool.eq_false_iff.2 hp3))) (zs (zq (za (ii 2)) (yaa (yal rfl rfl ⟨_, rfl, (hS.sel [] (by decide)), h⟩))))
      · replace h := h.2 hp2; exact zd hp2 (yav rfl (zs (zq (za (ii 0)) (yaa (yal rfl rfl ⟨_, rfl, (hS.sel [] (by decide)), h⟩)))))
    · replace h := h.2 hp; exact zf hp (zs (zq (za (ii 8)) (yaa (yal rfl rfl ⟨_, rfl, (hS.sel [] (by decide)), h⟩))))
  clear hJ; intro j; refine zr (zq (zm (ii n)) (zq zL (zq (zm (.bool (decide (n < 1)))) ?_))); by_cases hp4 : n < 1
  · replace h := h.1 hp4; exact rl_p (yad rfl (yaj rfl (congrArg Value.bool (decide_eq_true hp4))) rfl) rfl (rl_p (yad rfl (yaj rfl (congrArg Value.bool (decide_eq_true hp4))) rfl) rfl (zq (yaB (v := (.bool (true))) (congrArg Value.bool (decide_eq_true hp4)) rfl) (yaa (yau rfl (zs (zq (za (ii 2)) (yaa (yal rfl rfl ⟨_, rfl, (hS.sel [] (by decide)), h⟩))))))))
  · replace h := h.2 hp4; refine rl_q (yae rfl (yaj rfl (congrArg Value.bool (decide_eq_false hp4)))) rfl rfl (zm (ii n)) (rl_q (yae rfl (yaj rfl (congrArg Value.bool (decide_eq_false hp4)))) rfl rfl zG (zq (yaz (v := (.bool (decide (12 < n)))) (congrArg Value.bool (decide_eq_false hp4)) rfl) (yaa ?_))); by_cases hp5 : 12 < n
    · replace h := h.1 hp5; exact zc hp5 (zs (zq (za (ii 2)) (yaa (yal rfl rfl ⟨_, rfl, (hS.sel [] (by decide)), h⟩))))
    · replace h := h.2 hp5; exact zd hp5 (yaf (j _ _ _ ⟨h, rfl, rfl, rfl, (hS.sel [0] (by decide))⟩))
def ybs (d : List Int) (R : Int → Prop) : Prop :=
(∃ I2 : Nat → Int → Int → Prop, (∃ m0, I2 m0 0 0) ∧ ∀ m2 n v, I2 m2 n v → 
((v < ((d.length : Nat) : Int) →
((0 ≤ v ∧ v < ((d.length : Nat) : Int)) ∧
(In64 (n + (gi d v.toNat)) ∧
(In64 (v + 1) ∧
∃ m3, m3 < m2 ∧ I2 m3 (n + (gi d v.toNat)) (v + 1))))) ∧
(¬ (v < ((d.length : Nat) : Int)) →
R n)))
theorem yb3 {O : Nat → Prop} {w : World} {d Ad ld cd} {R : Int → Prop} (h : ybs d R) (hO : ∀ k, O k → k < w.heap.size) (hA0 : (FP.sl cI Ad ld cd d).P O w) :
    Calls Tryz.prog 19 #[(.slice Ad ld cd)] w fun e w' => ∃ r, e = .returned (ii r) ∧ Sep w no O w' (rl []) ∧ R r := by
  unfold ybs at h; have hS : Sep w no O w (rl [Res.ro (FP.sl cI Ad ld cd d)]) := Sep.startl hO [(FP.sl cI Ad ld cd d)] ⟨hA0, trivial⟩; refine yar (l := [(.slice Ad ld cd)]) func19 rfl ntmps19 (Nat.le_of_ble_eq_true rfl) (zs (zq (za (ii 0)) (yaa (zs (zq (za (ii 0)) (yaa (yac (zs (zq (za (ii 0)) (yaa (yak ?_))))))))))); obtain ⟨I2, ⟨m0, h0⟩, hr⟩ := h; refine yaw (fun m E ds w' => ∃ n v, I2 m n v ∧ ds = [] ∧ E 0 = (Value.slice Ad ld cd) ∧ E 3 = (ii n) ∧ E 4 = (ii v) ∧ Sep w no O w' (rl [Res.ro (FP.sl cI Ad ld cd d)])) m0 ⟨_, _, h0, rfl, rfl, rfl, rfl, (hS.sel [0] (by decide))⟩ ?_; clear h0 hS; rintro m2 E ds w2 ⟨n, v, h, rfl, hE0, hE3, hE4, hS⟩ again; replace h := hr m2 n v h; clear hr; refine yac (zs (zq (yab hE4) (zq (yab hE0) (zq (yaO (n := d.length) rfl underlying26 (yaL (hS.rdr 0 rfl))) (zq zL (yaa ?_)))))); by_cases hp : v < ((d.length : Nat) : Int)
  · replace h := h.1 hp; refine zc hp (yaf (yac (yak (zr (zq (yab hE3) (zq (yab hE0) (zq (yab hE4) ?_))))))); obtain ⟨hx, h⟩ := h; refine zq (zi underlying26 yag (yaG (hS.rdr 0 rfl) hx)) (zq (yah (v := (ii (gi d v.toNat))) rfl underlying3 rfl (rd_1 (hS.rdr 0 rfl) hx (fun q => yaI q) rfl)) ?_); obtain ⟨hi, h⟩ := h; refine zq (zA hi) (zq (za (ii (n + (gi d v.toNat)))) (yaa (yai (zr (zq (yab hE4) ?_))))); obtain ⟨hi2, h⟩ := h; refine zq (zA hi2) (zq (za (ii (v + 1))) (yaa ?_)); obtain ⟨mq, hlt, h⟩ := h; exact again mq _ _ _ ⟨_, _, h, rfl, hE0, rfl, rfl, (hS.sel [0] (by decide))⟩ hlt
  · replace h := h.2 hp; exact zd hp (yav rfl (zs (zq (yab hE3) (zq (za (ii n)) (yaa (yal rfl rfl ⟨_, rfl, (hS.sel [] (by decide)), h⟩))))))
def ycv (g : Int) (g2 : List E3) (v : Int) (R : Bool → Prop) : Prop :=
((0 ≤ v →
R (decide (v < g))) ∧
(¬ (0 ≤ v) →
R false))
theorem yf9 {O : Nat → Prop} {w : World} {g g2 v Ag lg cg} {R : Bool → Prop} (h : ycv g g2 v R) (hO : ∀ k, O k → k < w.heap.size) (hA0 : (FP.sl c3 Ag lg cg g2).P O w) :
    Calls Tryz.prog 167 #[(.agg #[(ii g), (.slice Ag lg cg)]), (ii v)] w fun e w' => ∃ r, e = .returned (.bool (r)) ∧ Sep w no O w' (rl []) ∧ R r := by
  unfold ycv at h; have hS : Sep w no O w (rl [Res.ro (FP.sl c3 Ag lg cg g2)]) := Sep.startl hO [(FP.sl c3 Ag lg cg g2)] ⟨hA0, trivial⟩; refine yar (l := [(.agg #[(ii g), (.slice Ag lg cg)]), (ii v)]) func167 rfl ntmps167 (Nat.le_of_ble_eq_true rfl) (zs (zn (ybq (v := (.agg #[(ii g), (.slice Ag lg cg)])) rfl ?_))); intro g3 w2 hN; replace hS : Sep w no O w2 (stl _ 1 (Res.box 24 g3 [(ii g), (.slice Ag lg cg)])) := hS.new 1 rfl hN; clear hN; refine zb (zq (za (.bool (false))) (yaa (zs (zq (zm (ii v)) (zq (v_geq rfl rfl) (zq (zm (.bool (decide (0 ≤ v)))) ?_)))))); by_cases hp : 0 ≤ v
  · replace h := h.1 hp; exact rl_q (yae rfl (yaj rfl (congrArg Value.bool (decide_eq_true hp)))) rfl rfl (zm (ii v)) (rl_q (yae rfl (yaj rfl (congrArg Value.bool (decide_eq_true hp)))) rfl rfl (yam rfl underlying24 rfl yag) (rl_q (yae rfl (yaj rfl (congrArg Value.bool (decide_eq_true hp)))) rfl rfl (zl underlying3 (Row.cell (hS.bx 1 rfl) (i := 0) rfl)) (rl_q (yae rfl (yaj rfl (congrArg Value.bool (decide_eq_true hp)))) rfl rfl zL (zq (yaB (v := (.bool (decide (v < g)))) (congrArg Value.bool (decide_eq_true hp)) rfl) (zq (za (.bool (decide (v < g)))) (yaa (yal rfl rfl ⟨_, rfl, (hS.sel [] (by decide)), h⟩)))))))
  · replace h := h.2 hp; exact rl_p (yad rfl (yaj rfl (congrArg Value.bool (decide_eq_false hp))) rfl) rfl (rl_p (yad rfl (yaj rfl (congrArg Value.bool (decide_eq_false hp))) rfl) rfl (rl_p (yad rfl (yaj rfl (congrArg Value.bool (decide_eq_false hp))) rfl) rfl (rl_p (yad rfl (yaj rfl (congrArg Value.bool (decide_eq_false hp))) rfl) rfl (zq (yaz (v := (.bool (false))) (congrArg Value.bool (decide_eq_false hp)) rfl) (zq (za (.bool (false))) (yaa (yal rfl rfl ⟨_, rfl, (hS.sel [] (by decide)), h⟩)))))))
def ya9 (g : Int) (g2 : List E3) (a : Int) (b : Int) (R : Int → Prop) : Prop :=
(∃ I2 : Nat → Int → Prop, (∃ m0, I2 m0 0) ∧ ∀ m2 i, I2 m2 i → 
((i < ((g2.length : Nat) : Int) →
((0 ≤ i ∧ i < ((g2.length : Nat) : Int)) ∧
((((ge g2 i.toNat).1) = (mnF a b) →
((((ge g2 i.toNat).2.1) = (mxF a b) →
R ((ge g2 i.toNat).2.2)) ∧
(¬ (((ge g2 i.toNat).2.1) = (mxF a b)) →
(In64 (i + 1) ∧
∃ m3, m3 < m2 ∧ I2 m3 (i + 1))))) ∧
(¬ (((ge g2 i.toNat).1) = (mnF a b)) →
(In64 (i + 1) ∧
∃ m4, m4 < m2 ∧ I2 m4 (i + 1)))))) ∧
(¬ (i < ((g2.length : Nat) : Int)) →
R 0)))
theorem ybW {O : Nat → Prop} {w : World} {g g2 a b Ag lg cg} {R : Int → Prop} (h : ya9 g g2 a b R) (hO : ∀ k, O k → k < w.heap.size) (hA0 : (FP.sl c3 Ag lg cg g2).P O w) :
    Calls Tryz.prog 163 #[(.agg #[(ii g), (.slice Ag lg cg)]), (ii a), (ii b)] w fun e w' => ∃ r, e = .returned (ii r) ∧ Sep w no O w' (rl []) ∧ R r := by
  unfold ya9 at h; have hS : Sep w no O w (rl [Res.ro (FP.sl c3 Ag lg cg g2)]) := Sep.startl hO [(FP.sl c3 Ag lg cg g2)] ⟨hA0, trivial⟩; refine yar (l := [(.agg #[(ii g), (.slice Ag lg cg)]), (ii a), (ii b)]) func163 rfl ntmps163 (Nat.le_of_ble_eq_true rfl) (zs (zn (ybq (v := (.agg #[(ii g), (.slice Ag lg cg)])) rfl ?_))); intro g3 w2 hN; replace hS : Sep w no O w2 (stl _ 1 (Res.box 24 g3 [(ii g), (.slice Ag lg cg)])) := hS.new 1 rfl hN; clear hN; refine zb (zq (za (ii 0)) (yaa (yac (zs (zq (za (ii 0)) (yaa (yak ?_))))))); obtain ⟨I2, ⟨m0, h0⟩, hr⟩ := h; refine yaw (fun m E ds w' => ∃ i, I2 m i ∧ ds = [] ∧ E 1 = (ii a) ∧ E 2 = (ii b) ∧ E 3 = (Value.pointer (some (⟨g3, 0, none⟩ : Addr))) ∧ E 7 = (ii i) ∧ Sep w no O w' (rl [Res.box 24 g3 [(ii g), (.slice Ag lg cg)], Res.ro (FP.sl c3 Ag lg cg g2)])) m0 ⟨_, h0, rfl, rfl, rfl, rfl, rfl, (hS.sel [1, 0] (by decide))⟩ ?_; clear h0 hS; rintro m2 E ds w3 ⟨i, h, rfl, hE1, hE2, hE3, hE7, hS⟩ again; replace h := hr m2 i h; clear hr; refine yac (zs (zq (yab hE7) (zq (yam hE3 underlying24 rfl ycH) (zq (zl underlying22 (Row.cell (hS.bx 0 rfl) (i := 1) rfl)) (zq (yaO (n := g2.length) rfl underlying22 (yaL (hS.rdr 1 rfl))) (zq zL (yaa ?_))))))); by_cases hp : i < ((g2.length : Nat) : Int)
  · replace h := h.1 hp; refine zc hp (yaf (yac (yak (zs (zq (yam hE3 underlying24 rfl ycH) (zq (zl underlying22 (Row.cell (hS.bx 0 rfl) (i := 1) rfl)) (zq (yab hE7) ?_))))))); obtain ⟨hx, h⟩ := h; refine zq (zi underlying22 yaP (yaG (hS.rdr 1 rfl) hx)) (zq (yas (vs := [(ii ((ge g2 i.toNat).1)), (ii ((ge g2 i.toNat).2.1)), (ii ((ge g2 i.toNat).2.2))]) rfl underlying76 rfl yaP (rd_fs (hS.rdr 1 rfl) hx (fun q => ydj q))) ?_); refine zn (ya7 yaP ?_); intro g4 w4 hN; replace hS : Sep w no O w4 (stl _ 2 (Res.box 76 g4 [(ii 0), (ii 0), (ii 0)])) := hS.new 2 rfl hN; clear hN; refine zb (zo (ybF (b := g4) (o := 0) (cells := #[(ii ((ge g2 i.toNat).1)), (ii ((ge g2 i.toNat).2.1)), (ii ((ge g2 i.toNat).2.2))]) rfl rfl yaP rfl rfl (ybc (hS.bx 2 rfl) (Nat.le_of_ble_eq_true rfl)) ?_)); intro w5 e1; replace hS := hS.bstn 2 rfl 0 [(ii ((ge g2 i.toNat).1)), (ii ((ge g2 i.toNat).2.1)), (ii ((ge g2 i.toNat).2.2))] e1; clear e1; refine zb (yaa (zs (zq (yam rfl underlying76 rfl yag) (zq (zl underlying3 (Row.cell (hS.bx 2 rfl) (i := 0) rfl)) (zq (yab hE1) (zq (yab hE2) (zq (v_min2 rfl rfl) (zq zE (zq (zm (.bool (decide (((ge g2 i.toNat).1) = (mnF a b))))) ?_))))))))); by_cases hp2 : ((ge g2 i.toNat).1) = (mnF a b)
    · replace h := h.1 hp2; refine rl_q (yae rfl (yaj rfl (congrArg Value.bool (decide_eq_true hp2)))) rfl rfl (yam rfl underlying76 rfl yag) (rl_q (yae rfl (yaj rfl (congrArg Value.bool (decide_eq_true hp2)))) rfl rfl (zl underlying3 (Row.cell (hS.bx 2 rfl) (i := 1) rfl)) (rl_q (yae rfl (yaj rfl (congrArg Value.bool (decide_eq_true hp2)))) rfl rfl (yab hE1) (rl_q (yae rfl (yaj rfl (congrArg Value.bool (decide_eq_true hp2)))) rfl rfl (yab hE2) (rl_q (yae rfl (yaj rfl (congrArg Value.bool (decide_eq_true hp2)))) rfl rfl (v_max2 rfl rfl) (rl_q (yae rfl (yaj rfl (congrArg Value.bool (decide_eq_true hp2)))) rfl rfl zE (zq (yaB (v := (.bool (decide (((ge g2 i.toNat).2.1) = (mxF a b))))) (congrArg Value.bool (decide_eq_true hp2)) rfl) (yaa ?_))))))); by_cases hp3 : ((ge g2 i.toNat).2.1) = (mxF a b)
      · replace h := h.1 hp3; exact zc hp3 (zs (zq (yam rfl underlying76 rfl yag) (zq (zl underlying3 (Row.cell (hS.bx 2 rfl) (i := 2) rfl)) (zq (za (ii ((ge g2 i.toNat).2.2))) (yaa (yal rfl rfl ⟨_, rfl, (hS.sel [] (by decide)), h⟩))))))
      · replace h := h.2 hp3; refine zd hp3 (yaf (yai (zr (zq (yab hE7) ?_)))); obtain ⟨hi, h⟩ := h; refine zq (zA hi) (zq (za (ii (i + 1))) (yaa ?_)); obtain ⟨mq, hlt, h⟩ := h; exact again mq _ _ _ ⟨_, h, rfl, hE1, hE2, hE3, rfl, (hS.sel [0, 1] (by decide))⟩ hlt
    · replace h := h.2 hp2; refine rl_p (yad rfl (yaj rfl (congrArg Value.bool (decide_eq_false hp2))) rfl) rfl (rl_p (yad rfl (yaj rfl (congrArg Value.bool (decide_eq_false hp2))) rfl) rfl (rl_p (yad rfl (yaj rfl (congrArg Value.bool (decide_eq_false hp2))) rfl) rfl (rl_p (yad rfl (yaj rfl (congrArg Value.bool (decide_eq_false hp2))) rfl) rfl (rl_p (yad rfl (yaj rfl (congrArg Value.bool (decide_eq_false hp2))) rfl) rfl (rl_p (yad rfl (yaj rfl (congrArg Value.bool (decide_eq_false hp2))) rfl) rfl (zq (yaz (v := (.bool (false))) (congrArg Value.bool (decide_eq_false hp2)) rfl) (yaa (yay rfl (yaf (yai (zr (zq (yab hE7) ?_)))))))))))); obtain ⟨hi2, h⟩ := h; refine zq (zA hi2) (zq (za (ii (i + 1))) (yaa ?_)); obtain ⟨mq, hlt, h⟩ := h; exact again mq _ _ _ ⟨_, h, rfl, hE1, hE2, hE3, rfl, (hS.sel [0, 1] (by decide))⟩ hlt
  · replace h := h.2 hp; exact zd hp (yav rfl (zs (zq (za (ii 0)) (yaa (yal rfl rfl ⟨_, rfl, (hS.sel [] (by decide)), h⟩)))))
def ycj (g : Int) (g2 : List E3) (v : Int) (R : Int → Prop) : Prop :=
(∃ I2 : Nat → Int → Int → Prop, (∃ m0, I2 m0 0 0) ∧ ∀ m2 n u, I2 m2 n u → 
((u < g →
((u = v →
(In64 (u + 1) ∧
∃ m3, m3 < m2 ∧ I2 m3 n (u + 1))) ∧
(¬ (u = v) →
ya9 g g2 u v (fun r =>
(In64 (n + r) ∧
(In64 (u + 1) ∧
∃ m4, m4 < m2 ∧ I2 m4 (n + r) (u + 1))))))) ∧
(¬ (u < g) →
R n)))
theorem yfT {O : Nat → Prop} {w : World} {g g2 v Ag lg cg} {R : Int → Prop} (h : ycj g g2 v R) (hO : ∀ k, O k → k < w.heap.size) (hA0 : (FP.sl c3 Ag lg cg g2).P O w) :
    Calls Tryz.prog 164 #[(.agg #[(ii g), (.slice Ag lg cg)]), (ii v)] w fun e w' => ∃ r2, e = .returned (ii r2) ∧ Sep w no O w' (rl []) ∧ R r2 := by
  unfold ycj at h; have hS : Sep w no O w (rl [Res.ro (FP.sl c3 Ag lg cg g2)]) := Sep.startl hO [(FP.sl c3 Ag lg cg g2)] ⟨hA0, trivial⟩; refine yar (l := [(.agg #[(ii g), (.slice Ag lg cg)]), (ii v)]) func164 rfl ntmps164 (Nat.le_of_ble_eq_true rfl) (zs (zn (ybq (v := (.agg #[(ii g), (.slice Ag lg cg)])) rfl ?_))); intro g3 w2 hN; replace hS : Sep w no O w2 (stl _ 1 (Res.box 24 g3 [(ii g), (.slice Ag lg cg)])) := hS.new 1 rfl hN; clear hN; refine zb (zq (za (ii 0)) (yaa (zs (zq (za (ii 0)) (yaa (yac (zs (zq (za (ii 0)) (yaa (yak ?_)))))))))); obtain ⟨I2, ⟨m0, h0⟩, hr⟩ := h; refine yaw (fun m E ds w' => ∃ n u, I2 m n u ∧ ds = [] ∧ E 1 = (ii v) ∧ E 2 = (Value.pointer (some (⟨g3, 0, none⟩ : Addr))) ∧ E 5 = (ii n) ∧ E 6 = (ii u) ∧ Sep w no O w' (rl [Res.box 24 g3 [(ii g), (.slice Ag lg cg)], Res.ro (FP.sl c3 Ag lg cg g2)])) m0 ⟨_, _, h0, rfl, rfl, rfl, rfl, rfl, (hS.sel [1, 0] (by decide))⟩ ?_; clear h0 hS; rintro m2 E ds w3 ⟨n, u, h, rfl, hE1, hE2, hE5, hE6, hS⟩ again; replace h := hr m2 n u h; clear hr; refine yac (zs (zq (yab hE6) (zq (yam hE2 underlying24 rfl yag) (zq (zl underlying3 (Row.cell (hS.bx 0 rfl) (i := 0) rfl)) (zq zL (yaa ?_)))))); by_cases hp : u < g
  · replace h := h.1 hp; refine zc hp (yaf (yac (yak (zs (zq (yab hE6) (zq (yab hE1) (zq zN (yaa ?_)))))))); by_cases hp2 : u = v
    · replace h := h.1 hp2; refine ze hp2 (yaf (yai (zr (zq (yab hE6) ?_)))); obtain ⟨hi, h⟩ := h; refine zq (zA hi) (zq (za (ii (u + 1))) (yaa ?_)); obtain ⟨mq, hlt, h⟩ := h; exact again mq _ _ _ ⟨_, _, h, rfl, hE1, hE2, hE5, rfl, (hS.sel [0, 1] (by decide))⟩ hlt
    · replace h := h.2 hp2; refine zf hp2 (zr (zq (yab hE5) (zq (yas (vs := [(ii g), (.slice Ag lg cg)]) hE2 underlying24 rfl yaq ⟨Row.cell (hS.bx 0 rfl) (i := 0) rfl, Row.cell (hS.bx 0 rfl) (i := 1) rfl, trivial⟩) (zq (yab hE6) (zq (yab hE1) (zn (yan rfl (am3 rfl rfl rfl) yeN ((ybW h (yaF _) (hS.rdr 1 rfl)).mono ?_)))))))); rintro _ w4 ⟨r, rfl, hC, h⟩; replace hS := hS.pur hC.pure; clear hC; refine ⟨_, rfl, ?_⟩; refine zb ?_; obtain ⟨hi2, h⟩ := h; refine zq (zA hi2) (zq (za (ii (n + r))) (yaa (yai (zr (zq (yab hE6) ?_))))); obtain ⟨hi3, h⟩ := h; refine zq (zA hi3) (zq (za (ii (u + 1))) (yaa ?_)); obtain ⟨mq, hlt, h⟩ := h; exact again mq _ _ _ ⟨_, _, h, rfl, hE1, hE2, rfl, rfl, (hS.sel [0, 1] (by decide))⟩ hlt
  · replace h := h.2 hp; exact zd hp (yav rfl (zs (zq (yab hE5) (zq (za (ii n)) (yaa (yal rfl rfl ⟨_, rfl, (hS.sel [] (by decide)), h⟩))))))
def yd8 (d : Int) (d2 : List E3) (i : Int) (R : Int → Prop) : Prop :=
((0 ≤ i ∧ i < ((d2.length : Nat) : Int)) ∧
(∃ J2 : Prop, (J2 → ((((ge d2 i.toNat).2.1) < ((ge d2 i.toNat).1) →
R 9) ∧
(¬ (((ge d2 i.toNat).2.1) < ((ge d2 i.toNat).1)) →
((0 < i →
(In64 (i - 1) ∧
((0 ≤ (i - 1) ∧ (i - 1) < ((d2.length : Nat) : Int)) ∧
((((ge d2 i.toNat).1) < ((ge d2 (i - 1).toNat).1) →
R 9) ∧
(¬ (((ge d2 i.toNat).1) < ((ge d2 (i - 1).toNat).1)) →
((((ge d2 i.toNat).1) = ((ge d2 (i - 1).toNat).1) →
((((ge d2 i.toNat).2.1) ≤ ((ge d2 (i - 1).toNat).2.1) →
R 9) ∧
(¬ (((ge d2 i.toNat).2.1) ≤ ((ge d2 (i - 1).toNat).2.1)) →
R 0))) ∧
(¬ (((ge d2 i.toNat).1) = ((ge d2 (i - 1).toNat).1)) →
R 0))))))) ∧
(¬ (0 < i) →
R 0))))) ∧
ycv d d2 ((ge d2 i.toNat).1) (fun r =>
((r = true →
ycv d d2 ((ge d2 i.toNat).2.1) (fun r2 =>
((r2 = true →
((((ge d2 i.toNat).2.2) < 1 →
R 2) ∧
(¬ (((ge d2 i.toNat).2.2) < 1) →
((50 < ((ge d2 i.toNat).2.2) →
R 2) ∧
(¬ (50 < ((ge d2 i.toNat).2.2)) →
J2))))) ∧
(¬ (r2 = true) →
R 2)))) ∧
(¬ (r = true) →
R 2)))))
theorem pok_r08_edge {O : Nat → Prop} {w : World} {d d2 i Ad ld cd} {R : Int → Prop} (h : yd8 d d2 i R) (hO : ∀ k, O k → k < w.heap.size) (hA0 : (FP.sl c3 Ad ld cd d2).P O w) :
    Calls Tryz.prog 137 #[(.agg #[(ii d), (.slice Ad ld cd)]), (ii i)] w fun e w' => ∃ r3, e = .returned (ii r3) ∧ Sep w no O w' (rl []) ∧ R r3 := by
  unfold yd8 at h; have hS : Sep w no O w (rl [Res.ro (FP.sl c3 Ad ld cd d2)]) := Sep.startl hO [(FP.sl c3 Ad ld cd d2)] ⟨hA0, trivial⟩; refine yar (l := [(.agg #[(ii d), (.slice Ad ld cd)]), (ii i)]) func137 rfl ntmps137 (Nat.le_of_ble_eq_true rfl) (zs (zn (ybq (v := (.agg #[(ii d), (.slice Ad ld cd)])) rfl ?_))); intro g w2 hN; replace hS : Sep w no O w2 (stl _ 1 (Res.box 24 g [(ii d), (.slice Ad ld cd)])) := hS.new 1 rfl hN; clear hN; refine zb (zq (za (ii 0)) (yaa (zs (zq (yam rfl underlying24 rfl ycH) (zq (zl underlying22 (Row.cell (hS.bx 1 rfl) (i := 1) rfl)) (zq (zm (ii i)) ?_)))))); obtain ⟨hx, h⟩ := h; refine zq (zi underlying22 yaP (yaG (hS.rdr 0 rfl) hx)) (zq (yas (vs := [(ii ((ge d2 i.toNat).1)), (ii ((ge d2 i.toNat).2.1)), (ii ((ge d2 i.toNat).2.2))]) rfl underlying76 rfl yaP (rd_fs (hS.rdr 0 rfl) hx (fun q => ydj q))) ?_); refine zn (ya7 yaP ?_); intro g2 w3 hN; replace hS : Sep w no O w3 (stl _ 2 (Res.box 76 g2 [(ii 0), (ii 0), (ii 0)])) := hS.new 2 rfl hN; clear hN; refine zb (zo (ybF (b := g2) (o := 0) (cells := #[(ii ((ge d2 i.toNat).1)), (ii ((ge d2 i.toNat).2.1)), (ii ((ge d2 i.toNat).2.2))]) rfl rfl yaP rfl rfl (ybc (hS.bx 2 rfl) (Nat.le_of_ble_eq_true rfl)) ?_)); intro w4 e1; replace hS := hS.bstn 2 rfl 0 [(ii ((ge d2 i.toNat).1)), (ii ((ge d2 i.toNat).2.1)), (ii ((ge d2 i.toNat).2.2))] e1; clear e1; refine zb (yaa (yac (yac ?_))); obtain ⟨J2, hJ, h⟩ := h; refine ydO (fun E ds w' => J2 ∧ ds = [] ∧ E 1 = (ii i) ∧ E 2 = (Value.pointer (some (⟨g, 0, none⟩ : Addr))) ∧ E 5 = (Value.pointer (some (⟨g2, 0, none⟩ : Addr))) ∧ Sep w no O w' (rl [Res.box 24 g [(ii d), (.slice Ad ld cd)], Res.ro (FP.sl c3 Ad ld cd d2), Res.box 76 g2 [(ii ((ge d2 i.toNat).1)), (ii ((ge d2 i.toNat).2.1)), (ii ((ge d2 i.toNat).2.2))]])) ?_ ?_
  · clear h hS; rintro E ds w5 ⟨h, rfl, hE1, hE2, hE5, hS⟩; replace h := hJ h; refine yac (zs (zq (yam hE5 underlying76 rfl yag) (zq (zl underlying3 (Row.cell (hS.bx 2 rfl) (i := 0) rfl)) (zq (yam hE5 underlying76 rfl yag) (zq (zl underlying3 (Row.cell (hS.bx 2 rfl) (i := 1) rfl)) (zq zG (yaa ?_))))))); by_cases hp : ((ge d2 i.toNat).2.1) < ((ge d2 i.toNat).1)
    · replace h := h.1 hp; exact zc hp (zs (zq (za (ii 9)) (yaa (yal rfl rfl ⟨_, rfl, (hS.sel [] (by decide)), h⟩))))
    · replace h := h.2 hp; refine zd hp (yaf (yac (zs (zq (yab hE1) (zq zG (yaa ?_)))))); by_cases hp2 : 0 < i
      · replace h := h.1 hp2; refine zc hp2 (zs (zq (yam hE2 underlying24 rfl ycH) (zq (zl underlying22 (Row.cell (hS.bx 0 rfl) (i := 1) rfl)) (zq (yab hE1) ?_)))); obtain ⟨hi, h⟩ := h; refine zq (zS hi) ?_; obtain ⟨hx2, h⟩ := h; refine zq (zi underlying22 yaP (yaG (hS.rdr 1 rfl) hx2)) (zq (yas (vs := [(ii ((ge d2 (i - 1).toNat).1)), (ii ((ge d2 (i - 1).toNat).2.1)), (ii ((ge d2 (i - 1).toNat).2.2))]) rfl underlying76 rfl yaP (rd_fs (hS.rdr 1 rfl) hx2 (fun q => ydj q))) ?_); refine zn (ya7 yaP ?_); intro g3 w6 hN; replace hS : Sep w no O w6 (stl _ 3 (Res.box 76 g3 [(ii 0), (ii 0), (ii 0)])) := hS.new 3 rfl hN; clear hN; refine zb (zo (ybF (b := g3) (o := 0) (cells := #[(ii ((ge d2 (i - 1).toNat).1)), (ii ((ge d2 (i - 1).toNat).2.1)), (ii ((ge d2 (i - 1).toNat).2.2))]) rfl rfl yaP rfl rfl (ybc (hS.bx 3 rfl) (Nat.le_of_ble_eq_true rfl)) ?_)); intro w7 e1; replace hS := hS.bstn 3 rfl 0 [(ii ((ge d2 (i - 1).toNat).1)), (ii ((ge d2 (i - 1).toNat).2.1)), (ii ((ge d2 (i - 1).toNat).2.2))] e1; clear e1; refine zb (yaa (zs (zq (yam hE5 underlying76 rfl yag) (zq (zl underlying3 (Row.cell (hS.bx 2 rfl) (i := 0) rfl)) (zq (yam rfl underlying76 rfl yag) (zq (zl underlying3 (Row.cell (hS.bx 3 rfl) (i := 0) rfl)) (zq zL (zq (zm (.bool (decide (((ge d2 i.toNat).1) < ((ge d2 (i - 1).toNat).1))))) ?_)))))))); by_cases hp3 : ((ge d2 i.toNat).1) < ((ge d2 (i - 1).toNat).1)
        · replace h := h.1 hp3; exact rl_p (yad rfl (yaj rfl (congrArg Value.bool (decide_eq_true hp3))) rfl) rfl (rl_p (yad rfl (yaj rfl (congrArg Value.bool (decide_eq_true hp3))) rfl) rfl (rl_p (yad rfl (yaj rfl (congrArg Value.bool (decide_eq_true hp3))) rfl) rfl (rl_p (yad rfl (yaj rfl (congrArg Value.bool (decide_eq_true hp3))) rfl) rfl (rl_p (yad rfl (yaj rfl (congrArg Value.bool (decide_eq_true hp3))) rfl) rfl (rl_p (yad rfl (yaj rfl (congrArg Value.bool (decide_eq_true hp3))) rfl) rfl (rl_p (ycl rfl rfl) rfl (rl_p (ycl rfl rfl) rfl (rl_p (ycl rfl rfl) rfl (rl_p (ycl rfl rfl) rfl (rl_p (ycl rfl rfl) rfl (rl_p (yad rfl (yaj rfl (congrArg Value.bool (decide_eq_true hp3))) rfl) rfl (zq (yaB (v := (.bool (true))) (congrArg Value.bool (decide_eq_true hp3)) rfl) (yaa (yau rfl (zs (zq (za (ii 9)) (yaa (yal rfl rfl ⟨_, rfl, (hS.sel [] (by decide)), h⟩))))))))))))))))))
        · replace h := h.2 hp3; refine rl_q (yae rfl (yaj rfl (congrArg Value.bool (decide_eq_false hp3)))) rfl rfl (yam hE5 underlying76 rfl yag) (rl_q (yae rfl (yaj rfl (congrArg Value.bool (decide_eq_false hp3)))) rfl rfl (zl underlying3 (Row.cell (hS.bx 2 rfl) (i := 0) rfl)) (rl_q (yae rfl (yaj rfl (congrArg Value.bool (decide_eq_false hp3)))) rfl rfl (yam rfl underlying76 rfl yag) (rl_q (yae rfl (yaj rfl (congrArg Value.bool (decide_eq_false hp3)))) rfl rfl (zl underlying3 (Row.cell (hS.bx 3 rfl) (i := 0) rfl)) (rl_q (yae rfl (yaj rfl (congrArg Value.bool (decide_eq_false hp3)))) rfl rfl zE (rl_q (yae rfl (yaj rfl (congrArg Value.bool (decide_eq_false hp3)))) rfl rfl (zm (.bool (decide (((ge d2 i.toNat).1) = ((ge d2 (i - 1).toNat).1))))) ?_))))); by_cases hp4 : ((ge d2 i.toNat).1) = ((ge d2 (i - 1).toNat).1)
          · replace h := h.1 hp4; refine rl_q (yae rfl (yaj rfl (congrArg Value.bool (decide_eq_true hp4)))) rfl rfl (yam hE5 underlying76 rfl yag) (rl_q (yae rfl (yaj rfl (congrArg Value.bool (decide_eq_true hp4)))) rfl rfl (zl underlying3 (Row.cell (hS.bx 2 rfl) (i := 1) rfl)) (rl_q (yae rfl (yaj rfl (congrArg Value.bool (decide_eq_true hp4)))) rfl rfl (yam rfl underlying76 rfl yag) (rl_q (yae rfl (yaj rfl (congrArg Value.bool (decide_eq_true hp4)))) rfl rfl (zl underlying3 (Row.cell (hS.bx 3 rfl) (i := 1) rfl)) (rl_q (yae rfl (yaj rfl (congrArg Value.bool (decide_eq_true hp4)))) rfl rfl (v_leq rfl rfl) (rl_q (yae rfl (yaj rfl (congrArg Value.bool (decide_eq_false hp3)))) rfl rfl (yaB (v := (.bool (decide (((ge d2 i.toNat).2.1) ≤ ((ge d2 (i - 1).toNat).2.1))))) (congrArg Value.bool (decide_eq_true hp4)) rfl) (zq (yaz (v := (.bool (decide (((ge d2 i.toNat).2.1) ≤ ((ge d2 (i - 1).toNat).2.1))))) (congrArg Value.bool (decide_eq_false hp3)) rfl) (yaa ?_))))))); by_cases hp5 : ((ge d2 i.toNat).2.1) ≤ ((ge d2 (i - 1).toNat).2.1)
            · replace h := h.1 hp5; exact zc hp5 (zs (zq (za (ii 9)) (yaa (yal rfl rfl ⟨_, rfl, (hS.sel [] (by decide)), h⟩))))
            · replace h := h.2 hp5; exact zd hp5 (yaf (zs (zq (za (ii 0)) (yaa (yal rfl rfl ⟨_, rfl, (hS.sel [] (by decide)), h⟩)))))
          · replace h := h.2 hp4; exact rl_p (yad rfl (yaj rfl (congrArg Value.bool (decide_eq_false hp4))) rfl) rfl (rl_p (yad rfl (yaj rfl (congrArg Value.bool (decide_eq_false hp4))) rfl) rfl (rl_p (yad rfl (yaj rfl (congrArg Value.bool (decide_eq_false hp4))) rfl) rfl (rl_p (yad rfl (yaj rfl (congrArg Value.bool (decide_eq_false hp4))) rfl) rfl (rl_p (yad rfl (yaj rfl (congrArg Value.bool (decide_eq_false hp4))) rfl) rfl (rl_q (yae rfl (yaj rfl (congrArg Value.bool (decide_eq_false hp3)))) rfl rfl (yaz (v := (.bool (false))) (congrArg Value.bool (decide_eq_false hp4)) rfl) (zq (yaz (v := (.bool (false))) (congrArg Value.bool (decide_eq_false hp3)) rfl) (yaa (yay rfl (yaf (zs (zq (za (ii 0)) (yaa (yal rfl rfl ⟨_, rfl, (hS.sel [] (by decide)), h⟩)))))))))))))
      · replace h := h.2 hp2; exact zd hp2 (yaf (zs (zq (za (ii 0)) (yaa (yal rfl rfl ⟨_, rfl, (hS.sel [] (by decide)), h⟩)))))
  clear hJ; intro j; refine zr (zq (yas (vs := [(ii d), (.slice Ad ld cd)]) rfl underlying24 rfl yaq ⟨Row.cell (hS.bx 1 rfl) (i := 0) rfl, Row.cell (hS.bx 1 rfl) (i := 1) rfl, trivial⟩) (zq (yam rfl underlying76 rfl yag) (zq (zl underlying3 (Row.cell (hS.bx 2 rfl) (i := 0) rfl)) (zn (yan rfl (am2 rfl rfl) enter_167 ((yf9 h (yaF _) (hS.rdr 0 rfl)).mono ?_)))))); rintro _ w8 ⟨r, rfl, hC, h⟩; replace hS := hS.pur hC.pure; clear hC; refine ⟨_, rfl, ?_⟩; refine zb (zq (ydA rfl) (zq (zm (.bool (!(r)))) ?_)); by_cases hp6 : r = true
  · replace h := h.1 hp6; refine rl_q (yae rfl (yaj rfl (congrArg Value.bool (congrArg Bool.not hp6)))) rfl rfl (yas (vs := [(ii d), (.slice Ad ld cd)]) rfl underlying24 rfl yaq ⟨Row.cell (hS.bx 1 rfl) (i := 0) rfl, Row.cell (hS.bx 1 rfl) (i := 1) rfl, trivial⟩) (rl_q (yae rfl (yaj rfl (congrArg Value.bool (congrArg Bool.not hp6)))) rfl rfl (yam rfl underlying76 rfl yag) (rl_q (yae rfl (yaj rfl (congrArg Value.bool (congrArg Bool.not hp6)))) rfl rfl (zl underlying3 (Row.cell (hS.bx 2 rfl) (i := 1) rfl)) (rl_n (yae rfl (yaj rfl (congrArg Value.bool (congrArg Bool.not hp6)))) rfl rfl rfl (yan rfl (am2 rfl rfl) enter_167 ((yf9 h (yaF _) (hS.rdr 0 rfl)).mono ?_))))); rintro _ w9 ⟨r2, rfl, hC, h⟩; replace hS := hS.pur hC.pure; clear hC; refine ⟨_, rfl, ?_⟩; refine zb (rl_q (yae rfl (yaj rfl (congrArg Value.bool (congrArg Bool.not hp6)))) rfl rfl (ydA rfl) (zq (yaz (v := (.bool (!(r2)))) (congrArg Value.bool (congrArg Bool.not hp6)) rfl) (zq (zm (.bool (!(r2)))) ?_))); by_cases hp7 : r2 = true
    · replace h := h.1 hp7; refine rl_q (yae rfl (yaj rfl (congrArg Value.bool (congrArg Bool.not hp7)))) rfl rfl (yam rfl underlying76 rfl yag) (rl_q (yae rfl (yaj rfl (congrArg Value.bool (congrArg Bool.not hp7)))) rfl rfl (zl underlying3 (Row.cell (hS.bx 2 rfl) (i := 2) rfl)) (rl_q (yae rfl (yaj rfl (congrArg Value.bool (congrArg Bool.not hp7)))) rfl rfl zL (zq (yaz (v := (.bool (decide (((ge d2 i.toNat).2.2) < 1)))) (congrArg Value.bool (congrArg Bool.not hp7)) rfl) (zq (zm (.bool (decide (((ge d2 i.toNat).2.2) < 1)))) ?_)))); by_cases hp8 : ((ge d2 i.toNat).2.2) < 1
      · replace h := h.1 hp8; exact rl_p (yad rfl (yaj rfl (congrArg Value.bool (decide_eq_true hp8))) rfl) rfl (rl_p (yad rfl (yaj rfl (congrArg Value.bool (decide_eq_true hp8))) rfl) rfl (rl_p (yad rfl (yaj rfl (congrArg Value.bool (decide_eq_true hp8))) rfl) rfl (zq (yaB (v := (.bool (true))) (congrArg Value.bool (decide_eq_true hp8)) rfl) (yaa (yau rfl (zs (zq (za (ii 2)) (yaa (yal rfl rfl ⟨_, rfl, (hS.sel [] (by decide)), h⟩)))))))))
      · replace h := h.2 hp8; refine rl_q (yae rfl (yaj rfl (congrArg Value.bool (decide_eq_false hp8)))) rfl rfl (yam rfl underlying76 rfl yag) (rl_q (yae rfl (yaj rfl (congrArg Value.bool (decide_eq_false hp8)))) rfl rfl (zl underlying3 (Row.cell (hS.bx 2 rfl) (i := 2) rfl)) (rl_q (yae rfl (yaj rfl (congrArg Value.bool (decide_eq_false hp8)))) rfl rfl zG (zq (yaz (v := (.bool (decide (50 < ((ge d2 i.toNat).2.2))))) (congrArg Value.bool (decide_eq_false hp8)) rfl) (yaa ?_)))); by_cases hp9 : 50 < ((ge d2 i.toNat).2.2)
        · replace h := h.1 hp9; exact zc hp9 (zs (zq (za (ii 2)) (yaa (yal rfl rfl ⟨_, rfl, (hS.sel [] (by decide)), h⟩))))
        · replace h := h.2 hp9; exact zd hp9 (yaf (j _ _ _ ⟨h, rfl, rfl, rfl, rfl, (hS.sel [1, 0, 2] (by decide))⟩))
    · replace h := h.2 hp7; exact rl_p (yad rfl (yaj rfl (congrArg Value.bool (congrArg Bool.not (Bool.eq_false_iff.2 hp7)))) rfl) rfl (rl_p (yad rfl (yaj rfl (congrArg Value.bool (congrArg Bool.not (Bool.eq_false_iff.2 hp7)))) rfl) rfl (rl_p (yad rfl (yaj rfl (congrArg Value.bool (congrArg Bool.not (Bool.eq_false_iff.2 hp7)))) rfl) rfl (zq (yaB (v := (.bool (true))) (congrArg Value.bool (congrArg Bool.not (Bool.eq_false_iff.2 hp7))) rfl) (zq (zm (.bool (true))) (rl_p (yad rfl (yaj rfl rfl) rfl) rfl (rl_p (yad rfl (yaj rfl rfl) rfl) rfl (rl_p (yad rfl (yaj rfl rfl) rfl) rfl (zq (yaB (v := (.bool (true))) rfl rfl) (yaa (yau rfl (zs (zq (za (ii 2)) (yaa (yal rfl rfl ⟨_, rfl, (hS.sel [] (by decide)), h⟩))))))))))))))
  · replace h := h.2 hp6; exact rl_p (yad rfl (yaj rfl (congrArg Value.bool (congrArg Bool.not (Bool.eq_false_iff.2 hp6)))) rfl) rfl (rl_p (yad rfl (yaj rfl (congrArg Value.bool (congrArg Bool.not (Bool.eq_false_iff.2 hp6)))) rfl) rfl (rl_p (yad rfl (yaj rfl (congrArg Value.bool (congrArg Bool.not (Bool.eq_false_iff.2 hp6)))) rfl) rfl (rl_p (yad rfl (yaj rfl (congrArg Value.bool (congrArg Bool.not (Bool.eq_false_iff.2 hp6)))) rfl) rfl (rl_p (yad rfl (yaj rfl (congrArg Value.bool (congrArg Bool.not (Bool.eq_false_iff.2 hp6)))) rfl) rfl (zq (yaB (v := (.bool (true))) (congrArg Value.bool (congrArg Bool.not (Bool.eq_false_iff.2 hp6))) rfl) (zq (zm (.bool (true))) (rl_p (yad rfl (yaj rfl rfl) rfl) rfl (rl_p (yad rfl (yaj rfl rfl) rfl) rfl (rl_p (yad rfl (yaj rfl rfl) rfl) rfl (zq (yaB (v := (.bool (true))) rfl rfl) (zq (zm (.bool (true))) (rl_p (yad rfl (yaj rfl rfl) rfl) rfl (rl_p (yad rfl (yaj rfl rfl) rfl) rfl (rl_p (yad rfl (yaj rfl rfl) rfl) rfl (zq (yaB (v := (.bool (true))) rfl rfl) (yaa (yau rfl (zs (zq (za (ii 2)) (yaa (yal rfl rfl ⟨_, rfl, (hS.sel [] (by decide)), h⟩)))))))))))))))))))))
def ycR (g : Int) (g2 : List E3) (R : Int → Prop) : Prop :=
(∃ J2 : Prop, (J2 → (∃ I2 : Nat → Int → Prop, (∃ m0, I2 m0 0) ∧ ∀ m2 i, I2 m2 i → 
((i < ((g2.length : Nat) : Int) →
yd8 g g2 i (fun r =>
((r = 0 →
(In64 (i + 1) ∧
∃ m3, m3 < m2 ∧ I2 m3 (i + 1))) ∧
(¬ (r = 0) →
R r)))) ∧
(¬ (i < ((g2.length : Nat) : Int)) →
R 0)))) ∧
((g < 1 →
R 2) ∧
(¬ (g < 1) →
((12 < g →
R 2) ∧
(¬ (12 < g) →
J2)))))
theorem ygB {O : Nat → Prop} {w : World} {g g2 Ag lg cg} {R : Int → Prop} (h : ycR g g2 R) (hO : ∀ k, O k → k < w.heap.size) (hA0 : (FP.sl c3 Ag lg cg g2).P O w) :
    Calls Tryz.prog 93 #[(.agg #[(ii g), (.slice Ag lg cg)])] w fun e w' => ∃ r2, e = .returned (ii r2) ∧ Sep w no O w' (rl []) ∧ R r2 := by
  unfold ycR at h; have hS : Sep w no O w (rl [Res.ro (FP.sl c3 Ag lg cg g2)]) := Sep.startl hO [(FP.sl c3 Ag lg cg g2)] ⟨hA0, trivial⟩; refine yar (l := [(.agg #[(ii g), (.slice Ag lg cg)])]) func93 rfl ntmps93 (Nat.le_of_ble_eq_true rfl) (zs (zn (ybq (v := (.agg #[(ii g), (.slice Ag lg cg)])) rfl ?_))); intro g3 w2 hN; replace hS : Sep w no O w2 (stl _ 1 (Res.box 24 g3 [(ii g), (.slice Ag lg cg)])) := hS.new 1 rfl hN; clear hN; refine zb (zq (za (ii 0)) (yaa (yac (yac ?_)))); obtain ⟨J2, hJ, h⟩ := h; refine ydO (fun E ds w' => J2 ∧ ds = [] ∧ E 1 = (Value.pointer (some (⟨g3, 0, none⟩ : Addr))) ∧ Sep w no O w' (rl [Res.box 24 g3 [(ii g), (.slice Ag lg cg)], Res.ro (FP.sl c3 Ag lg cg g2)])) ?_ ?_
  · clear h hS; rintro E ds w3 ⟨h, rfl, hE1, hS⟩; replace h := hJ h; refine yac (zs (zq (za (ii 0)) (yaa (yak ?_)))); obtain ⟨I2, ⟨m0, h0⟩, hr⟩ := h; refine yaw (fun m E ds w' => ∃ i, I2 m i ∧ ds = [] ∧ E 1 = (Value.pointer (some (⟨g3, 0, none⟩ : Addr))) ∧ E 3 = (ii i) ∧ Sep w no O w' (rl [Res.box 24 g3 [(ii g), (.slice Ag lg cg)], Res.ro (FP.sl c3 Ag lg cg g2)])) m0 ⟨_, h0, rfl, hE1, rfl, (hS.sel [0, 1] (by decide))⟩ ?_; clear h0 hS; rintro m2 E ds w4 ⟨i, h, rfl, hE1, hE3, hS⟩ again; replace h := hr m2 i h; clear hr; refine yac (zs (zq (yab hE3) (zq (yam hE1 underlying24 rfl ycH) (zq (zl underlying22 (Row.cell (hS.bx 0 rfl) (i := 1) rfl)) (zq (yaO (n := g2.length) rfl underlying22 (yaL (hS.rdr 1 rfl))) (zq zL (yaa ?_))))))); by_cases hp : i < ((g2.length : Nat) : Int)
    · replace h := h.1 hp; refine zc hp (yaf (yac (yak (zs (zq (yas (vs := [(ii g), (.slice Ag lg cg)]) hE1 underlying24 rfl yaq ⟨Row.cell (hS.bx 0 rfl) (i := 0) rfl, Row.cell (hS.bx 0 rfl) (i := 1) rfl, trivial⟩) (zq (yab hE3) (zn (yan rfl (am2 rfl rfl) enter_137 ((pok_r08_edge h (yaF _) (hS.rdr 1 rfl)).mono ?_))))))))); rintro _ w5 ⟨r, rfl, hC, h⟩; replace hS := hS.pur hC.pure; clear hC; refine ⟨_, rfl, ?_⟩; refine zb (zq (za (ii r)) (yaa (zs (zq (zm (ii r)) (zq zN (yaa ?_)))))); by_cases hp2 : r = 0
      · replace h := h.1 hp2; refine ze hp2 (yaf (yai (zr (zq (yab hE3) ?_)))); obtain ⟨hi, h⟩ := h; refine zq (zA hi) (zq (za (ii (i + 1))) (yaa ?_)); obtain ⟨mq, hlt, h⟩ := h; exact again mq _ _ _ ⟨_, h, rfl, hE1, rfl, (hS.sel [0, 1] (by decide))⟩ hlt
      · replace h := h.2 hp2; exact zf hp2 (zs (zq (zm (ii r)) (zq (za (ii r)) (yaa (yal rfl rfl ⟨_, rfl, (hS.sel [] (by decide)), h⟩)))))
    · replace h := h.2 hp; exact zd hp (yav rfl (zs (zq (za (ii 0)) (yaa (yal rfl rfl ⟨_, rfl, (hS.sel [] (by decide)), h⟩)))))
  clear hJ; intro j; refine zr (zq (yam rfl underlying24 rfl yag) (zq (zl underlying3 (Row.cell (hS.bx 1 rfl) (i := 0) rfl)) (zq zL (zq (zm (.bool (decide (g < 1)))) ?_)))); by_cases hp3 : g < 1
  · replace h := h.1 hp3; exact rl_p (yad rfl (yaj rfl (congrArg Value.bool (decide_eq_true hp3))) rfl) rfl (rl_p (yad rfl (yaj rfl (congrArg Value.bool (decide_eq_true hp3))) rfl) rfl (rl_p (yad rfl (yaj rfl (congrArg Value.bool (decide_eq_true hp3))) rfl) rfl (zq (yaB (v := (.bool (true))) (congrArg Value.bool (decide_eq_true hp3)) rfl) (yaa (yau rfl (zs (zq (za (ii 2)) (yaa (yal rfl rfl ⟨_, rfl, (hS.sel [] (by decide)), h⟩)))))))))
  · replace h := h.2 hp3; refine rl_q (yae rfl (yaj rfl (congrArg Value.bool (decide_eq_false hp3)))) rfl rfl (yam rfl underlying24 rfl yag) (rl_q (yae rfl (yaj rfl (congrArg Value.bool (decide_eq_false hp3)))) rfl rfl (zl underlying3 (Row.cell (hS.bx 1 rfl) (i := 0) rfl)) (rl_q (yae rfl (yaj rfl (congrArg Value.bool (decide_eq_false hp3)))) rfl rfl zG (zq (yaz (v := (.bool (decide (12 < g)))) (congrArg Value.bool (decide_eq_false hp3)) rfl) (yaa ?_)))); by_cases hp4 : 12 < g
    · replace h := h.1 hp4; exact zc hp4 (zs (zq (za (ii 2)) (yaa (yal rfl rfl ⟨_, rfl, (hS.sel [] (by decide)), h⟩))))
    · replace h := h.2 hp4; exact zd hp4 (yaf (j _ _ _ ⟨h, rfl, rfl, (hS.sel [1, 0] (by decide))⟩))
def yd6 (g : Int) (g2 : List E3) (R : (List (Int × Int)) → Prop) : Prop :=
(∃ I2 : Nat → (List (Int × Int)) → Int → Prop, (∃ m0, I2 m0 ([]) 0) ∧ ∀ m2 out i, I2 m2 out i → 
((i < ((g2.length : Nat) : Int) →
(∃ I3 : Nat → (List (Int × Int)) → Int → Prop, (∃ m0, I3 m0 out 0) ∧ ∀ m3 out2 k, I3 m3 out2 k → 
((0 ≤ i ∧ i < ((g2.length : Nat) : Int)) ∧
((k < ((ge g2 i.toNat).2.2) →
(out2.length + 1 ≤ 1000000000 ∧
(In64 (k + 1) ∧
∃ m4, m4 < m3 ∧ I3 m4 (out2 ++ [((ge g2 i.toNat).1, (ge g2 i.toNat).2.1)]) (k + 1)))) ∧
(¬ (k < ((ge g2 i.toNat).2.2)) →
(In64 (i + 1) ∧
∃ m5, m5 < m2 ∧ I2 m5 out2 (i + 1))))))) ∧
(¬ (i < ((g2.length : Nat) : Int)) →
R out)))
theorem pok_r08_Ends {O : Nat → Prop} {w : World} {g g2 Ag lg cg} {R : (List (Int × Int)) → Prop} (h : yd6 g g2 R) (hO : ∀ k, O k → k < w.heap.size) (hA0 : (FP.sl c3 Ag lg cg g2).P O w) :
    Calls Tryz.prog 138 #[(.agg #[(ii g), (.slice Ag lg cg)])] w fun e w' => ∃ r Ar lr cr, e = .returned (.slice Ar lr cr) ∧ Sep w no O w' (rl [Res.own c2 146 Ar lr cr r]) ∧ R r := by
  unfold yd6 at h; have hS : Sep w no O w (rl [Res.ro (FP.sl c3 Ag lg cg g2)]) := Sep.startl hO [(FP.sl c3 Ag lg cg g2)] ⟨hA0, trivial⟩; refine yar (l := [(.agg #[(ii g), (.slice Ag lg cg)])]) func138 rfl ntmps138 (Nat.le_of_ble_eq_true rfl) (zs (zn (ybq (v := (.agg #[(ii g), (.slice Ag lg cg)])) rfl ?_))); intro g3 w2 hN; replace hS : Sep w no O w2 (stl _ 1 (Res.box 24 g3 [(ii g), (.slice Ag lg cg)])) := hS.new 1 rfl hN; clear hN; refine zb (zq (za (.slice none 0 0)) (yaa (zs (zq (za (.slice none 0 0)) (yaa (yac (zs (zq (za (ii 0)) (yaa (yak ?_)))))))))); replace hS := hS.nil 2 rfl c2 146; obtain ⟨I2, ⟨m0, h0⟩, hr⟩ := h; refine yaw (fun m E ds w' => ∃ out i Aout lout cout, I2 m out i ∧ ds = [] ∧ E 1 = (Value.pointer (some (⟨g3, 0, none⟩ : Addr))) ∧ E 3 = (Value.slice Aout lout cout) ∧ E 4 = (ii i) ∧ Sep w no O w' (rl [Res.own c2 146 Aout lout cout out, Res.box 24 g3 [(ii g), (.slice Ag lg cg)], Res.ro (FP.sl c3 Ag lg cg g2)])) m0 ⟨_, _, _, _, _, h0, rfl, rfl, rfl, rfl, (hS.sel [2, 1, 0] (by decide))⟩ ?_; clear h0 hS; rintro m2 E ds w3 ⟨out, i, Aout, lout, cout, h, rfl, hE1, hE3, hE4, hS⟩ again; replace h := hr m2 out i h; clear hr; refine yac (zs (zq (yab hE4) (zq (yam hE1 underlying24 rfl ycH) (zq (zl underlying22 (Row.cell (hS.bx 1 rfl) (i := 1) rfl)) (zq (yaO (n := g2.length) rfl underlying22 (yaL (hS.rdr 2 rfl))) (zq zL (yaa ?_))))))); by_cases hp : i < ((g2.length : Nat) : Int)
  · replace h := h.1 hp; refine zc hp (yaf (yac (yak (zs (zq (za (ii 0)) (yaa (yak ?_))))))); obtain ⟨I3, ⟨m0, h0⟩, hr⟩ := h; refine yaw (fun m E ds w' => ∃ out2 k Aout2 lout2 cout2, I3 m out2 k ∧ ds = [] ∧ E 1 = (Value.pointer (some (⟨g3, 0, none⟩ : Addr))) ∧ E 3 = (Value.slice Aout2 lout2 cout2) ∧ E 4 = (ii i) ∧ E 5 = (ii k) ∧ Sep w no O w' (rl [Res.own c2 146 Aout2 lout2 cout2 out2, Res.box 24 g3 [(ii g), (.slice Ag lg cg)], Res.ro (FP.sl c3 Ag lg cg g2)])) m0 ⟨_, _, _, _, _, h0, rfl, hE1, hE3, hE4, rfl, (hS.sel [0, 1, 2] (by decide))⟩ ?_; clear h0 hS; rintro m3 E ds w4 ⟨out2, k, Aout2, lout2, cout2, h, rfl, hE1, hE3, hE4, hE5, hS⟩ again2; replace h := hr m3 out2 k h; clear hr; refine yac (zs (zq (yab hE5) (zq (yam hE1 underlying24 rfl ycH) (zq (zl underlying22 (Row.cell (hS.bx 1 rfl) (i := 1) rfl)) (zq (yab hE4) ?_))))); obtain ⟨hx, h⟩ := h; refine zq (zi underlying22 yaP (yaG (hS.rdr 2 rfl) hx)) (zq (yam rfl underlying76 rfl yag) (zq (yah (v := (ii ((ge g2 i.toNat).2.2))) rfl underlying3 rfl (rd_f (hS.rdr 2 rfl) hx (fun q => ydj q) 2 rfl)) ?_)); refine zq zL (yaa ?_); by_cases hp2 : k < ((ge g2 i.toNat).2.2)
    · replace h := h.1 hp2; refine zc hp2 (yaf (yac (yak (ya3 [0, 1, 2, 3, 4, 5, 6, 7, 8, 9, 10, 11, 12, 13, 14, 15, 16] (fun i => match i with | 13 => [0] | 14 => [0] | _ => []) ya8 (by kernel_rfl) (by kernel_rfl) ?_)))); replace hS := hS.drew; refine zp (yab hE3) (zp (yam hE1 underlying24 rfl ycH) (zp (zl underlying22 (Row.cell (hS.bx 1 rfl) (i := 1) rfl)) (zp (yab hE4) (zp (zi underlying22 yaP (yaG (hS.rdr 2 rfl) hx)) (zp (yam rfl underlying76 rfl yag) (zp (yah (v := (ii ((ge g2 i.toNat).1))) rfl underlying3 rfl (rd_f (hS.rdr 2 rfl) hx (fun q => ydj q) 0 rfl)) ?_)))))); refine zp (yam hE1 underlying24 rfl ycH) (zp (zl underlying22 (Row.cell (hS.bx 1 rfl) (i := 1) rfl)) (zp (yab hE4) (zp (zi underlying22 yaP (yaG (hS.rdr 2 rfl) hx)) (zp (yam rfl underlying76 rfl yag) (zp (yah (v := (ii ((ge g2 i.toNat).2.1))) rfl underlying3 rfl (rd_f (hS.rdr 2 rfl) hx (fun q => ydj q) 1 rfl)) ?_))))); refine rp_n rfl rfl rfl rfl (n_builda (l := [(0, (ii ((ge g2 i.toNat).1))), (1, (ii ((ge g2 i.toNat).2.1)))]) (cells := [(ii ((ge g2 i.toNat).1)), (ii ((ge g2 i.toNat).2.1))]) (bp2 rfl rfl) underlying146 info_146 yag rfl ?_); refine ⟨⟨fun hh => Bool.noConfusion (show false = true from hh), ⟨fun hh => Bool.noConfusion (show false = true from hh), ⟨fun hh => Bool.noConfusion (show false = true from hh), ⟨fun hh => Bool.noConfusion (show false = true from hh), ⟨fun hh => Bool.noConfusion (show false = true from hh), ⟨fun hh => Bool.noConfusion (show false = true from hh), ⟨fun hh => Bool.noConfusion (show false = true from hh), ⟨fun hh => Bool.noConfusion (show false = true from hh), ⟨fun hh => Bool.noConfusion (show false = true from hh), ⟨fun hh => Bool.noConfusion (show false = true from hh), ⟨fun hh => Bool.noConfusion (show false = true from hh), ⟨fun hh => Bool.noConfusion (show false = true from hh), ⟨fun _ => (yab hE3), trivial⟩⟩⟩⟩⟩⟩⟩⟩⟩⟩⟩⟩⟩, ?_⟩; refine rp_n rfl rfl rfl rfl (yaD (l := [(0, (.agg #[(ii ((ge g2 i.toNat).1)), (ii ((ge g2 i.toNat).2.1))]))]) (cells := [(ii ((ge g2 i.toNat).1)), (ii ((ge g2 i.toNat).2.1))]) (bp1 rfl) underlying181 info_146 rfl rfl ?_); intro g4 w5 hN; replace hS := hS.litf (n := 1) 3 rfl (fP (fI .i64) (fI .i64)) hN ([((ge g2 i.toNat).1, (ge g2 i.toNat).2.1)] : List (Int × Int)) rfl (by decide) rfl; clear hN; refine ⟨⟨fun hh => Bool.noConfusion (show false = true from hh), ⟨fun hh => Bool.noConfusion (show false = true from hh), ⟨fun hh => Bool.noConfusion (show false = true from hh), ⟨fun hh => Bool.noConfusion (show false = true from hh), ⟨fun hh => Bool.noConfusion (show false = true from hh), ⟨fun hh => Bool.noConfusion (show false = true from hh), ⟨fun hh => Bool.noConfusion (show false = true from hh), ⟨fun hh => Bool.noConfusion (show false = true from hh), ⟨fun hh => Bool.noConfusion (show false = true from hh), ⟨fun hh => Bool.noConfusion (show false = true from hh), ⟨fun hh => Bool.noConfusion (show false = true from hh), ⟨fun hh => Bool.noConfusion (show false = true from hh), ⟨fun _ => (yab hE3), trivial⟩⟩⟩⟩⟩⟩⟩⟩⟩⟩⟩⟩⟩, ?_⟩; obtain ⟨hx2, h⟩ := h; refine rp_n rfl rfl rfl rfl (yee (c := c2) rfl rfl underlying181 underlying181 info_146 rfl rfl (by decide) hS 0 rfl (hS.yo 3 rfl) hx2 ?_); clear hS; intro A c w6 hS; refine zb (zp (za (.slice A (lout2 + 1) c)) (ybl (yai (zr (zq (yab hE5) ?_))))); obtain ⟨hi, h⟩ := h; refine zq (zA hi) (zq (za (ii (k + 1))) (yaa ?_)); obtain ⟨mq, hlt, h⟩ := h; exact again2 mq _ _ _ ⟨_, _, _, _, _, h, rfl, hE1, rfl, hE4, rfl, (hS.sel [0, 1, 2] (by decide))⟩ hlt
    · replace h := h.2 hp2; refine zd hp2 (yav rfl (yai (zr (zq (yab hE4) ?_)))); obtain ⟨hi2, h⟩ := h; refine zq (zA hi2) (zq (za (ii (i + 1))) (yaa ?_)); obtain ⟨mq, hlt, h⟩ := h; exact again mq _ _ _ ⟨_, _, _, _, _, h, rfl, hE1, hE3, rfl, (hS.sel [0, 1, 2] (by decide))⟩ hlt
  · replace h := h.2 hp; exact zd hp (yav rfl (zs (zq (yab hE3) (zq (za (.slice Aout lout cout)) (yaa (yal rfl rfl ⟨_, _, _, _, rfl, (hS.sel [0] (by decide)), h⟩))))))
def ye2 (g : Int) (g2 : List E3) (R : Int → Prop) : Prop :=
yd6 g g2 (fun r =>
R ((r.length : Nat) : Int))
theorem pok_r08_Size {O : Nat → Prop} {w : World} {g g2 Ag lg cg} {R : Int → Prop} (h : ye2 g g2 R) (hO : ∀ k, O k → k < w.heap.size) (hA0 : (FP.sl c3 Ag lg cg g2).P O w) :
    Calls Tryz.prog 94 #[(.agg #[(ii g), (.slice Ag lg cg)])] w fun e w' => ∃ r2, e = .returned (ii r2) ∧ Sep w no O w' (rl []) ∧ R r2 := by
  unfold ye2 at h; have hS : Sep w no O w (rl [Res.ro (FP.sl c3 Ag lg cg g2)]) := Sep.startl hO [(FP.sl c3 Ag lg cg g2)] ⟨hA0, trivial⟩; refine yar (l := [(.agg #[(ii g), (.slice Ag lg cg)])]) func94 rfl ntmps94 (Nat.le_of_ble_eq_true rfl) (zs (zn (ybq (v := (.agg #[(ii g), (.slice Ag lg cg)])) rfl ?_))); intro g3 w2 hN; replace hS : Sep w no O w2 (stl _ 1 (Res.box 24 g3 [(ii g), (.slice Ag lg cg)])) := hS.new 1 rfl hN; clear hN; refine zb (zq (za (ii 0)) (yaa (zs (zq (yas (vs := [(ii g), (.slice Ag lg cg)]) rfl underlying24 rfl yaq ⟨Row.cell (hS.bx 1 rfl) (i := 0) rfl, Row.cell (hS.bx 1 rfl) (i := 1) rfl, trivial⟩) (zn (yan rfl (am1 rfl) enter_138 ((pok_r08_Ends h (yaF _) (hS.rdr 0 rfl)).mono ?_))))))); rintro _ w3 ⟨r, Ar, lr, cr, rfl, hC, h⟩; replace hS := hS.call1 (hC.widen (ydi (ya1 (fP (fI .i64) (fI .i64)) _ _ _ _ _) yeb) hS.blt) 2 0 rfl; clear hC; refine ⟨_, rfl, ?_⟩; exact zb (zq (yaO (n := r.length) rfl underlying181 (yaL (hS.rdo 2 rfl))) (zq (za (ii ((r.length : Nat) : Int))) (yaa (yal rfl rfl ⟨_, rfl, (hS.sel [] (by decide)), h⟩))))
def yds (g : Int) (g2 : List E3) (vertices : Int) (single : Int) (R : Bool → Prop) : Prop :=
((40 < ((g2.length : Nat) : Int) →
R false) ∧
(¬ (40 < ((g2.length : Nat) : Int)) →
ycR g g2 (fun r =>
((r = 0 →
((g ≤ vertices →
ye2 g g2 (fun r2 =>
R (decide (r2 ≤ single)))) ∧
(¬ (g ≤ vertices) →
R false))) ∧
(¬ (r = 0) →
R true)))))
theorem pok_r08_small {O : Nat → Prop} {w : World} {g g2 vertices single Ag lg cg} {R : Bool → Prop} (h : yds g g2 vertices single R) (hO : ∀ k, O k → k < w.heap.size) (hA0 : (FP.sl c3 Ag lg cg g2).P O w) :
    Calls Tryz.prog 52 #[(.agg #[(ii g), (.slice Ag lg cg)]), (ii vertices), (ii single)] w fun e w' => ∃ r3, e = .returned (.bool (r3)) ∧ Sep w no O w' (rl []) ∧ R r3 := by
  unfold yds at h; have hS : Sep w no O w (rl [Res.ro (FP.sl c3 Ag lg cg g2)]) := Sep.startl hO [(FP.sl c3 Ag lg cg g2)] ⟨hA0, trivial⟩; refine yar (l := [(.agg #[(ii g), (.slice Ag lg cg)]), (ii vertices), (ii single)]) func52 rfl ntmps52 (Nat.le_of_ble_eq_true rfl) (zs (zn (ybq (v := (.agg #[(ii g), (.slice Ag lg cg)])) rfl ?_))); intro g3 w2 hN; replace hS : Sep w no O w2 (stl _ 1 (Res.box 24 g3 [(ii g), (.slice Ag lg cg)])) := hS.new 1 rfl hN; clear hN; refine zb (zq (za (.bool (false))) (yaa (yac (zs (zq (yam rfl underlying24 rfl ycH) (zq (zl underlying22 (Row.cell (hS.bx 1 rfl) (i := 1) rfl)) (zq (yaO (n := g2.length) rfl underlying22 (yaL (hS.rdr 0 rfl))) (zq zG (yaa ?_))))))))); by_cases hp : 40 < ((g2.length : Nat) : Int)
  · replace h := h.1 hp; exact zc hp (zs (zq (za (.bool (false))) (yaa (yal rfl rfl ⟨_, rfl, (hS.sel [] (by decide)), h⟩))))
  · replace h := h.2 hp; refine zd hp (yaf (yac (zs (zq (yas (vs := [(ii g), (.slice Ag lg cg)]) rfl underlying24 rfl yaq ⟨Row.cell (hS.bx 1 rfl) (i := 0) rfl, Row.cell (hS.bx 1 rfl) (i := 1) rfl, trivial⟩) (zn (yan rfl (am1 rfl) enter_93 ((ygB h (yaF _) (hS.rdr 0 rfl)).mono ?_))))))); rintro _ w3 ⟨r, rfl, hC, h⟩; replace hS := hS.pur hC.pure; clear hC; refine ⟨_, rfl, ?_⟩; refine zb (zq zN (yaa ?_)); by_cases hp2 : r = 0
    · replace h := h.1 hp2; refine ze hp2 (yaf (zs (zq (yam rfl underlying24 rfl yag) (zq (zl underlying3 (Row.cell (hS.bx 1 rfl) (i := 0) rfl)) (zq (zm (ii vertices)) (zq (v_leq rfl rfl) (zq (zm (.bool (decide (g ≤ vertices)))) ?_))))))); by_cases hp3 : g ≤ vertices
      · replace h := h.1 hp3; refine rl_q (yae rfl (yaj rfl (congrArg Value.bool (decide_eq_true hp3)))) rfl rfl (yas (vs := [(ii g), (.slice Ag lg cg)]) rfl underlying24 rfl yaq ⟨Row.cell (hS.bx 1 rfl) (i := 0) rfl, Row.cell (hS.bx 1 rfl) (i := 1) rfl, trivial⟩) (rl_n (yae rfl (yaj rfl (congrArg Value.bool (decide_eq_true hp3)))) rfl rfl rfl (yan rfl (am1 rfl) enter_94 ((pok_r08_Size h (yaF _) (hS.rdr 0 rfl)).mono ?_))); rintro _ w4 ⟨r2, rfl, hC, h⟩; replace hS := hS.pur hC.pure; clear hC; refine ⟨_, rfl, ?_⟩; exact zb (rl_q (yae rfl (yaj rfl (congrArg Value.bool (decide_eq_true hp3)))) rfl rfl (zm (ii single)) (rl_q (yae rfl (yaj rfl (congrArg Value.bool (decide_eq_true hp3)))) rfl rfl (v_leq rfl rfl) (zq (yaB (v := (.bool (decide (r2 ≤ single)))) (congrArg Value.bool (decide_eq_true hp3)) rfl) (zq (za (.bool (decide (r2 ≤ single)))) (yaa (yal rfl rfl ⟨_, rfl, (hS.sel [] (by decide)), h⟩))))))
      · replace h := h.2 hp3; exact rl_p (yad rfl (yaj rfl (congrArg Value.bool (decide_eq_false hp3))) rfl) rfl (rl_p (yad rfl (yaj rfl (congrArg Value.bool (decide_eq_false hp3))) rfl) rfl (rl_p (yad rfl (yaj rfl (congrArg Value.bool (decide_eq_false hp3))) rfl) rfl (rl_p (yad rfl (yaj rfl (congrArg Value.bool (decide_eq_false hp3))) rfl) rfl (zq (yaz (v := (.bool (false))) (congrArg Value.bool (decide_eq_false hp3)) rfl) (zq (za (.bool (false))) (yaa (yal rfl rfl ⟨_, rfl, (hS.sel [] (by decide)), h⟩)))))))
    · replace h := h.2 hp2; exact zf hp2 (zs (zq (za (.bool (true))) (yaa (yal rfl rfl ⟨_, rfl, (hS.sel [] (by decide)), h⟩))))
def ycL (g : Int) (g2 : List E3) (v : Int) (R : (List Bool) → Prop) : Prop :=
((0 ≤ g ∧ g ≤ 1000000) ∧
((0 ≤ v ∧ v < (((List.replicate g.toNat false).length : Nat) : Int)) ∧
(∃ I2 : Nat → Int → (List Bool) → Prop, (∃ m0, I2 m0 0 ((List.replicate g.toNat false).set v.toNat true)) ∧ ∀ m2 round out, I2 m2 round out → 
((round < g →
(∃ I3 : Nat → Int → (List Bool) → Prop, (∃ m0, I3 m0 0 out) ∧ ∀ m3 a out2, I3 m3 a out2 → 
((a < g →
(∃ I4 : Nat → Int → (List Bool) → Prop, (∃ m0, I4 m0 0 out2) ∧ ∀ m4 b out3, I4 m4 b out3 → 
((b < g →
((0 ≤ a ∧ a < ((out3.length : Nat) : Int)) ∧
((gb out3 a.toNat = true →
ya9 g g2 a b (fun r =>
((0 < r →
((0 ≤ b ∧ b < ((out3.length : Nat) : Int)) ∧
(In64 (b + 1) ∧
∃ m5, m5 < m4 ∧ I4 m5 (b + 1) (out3.set b.toNat true)))) ∧
(¬ (0 < r) →
(In64 (b + 1) ∧
∃ m6, m6 < m4 ∧ I4 m6 (b + 1) out3))))) ∧
(¬ (gb out3 a.toNat = true) →
(In64 (b + 1) ∧
∃ m7, m7 < m4 ∧ I4 m7 (b + 1) out3))))) ∧
(¬ (b < g) →
(In64 (a + 1) ∧
∃ m8, m8 < m3 ∧ I3 m8 (a + 1) out3))))) ∧
(¬ (a < g) →
(In64 (round + 1) ∧
∃ m9, m9 < m2 ∧ I2 m9 (round + 1) out2))))) ∧
(¬ (round < g) →
R out)))))
theorem yio {O : Nat → Prop} {w : World} {g g2 v Ag lg cg} {R : (List Bool) → Prop} (h : ycL g g2 v R) (hO : ∀ k, O k → k < w.heap.size) (hA0 : (FP.sl c3 Ag lg cg g2).P O w) :
    Calls Tryz.prog 168 #[(.agg #[(ii g), (.slice Ag lg cg)]), (ii v)] w fun e w' => ∃ r2 Ar lr cr, e = .returned (.slice Ar lr cr) ∧ Sep w no O w' (rl [Res.own cB 4 Ar lr cr r2]) ∧ R r2 := by
  unfold ycL at h; have hS : Sep w no O w (rl [Res.ro (FP.sl c3 Ag lg cg g2)]) := Sep.startl hO [(FP.sl c3 Ag lg cg g2)] ⟨hA0, trivial⟩; refine yar (l := [(.agg #[(ii g), (.slice Ag lg cg)]), (ii v)]) func168 rfl ntmps168 (Nat.le_of_ble_eq_true rfl) (zs (zn (ybq (v := (.agg #[(ii g), (.slice Ag lg cg)])) rfl ?_))); intro g3 w2 hN; replace hS : Sep w no O w2 (stl _ 1 (Res.box 24 g3 [(ii g), (.slice Ag lg cg)])) := hS.new 1 rfl hN; clear hN; refine zb (zq (za (.slice none 0 0)) (yaa (zs (zq (yam rfl underlying24 rfl yag) (zq (zl underlying3 (Row.cell (hS.bx 1 rfl) (i := 0) rfl)) ?_))))); obtain ⟨hx, h⟩ := h; refine zn (ygJ rfl rfl underlying170 ycg (by decide) rfl hx ?_); intro g4 w3 hN; replace hS := hS.made 2 rfl cB (.bool (false)) false (fun _ _ => rfl) hN (by omega); clear hN; refine zb (zq (za (.slice (some ⟨g4, 0, none⟩) g.toNat g.toNat)) (yaa (zs (zq (zm (.slice (some ⟨g4, 0, none⟩) g.toNat g.toNat)) (zq (zm (ii v)) ?_))))); obtain ⟨hx2, h⟩ := h; refine zq (zi underlying170 ycg (yaG (hS.rdo 2 rfl) hx2)) (zo (zt (.bool (true)) ycg (hS.wr 2 rfl rfl hx2) ?_)); intro w4 e1; replace hS := hS.st 2 rfl rfl hx2 (x := true) rfl e1; clear e1; refine zb (yaa (yac (zs (zq (za (ii 0)) (yaa (yak ?_)))))); obtain ⟨I2, ⟨m0, h0⟩, hr⟩ := h; refine yaw (fun m E ds w' => ∃ round out Aout lout cout, I2 m round out ∧ ds = [] ∧ E 2 = (Value.pointer (some (⟨g3, 0, none⟩ : Addr))) ∧ E 5 = (Value.slice Aout lout cout) ∧ E 6 = (ii round) ∧ Sep w no O w' (rl [Res.box 24 g3 [(ii g), (.slice Ag lg cg)], Res.ro (FP.sl c3 Ag lg cg g2), Res.own cB 4 Aout lout cout out])) m0 ⟨_, _, _, _, _, h0, rfl, rfl, rfl, rfl, (hS.sel [1, 0, 2] (by decide))⟩ ?_; clear h0 hS; rintro m2 E ds w5 ⟨round, out, Aout, lout, cout, h, rfl, hE2, hE5, hE6, hS⟩ again; replace h := hr m2 round out h; clear hr; refine yac (zs (zq (yab hE6) (zq (yam hE2 underlying24 rfl yag) (zq (zl underlying3 (Row.cell (hS.bx 0 rfl) (i := 0) rfl)) (zq zL (yaa ?_)))))); by_cases hp : round < g
  · replace h := h.1 hp; refine zc hp (yaf (yac (yak (zs (zq (za (ii 0)) (yaa (yak ?_))))))); obtain ⟨I3, ⟨m0, h0⟩, hr⟩ := h; refine yaw (fun m E ds w' => ∃ a out2 Aout2 lout2 cout2, I3 m a out2 ∧ ds = [] ∧ E 2 = (Value.pointer (some (⟨g3, 0, none⟩ : Addr))) ∧ E 5 = (Value.slice Aout2 lout2 cout2) ∧ E 6 = (ii round) ∧ E 7 = (ii a) ∧ Sep w no O w' (rl [Res.box 24 g3 [(ii g), (.slice Ag lg cg)], Res.ro (FP.sl c3 Ag lg cg g2), Res.own cB 4 Aout2 lout2 cout2 out2])) m0 ⟨_, _, _, _, _, h0, rfl, hE2, hE5, hE6, rfl, (hS.sel [0, 1, 2] (by decide))⟩ ?_; clear h0 hS; rintro m3 E ds w6 ⟨a, out2, Aout2, lout2, cout2, h, rfl, hE2, hE5, hE6, hE7, hS⟩ again2; replace h := hr m3 a out2 h; clear hr; refine yac (zs (zq (yab hE7) (zq (yam hE2 underlying24 rfl yag) (zq (zl underlying3 (Row.cell (hS.bx 0 rfl) (i := 0) rfl)) (zq zL (yaa ?_)))))); by_cases hp2 : a < g
    · replace h := h.1 hp2; refine zc hp2 (yaf (yac (yak (zs (zq (za (ii 0)) (yaa (yak ?_))))))); obtain ⟨I4, ⟨m0, h0⟩, hr⟩ := h; refine yaw (fun m E ds w' => ∃ b out3 Aout3 lout3 cout3, I4 m b out3 ∧ ds = [] ∧ E 2 = (Value.pointer (some (⟨g3, 0, none⟩ : Addr))) ∧ E 5 = (Value.slice Aout3 lout3 cout3) ∧ E 6 = (ii round) ∧ E 7 = (ii a) ∧ E 8 = (ii b) ∧ Sep w no O w' (rl [Res.box 24 g3 [(ii g), (.slice Ag lg cg)], Res.ro (FP.sl c3 Ag lg cg g2), Res.own cB 4 Aout3 lout3 cout3 out3])) m0 ⟨_, _, _, _, _, h0, rfl, hE2, hE5, hE6, hE7, rfl, (hS.sel [0, 1, 2] (by decide))⟩ ?_; clear h0 hS; rintro m4 E ds w7 ⟨b, out3, Aout3, lout3, cout3, h, rfl, hE2, hE5, hE6, hE7, hE8, hS⟩ again3; replace h := hr m4 b out3 h; clear hr; refine yac (zs (zq (yab hE8) (zq (yam hE2 underlying24 rfl yag) (zq (zl underlying3 (Row.cell (hS.bx 0 rfl) (i := 0) rfl)) (zq zL (yaa ?_)))))); by_cases hp3 : b < g
      · replace h := h.1 hp3; refine zc hp3 (yaf (yac (yak (zs (zq (yab hE5) (zq (yab hE7) ?_)))))); obtain ⟨hx3, h⟩ := h; refine zq (zi underlying170 ycg (yaG (hS.rdo 2 rfl) hx3)) (zq (yah (v := (.bool (gb out3 a.toNat))) rfl underlying4 rfl (rd_1 (hS.rdo 2 rfl) hx3 (fun q => yh3 q) rfl)) ?_); refine zq (zm (.bool (gb out3 a.toNat))) ?_; by_cases hp4 : gb out3 a.toNat = true
        · replace h := h.1 hp4; refine rl_q (yae rfl (yaj rfl (congrArg Value.bool hp4))) rfl rfl (yas (vs := [(ii g), (.slice Ag lg cg)]) hE2 underlying24 rfl yaq ⟨Row.cell (hS.bx 0 rfl) (i := 0) rfl, Row.cell (hS.bx 0 rfl) (i := 1) rfl, trivial⟩) (rl_q (yae rfl (yaj rfl (congrArg Value.bool hp4))) rfl rfl (yab hE7) (rl_q (yae rfl (yaj rfl (congrArg Value.bool hp4))) rfl rfl (yab hE8) (rl_n (yae rfl (yaj rfl (congrArg Value.bool hp4))) rfl rfl rfl (yan rfl (am3 rfl rfl rfl) yeN ((ybW h (yaF _) (hS.rdr 1 rfl)).mono ?_))))); rintro _ w8 ⟨r, rfl, hC, h⟩; replace hS := hS.pur hC.pure; clear hC; refine ⟨_, rfl, ?_⟩; refine zb (rl_q (yae rfl (yaj rfl (congrArg Value.bool hp4))) rfl rfl zG (zq (yaB (v := (.bool (decide (0 < r)))) (congrArg Value.bool hp4) rfl) (yaa ?_))); by_cases hp5 : 0 < r
          · replace h := h.1 hp5; refine zc hp5 (zr (zq (yab hE5) (zq (yab hE8) ?_))); obtain ⟨hx4, h⟩ := h; refine zq (zi underlying170 ycg (yaG (hS.rdo 2 rfl) hx4)) (zo (zt (.bool (true)) ycg (hS.wr 2 rfl rfl hx4) ?_)); intro w9 e1; replace hS := hS.st 2 rfl rfl hx4 (x := true) rfl e1; clear e1; refine zb (yaa (yai (zr (zq (yab hE8) ?_)))); obtain ⟨hi, h⟩ := h; refine zq (zA hi) (zq (za (ii (b + 1))) (yaa ?_)); obtain ⟨mq, hlt, h⟩ := h; exact again3 mq _ _ _ ⟨_, _, _, _, _, h, rfl, hE2, hE5, hE6, hE7, rfl, (hS.sel [0, 1, 2] (by decide))⟩ hlt
          · replace h := h.2 hp5; refine zd hp5 (yaf (yai (zr (zq (yab hE8) ?_)))); obtain ⟨hi2, h⟩ := h; refine zq (zA hi2) (zq (za (ii (b + 1))) (yaa ?_)); obtain ⟨mq, hlt, h⟩ := h; exact again3 mq _ _ _ ⟨_, _, _, _, _, h, rfl, hE2, hE5, hE6, hE7, rfl, (hS.sel [0, 1, 2] (by decide))⟩ hlt
        · replace h := h.2 hp4; refine rl_p (yad rfl (yaj rfl (congrArg Value.bool (Bool.eq_false_iff.2 hp4))) rfl) rfl (rl_p (yad rfl (yaj rfl (congrArg Value.bool (Bool.eq_false_iff.2 hp4))) rfl) rfl (rl_p (yad rfl (yaj rfl (congrArg Value.bool (Bool.eq_false_iff.2 hp4))) rfl) rfl (rl_p (yad rfl (yaj rfl (congrArg Value.bool (Bool.eq_false_iff.2 hp4))) rfl) rfl (rl_p (yad rfl (yaj rfl (congrArg Value.bool (Bool.eq_false_iff.2 hp4))) rfl) rfl (zq (yaz (v := (.bool (false))) (congrArg Value.bool (Bool.eq_false_iff.2 hp4)) rfl) (yaa (yay rfl (yaf (yai (zr (zq (yab hE8) ?_))))))))))); obtain ⟨hi3, h⟩ := h; refine zq (zA hi3) (zq (za (ii (b + 1))) (yaa ?_)); obtain ⟨mq, hlt, h⟩ := h; exact again3 mq _ _ _ ⟨_, _, _, _, _, h, rfl, hE2, hE5, hE6, hE7, rfl, (hS.sel [0, 1, 2] (by decide))⟩ hlt
      · replace h := h.2 hp3; refine zd hp3 (yav rfl (yai (zr (zq (yab hE7) ?_)))); obtain ⟨hi4, h⟩ := h; refine zq (zA hi4) (zq (za (ii (a + 1))) (yaa ?_)); obtain ⟨mq, hlt, h⟩ := h; exact again2 mq _ _ _ ⟨_, _, _, _, _, h, rfl, hE2, hE5, hE6, rfl, (hS.sel [0, 1, 2] (by decide))⟩ hlt
    · replace h := h.2 hp2; refine zd hp2 (yav rfl (yai (zr (zq (yab hE6) ?_)))); obtain ⟨hi5, h⟩ := h; refine zq (zA hi5) (zq (za (ii (round + 1))) (yaa ?_)); obtain ⟨mq, hlt, h⟩ := h; exact again mq _ _ _ ⟨_, _, _, _, _, h, rfl, hE2, hE5, rfl, (hS.sel [0, 1, 2] (by decide))⟩ hlt
  · replace h := h.2 hp; exact zd hp (yav rfl (zs (zq (yab hE5) (zq (za (.slice Aout lout cout)) (yaa (yal rfl rfl ⟨_, _, _, _, rfl, (hS.sel [2] (by decide)), h⟩))))))
def ydr (g : Int) (g2 : List E3) (R : Int → Prop) : Prop :=
((0 ≤ g ∧ g ≤ 1000000) ∧
(∃ I2 : Nat → Int → Int → (List Bool) → Prop, (∃ m0, I2 m0 0 0 (List.replicate g.toNat false)) ∧ ∀ m2 n v seen, I2 m2 n v seen → 
((v < g →
((0 ≤ v ∧ v < ((seen.length : Nat) : Int)) ∧
((gb seen v.toNat = true →
(In64 (v + 1) ∧
∃ m3, m3 < m2 ∧ I2 m3 n (v + 1) seen)) ∧
(¬ (gb seen v.toNat = true) →
(In64 (n + 1) ∧
ycL g g2 v (fun r =>
(∃ I3 : Nat → Int → (List Bool) → Prop, (∃ m0, I3 m0 0 seen) ∧ ∀ m4 u seen2, I3 m4 u seen2 → 
((u < g →
((0 ≤ u ∧ u < ((seen2.length : Nat) : Int)) ∧
((gb seen2 u.toNat = true →
(In64 (u + 1) ∧
∃ m5, m5 < m4 ∧ I3 m5 (u + 1) (seen2.set u.toNat true))) ∧
(¬ (gb seen2 u.toNat = true) →
((0 ≤ u ∧ u < ((r.length : Nat) : Int)) ∧
(In64 (u + 1) ∧
∃ m6, m6 < m4 ∧ I3 m6 (u + 1) (seen2.set u.toNat (gb r u.toNat)))))))) ∧
(¬ (u < g) →
(In64 (v + 1) ∧
∃ m7, m7 < m2 ∧ I2 m7 (n + 1) (v + 1) seen2)))))))))) ∧
(¬ (v < g) →
R n))))
theorem pok_r08_Parts {O : Nat → Prop} {w : World} {g g2 Ag lg cg} {R : Int → Prop} (h : ydr g g2 R) (hO : ∀ k, O k → k < w.heap.size) (hA0 : (FP.sl c3 Ag lg cg g2).P O w) :
    Calls Tryz.prog 139 #[(.agg #[(ii g), (.slice Ag lg cg)])] w fun e w' => ∃ r2, e = .returned (ii r2) ∧ Sep w no O w' (rl []) ∧ R r2 := by
  unfold ydr at h; have hS : Sep w no O w (rl [Res.ro (FP.sl c3 Ag lg cg g2)]) := Sep.startl hO [(FP.sl c3 Ag lg cg g2)] ⟨hA0, trivial⟩; refine yar (l := [(.agg #[(ii g), (.slice Ag lg cg)])]) func139 rfl ntmps139 (Nat.le_of_ble_eq_true rfl) (zs (zn (ybq (v := (.agg #[(ii g), (.slice Ag lg cg)])) rfl ?_))); intro g3 w2 hN; replace hS : Sep w no O w2 (stl _ 1 (Res.box 24 g3 [(ii g), (.slice Ag lg cg)])) := hS.new 1 rfl hN; clear hN; refine zb (zq (za (ii 0)) (yaa (zs (zq (za (ii 0)) (yaa (zs (zq (yam rfl underlying24 rfl yag) (zq (zl underlying3 (Row.cell (hS.bx 1 rfl) (i := 0) rfl)) ?_)))))))); obtain ⟨hx, h⟩ := h; refine zn (ygJ rfl rfl underlying170 ycg (by decide) rfl hx ?_); intro g4 w3 hN; replace hS := hS.made 2 rfl cB (.bool (false)) false (fun _ _ => rfl) hN (by omega); clear hN; refine zb (zq (za (.slice (some ⟨g4, 0, none⟩) g.toNat g.toNat)) (yaa (yac (zs (zq (za (ii 0)) (yaa (yak ?_))))))); obtain ⟨I2, ⟨m0, h0⟩, hr⟩ := h; refine yaw (fun m E ds w' => ∃ n v seen Aseen lseen cseen, I2 m n v seen ∧ ds = [] ∧ E 1 = (Value.pointer (some (⟨g3, 0, none⟩ : Addr))) ∧ E 3 = (ii n) ∧ E 4 = (Value.slice Aseen lseen cseen) ∧ E 5 = (ii v) ∧ Sep w no O w' (rl [Res.box 24 g3 [(ii g), (.slice Ag lg cg)], Res.ro (FP.sl c3 Ag lg cg g2), Res.own cB 4 Aseen lseen cseen seen])) m0 ⟨_, _, _, _, _, _, h0, rfl, rfl, rfl, rfl, rfl, (hS.sel [1, 0, 2] (by decide))⟩ ?_; clear h0 hS; rintro m2 E ds w4 ⟨n, v, seen, Aseen, lseen, cseen, h, rfl, hE1, hE3, hE4, hE5, hS⟩ again; replace h := hr m2 n v seen h; clear hr; refine yac (zs (zq (yab hE5) (zq (yam hE1 underlying24 rfl yag) (zq (zl underlying3 (Row.cell (hS.bx 0 rfl) (i := 0) rfl)) (zq zL (yaa ?_)))))); by_cases hp : v < g
  · replace h := h.1 hp; refine zc hp (yaf (yac (yak (yac (zs (zq (yab hE4) (zq (yab hE5) ?_))))))); obtain ⟨hx2, h⟩ := h; refine zq (zi underlying170 ycg (yaG (hS.rdo 2 rfl) hx2)) (zq (yah (v := (.bool (gb seen v.toNat))) rfl underlying4 rfl (rd_1 (hS.rdo 2 rfl) hx2 (fun q => yh3 q) rfl)) ?_); refine yaa ?_; by_cases hp2 : gb seen v.toNat = true
    · replace h := h.1 hp2; refine yau (congrArg Value.bool hp2) (yav rfl (zr (zq (yab hE5) ?_))); obtain ⟨hi, h⟩ := h; refine zq (zA hi) (zq (za (ii (v + 1))) (yaa ?_)); obtain ⟨mq, hlt, h⟩ := h; exact again mq _ _ _ ⟨_, _, _, _, _, _, h, rfl, hE1, hE3, hE4, rfl, (hS.sel [0, 1, 2] (by decide))⟩ hlt
    · replace h := h.2 hp2; refine yay (congrArg Value.bool (Bool.eq_false_iff.2 hp2)) (yaf (zs (zq (yab hE3) ?_))); obtain ⟨hi2, h⟩ := h; refine zq (zA hi2) (zq (za (ii (n + 1))) (yaa (zs (zq (yas (vs := [(ii g), (.slice Ag lg cg)]) hE1 underlying24 rfl yaq ⟨Row.cell (hS.bx 0 rfl) (i := 0) rfl, Row.cell (hS.bx 0 rfl) (i := 1) rfl, trivial⟩) (zq (yab hE5) (zn (yan rfl (am2 rfl rfl) enter_168 ((yio h (yaF _) (hS.rdr 1 rfl)).mono ?_)))))))); rintro _ w5 ⟨r, Ar, lr, cr, rfl, hC, h⟩; replace hS := hS.call1 (hC.widen (ydi (ya1 fB _ _ _ _ _) yeb) hS.blt) 3 0 rfl; clear hC; refine ⟨_, rfl, ?_⟩; refine zb (zq (za (.slice Ar lr cr)) (yaa (zs (zq (za (ii 0)) (yaa (yak ?_)))))); obtain ⟨I3, ⟨m0, h0⟩, hr⟩ := h; refine yaw (fun m E ds w' => ∃ u seen2 Aseen2 lseen2 cseen2, I3 m u seen2 ∧ ds = [] ∧ E 1 = (Value.pointer (some (⟨g3, 0, none⟩ : Addr))) ∧ E 3 = (ii (n + 1)) ∧ E 4 = (Value.slice Aseen2 lseen2 cseen2) ∧ E 5 = (ii v) ∧ E 6 = (Value.slice Ar lr cr) ∧ E 7 = (ii u) ∧ Sep w no O w' (rl [Res.box 24 g3 [(ii g), (.slice Ag lg cg)], Res.ro (FP.sl c3 Ag lg cg g2), Res.own cB 4 Aseen2 lseen2 cseen2 seen2, Res.own cB 4 Ar lr cr r])) m0 ⟨_, _, _, _, _, h0, rfl, hE1, rfl, hE4, hE5, rfl, rfl, (hS.sel [0, 1, 2, 3] (by decide))⟩ ?_; clear h0 hS; rintro m4 E ds w6 ⟨u, seen2, Aseen2, lseen2, cseen2, h, rfl, hE1, hE3, hE4, hE5, hE6, hE7, hS⟩ again2; replace h := hr m4 u seen2 h; clear hr; refine yac (zs (zq (yab hE7) (zq (yam hE1 underlying24 rfl yag) (zq (zl underlying3 (Row.cell (hS.bx 0 rfl) (i := 0) rfl)) (zq zL (yaa ?_)))))); by_cases hp3 : u < g
      · replace h := h.1 hp3; refine zc hp3 (yaf (yac (yak (zr (zq (yab hE4) (zq (yab hE7) (zq (yab hE4) (zq (yab hE7) ?_)))))))); obtain ⟨hx3, h⟩ := h; refine zq (zi underlying170 ycg (yaG (hS.rdo 2 rfl) hx3)) (zq (yah (v := (.bool (gb seen2 u.toNat))) rfl underlying4 rfl (rd_1 (hS.rdo 2 rfl) hx3 (fun q => yh3 q) rfl)) ?_); refine zq (zm (.bool (gb seen2 u.toNat))) ?_; by_cases hp4 : gb seen2 u.toNat = true
        · replace h := h.1 hp4; refine rl_p (yad rfl (yaj rfl (congrArg Value.bool hp4)) rfl) rfl (rl_p (yad rfl (yaj rfl (congrArg Value.bool hp4)) rfl) rfl (rl_p (yad rfl (yaj rfl (congrArg Value.bool hp4)) rfl) rfl (rl_p (yad rfl (yaj rfl (congrArg Value.bool hp4)) rfl) rfl (zq (yaB (v := (.bool (true))) (congrArg Value.bool hp4) rfl) (zq (zi underlying170 ycg (yaG (hS.rdo 2 rfl) hx3)) (zo (zt (.bool (true)) ycg (hS.wr 2 rfl rfl hx3) ?_))))))); intro w7 e1; replace hS := hS.st 2 rfl rfl hx3 (x := true) rfl e1; clear e1; refine zb (yaa (yai (zr (zq (yab hE7) ?_)))); obtain ⟨hi3, h⟩ := h; refine zq (zA hi3) (zq (za (ii (u + 1))) (yaa ?_)); obtain ⟨mq, hlt, h⟩ := h; exact again2 mq _ _ _ ⟨_, _, _, _, _, h, rfl, hE1, hE3, hE4, hE5, hE6, rfl, (hS.sel [0, 1, 2, 3] (by decide))⟩ hlt
        · replace h := h.2 hp4; refine rl_q (yae rfl (yaj rfl (congrArg Value.bool (Bool.eq_false_iff.2 hp4)))) rfl rfl (yab hE6) (rl_q (yae rfl (yaj rfl (congrArg Value.bool (Bool.eq_false_iff.2 hp4)))) rfl rfl (yab hE7) ?_); obtain ⟨hx4, h⟩ := h; refine rl_q (yae rfl (yaj rfl (congrArg Value.bool (Bool.eq_false_iff.2 hp4)))) rfl rfl (zi underlying170 ycg (yaG (hS.rdo 3 rfl) hx4)) (rl_q (yae rfl (yaj rfl (congrArg Value.bool (Bool.eq_false_iff.2 hp4)))) rfl rfl (yah (v := (.bool (gb r u.toNat))) rfl underlying4 rfl (rd_1 (hS.rdo 3 rfl) hx4 (fun q => yh3 q) rfl)) ?_); refine zq (yaz (v := (.bool (gb r u.toNat))) (congrArg Value.bool (Bool.eq_false_iff.2 hp4)) rfl) (zq (zi underlying170 ycg (yaG (hS.rdo 2 rfl) hx3)) (zo (zt (.bool (gb r u.toNat)) ycg (hS.wr 2 rfl rfl hx3) ?_))); intro w8 e1; replace hS := hS.st 2 rfl rfl hx3 (x := gb r u.toNat) rfl e1; clear e1; refine zb (yaa (yai (zr (zq (yab hE7) ?_)))); obtain ⟨hi4, h⟩ := h; refine zq (zA hi4) (zq (za (ii (u + 1))) (yaa ?_)); obtain ⟨mq, hlt, h⟩ := h; exact again2 mq _ _ _ ⟨_, _, _, _, _, h, rfl, hE1, hE3, hE4, hE5, hE6, rfl, (hS.sel [0, 1, 2, 3] (by decide))⟩ hlt
      · replace h := h.2 hp3; refine zd hp3 (yav rfl (yai (zr (zq (yab hE5) ?_)))); obtain ⟨hi5, h⟩ := h; refine zq (zA hi5) (zq (za (ii (v + 1))) (yaa ?_)); obtain ⟨mq, hlt, h⟩ := h; exact again mq _ _ _ ⟨_, _, _, _, _, _, h, rfl, hE1, hE3, hE4, rfl, (hS.sel [0, 1, 2] (by decide))⟩ hlt
  · replace h := h.2 hp; exact zd hp (yav rfl (zs (zq (yab hE3) (zq (za (ii n)) (yaa (yal rfl rfl ⟨_, rfl, (hS.sel [] (by decide)), h⟩))))))
def ycM (g : Int) (g2 : List E3) (R : Bool → Prop) : Prop :=
ydr g g2 (fun r =>
R (decide (r = 1)))
theorem ygZ {O : Nat → Prop} {w : World} {g g2 Ag lg cg} {R : Bool → Prop} (h : ycM g g2 R) (hO : ∀ k, O k → k < w.heap.size) (hA0 : (FP.sl c3 Ag lg cg g2).P O w) :
    Calls Tryz.prog 95 #[(.agg #[(ii g), (.slice Ag lg cg)])] w fun e w' => ∃ r2, e = .returned (.bool (r2)) ∧ Sep w no O w' (rl []) ∧ R r2 := by
  unfold ycM at h; have hS : Sep w no O w (rl [Res.ro (FP.sl c3 Ag lg cg g2)]) := Sep.startl hO [(FP.sl c3 Ag lg cg g2)] ⟨hA0, trivial⟩; refine yar (l := [(.agg #[(ii g), (.slice Ag lg cg)])]) func95 rfl ntmps95 (Nat.le_of_ble_eq_true rfl) (zs (zn (ybq (v := (.agg #[(ii g), (.slice Ag lg cg)])) rfl ?_))); intro g3 w2 hN; replace hS : Sep w no O w2 (stl _ 1 (Res.box 24 g3 [(ii g), (.slice Ag lg cg)])) := hS.new 1 rfl hN; clear hN; refine zb (zq (za (.bool (false))) (yaa (zs (zq (yas (vs := [(ii g), (.slice Ag lg cg)]) rfl underlying24 rfl yaq ⟨Row.cell (hS.bx 1 rfl) (i := 0) rfl, Row.cell (hS.bx 1 rfl) (i := 1) rfl, trivial⟩) (zn (yan rfl (am1 rfl) enter_139 ((pok_r08_Parts h (yaF _) (hS.rdr 0 rfl)).mono ?_))))))); rintro _ w3 ⟨r, rfl, hC, h⟩; replace hS := hS.pur hC.pure; clear hC; refine ⟨_, rfl, ?_⟩; exact zb (zq zE (zq (za (.bool (decide (r = 1)))) (yaa (yal rfl rfl ⟨_, rfl, (hS.sel [] (by decide)), h⟩))))
def yc7 (g : Int) (g2 : List E3) (R : Int → Prop) : Prop :=
ycR g g2 (fun r =>
((r = 0 →
ycM g g2 (fun r2 =>
((r2 = true →
R 0) ∧
(¬ (r2 = true) →
R 13)))) ∧
(¬ (r = 0) →
R r)))
theorem yjz {O : Nat → Prop} {w : World} {g g2 Ag lg cg} {R : Int → Prop} (h : yc7 g g2 R) (hO : ∀ k, O k → k < w.heap.size) (hA0 : (FP.sl c3 Ag lg cg g2).P O w) :
    Calls Tryz.prog 74 #[(.agg #[(ii g), (.slice Ag lg cg)])] w fun e w' => ∃ r3, e = .returned (ii r3) ∧ Sep w no O w' (rl []) ∧ R r3 := by
  unfold yc7 at h; have hS : Sep w no O w (rl [Res.ro (FP.sl c3 Ag lg cg g2)]) := Sep.startl hO [(FP.sl c3 Ag lg cg g2)] ⟨hA0, trivial⟩; refine yar (l := [(.agg #[(ii g), (.slice Ag lg cg)])]) func74 rfl ntmps74 (Nat.le_of_ble_eq_true rfl) (zs (zn (ybq (v := (.agg #[(ii g), (.slice Ag lg cg)])) rfl ?_))); intro g3 w2 hN; replace hS : Sep w no O w2 (stl _ 1 (Res.box 24 g3 [(ii g), (.slice Ag lg cg)])) := hS.new 1 rfl hN; clear hN; refine zb (zq (za (ii 0)) (yaa (yac (zs (zq (yas (vs := [(ii g), (.slice Ag lg cg)]) rfl underlying24 rfl yaq ⟨Row.cell (hS.bx 1 rfl) (i := 0) rfl, Row.cell (hS.bx 1 rfl) (i := 1) rfl, trivial⟩) (zn (yan rfl (am1 rfl) enter_93 ((ygB h (yaF _) (hS.rdr 0 rfl)).mono ?_)))))))); rintro _ w3 ⟨r, rfl, hC, h⟩; replace hS := hS.pur hC.pure; clear hC; refine ⟨_, rfl, ?_⟩; refine zb (zq (za (ii r)) (yaa (zs (zq (zm (ii r)) (zq zN (yaa ?_)))))); by_cases hp : r = 0
  · replace h := h.1 hp; refine ze hp (yaf (yac (zs (zq (yas (vs := [(ii g), (.slice Ag lg cg)]) rfl underlying24 rfl yaq ⟨Row.cell (hS.bx 1 rfl) (i := 0) rfl, Row.cell (hS.bx 1 rfl) (i := 1) rfl, trivial⟩) (zn (yan rfl (am1 rfl) enter_95 ((ygZ h (yaF _) (hS.rdr 0 rfl)).mono ?_))))))); rintro _ w4 ⟨r2, rfl, hC, h⟩; replace hS := hS.pur hC.pure; clear hC; refine ⟨_, rfl, ?_⟩; refine zb (zq (ydA rfl) (yaa ?_)); by_cases hp2 : r2 = true
    · replace h := h.1 hp2; exact yay (congrArg Value.bool (congrArg Bool.not hp2)) (yaf (zs (zq (za (ii 0)) (yaa (yal rfl rfl ⟨_, rfl, (hS.sel [] (by decide)), h⟩)))))
    · replace h := h.2 hp2; exact yau (congrArg Value.bool (congrArg Bool.not (Bool.eq_false_iff.2 hp2))) (zs (zq (za (ii 13)) (yaa (yal rfl rfl ⟨_, rfl, (hS.sel [] (by decide)), h⟩))))
  · replace h := h.2 hp; exact zf hp (zs (zq (zm (ii r)) (zq (za (ii r)) (yaa (yal rfl rfl ⟨_, rfl, (hS.sel [] (by decide)), h⟩)))))
def yeE (g : Int) (g2 : List E3) (d : List Int) (R : Bool → Prop) : Prop :=
((100 < ((d.length : Nat) : Int) →
R false) ∧
(¬ (100 < ((d.length : Nat) : Int)) →
ycP d g (fun r =>
((r = 0 →
(∃ I2 : Nat → Int → Prop, (∃ m0, I2 m0 0) ∧ ∀ m2 i, I2 m2 i → 
((i < ((d.length : Nat) : Int) →
((0 ≤ i ∧ i < ((d.length : Nat) : Int)) ∧
(((gi d i.toNat) < (-100) →
R false) ∧
(¬ ((gi d i.toNat) < (-100)) →
((100 < (gi d i.toNat) →
R false) ∧
(¬ (100 < (gi d i.toNat)) →
(In64 (i + 1) ∧
∃ m3, m3 < m2 ∧ I2 m3 (i + 1)))))))) ∧
(¬ (i < ((d.length : Nat) : Int)) →
R true)))) ∧
(¬ (r = 0) →
R true)))))
theorem pok_r34_Low {O : Nat → Prop} {w : World} {g g2 d Ag lg cg Ad ld cd} {R : Bool → Prop} (h : yeE g g2 d R) (hO : ∀ k, O k → k < w.heap.size) (hA0 : (FP.sl c3 Ag lg cg g2).P O w) (hA1 : (FP.sl cI Ad ld cd d).P O w) :
    Calls Tryz.prog 41 #[(.agg #[(ii g), (.slice Ag lg cg)]), (.slice Ad ld cd)] w fun e w' => ∃ r2, e = .returned (.bool (r2)) ∧ Sep w no O w' (rl []) ∧ R r2 := by
  unfold yeE at h; have hS : Sep w no O w (rl [Res.ro (FP.sl c3 Ag lg cg g2), Res.ro (FP.sl cI Ad ld cd d)]) := Sep.startl hO [(FP.sl c3 Ag lg cg g2), (FP.sl cI Ad ld cd d)] ⟨hA0, hA1, trivial⟩; refine yar (l := [(.agg #[(ii g), (.slice Ag lg cg)]), (.slice Ad ld cd)]) func41 rfl ntmps41 (Nat.le_of_ble_eq_true rfl) (zs (zn (ybq (v := (.agg #[(ii g), (.slice Ag lg cg)])) rfl ?_))); intro g3 w2 hN; replace hS : Sep w no O w2 (stl _ 2 (Res.box 24 g3 [(ii g), (.slice Ag lg cg)])) := hS.new 2 rfl hN; clear hN; refine zb (zq (za (.bool (false))) (yaa (yac (zs (zq (zm (.slice Ad ld cd)) (zq (yaO (n := d.length) rfl underlying25 (yaL (hS.rdr 1 rfl))) (zq zG (yaa ?_)))))))); by_cases hp : 100 < ((d.length : Nat) : Int)
  · replace h := h.1 hp; exact zc hp (zs (zq (za (.bool (false))) (yaa (yal rfl rfl ⟨_, rfl, (hS.sel [] (by decide)), h⟩))))
  · replace h := h.2 hp; refine zd hp (yaf (yac (zs (zq (zm (.slice Ad ld cd)) (zq (yam rfl underlying24 rfl yag) (zq (zl underlying3 (Row.cell (hS.bx 2 rfl) (i := 0) rfl)) (zn (yan rfl (am2 rfl rfl) yjY ((ygX h (yaF _) (hS.rdr 1 rfl)).mono ?_))))))))); rintro _ w3 ⟨r, rfl, hC, h⟩; replace hS := hS.pur hC.pure; clear hC; refine ⟨_, rfl, ?_⟩; refine zb (zq zN (yaa ?_)); by_cases hp2 : r = 0
    · replace h := h.1 hp2; refine ze hp2 (yaf (yac (zs (zq (za (ii 0)) (yaa (yak ?_)))))); obtain ⟨I2, ⟨m0, h0⟩, hr⟩ := h; refine yaw (fun m E ds w' => ∃ i, I2 m i ∧ ds = [] ∧ E 1 = (Value.slice Ad ld cd) ∧ E 5 = (ii i) ∧ Sep w no O w' (rl [Res.ro (FP.sl cI Ad ld cd d)])) m0 ⟨_, h0, rfl, rfl, rfl, (hS.sel [1] (by decide))⟩ ?_; clear h0 hS; rintro m2 E ds w4 ⟨i, h, rfl, hE1, hE5, hS⟩ again; replace h := hr m2 i h; clear hr; refine yac (zs (zq (yab hE5) (zq (yab hE1) (zq (yaO (n := d.length) rfl underlying25 (yaL (hS.rdr 0 rfl))) (zq zL (yaa ?_)))))); by_cases hp3 : i < ((d.length : Nat) : Int)
      · replace h := h.1 hp3; refine zc hp3 (yaf (yac (yak (zs (zq (yab hE1) (zq (yab hE5) ?_)))))); obtain ⟨hx, h⟩ := h; refine zq (zi underlying25 yag (yaG (hS.rdr 0 rfl) hx)) (zq (yah (v := (ii (gi d i.toNat))) rfl underlying3 rfl (rd_1 (hS.rdr 0 rfl) hx (fun q => yaI q) rfl)) ?_); refine zq zL (zq (zm (.bool (decide ((gi d i.toNat) < (-100))))) ?_); by_cases hp4 : (gi d i.toNat) < (-100)
        · replace h := h.1 hp4; exact rl_p (yad rfl (yaj rfl (congrArg Value.bool (decide_eq_true hp4))) rfl) rfl (rl_p (yad rfl (yaj rfl (congrArg Value.bool (decide_eq_true hp4))) rfl) rfl (rl_p (yad rfl (yaj rfl (congrArg Value.bool (decide_eq_true hp4))) rfl) rfl (rl_p (yad rfl (yaj rfl (congrArg Value.bool (decide_eq_true hp4))) rfl) rfl (rl_p (yad rfl (yaj rfl (congrArg Value.bool (decide_eq_true hp4))) rfl) rfl (zq (yaB (v := (.bool (true))) (congrArg Value.bool (decide_eq_true hp4)) rfl) (yaa (yau rfl (zs (zq (za (.bool (false))) (yaa (yal rfl rfl ⟨_, rfl, (hS.sel [] (by decide)), h⟩)))))))))))
        · replace h := h.2 hp4; refine rl_q (yae rfl (yaj rfl (congrArg Value.bool (decide_eq_false hp4)))) rfl rfl (yab hE1) (rl_q (yae rfl (yaj rfl (congrArg Value.bool (decide_eq_false hp4)))) rfl rfl (yab hE5) (rl_q (yae rfl (yaj rfl (congrArg Value.bool (decide_eq_false hp4)))) rfl rfl (zi underlying25 yag (yaG (hS.rdr 0 rfl) hx)) (rl_q (yae rfl (yaj rfl (congrArg Value.bool (decide_eq_false hp4)))) rfl rfl (yah (v := (ii (gi d i.toNat))) rfl underlying3 rfl (rd_1 (hS.rdr 0 rfl) hx (fun q => yaI q) rfl)) ?_))); refine rl_q (yae rfl (yaj rfl (congrArg Value.bool (decide_eq_false hp4)))) rfl rfl zG (zq (yaz (v := (.bool (decide (100 < (gi d i.toNat))))) (congrArg Value.bool (decide_eq_false hp4)) rfl) (yaa ?_)); by_cases hp5 : 100 < (gi d i.toNat)
          · replace h := h.1 hp5; exact zc hp5 (zs (zq (za (.bool (false))) (yaa (yal rfl rfl ⟨_, rfl, (hS.sel [] (by decide)), h⟩))))
          · replace h := h.2 hp5; refine zd hp5 (yaf (yai (zr (zq (yab hE5) ?_)))); obtain ⟨hi, h⟩ := h; refine zq (zA hi) (zq (za (ii (i + 1))) (yaa ?_)); obtain ⟨mq, hlt, h⟩ := h; exact again mq _ _ _ ⟨_, h, rfl, hE1, rfl, (hS.sel [0] (by decide))⟩ hlt
      · replace h := h.2 hp3; exact zd hp3 (yav rfl (zs (zq (za (.bool (true))) (yaa (yal rfl rfl ⟨_, rfl, (hS.sel [] (by decide)), h⟩)))))
    · replace h := h.2 hp2; exact zf hp2 (zs (zq (za (.bool (true))) (yaa (yal rfl rfl ⟨_, rfl, (hS.sel [] (by decide)), h⟩))))
def ycm (a : List Int) (b : List Int) (k : Int) (R : (List Int) → Prop) : Prop :=
((0 ≤ ((a.length : Nat) : Int) ∧ ((a.length : Nat) : Int) ≤ 1000000) ∧
(∃ I2 : Nat → Int → (List Int) → Prop, (∃ m0, I2 m0 0 (List.replicate ((a.length : Nat) : Int).toNat (0 : Int))) ∧ ∀ m2 i out, I2 m2 i out → 
((i < ((a.length : Nat) : Int) →
((0 ≤ i ∧ i < ((a.length : Nat) : Int)) ∧
((0 ≤ i ∧ i < ((b.length : Nat) : Int)) ∧
(In64 (k * (gi b i.toNat)) ∧
(In64 ((gi a i.toNat) + (k * (gi b i.toNat))) ∧
((0 ≤ i ∧ i < ((out.length : Nat) : Int)) ∧
(In64 (i + 1) ∧
∃ m3, m3 < m2 ∧ I2 m3 (i + 1) (out.set i.toNat ((gi a i.toNat) + (k * (gi b i.toNat))))))))))) ∧
(¬ (i < ((a.length : Nat) : Int)) →
R out))))
theorem yek {O : Nat → Prop} {w : World} {a b k Aa la ca Ab lb cb} {R : (List Int) → Prop} (h : ycm a b k R) (hO : ∀ k, O k → k < w.heap.size) (hA0 : (FP.sl cI Aa la ca a).P O w) (hA1 : (FP.sl cI Ab lb cb b).P O w) :
    Calls Tryz.prog 49 #[(.slice Aa la ca), (.slice Ab lb cb), (ii k)] w fun e w' => ∃ r Ar lr cr, e = .returned (.slice Ar lr cr) ∧ Sep w no O w' (rl [Res.own cI 3 Ar lr cr r]) ∧ R r := by
  unfold ycm at h; have hS : Sep w no O w (rl [Res.ro (FP.sl cI Aa la ca a), Res.ro (FP.sl cI Ab lb cb b)]) := Sep.startl hO [(FP.sl cI Aa la ca a), (FP.sl cI Ab lb cb b)] ⟨hA0, hA1, trivial⟩; refine yar (l := [(.slice Aa la ca), (.slice Ab lb cb), (ii k)]) func49 rfl ntmps49 (Nat.le_of_ble_eq_true rfl) (zs (zq (za (.slice none 0 0)) (yaa (zs (zq (zm (.slice Aa la ca)) (zq (yaO (n := a.length) rfl underlying25 (yaL (hS.rdr 0 rfl))) ?_)))))); obtain ⟨hx, h⟩ := h; refine zn (ygJ rfl rfl underlying25 yag (by decide) rfl hx ?_); intro g w2 hN; replace hS := hS.made 2 rfl cI (ii 0) (0 : Int) (fun _ _ => rfl) hN (by omega); clear hN; refine zb (zq (za (.slice (some ⟨g, 0, none⟩) (((a.length : Nat) : Int).toNat) (((a.length : Nat) : Int).toNat))) (yaa (yac (zs (zq (za (ii 0)) (yaa (yak ?_))))))); obtain ⟨I2, ⟨m0, h0⟩, hr⟩ := h; refine yaw (fun m E ds w' => ∃ i out Aout lout cout, I2 m i out ∧ ds = [] ∧ E 0 = (Value.slice Aa la ca) ∧ E 1 = (Value.slice Ab lb cb) ∧ E 2 = (ii k) ∧ E 7 = (Value.slice Aout lout cout) ∧ E 8 = (ii i) ∧ Sep w no O w' (rl [Res.ro (FP.sl cI Aa la ca a), Res.ro (FP.sl cI Ab lb cb b), Res.own cI 3 Aout lout cout out])) m0 ⟨_, _, _, _, _, h0, rfl, rfl, rfl, rfl, rfl, rfl, (hS.sel [0, 1, 2] (by decide))⟩ ?_; clear h0 hS; rintro m2 E ds w3 ⟨i, out, Aout, lout, cout, h, rfl, hE0, hE1, hE2, hE7, hE8, hS⟩ again; replace h := hr m2 i out h; clear hr; refine yac (zs (zq (yab hE8) (zq (yab hE0) (zq (yaO (n := a.length) rfl underlying25 (yaL (hS.rdr 0 rfl))) (zq zL (yaa ?_)))))); by_cases hp : i < ((a.length : Nat) : Int)
  · replace h := h.1 hp; refine zc hp (yaf (yac (yak (ya3 [0, 1, 2, 3, 4, 5, 6, 7, 8, 9, 10, 11, 12, 13, 14] st0 ya8 (by kernel_rfl) (by kernel_rfl) ?_)))); replace hS := hS.drew; refine zp (yab hE7) (zp (yab hE8) (zp (yab hE0) (zp (yab hE8) ?_))); obtain ⟨hx2, h⟩ := h; refine zp (zi underlying25 yag (yaG (hS.rdr 0 rfl) hx2)) (zp (yah (v := (ii (gi a i.toNat))) rfl underlying3 rfl (rd_1 (hS.rdr 0 rfl) hx2 (fun q => yaI q) rfl)) ?_); refine zp (yab hE2) (zp (yab hE1) (zp (yab hE8) ?_)); obtain ⟨hx3, h⟩ := h; refine zp (zi underlying25 yag (yaG (hS.rdr 1 rfl) hx3)) (zp (yah (v := (ii (gi b i.toNat))) rfl underlying3 rfl (rd_1 (hS.rdr 1 rfl) hx3 (fun q => yaI q) rfl)) ?_); obtain ⟨hi, h⟩ := h; refine zp (v_mul rfl rfl hi) ?_; obtain ⟨hi2, h⟩ := h; refine zp (zA hi2) ?_; obtain ⟨hx4, h⟩ := h; refine zp (zi underlying25 yag (yaG (hS.rdo 2 rfl) hx4)) (yg8 rfl rfl rfl (zt (ii ((gi a i.toNat) + (k * (gi b i.toNat)))) yag (hS.wr 2 rfl rfl hx4) ?_)); intro w4 e1; replace hS := hS.st 2 rfl rfl hx4 (x := (gi a i.toNat) + (k * (gi b i.toNat))) rfl e1; clear e1; refine zb (ybl (yai (zr (zq (yab hE8) ?_)))); obtain ⟨hi3, h⟩ := h; refine zq (zA hi3) (zq (za (ii (i + 1))) (yaa ?_)); obtain ⟨mq, hlt, h⟩ := h; exact again mq _ _ _ ⟨_, _, _, _, _, h, rfl, hE0, hE1, hE2, hE7, rfl, (hS.sel [0, 1, 2] (by decide))⟩ hlt
  · replace h := h.2 hp; exact zd hp (yav rfl (zs (zq (yab hE7) (zq (za (.slice Aout lout cout)) (yaa (yal rfl rfl ⟨_, _, _, _, rfl, (hS.sel [2] (by decide)), h⟩))))))
end Go.Proofs.YtmeoemmemjipdaaGreat

/- Pure forms of functions, made by program (pf.py), each with the proof that the code does so. -/
namespace Go.Proofs.YtmeoemmemjipdaaGreat
open Go Go.RowKit Go.Shelf Go.Proofs.Tryz
set_option linter.unusedVariables false
set_option maxRecDepth 100000
set_option maxHeartbeats 1000000
def yeQ (g : Int) (g2 : List E3) (set2 : Int) (v : Int) (R : Int → Prop) : Prop :=
(∃ I2 : Nat → Int → Int → Prop, (∃ m0, I2 m0 0 0) ∧ ∀ m2 n u, I2 m2 n u → 
((u < g →
(∃ J2 : Prop, (J2 → ya9 g g2 u v (fun r =>
(In64 (n + r) ∧
(In64 (u + 1) ∧
∃ m3, m3 < m2 ∧ I2 m3 (n + r) (u + 1))))) ∧
((u = v →
(In64 (u + 1) ∧
∃ m4, m4 < m2 ∧ I2 m4 n (u + 1))) ∧
(¬ (u = v) →
((0 ≤ u ∧ u < 64) ∧
((0 ≤ (set2 / 2 ^ u.toNat) ∧ (set2 / 2 ^ u.toNat) < 9223372036854775808 ∧ 0 ≤ (1 : Int) ∧ (1 : Int) < 9223372036854775808) ∧
(((((set2 / 2 ^ u.toNat).toNat &&& (1 : Int).toNat : Nat) : Int) = 0 →
J2) ∧
(¬ ((((set2 / 2 ^ u.toNat).toNat &&& (1 : Int).toNat : Nat) : Int) = 0) →
(In64 (u + 1) ∧
∃ m5, m5 < m2 ∧ I2 m5 n (u + 1)))))))))) ∧
(¬ (u < g) →
R n)))
theorem pok_r25_out {O : Nat → Prop} {w : World} {g g2 set2 v Ag lg cg} {R : Int → Prop} (h : yeQ g g2 set2 v R) (hO : ∀ k, O k → k < w.heap.size) (hA0 : (FP.sl c3 Ag lg cg g2).P O w) :
    Calls Tryz.prog 179 #[(.agg #[(ii g), (.slice Ag lg cg)]), (ii set2), (ii v)] w fun e w' => ∃ r2, e = .returned (ii r2) ∧ Sep w no O w' (rl []) ∧ R r2 := by
  unfold yeQ at h; have hS : Sep w no O w (rl [Res.ro (FP.sl c3 Ag lg cg g2)]) := Sep.startl hO [(FP.sl c3 Ag lg cg g2)] ⟨hA0, trivial⟩; refine yar (l := [(.agg #[(ii g), (.slice Ag lg cg)]), (ii set2), (ii v)]) func179 rfl ntmps179 (Nat.le_of_ble_eq_true rfl) (zs (zn (ybq (v := (.agg #[(ii g), (.slice Ag lg cg)])) rfl ?_))); intro g3 w2 hN; replace hS : Sep w no O w2 (stl _ 1 (Res.box 24 g3 [(ii g), (.slice Ag lg cg)])) := hS.new 1 rfl hN; clear hN; refine zb (zq (za (ii 0)) (yaa (zs (zq (za (ii 0)) (yaa (yac (zs (zq (za (ii 0)) (yaa (yak ?_)))))))))); obtain ⟨I2, ⟨m0, h0⟩, hr⟩ := h; refine yaw (fun m E ds w' => ∃ n u, I2 m n u ∧ ds = [] ∧ E 1 = (ii set2) ∧ E 2 = (ii v) ∧ E 3 = (Value.pointer (some (⟨g3, 0, none⟩ : Addr))) ∧ E 7 = (ii n) ∧ E 8 = (ii u) ∧ Sep w no O w' (rl [Res.box 24 g3 [(ii g), (.slice Ag lg cg)], Res.ro (FP.sl c3 Ag lg cg g2)])) m0 ⟨_, _, h0, rfl, rfl, rfl, rfl, rfl, rfl, (hS.sel [1, 0] (by decide))⟩ ?_; clear h0 hS; rintro m2 E ds w3 ⟨n, u, h, rfl, hE1, hE2, hE3, hE7, hE8, hS⟩ again; replace h := hr m2 n u h; clear hr; refine yac (zs (zq (yab hE8) (zq (yam hE3 underlying24 rfl yag) (zq (zl underlying3 (Row.cell (hS.bx 0 rfl) (i := 0) rfl)) (zq zL (yaa ?_)))))); by_cases hp : u < g
  · replace h := h.1 hp; refine zc hp (yaf (yac (yak (yac ?_)))); obtain ⟨J2, hJ, h⟩ := h; refine wt_cutA1 (fun E ds w' => J2 ∧ ds = [] ∧ E 1 = (ii set2) ∧ E 2 = (ii v) ∧ E 3 = (Value.pointer (some (⟨g3, 0, none⟩ : Addr))) ∧ E 7 = (ii n) ∧ E 8 = (ii u) ∧ Sep w no O w' (rl [Res.box 24 g3 [(ii g), (.slice Ag lg cg)], Res.ro (FP.sl c3 Ag lg cg g2)])) ?_ ?_
    · clear h hS; rintro E ds w4 ⟨h, rfl, hE1, hE2, hE3, hE7, hE8, hS⟩; replace h := hJ h; refine zr (zq (yab hE7) (zq (yas (vs := [(ii g), (.slice Ag lg cg)]) hE3 underlying24 rfl yaq ⟨Row.cell (hS.bx 0 rfl) (i := 0) rfl, Row.cell (hS.bx 0 rfl) (i := 1) rfl, trivial⟩) (zq (yab hE8) (zq (yab hE2) (zn (yan rfl (am3 rfl rfl rfl) yeN ((ybW h (yaF _) (hS.rdr 1 rfl)).mono ?_))))))); rintro _ w5 ⟨r, rfl, hC, h⟩; replace hS := hS.pur hC.pure; clear hC; refine ⟨_, rfl, ?_⟩; refine zb ?_; obtain ⟨hi, h⟩ := h; refine zq (zA hi) (zq (za (ii (n + r))) (yaa (yai (zr (zq (yab hE8) ?_))))); obtain ⟨hi2, h⟩ := h; refine zq (zA hi2) (zq (za (ii (u + 1))) (yaa ?_)); obtain ⟨mq, hlt, h⟩ := h; exact again mq _ _ _ ⟨_, _, h, rfl, hE1, hE2, hE3, rfl, rfl, (hS.sel [0, 1] (by decide))⟩ hlt
    clear hJ; intro j; refine zr (zq (yab hE8) (zq (yab hE2) (zq zN (zq (zm (.bool (!(decide (u = v))))) ?_)))); by_cases hp2 : u = v
    · replace h := h.1 hp2; refine rl_p (yad rfl (yaj rfl (congrArg Value.bool (congrArg Bool.not (decide_eq_true hp2)))) rfl) rfl (rl_p (yad rfl (yaj rfl (congrArg Value.bool (congrArg Bool.not (decide_eq_true hp2)))) rfl) rfl (rl_p (yad rfl (yaj rfl (congrArg Value.bool (congrArg Bool.not (decide_eq_true hp2)))) rfl) rfl (rl_p (yad rfl (yaj rfl (congrArg Value.bool (congrArg Bool.not (decide_eq_true hp2)))) rfl) rfl (rl_p (yad rfl (yaj rfl (congrArg Value.bool (congrArg Bool.not (decide_eq_true hp2)))) rfl) rfl (zq (yaz (v := (.bool (false))) (congrArg Value.bool (congrArg Bool.not (decide_eq_true hp2))) rfl) (yaa (yay rfl (yaf (yai (zr (zq (yab hE8) ?_))))))))))); obtain ⟨hi3, h⟩ := h; refine zq (zA hi3) (zq (za (ii (u + 1))) (yaa ?_)); obtain ⟨mq, hlt, h⟩ := h; exact again mq _ _ _ ⟨_, _, h, rfl, hE1, hE2, hE3, hE7, rfl, (hS.sel [0, 1] (by decide))⟩ hlt
    · replace h := h.2 hp2; refine rl_q (yae rfl (yaj rfl (congrArg Value.bool (congrArg Bool.not (decide_eq_false hp2))))) rfl rfl (yab hE1) (rl_q (yae rfl (yaj rfl (congrArg Value.bool (congrArg Bool.not (decide_eq_false hp2))))) rfl rfl (yab hE8) ?_); obtain ⟨hz, h⟩ := h; refine rl_q (yae rfl (yaj rfl (congrArg Value.bool (congrArg Bool.not (decide_eq_false hp2))))) rfl rfl (v_shr rfl rfl hz) ?_; obtain ⟨hz2, h⟩ := h; refine rl_q (yae rfl (yaj rfl (congrArg Value.bool (congrArg Bool.not (decide_eq_false hp2))))) rfl rfl (v_andb rfl rfl hz2) (rl_q (yae rfl (yaj rfl (congrArg Value.bool (congrArg Bool.not (decide_eq_false hp2))))) rfl rfl zE (zq (yaB (v := (.bool (decide ((((set2 / 2 ^ u.toNat).toNat &&& (1 : Int).toNat : Nat) : Int) = 0)))) (congrArg Value.bool (congrArg Bool.not (decide_eq_false hp2))) rfl) (yaa ?_))); by_cases hp3 : (((set2 / 2 ^ u.toNat).toNat &&& (1 : Int).toNat : Nat) : Int) = 0
      · replace h := h.1 hp3; exact zc hp3 (j _ _ _ ⟨h, rfl, hE1, hE2, hE3, hE7, hE8, (hS.sel [0, 1] (by decide))⟩)
      · replace h := h.2 hp3; refine zd hp3 (yaf (yai (zr (zq (yab hE8) ?_)))); obtain ⟨hi4, h⟩ := h; refine zq (zA hi4) (zq (za (ii (u + 1))) (yaa ?_)); obtain ⟨mq, hlt, h⟩ := h; exact again mq _ _ _ ⟨_, _, h, rfl, hE1, hE2, hE3, hE7, rfl, (hS.sel [0, 1] (by decide))⟩ hlt
  · replace h := h.2 hp; exact zd hp (yav rfl (zs (zq (yab hE7) (zq (za (ii n)) (yaa (yal rfl rfl ⟨_, rfl, (hS.sel [] (by decide)), h⟩))))))
def yeW (g : Int) (g2 : List E3) (d : List Int) (set2 : Int) (R : Bool → Prop) : Prop :=
(∃ I2 : Nat → Int → Prop, (∃ m0, I2 m0 0) ∧ ∀ m2 v, I2 m2 v → 
((v < g →
((0 ≤ v ∧ v < 64) ∧
((0 ≤ (set2 / 2 ^ v.toNat) ∧ (set2 / 2 ^ v.toNat) < 9223372036854775808 ∧ 0 ≤ (1 : Int) ∧ (1 : Int) < 9223372036854775808) ∧
(((((set2 / 2 ^ v.toNat).toNat &&& (1 : Int).toNat : Nat) : Int) = 1 →
((0 ≤ v ∧ v < ((d.length : Nat) : Int)) ∧
yeQ g g2 set2 v (fun r =>
(((gi d v.toNat) < r →
R false) ∧
(¬ ((gi d v.toNat) < r) →
(In64 (v + 1) ∧
∃ m3, m3 < m2 ∧ I2 m3 (v + 1))))))) ∧
(¬ ((((set2 / 2 ^ v.toNat).toNat &&& (1 : Int).toNat : Nat) : Int) = 1) →
(In64 (v + 1) ∧
∃ m4, m4 < m2 ∧ I2 m4 (v + 1))))))) ∧
(¬ (v < g) →
R true)))
theorem pok_r25_May {O : Nat → Prop} {w : World} {g g2 d set2 Ag lg cg Ad ld cd} {R : Bool → Prop} (h : yeW g g2 d set2 R) (hO : ∀ k, O k → k < w.heap.size) (hA0 : (FP.sl c3 Ag lg cg g2).P O w) (hA1 : (FP.sl cI Ad ld cd d).P O w) :
    Calls Tryz.prog 178 #[(.agg #[(ii g), (.slice Ag lg cg)]), (.slice Ad ld cd), (ii set2)] w fun e w' => ∃ r2, e = .returned (.bool (r2)) ∧ Sep w no O w' (rl []) ∧ R r2 := by
  unfold yeW at h; have hS : Sep w no O w (rl [Res.ro (FP.sl c3 Ag lg cg g2), Res.ro (FP.sl cI Ad ld cd d)]) := Sep.startl hO [(FP.sl c3 Ag lg cg g2), (FP.sl cI Ad ld cd d)] ⟨hA0, hA1, trivial⟩; refine yar (l := [(.agg #[(ii g), (.slice Ag lg cg)]), (.slice Ad ld cd), (ii set2)]) func178 rfl ntmps178 (Nat.le_of_ble_eq_true rfl) (zs (zn (ybq (v := (.agg #[(ii g), (.slice Ag lg cg)])) rfl ?_))); intro g3 w2 hN; replace hS : Sep w no O w2 (stl _ 2 (Res.box 24 g3 [(ii g), (.slice Ag lg cg)])) := hS.new 2 rfl hN; clear hN; refine zb (zq (za (.bool (false))) (yaa (yac (zs (zq (za (ii 0)) (yaa (yak ?_))))))); obtain ⟨I2, ⟨m0, h0⟩, hr⟩ := h; refine yaw (fun m E ds w' => ∃ v, I2 m v ∧ ds = [] ∧ E 1 = (Value.slice Ad ld cd) ∧ E 2 = (ii set2) ∧ E 3 = (Value.pointer (some (⟨g3, 0, none⟩ : Addr))) ∧ E 7 = (ii v) ∧ Sep w no O w' (rl [Res.ro (FP.sl cI Ad ld cd d), Res.box 24 g3 [(ii g), (.slice Ag lg cg)], Res.ro (FP.sl c3 Ag lg cg g2)])) m0 ⟨_, h0, rfl, rfl, rfl, rfl, rfl, (hS.sel [1, 2, 0] (by decide))⟩ ?_; clear h0 hS; rintro m2 E ds w3 ⟨v, h, rfl, hE1, hE2, hE3, hE7, hS⟩ again; replace h := hr m2 v h; clear hr; refine yac (zs (zq (yab hE7) (zq (yam hE3 underlying24 rfl yag) (zq (zl underlying3 (Row.cell (hS.bx 1 rfl) (i := 0) rfl)) (zq zL (yaa ?_)))))); by_cases hp : v < g
  · replace h := h.1 hp; refine zc hp (yaf (yac (yak (yac (ya3 [0, 1, 2, 3, 4, 5, 6, 7, 8, 9, 10, 11, 12, 13, 14, 15] (fun i => match i with | 13 => [6, 7, 8, 9] | _ => []) ya8 (by kernel_rfl) (by kernel_rfl) ?_))))); replace hS := hS.drew; refine zp (yab hE2) (zp (yab hE7) ?_); obtain ⟨hz, h⟩ := h; refine zp (v_shr rfl rfl hz) ?_; obtain ⟨hz2, h⟩ := h; refine zp (v_andb rfl rfl hz2) (zp zE (zp (zm (.bool (decide ((((set2 / 2 ^ v.toNat).toNat &&& (1 : Int).toNat : Nat) : Int) = 1)))) ?_)); by_cases hp2 : (((set2 / 2 ^ v.toNat).toNat &&& (1 : Int).toNat : Nat) : Int) = 1
    · replace h := h.1 hp2; refine rp_q (yae rfl (yaj rfl (congrArg Value.bool (decide_eq_true hp2)))) rfl rfl (yab hE1) (rp_q (yae rfl (yaj rfl (congrArg Value.bool (decide_eq_true hp2)))) rfl rfl (yab hE7) ?_); obtain ⟨hx, h⟩ := h; refine rp_q (yae rfl (yaj rfl (congrArg Value.bool (decide_eq_true hp2)))) rfl rfl (zi underlying25 yag (yaG (hS.rdr 0 rfl) hx)) (rp_q (yae rfl (yaj rfl (congrArg Value.bool (decide_eq_true hp2)))) rfl rfl (yah (v := (ii (gi d v.toNat))) rfl underlying3 rfl (rd_1 (hS.rdr 0 rfl) hx (fun q => yaI q) rfl)) ?_); refine rp_q (yae rfl (yaj rfl (congrArg Value.bool (decide_eq_true hp2)))) rfl rfl (yas (vs := [(ii g), (.slice Ag lg cg)]) hE3 underlying24 rfl yaq ⟨Row.cell (hS.bx 1 rfl) (i := 0) rfl, Row.cell (hS.bx 1 rfl) (i := 1) rfl, trivial⟩) (rp_q (yae rfl (yaj rfl (congrArg Value.bool (decide_eq_true hp2)))) rfl rfl (yab hE2) (rp_q (yae rfl (yaj rfl (congrArg Value.bool (decide_eq_true hp2)))) rfl rfl (yab hE7) (rp_n (yae rfl (yaj rfl (congrArg Value.bool (decide_eq_true hp2)))) rfl rfl rfl (yan rfl (am3 rfl rfl rfl) enter_179 ((pok_r25_out h (yaF _) (hS.rdr 2 rfl)).mono ?_))))); rintro _ w4 ⟨r, rfl, hC, h⟩; replace hS := hS.pur hC.pure; clear hC; refine ⟨_, rfl, ?_⟩; refine ⟨⟨fun hh => Bool.noConfusion (show false = true from hh), ⟨fun hh => Bool.noConfusion (show false = true from hh), ⟨fun hh => Bool.noConfusion (show false = true from hh), ⟨fun _ => (yah (v := (ii (gi d v.toNat))) rfl underlying3 rfl (rd_1 (hS.rdr 0 rfl) hx (fun q => yaI q) rfl)), ⟨fun _ => (zi underlying25 yag (yaG (hS.rdr 0 rfl) hx)), ⟨fun _ => (yab hE7), ⟨fun _ => (yab hE1), ⟨fun hh => Bool.noConfusion (show false = true from hh), ⟨fun hh => Bool.noConfusion (show false = true from hh), ⟨fun hh => Bool.noConfusion (show false = true from hh), ⟨fun hh => Bool.noConfusion (show false = true from hh), ⟨fun hh => Bool.noConfusion (show false = true from hh), ⟨fun hh => Bool.noConfusion (show false = true from hh), trivial⟩⟩⟩⟩⟩⟩⟩⟩⟩⟩⟩⟩⟩, ?_⟩; refine rp_q (yae rfl (yaj rfl (congrArg Value.bool (decide_eq_true hp2)))) rfl rfl zL (zp (yaB (v := (.bool (decide ((gi d v.toNat) < r)))) (congrArg Value.bool (decide_eq_true hp2)) rfl) (ybl ?_)); by_cases hp3 : (gi d v.toNat) < r
      · replace h := h.1 hp3; exact zc hp3 (zs (zq (za (.bool (false))) (yaa (yal rfl rfl ⟨_, rfl, (hS.sel [] (by decide)), h⟩))))
      · replace h := h.2 hp3; refine zd hp3 (yaf (yai (zr (zq (yab hE7) ?_)))); obtain ⟨hi, h⟩ := h; refine zq (zA hi) (zq (za (ii (v + 1))) (yaa ?_)); obtain ⟨mq, hlt, h⟩ := h; exact again mq _ _ _ ⟨_, h, rfl, hE1, hE2, hE3, rfl, (hS.sel [0, 1, 2] (by decide))⟩ hlt
    · replace h := h.2 hp2; refine rp_p (yad rfl (yaj rfl (congrArg Value.bool (decide_eq_false hp2))) rfl) rfl (rp_p (yad rfl (yaj rfl (congrArg Value.bool (decide_eq_false hp2))) rfl) rfl (rp_p (yad rfl (yaj rfl (congrArg Value.bool (decide_eq_false hp2))) rfl) rfl (rp_p (yad rfl (yaj rfl (congrArg Value.bool (decide_eq_false hp2))) rfl) rfl (rp_p (yad rfl (yaj rfl (congrArg Value.bool (decide_eq_false hp2))) rfl) rfl (rp_p (yad rfl (yaj rfl (congrArg Value.bool (decide_eq_false hp2))) rfl) rfl (rp_p (yad rfl (yaj rfl (congrArg Value.bool (decide_eq_false hp2))) rfl) rfl (rp_p (yad rfl (yaj rfl (congrArg Value.bool (decide_eq_false hp2))) rfl) rfl (rp_p (yad rfl (yaj rfl (congrArg Value.bool (decide_eq_false hp2))) rfl) rfl (zp (yaz (v := (.bool (false))) (congrArg Value.bool (decide_eq_false hp2)) rfl) (ybl (yay rfl (yaf (yai (zr (zq (yab hE7) ?_))))))))))))))); obtain ⟨hi2, h⟩ := h; refine zq (zA hi2) (zq (za (ii (v + 1))) (yaa ?_)); obtain ⟨mq, hlt, h⟩ := h; exact again mq _ _ _ ⟨_, h, rfl, hE1, hE2, hE3, rfl, (hS.sel [0, 1, 2] (by decide))⟩ hlt
  · replace h := h.2 hp; exact zd hp (yav rfl (zs (zq (za (.bool (true))) (yaa (yal rfl rfl ⟨_, rfl, (hS.sel [] (by decide)), h⟩)))))
def ydt (g : Int) (g2 : List E3) (q : Int) (d : List Int) (R : Bool → Prop) : Prop :=
(∃ I2 : Nat → Int → Prop, (∃ m0, I2 m0 1) ∧ ∀ m2 set2, I2 m2 set2 → 
((0 ≤ g ∧ g < 64) ∧
In64 (1 * 2 ^ g.toNat) ∧
((set2 < (1 * 2 ^ g.toNat) →
((0 ≤ q ∧ q < 64) ∧
((0 ≤ (set2 / 2 ^ q.toNat) ∧ (set2 / 2 ^ q.toNat) < 9223372036854775808 ∧ 0 ≤ (1 : Int) ∧ (1 : Int) < 9223372036854775808) ∧
(((((set2 / 2 ^ q.toNat).toNat &&& (1 : Int).toNat : Nat) : Int) = 0 →
yeW g g2 d set2 (fun r =>
((r = true →
R false) ∧
(¬ (r = true) →
(In64 (set2 + 1) ∧
∃ m3, m3 < m2 ∧ I2 m3 (set2 + 1)))))) ∧
(¬ ((((set2 / 2 ^ q.toNat).toNat &&& (1 : Int).toNat : Nat) : Int) = 0) →
(In64 (set2 + 1) ∧
∃ m4, m4 < m2 ∧ I2 m4 (set2 + 1))))))) ∧
(¬ (set2 < (1 * 2 ^ g.toNat)) →
R true))))
theorem pok_r25_Tight {O : Nat → Prop} {w : World} {g g2 q d Ag lg cg Ad ld cd} {R : Bool → Prop} (h : ydt g g2 q d R) (hO : ∀ k, O k → k < w.heap.size) (hA0 : (FP.sl c3 Ag lg cg g2).P O w) (hA1 : (FP.sl cI Ad ld cd d).P O w) :
    Calls Tryz.prog 176 #[(.agg #[(ii g), (.slice Ag lg cg)]), (ii q), (.slice Ad ld cd)] w fun e w' => ∃ r2, e = .returned (.bool (r2)) ∧ Sep w no O w' (rl []) ∧ R r2 := by
  unfold ydt at h; have hS : Sep w no O w (rl [Res.ro (FP.sl c3 Ag lg cg g2), Res.ro (FP.sl cI Ad ld cd d)]) := Sep.startl hO [(FP.sl c3 Ag lg cg g2), (FP.sl cI Ad ld cd d)] ⟨hA0, hA1, trivial⟩; refine yar (l := [(.agg #[(ii g), (.slice Ag lg cg)]), (ii q), (.slice Ad ld cd)]) func176 rfl ntmps176 (Nat.le_of_ble_eq_true rfl) (zs (zn (ybq (v := (.agg #[(ii g), (.slice Ag lg cg)])) rfl ?_))); intro g3 w2 hN; replace hS : Sep w no O w2 (stl _ 2 (Res.box 24 g3 [(ii g), (.slice Ag lg cg)])) := hS.new 2 rfl hN; clear hN; refine zb (zq (za (.bool (false))) (yaa (yac (zs (zq (za (ii 1)) (yaa (yak ?_))))))); obtain ⟨I2, ⟨m0, h0⟩, hr⟩ := h; refine yaw (fun m E ds w' => ∃ set2, I2 m set2 ∧ ds = [] ∧ E 1 = (ii q) ∧ E 2 = (Value.slice Ad ld cd) ∧ E 3 = (Value.pointer (some (⟨g3, 0, none⟩ : Addr))) ∧ E 7 = (ii set2) ∧ Sep w no O w' (rl [Res.ro (FP.sl cI Ad ld cd d), Res.box 24 g3 [(ii g), (.slice Ag lg cg)], Res.ro (FP.sl c3 Ag lg cg g2)])) m0 ⟨_, h0, rfl, rfl, rfl, rfl, rfl, (hS.sel [1, 2, 0] (by decide))⟩ ?_; clear h0 hS; rintro m2 E ds w3 ⟨set2, h, rfl, hE1, hE2, hE3, hE7, hS⟩ again; replace h := hr m2 set2 h; clear hr; refine yac (zs (zq (yab hE7) (zq (yam hE3 underlying24 rfl yag) (zq (zl underlying3 (Row.cell (hS.bx 1 rfl) (i := 0) rfl)) ?_)))); obtain ⟨hz, h⟩ := h; obtain ⟨hi, h⟩ := h; refine zq (v_shl rfl rfl hz hi) (zq zL (yaa ?_)); by_cases hp : set2 < (1 * 2 ^ g.toNat)
  · replace h := h.1 hp; refine zc hp (yaf (yac (yak (zs (zq (yab hE7) (zq (yab hE1) ?_)))))); obtain ⟨hz2, h⟩ := h; refine zq (v_shr rfl rfl hz2) ?_; obtain ⟨hz3, h⟩ := h; refine zq (v_andb rfl rfl hz3) (zq zE (zq (zm (.bool (decide ((((set2 / 2 ^ q.toNat).toNat &&& (1 : Int).toNat : Nat) : Int) = 0)))) ?_)); by_cases hp2 : (((set2 / 2 ^ q.toNat).toNat &&& (1 : Int).toNat : Nat) : Int) = 0
    · replace h := h.1 hp2; refine rl_q (yae rfl (yaj rfl (congrArg Value.bool (decide_eq_true hp2)))) rfl rfl (yas (vs := [(ii g), (.slice Ag lg cg)]) hE3 underlying24 rfl yaq ⟨Row.cell (hS.bx 1 rfl) (i := 0) rfl, Row.cell (hS.bx 1 rfl) (i := 1) rfl, trivial⟩) (rl_q (yae rfl (yaj rfl (congrArg Value.bool (decide_eq_true hp2)))) rfl rfl (yab hE2) (rl_q (yae rfl (yaj rfl (congrArg Value.bool (decide_eq_true hp2)))) rfl rfl (yab hE7) (rl_n (yae rfl (yaj rfl (congrArg Value.bool (decide_eq_true hp2)))) rfl rfl rfl (yan rfl (am3 rfl rfl rfl) enter_178 ((pok_r25_May h (yaF _) (hS.rdr 2 rfl) (hS.rdr 0 rfl)).mono ?_))))); rintro _ w4 ⟨r, rfl, hC, h⟩; replace hS := hS.pur hC.pure; clear hC; refine ⟨_, rfl, ?_⟩; refine zb (zq (yaB (v := (.bool (r))) (congrArg Value.bool (decide_eq_true hp2)) rfl) (yaa ?_)); by_cases hp3 : r = true
      · replace h := h.1 hp3; exact yau (congrArg Value.bool hp3) (zs (zq (za (.bool (false))) (yaa (yal rfl rfl ⟨_, rfl, (hS.sel [] (by decide)), h⟩))))
      · replace h := h.2 hp3; refine yay (congrArg Value.bool (Bool.eq_false_iff.2 hp3)) (yaf (yai (zr (zq (yab hE7) ?_)))); obtain ⟨hi2, h⟩ := h; refine zq (zA hi2) (zq (za (ii (set2 + 1))) (yaa ?_)); obtain ⟨mq, hlt, h⟩ := h; exact again mq _ _ _ ⟨_, h, rfl, hE1, hE2, hE3, rfl, (hS.sel [0, 1, 2] (by decide))⟩ hlt
    · replace h := h.2 hp2; refine rl_p (yad rfl (yaj rfl (congrArg Value.bool (decide_eq_false hp2))) rfl) rfl (rl_p (yad rfl (yaj rfl (congrArg Value.bool (decide_eq_false hp2))) rfl) rfl (rl_p (yad rfl (yaj rfl (congrArg Value.bool (decide_eq_false hp2))) rfl) rfl (rl_p (yad rfl (yaj rfl (congrArg Value.bool (decide_eq_false hp2))) rfl) rfl (zq (yaz (v := (.bool (false))) (congrArg Value.bool (decide_eq_false hp2)) rfl) (yaa (yay rfl (yaf (yai (zr (zq (yab hE7) ?_)))))))))); obtain ⟨hi3, h⟩ := h; refine zq (zA hi3) (zq (za (ii (set2 + 1))) (yaa ?_)); obtain ⟨mq, hlt, h⟩ := h; exact again mq _ _ _ ⟨_, h, rfl, hE1, hE2, hE3, rfl, (hS.sel [0, 1, 2] (by decide))⟩ hlt
  · replace h := h.2 hp; exact zd hp (yav rfl (zs (zq (za (.bool (true))) (yaa (yal rfl rfl ⟨_, rfl, (hS.sel [] (by decide)), h⟩)))))
end Go.Proofs.YtmeoemmemjipdaaGreat

/- Pure forms of functions, made by program (pf.py), each with the proof that the code does so. -/
namespace Go.Proofs.YtmeoemmemjipdaaGreat
open Go Go.RowKit Go.Shelf Go.Proofs.Tryz
set_option linter.unusedVariables false
set_option maxRecDepth 100000
set_option maxHeartbeats 1000000
def ydh (d : List Int) (q : Int) (R : (List Int) → Prop) : Prop :=
(0 + d.length ≤ 1000000000 ∧
((0 ≤ q ∧ q < ((([] ++ d).length : Nat) : Int)) ∧
ybs d (fun r =>
(In64 ((gi ([] ++ d) q.toNat) - r) ∧
R (([] ++ d).set q.toNat ((gi ([] ++ d) q.toNat) - r))))))
theorem yhu {O : Nat → Prop} {w : World} {d q Ad ld cd} {R : (List Int) → Prop} (h : ydh d q R) (hO : ∀ k, O k → k < w.heap.size) (hA0 : (FP.sl cI Ad ld cd d).P O w) :
    Calls Tryz.prog 136 #[(.slice Ad ld cd), (ii q)] w fun e w' => ∃ r2 Ar lr cr, e = .returned (.slice Ar lr cr) ∧ Sep w no O w' (rl [Res.own cI 3 Ar lr cr r2]) ∧ R r2 := by
  unfold ydh at h; have hS : Sep w no O w (rl [Res.ro (FP.sl cI Ad ld cd d)]) := Sep.startl hO [(FP.sl cI Ad ld cd d)] ⟨hA0, trivial⟩; refine yar (l := [(.slice Ad ld cd), (ii q)]) func136 rfl ntmps136 (Nat.le_of_ble_eq_true rfl) (zs (zq (za (.slice none 0 0)) (yaa (zs (zn (yaD (l := []) (cells := []) (bp0) underlying25 yag rfl rfl ?_)))))); intro g w2 hN; replace hS := hS.litf (n := 0) 1 rfl (fI .i64) hN ([] : List Int) rfl (by decide) rfl; clear hN; refine zb (zq (zm (.slice Ad ld cd)) ?_); obtain ⟨hx, h⟩ := h; refine zn (yee (c := cI) rfl rfl underlying25 underlying25 yag rfl rfl (by decide) hS 1 rfl (hS.yr 0 rfl) hx ?_); clear hS; intro A c w3 hS; refine zb (zq (za (.slice A (0 + ld) c)) (yaa (yac (ya3 [0, 1, 2, 3, 4, 5, 6, 7, 8] (fun i => match i with | 5 => [0, 1, 2, 3] | _ => []) ya8 (by kernel_rfl) (by kernel_rfl) ?_)))); replace hS := hS.drew; refine zp (zm (.slice A (0 + ld) c)) (zp (zm (ii q)) ?_); obtain ⟨hx2, h⟩ := h; refine zp (zi underlying25 yag (yaG (hS.rdo 1 rfl) hx2)) (zp (yah (v := (ii (gi ([] ++ d) q.toNat))) rfl underlying3 rfl (rd_1 (hS.rdo 1 rfl) hx2 (fun q => yaI q) rfl)) ?_); refine zp (zm (.slice Ad ld cd)) (rp_n rfl rfl rfl rfl (yan rfl (am1 rfl) ye6 ((yb3 h (yaF _) (hS.rdr 0 rfl)).mono ?_))); rintro _ w4 ⟨r, rfl, hC, h⟩; replace hS := hS.pur hC.pure; clear hC; refine ⟨_, rfl, ?_⟩; refine ⟨⟨fun hh => Bool.noConfusion (show false = true from hh), ⟨fun _ => (yah (v := (ii (gi ([] ++ d) q.toNat))) rfl underlying3 rfl (rd_1 (hS.rdo 1 rfl) hx2 (fun q => yaI q) rfl)), ⟨fun _ => (zi underlying25 yag (yaG (hS.rdo 1 rfl) hx2)), ⟨fun _ => (zm (ii q)), ⟨fun _ => (zm (.slice A (0 + ld) c)), trivial⟩⟩⟩⟩⟩, ?_⟩; obtain ⟨hi, h⟩ := h; refine zp (zS hi) (zp (zi underlying25 yag (yaG (hS.rdo 1 rfl) hx2)) (yg8 rfl rfl rfl (zt (ii ((gi ([] ++ d) q.toNat) - r)) yag (hS.wr 1 rfl rfl hx2) ?_))); intro w5 e1; replace hS := hS.st 1 rfl rfl hx2 (x := (gi ([] ++ d) q.toNat) - r) rfl e1; clear e1; exact zb (ybl (zs (zq (zm (.slice A (0 + ld) c)) (zq (za (.slice A (0 + ld) c)) (yaa (yal rfl rfl ⟨_, _, _, _, rfl, (hS.sel [1] (by decide)), h⟩))))))
def ycT (d : Int) (d2 : List E3) (i : Int) (a : Int) (a2 : List Int) (R : (List (List Int)) → Prop) : Prop :=
(∃ I2 : Nat → (List (List Int)) → Int → Prop, (∃ m0, I2 m0 ([]) 0) ∧ ∀ m2 v v2, I2 m2 v v2 → 
((v2 < d →
((v2 = i →
(In64 (v2 + 1) ∧
∃ m3, m3 < m2 ∧ I2 m3 v (v2 + 1))) ∧
(¬ (v2 = i) →
(∃ I3 : Nat → (List Int) → Int → Prop, (∃ m0, I3 m0 ([]) 0) ∧ ∀ m4 v3 v4, I3 m4 v3 v4 → 
((v4 < d →
((v4 = i →
(In64 (v4 + 1) ∧
∃ m5, m5 < m4 ∧ I3 m5 v3 (v4 + 1))) ∧
(¬ (v4 = i) →
((v4 = a →
((0 ≤ v2 ∧ v2 < ((a2.length : Nat) : Int)) ∧
(v3.length + 1 ≤ 1000000000 ∧
(In64 (v4 + 1) ∧
∃ m6, m6 < m4 ∧ I3 m6 (v3 ++ [gi a2 v2.toNat]) (v4 + 1))))) ∧
(¬ (v4 = a) →
((v4 = v2 →
ycj d d2 v2 (fun r =>
(v3.length + 1 ≤ 1000000000 ∧
(In64 (v4 + 1) ∧
∃ m7, m7 < m4 ∧ I3 m7 (v3 ++ [r]) (v4 + 1))))) ∧
(¬ (v4 = v2) →
ya9 d d2 v2 v4 (fun r2 =>
(In64 (-r2) ∧
(v3.length + 1 ≤ 1000000000 ∧
(In64 (v4 + 1) ∧
∃ m8, m8 < m4 ∧ I3 m8 (v3 ++ [-r2]) (v4 + 1)))))))))))) ∧
(¬ (v4 < d) →
(v.length + 1 ≤ 1000000000 ∧
(In64 (v2 + 1) ∧
∃ m9, m9 < m2 ∧ I2 m9 (v ++ [v3]) (v2 + 1))))))))) ∧
(¬ (v2 < d) →
R v)))
theorem ygU {O : Nat → Prop} {w : World} {d d2 i a a2 Ad ld cd Aa la ca} {R : (List (List Int)) → Prop} (h : ycT d d2 i a a2 R) (hO : ∀ k, O k → k < w.heap.size) (hA0 : (FP.sl c3 Ad ld cd d2).P O w) (hA1 : (FP.sl cI Aa la ca a2).P O w) :
    Calls Tryz.prog 133 #[(.agg #[(ii d), (.slice Ad ld cd)]), (ii i), (ii a), (.slice Aa la ca)] w fun e w' => ∃ r3 Ar lr cr, e = .returned (.slice Ar lr cr) ∧ Sep w no O w' (rl [Res.own (cL cI) 25 Ar lr cr r3]) ∧ R r3 := by
  unfold ycT at h; have hS : Sep w no O w (rl [Res.ro (FP.sl c3 Ad ld cd d2), Res.ro (FP.sl cI Aa la ca a2)]) := Sep.startl hO [(FP.sl c3 Ad ld cd d2), (FP.sl cI Aa la ca a2)] ⟨hA0, hA1, trivial⟩; refine yar (l := [(.agg #[(ii d), (.slice Ad ld cd)]), (ii i), (ii a), (.slice Aa la ca)]) func133 rfl ntmps133 (Nat.le_of_ble_eq_true rfl) (zs (zn (ybq (v := (.agg #[(ii d), (.slice Ad ld cd)])) rfl ?_))); intro g w2 hN; replace hS : Sep w no O w2 (stl _ 2 (Res.box 24 g [(ii d), (.slice Ad ld cd)])) := hS.new 2 rfl hN; clear hN; refine zb (zq (za (.slice none 0 0)) (yaa (zs (zq (za (.slice none 0 0)) (yaa (yac (zs (zq (za (ii 0)) (yaa (yak ?_)))))))))); replace hS := hS.nil 3 rfl (cL cI) 25; obtain ⟨I2, ⟨m0, h0⟩, hr⟩ := h; refine yaw (fun m E ds w' => ∃ v v2 Av lv cv, I2 m v v2 ∧ ds = [] ∧ E 1 = (ii i) ∧ E 2 = (ii a) ∧ E 3 = (Value.slice Aa la ca) ∧ E 4 = (Value.pointer (some (⟨g, 0, none⟩ : Addr))) ∧ E 9 = (Value.slice Av lv cv) ∧ E 10 = (ii v2) ∧ Sep w no O w' (rl [Res.own (cL cI) 25 Av lv cv v, Res.ro (FP.sl cI Aa la ca a2), Res.box 24 g [(ii d), (.slice Ad ld cd)], Res.ro (FP.sl c3 Ad ld cd d2)])) m0 ⟨_, _, _, _, _, h0, rfl, rfl, rfl, rfl, rfl, rfl, rfl, (hS.sel [3, 1, 2, 0] (by decide))⟩ ?_; clear h0 hS; rintro m2 E ds w3 ⟨v, v2, Av, lv, cv, h, rfl, hE1, hE2, hE3, hE4, hE9, hE10, hS⟩ again; replace h := hr m2 v v2 h; clear hr; refine yac (zs (zq (yab hE10) (zq (yam hE4 underlying24 rfl yag) (zq (zl underlying3 (Row.cell (hS.bx 2 rfl) (i := 0) rfl)) (zq zL (yaa ?_)))))); by_cases hp : v2 < d
  · replace h := h.1 hp; refine zc hp (yaf (yac (yak (yac (zs (zq (yab hE10) (zq (yab hE1) (zq zE (yaa ?_))))))))); by_cases hp2 : v2 = i
    · replace h := h.1 hp2; refine zc hp2 (yav rfl (zr (zq (yab hE10) ?_))); obtain ⟨hi, h⟩ := h; refine zq (zA hi) (zq (za (ii (v2 + 1))) (yaa ?_)); obtain ⟨mq, hlt, h⟩ := h; exact again mq _ _ _ ⟨_, _, _, _, _, h, rfl, hE1, hE2, hE3, hE4, hE9, rfl, (hS.sel [0, 1, 2, 3] (by decide))⟩ hlt
    · replace h := h.2 hp2; refine zd hp2 (yaf (zs (zq (za (.slice none 0 0)) (yaa (yac (zs (zq (za (ii 0)) (yaa (yak ?_))))))))); replace hS := hS.nil 4 rfl cI 3; obtain ⟨I3, ⟨m0, h0⟩, hr⟩ := h; refine yaw (fun m E ds w' => ∃ v3 v4 Av2 lv2 cv2, I3 m v3 v4 ∧ ds = [] ∧ E 1 = (ii i) ∧ E 2 = (ii a) ∧ E 3 = (Value.slice Aa la ca) ∧ E 4 = (Value.pointer (some (⟨g, 0, none⟩ : Addr))) ∧ E 9 = (Value.slice Av lv cv) ∧ E 10 = (ii v2) ∧ E 11 = (Value.slice Av2 lv2 cv2) ∧ E 12 = (ii v4) ∧ Sep w no O w' (rl [Res.own cI 3 Av2 lv2 cv2 v3, Res.ro (FP.sl cI Aa la ca a2), Res.box 24 g [(ii d), (.slice Ad ld cd)], Res.ro (FP.sl c3 Ad ld cd d2), Res.own (cL cI) 25 Av lv cv v])) m0 ⟨_, _, _, _, _, h0, rfl, hE1, hE2, hE3, hE4, hE9, hE10, rfl, rfl, (hS.sel [4, 1, 2, 3, 0] (by decide))⟩ ?_; clear h0 hS; rintro m4 E ds w4 ⟨v3, v4, Av2, lv2, cv2, h, rfl, hE1, hE2, hE3, hE4, hE9, hE10, hE11, hE12, hS⟩ again2; replace h := hr m4 v3 v4 h; clear hr; refine yac (zs (zq (yab hE12) (zq (yam hE4 underlying24 rfl yag) (zq (zl underlying3 (Row.cell (hS.bx 2 rfl) (i := 0) rfl)) (zq zL (yaa ?_)))))); by_cases hp3 : v4 < d
      · replace h := h.1 hp3; refine zc hp3 (yaf (yac (yak (yac (zs (zq (yab hE12) (zq (yab hE1) (zq zE (yaa ?_))))))))); by_cases hp4 : v4 = i
        · replace h := h.1 hp4; refine zc hp4 (yav rfl (zr (zq (yab hE12) ?_))); obtain ⟨hi2, h⟩ := h; refine zq (zA hi2) (zq (za (ii (v4 + 1))) (yaa ?_)); obtain ⟨mq, hlt, h⟩ := h; exact again2 mq _ _ _ ⟨_, _, _, _, _, h, rfl, hE1, hE2, hE3, hE4, hE9, hE10, hE11, rfl, (hS.sel [0, 1, 2, 3, 4] (by decide))⟩ hlt
        · replace h := h.2 hp4; refine zd hp4 (yaf (yak (zs (zq (yab hE12) (zq (yab hE2) (zq zE (zq (za (.bool (decide (v4 = a)))) (yaa ?_)))))))); by_cases hp5 : v4 = a
          · replace h := h.1 hp5; refine zc hp5 (zr (zq (yab hE11) (zq (yab hE3) (zq (yab hE10) ?_)))); obtain ⟨hx, h⟩ := h; refine zq (zi underlying25 yag (yaG (hS.rdr 1 rfl) hx)) (zq (yah (v := (ii (gi a2 v2.toNat))) rfl underlying3 rfl (rd_1 (hS.rdr 1 rfl) hx (fun q => yaI q) rfl)) ?_); refine zn (yaD (l := [(0, (ii (gi a2 v2.toNat)))]) (cells := [(ii (gi a2 v2.toNat))]) (bp1 rfl) underlying25 yag rfl rfl ?_); intro g2 w5 hN; replace hS := hS.litf (n := 1) 5 rfl (fI .i64) hN ([gi a2 v2.toNat] : List Int) rfl (by decide) rfl; clear hN; refine zb ?_; obtain ⟨hx2, h⟩ := h; refine zn (yee (c := cI) rfl rfl underlying25 underlying25 yag rfl rfl (by decide) hS 0 rfl (hS.yo 5 rfl) hx2 ?_); clear hS; intro A c w6 hS; refine zb (zq (za (.slice A (lv2 + 1) c)) (yaa (yai (yai (zr (zq (yab hE12) ?_)))))); obtain ⟨hi3, h⟩ := h; refine zq (zA hi3) (zq (za (ii (v4 + 1))) (yaa ?_)); obtain ⟨mq, hlt, h⟩ := h; exact again2 mq _ _ _ ⟨_, _, _, _, _, h, rfl, hE1, hE2, hE3, hE4, hE9, hE10, rfl, rfl, (hS.sel [0, 1, 2, 3, 4] (by decide))⟩ hlt
          · replace h := h.2 hp5; refine zd hp5 (zs (zq (yab hE12) (zq (yab hE10) (zq zE (zq (za (.bool (decide (v4 = v2)))) (yaa ?_)))))); by_cases hp6 : v4 = v2
            · replace h := h.1 hp6; refine zc hp6 (zr (zq (yab hE11) (zq (yas (vs := [(ii d), (.slice Ad ld cd)]) hE4 underlying24 rfl yaq ⟨Row.cell (hS.bx 2 rfl) (i := 0) rfl, Row.cell (hS.bx 2 rfl) (i := 1) rfl, trivial⟩) (zq (yab hE10) (zn (yan rfl (am2 rfl rfl) enter_164 ((yfT h (yaF _) (hS.rdr 3 rfl)).mono ?_))))))); rintro _ w7 ⟨r, rfl, hC, h⟩; replace hS := hS.pur hC.pure; clear hC; refine ⟨_, rfl, ?_⟩; refine zb (zn (yaD (l := [(0, (ii r))]) (cells := [(ii r)]) (bp1 rfl) underlying25 yag rfl rfl ?_)); intro g3 w8 hN; replace hS := hS.litf (n := 1) 5 rfl (fI .i64) hN ([r] : List Int) rfl (by decide) rfl; clear hN; refine zb ?_; obtain ⟨hx3, h⟩ := h; refine zn (yee (c := cI) rfl rfl underlying25 underlying25 yag rfl rfl (by decide) hS 0 rfl (hS.yo 5 rfl) hx3 ?_); clear hS; intro A2 c2 w9 hS; refine zb (zq (za (.slice A2 (lv2 + 1) c2)) (yaa (yai (yai (zr (zq (yab hE12) ?_)))))); obtain ⟨hi4, h⟩ := h; refine zq (zA hi4) (zq (za (ii (v4 + 1))) (yaa ?_)); obtain ⟨mq, hlt, h⟩ := h; exact again2 mq _ _ _ ⟨_, _, _, _, _, h, rfl, hE1, hE2, hE3, hE4, hE9, hE10, rfl, rfl, (hS.sel [0, 1, 2, 3, 4] (by decide))⟩ hlt
            · replace h := h.2 hp6; refine zd hp6 (zr (zq (yab hE11) (zq (yas (vs := [(ii d), (.slice Ad ld cd)]) hE4 underlying24 rfl yaq ⟨Row.cell (hS.bx 2 rfl) (i := 0) rfl, Row.cell (hS.bx 2 rfl) (i := 1) rfl, trivial⟩) (zq (yab hE10) (zq (yab hE12) (zn (yan rfl (am3 rfl rfl rfl) yeN ((ybW h (yaF _) (hS.rdr 3 rfl)).mono ?_)))))))); rintro _ w10 ⟨r2, rfl, hC, h⟩; replace hS := hS.pur hC.pure; clear hC; refine ⟨_, rfl, ?_⟩; refine zb ?_; obtain ⟨hi5, h⟩ := h; refine zq (v_neg rfl hi5) (zn (yaD (l := [(0, (ii (-r2)))]) (cells := [(ii (-r2))]) (bp1 rfl) underlying25 yag rfl rfl ?_)); intro g4 w11 hN; replace hS := hS.litf (n := 1) 5 rfl (fI .i64) hN ([-r2] : List Int) rfl (by decide) rfl; clear hN; refine zb ?_; obtain ⟨hx4, h⟩ := h; refine zn (yee (c := cI) rfl rfl underlying25 underlying25 yag rfl rfl (by decide) hS 0 rfl (hS.yo 5 rfl) hx4 ?_); clear hS; intro A3 c3 w12 hS; refine zb (zq (za (.slice A3 (lv2 + 1) c3)) (yaa (yai (yai (zr (zq (yab hE12) ?_)))))); obtain ⟨hi6, h⟩ := h; refine zq (zA hi6) (zq (za (ii (v4 + 1))) (yaa ?_)); obtain ⟨mq, hlt, h⟩ := h; exact again2 mq _ _ _ ⟨_, _, _, _, _, h, rfl, hE1, hE2, hE3, hE4, hE9, hE10, rfl, rfl, (hS.sel [0, 1, 2, 3, 4] (by decide))⟩ hlt
      · replace h := h.2 hp3; refine zd hp3 (yav rfl (zr (zq (yab hE9) (zq (yab hE11) ?_)))); replace hS := hS.frz 0 rfl; refine zn (yaD (l := [(0, (.slice Av2 lv2 cv2))]) (cells := [(.slice Av2 lv2 cv2)]) (bp1 rfl) underlying33 yaZ rfl rfl ?_); intro g5 w13 hN; replace hS := hS.lit (n := 1) (c := (cL cI)) 5 rfl hN ([v3] : List (List Int)) rfl (by decide) ⟨[(.slice Av2 lv2 cv2)], _, rfl, (ro_R (hS.ro 0 rfl)), rfl⟩; clear hN; refine zb ?_; obtain ⟨hx5, h⟩ := h; refine zn (yee (c := (cL cI)) rfl rfl underlying33 underlying33 yaZ rfl rfl (by decide) hS 4 rfl (hS.yo 5 rfl) hx5 ?_); clear hS; intro A4 c4 w14 hS; refine zb (zq (za (.slice A4 (lv + 1) c4)) (yaa (yai (zr (zq (yab hE10) ?_))))); obtain ⟨hi7, h⟩ := h; refine zq (zA hi7) (zq (za (ii (v2 + 1))) (yaa ?_)); obtain ⟨mq, hlt, h⟩ := h; exact again mq _ _ _ ⟨_, _, _, _, _, h, rfl, hE1, hE2, hE3, hE4, rfl, rfl, (hS.sel [4, 1, 2, 3] (by decide))⟩ hlt
  · replace h := h.2 hp; exact zd hp (yav rfl (zs (zq (yab hE9) (zq (za (.slice Av lv cv)) (yaa (yal rfl rfl ⟨_, _, _, _, rfl, (hS.sel [0] (by decide)), h⟩))))))
def yfa (Rec : (List (List Int)) → (Int → Prop) → Prop) (d : List (List Int)) (R : Int → Prop) : Prop :=
((((d.length : Nat) : Int) = 0 →
R 1) ∧
(¬ (((d.length : Nat) : Int) = 0) →
(∃ I2 : Nat → Int → Int → Int → Prop, (∃ m0, I2 m0 0 1 0) ∧ ∀ m2 v v2 v3, I2 m2 v v2 v3 → 
((v3 < ((d.length : Nat) : Int) →
(∃ I3 : Nat → (List (List Int)) → Int → Prop, (∃ m0, I3 m0 ([]) 1) ∧ ∀ m3 v4 v5, I3 m3 v4 v5 → 
((v5 < ((d.length : Nat) : Int) →
(∃ I4 : Nat → (List Int) → Int → Prop, (∃ m0, I4 m0 ([]) 0) ∧ ∀ m4 v6 v7, I4 m4 v6 v7 → 
((v7 < ((d.length : Nat) : Int) →
((v7 = v3 →
(In64 (v7 + 1) ∧
∃ m5, m5 < m4 ∧ I4 m5 v6 (v7 + 1))) ∧
(¬ (v7 = v3) →
((0 ≤ v5 ∧ v5 < ((d.length : Nat) : Int)) ∧
((0 ≤ v7 ∧ v7 < (((gx d v5.toNat).length : Nat) : Int)) ∧
(v6.length + 1 ≤ 1000000000 ∧
(In64 (v7 + 1) ∧
∃ m6, m6 < m4 ∧ I4 m6 (v6 ++ [gi (gx d v5.toNat) v7.toNat]) (v7 + 1)))))))) ∧
(¬ (v7 < ((d.length : Nat) : Int)) →
(v4.length + 1 ≤ 1000000000 ∧
(In64 (v5 + 1) ∧
∃ m7, m7 < m3 ∧ I3 m7 (v4 ++ [v6]) (v5 + 1))))))) ∧
(¬ (v5 < ((d.length : Nat) : Int)) →
((0 ≤ (0 : Int) ∧ (0 : Int) < ((d.length : Nat) : Int)) ∧
((0 ≤ v3 ∧ v3 < (((gx d (0 : Int).toNat).length : Nat) : Int)) ∧
(((gi (gx d (0 : Int).toNat) v3.toNat) = 0 →
(In64 (-v2) ∧
(In64 (v3 + 1) ∧
∃ m8, m8 < m2 ∧ I2 m8 v (-v2) (v3 + 1)))) ∧
(¬ ((gi (gx d (0 : Int).toNat) v3.toNat) = 0) →
(In64 (v2 * (gi (gx d (0 : Int).toNat) v3.toNat)) ∧
Rec v4 (fun r =>
(In64 ((v2 * (gi (gx d (0 : Int).toNat) v3.toNat)) * r) ∧
(In64 (v + ((v2 * (gi (gx d (0 : Int).toNat) v3.toNat)) * r)) ∧
(In64 (-v2) ∧
(In64 (v3 + 1) ∧
∃ m9, m9 < m2 ∧ I2 m9 (v + ((v2 * (gi (gx d (0 : Int).toNat) v3.toNat)) * r)) (-v2) (v3 + 1))))))))))))))) ∧
(¬ (v3 < ((d.length : Nat) : Int)) →
R v)))))
def ydU : Nat → (List (List Int)) → (Int → Prop) → Prop
  | 0 => fun _ _ => False
  | nf + 1 => fun d R => yfa (ydU nf) d R
theorem pokr_r25_det {Rec : (List (List Int)) → (Int → Prop) → Prop} (hrec : ∀ {O : Nat → Prop} {w : World} {d Ad ld cd} {R : Int → Prop} (h : Rec d R) (hO : ∀ k, O k → k < w.heap.size) (hA0 : (FP.sl (cL cI) Ad ld cd d).P O w), Calls Tryz.prog 132 #[(Value.slice Ad ld cd)] w fun e w' => ∃ r2, e = .returned (Value.int .i64 r2) ∧ Sep w no O w' (rl []) ∧ R r2) {O : Nat → Prop} {w : World} {d Ad ld cd} {R : Int → Prop} (h : yfa Rec d R) (hO : ∀ k, O k → k < w.heap.size) (hA0 : (FP.sl (cL cI) Ad ld cd d).P O w) :
    Calls Tryz.prog 132 #[(.slice Ad ld cd)] w fun e w' => ∃ r2, e = .returned (ii r2) ∧ Sep w no O w' (rl []) ∧ R r2 := by
  unfold yfa at h; have hS : Sep w no O w (rl [Res.ro (FP.sl (cL cI) Ad ld cd d)]) := Sep.startl hO [(FP.sl (cL cI) Ad ld cd d)] ⟨hA0, trivial⟩; refine yar (l := [(.slice Ad ld cd)]) func132 rfl ntmps132 (Nat.le_of_ble_eq_true rfl) (zs (zq (za (ii 0)) (yaa (yac (zs (zq (zm (.slice Ad ld cd)) (zq (yaO (n := d.length) rfl underlying33 (yaL (hS.rdr 0 rfl))) (zq zE (yaa ?_))))))))); by_cases hp : ((d.length : Nat) : Int) = 0
  · replace h := h.1 hp; exact zc hp (zs (zq (za (ii 1)) (yaa (yal rfl rfl ⟨_, rfl, (hS.sel [] (by decide)), h⟩))))
  · replace h := h.2 hp; refine zd hp (yaf (zs (zq (za (ii 0)) (zq (za (ii 1)) (yaa (yac (zs (zq (za (ii 0)) (yaa (yak ?_)))))))))); obtain ⟨I2, ⟨m0, h0⟩, hr⟩ := h; refine yaw (fun m E ds w' => ∃ v v2 v3, I2 m v v2 v3 ∧ ds = [] ∧ E 0 = (Value.slice Ad ld cd) ∧ E 3 = (ii v) ∧ E 4 = (ii v2) ∧ E 5 = (ii v3) ∧ Sep w no O w' (rl [Res.ro (FP.sl (cL cI) Ad ld cd d)])) m0 ⟨_, _, _, h0, rfl, rfl, rfl, rfl, rfl, (hS.sel [0] (by decide))⟩ ?_; clear h0 hS; rintro m2 E ds w2 ⟨v, v2, v3, h, rfl, hE0, hE3, hE4, hE5, hS⟩ again; replace h := hr m2 v v2 v3 h; clear hr; refine yac (zs (zq (yab hE5) (zq (yab hE0) (zq (yaO (n := d.length) rfl underlying33 (yaL (hS.rdr 0 rfl))) (zq zL (yaa ?_)))))); by_cases hp2 : v3 < ((d.length : Nat) : Int)
    · replace h := h.1 hp2; refine zc hp2 (yaf (yac (yak (zs (zq (za (.slice none 0 0)) (yaa (yac (zs (zq (za (ii 1)) (yaa (yak ?_))))))))))); replace hS := hS.nil 1 rfl (cL cI) 25; obtain ⟨I3, ⟨m0, h0⟩, hr⟩ := h; refine yaw (fun m E ds w' => ∃ v4 v5 Av lv cv, I3 m v4 v5 ∧ ds = [] ∧ E 0 = (Value.slice Ad ld cd) ∧ E 3 = (ii v) ∧ E 4 = (ii v2) ∧ E 5 = (ii v3) ∧ E 6 = (Value.slice Av lv cv) ∧ E 7 = (ii v5) ∧ Sep w no O w' (rl [Res.own (cL cI) 25 Av lv cv v4, Res.ro (FP.sl (cL cI) Ad ld cd d)])) m0 ⟨_, _, _, _, _, h0, rfl, hE0, hE3, hE4, hE5, rfl, rfl, (hS.sel [1, 0] (by decide))⟩ ?_; clear h0 hS; rintro m3 E ds w3 ⟨v4, v5, Av, lv, cv, h, rfl, hE0, hE3, hE4, hE5, hE6, hE7, hS⟩ again2; replace h := hr m3 v4 v5 h; clear hr; refine yac (zs (zq (yab hE7) (zq (yab hE0) (zq (yaO (n := d.length) rfl underlying33 (yaL (hS.rdr 1 rfl))) (zq zL (yaa ?_)))))); by_cases hp3 : v5 < ((d.length : Nat) : Int)
      · replace h := h.1 hp3; refine zc hp3 (yaf (yac (yak (zs (zq (za (.slice none 0 0)) (yaa (yac (zs (zq (za (ii 0)) (yaa (yak ?_))))))))))); replace hS := hS.nil 2 rfl cI 3; obtain ⟨I4, ⟨m0, h0⟩, hr⟩ := h; refine yaw (fun m E ds w' => ∃ v6 v7 Av2 lv2 cv2, I4 m v6 v7 ∧ ds = [] ∧ E 0 = (Value.slice Ad ld cd) ∧ E 3 = (ii v) ∧ E 4 = (ii v2) ∧ E 5 = (ii v3) ∧ E 6 = (Value.slice Av lv cv) ∧ E 7 = (ii v5) ∧ E 8 = (Value.slice Av2 lv2 cv2) ∧ E 9 = (ii v7) ∧ Sep w no O w' (rl [Res.own cI 3 Av2 lv2 cv2 v6, Res.ro (FP.sl (cL cI) Ad ld cd d), Res.own (cL cI) 25 Av lv cv v4])) m0 ⟨_, _, _, _, _, h0, rfl, hE0, hE3, hE4, hE5, hE6, hE7, rfl, rfl, (hS.sel [2, 1, 0] (by decide))⟩ ?_; clear h0 hS; rintro m4 E ds w4 ⟨v6, v7, Av2, lv2, cv2, h, rfl, hE0, hE3, hE4, hE5, hE6, hE7, hE8, hE9, hS⟩ again3; replace h := hr m4 v6 v7 h; clear hr; refine yac (zs (zq (yab hE9) (zq (yab hE0) (zq (yaO (n := d.length) rfl underlying33 (yaL (hS.rdr 1 rfl))) (zq zL (yaa ?_)))))); by_cases hp4 : v7 < ((d.length : Nat) : Int)
        · replace h := h.1 hp4; refine zc hp4 (yaf (yac (yak (zs (zq (yab hE9) (zq (yab hE5) (zq zN (yaa ?_)))))))); by_cases hp5 : v7 = v3
          · replace h := h.1 hp5; refine ze hp5 (yaf (yai (zr (zq (yab hE9) ?_)))); obtain ⟨hi, h⟩ := h; refine zq (zA hi) (zq (za (ii (v7 + 1))) (yaa ?_)); obtain ⟨mq, hlt, h⟩ := h; exact again3 mq _ _ _ ⟨_, _, _, _, _, h, rfl, hE0, hE3, hE4, hE5, hE6, hE7, hE8, rfl, (hS.sel [0, 1, 2] (by decide))⟩ hlt
          · replace h := h.2 hp5; refine zf hp5 (zr (zq (yab hE8) (zq (yab hE0) (zq (yab hE7) ?_)))); obtain ⟨hx, h⟩ := h; refine zq (zi underlying33 yaZ (yaG (hS.rdr 1 rfl) hx)) ?_; obtain ⟨A, l, c, hc, hq⟩ := hS.el 1 rfl hx 3 4 rfl rfl (by decide); replace hS := hq; clear hq; refine zq (yah (v := (.slice A l c)) rfl underlying25 rfl (hS.clr 4 rfl)) (zq (yab hE9) ?_); obtain ⟨hx2, h⟩ := h; refine zq (zi underlying25 yag (yaG (hS.rdr 3 rfl) hx2)) (zq (yah (v := (ii (gi (gx d v5.toNat) v7.toNat))) rfl underlying3 rfl (rd_1 (hS.rdr 3 rfl) hx2 (fun q => yaI q) rfl)) ?_); refine zn (yaD (l := [(0, (ii (gi (gx d v5.toNat) v7.toNat)))]) (cells := [(ii (gi (gx d v5.toNat) v7.toNat))]) (bp1 rfl) underlying25 yag rfl rfl ?_); intro g w5 hN; replace hS := hS.litf (n := 1) 5 rfl (fI .i64) hN ([gi (gx d v5.toNat) v7.toNat] : List Int) rfl (by decide) rfl; clear hN; refine zb ?_; obtain ⟨hx3, h⟩ := h; refine zn (yee (c := cI) rfl rfl underlying25 underlying25 yag rfl rfl (by decide) hS 0 rfl (hS.yo 5 rfl) hx3 ?_); clear hS; intro A2 c2 w6 hS; refine zb (zq (za (.slice A2 (lv2 + 1) c2)) (yaa (yai (zr (zq (yab hE9) ?_))))); obtain ⟨hi2, h⟩ := h; refine zq (zA hi2) (zq (za (ii (v7 + 1))) (yaa ?_)); obtain ⟨mq, hlt, h⟩ := h; exact again3 mq _ _ _ ⟨_, _, _, _, _, h, rfl, hE0, hE3, hE4, hE5, hE6, hE7, rfl, rfl, (hS.sel [0, 1, 2] (by decide))⟩ hlt
        · replace h := h.2 hp4; refine zd hp4 (yav rfl (zr (zq (yab hE6) (zq (yab hE8) ?_)))); replace hS := hS.frz 0 rfl; refine zn (yaD (l := [(0, (.slice Av2 lv2 cv2))]) (cells := [(.slice Av2 lv2 cv2)]) (bp1 rfl) underlying33 yaZ rfl rfl ?_); intro g2 w7 hN; replace hS := hS.lit (n := 1) (c := (cL cI)) 3 rfl hN ([v6] : List (List Int)) rfl (by decide) ⟨[(.slice Av2 lv2 cv2)], _, rfl, (ro_R (hS.ro 0 rfl)), rfl⟩; clear hN; refine zb ?_; obtain ⟨hx4, h⟩ := h; refine zn (yee (c := (cL cI)) rfl rfl underlying33 underlying33 yaZ rfl rfl (by decide) hS 2 rfl (hS.yo 3 rfl) hx4 ?_); clear hS; intro A3 c3 w8 hS; refine zb (zq (za (.slice A3 (lv + 1) c3)) (yaa (yai (zr (zq (yab hE7) ?_))))); obtain ⟨hi3, h⟩ := h; refine zq (zA hi3) (zq (za (ii (v5 + 1))) (yaa ?_)); obtain ⟨mq, hlt, h⟩ := h; exact again2 mq _ _ _ ⟨_, _, _, _, _, h, rfl, hE0, hE3, hE4, hE5, rfl, rfl, (hS.sel [2, 1] (by decide))⟩ hlt
      · replace h := h.2 hp3; refine zd hp3 (yav rfl (yac (zs (zq (yab hE0) ?_)))); obtain ⟨hx5, h⟩ := h; refine zq (zi underlying33 yaZ (yaG (hS.rdr 1 rfl) hx5)) ?_; obtain ⟨A4, l2, c4, hc2, hq⟩ := hS.el 1 rfl hx5 2 3 rfl rfl (by decide); replace hS := hq; clear hq; refine zq (yah (v := (.slice A4 l2 c4)) rfl underlying25 rfl (hS.clr 3 rfl)) (zq (yab hE5) ?_); obtain ⟨hx6, h⟩ := h; refine zq (zi underlying25 yag (yaG (hS.rdr 2 rfl) hx6)) (zq (yah (v := (ii (gi (gx d (0 : Int).toNat) v3.toNat))) rfl underlying3 rfl (rd_1 (hS.rdr 2 rfl) hx6 (fun q => yaI q) rfl)) ?_); refine zq zN (yaa ?_); by_cases hp6 : (gi (gx d (0 : Int).toNat) v3.toNat) = 0
        · replace h := h.1 hp6; refine ze hp6 (yaf (zr (zq (yab hE4) ?_))); obtain ⟨hi4, h⟩ := h; refine zq (v_neg rfl hi4) (zq (za (ii (-v2))) (yaa (yai (zr (zq (yab hE5) ?_))))); obtain ⟨hi5, h⟩ := h; refine zq (zA hi5) (zq (za (ii (v3 + 1))) (yaa ?_)); obtain ⟨mq, hlt, h⟩ := h; exact again mq _ _ _ ⟨_, _, _, h, rfl, hE0, hE3, rfl, rfl, (hS.sel [1] (by decide))⟩ hlt
        · replace h := h.2 hp6; refine zf hp6 (ya3 [0, 1, 2, 3, 4, 5, 6, 7, 8, 9, 10, 11, 12, 13] (fun i => match i with | 10 => [0, 1, 2, 3, 4, 5, 6, 7, 8] | _ => []) ya8 (by kernel_rfl) (by kernel_rfl) ?_); replace hS := hS.drew; refine zp (yab hE3) (zp (yab hE4) (zp (yab hE0) (zp (zi underlying33 yaZ (yaG (hS.rdr 1 rfl) hx5)) ?_))); obtain ⟨A5, l3, c5, hc3, hq⟩ := hS.el 1 rfl hx5 4 5 rfl rfl (by decide); replace hS := hq; clear hq; refine zp (yah (v := (.slice A5 l3 c5)) rfl underlying25 rfl (hS.clr 5 rfl)) (zp (yab hE5) (zp (zi underlying25 yag (yaG (hS.rdr 4 rfl) hx6)) (zp (yah (v := (ii (gi (gx d (0 : Int).toNat) v3.toNat))) rfl underlying3 rfl (rd_1 (hS.rdr 4 rfl) hx6 (fun q => yaI q) rfl)) ?_))); obtain ⟨hi6, h⟩ := h; refine zp (v_mul rfl rfl hi6) (zp (yab hE6) (rp_n rfl rfl rfl rfl (yan rfl (am1 rfl) yiu ((hrec h (yaF _) (hS.rdo 0 rfl)).mono ?_)))); rintro _ w9 ⟨r, rfl, hC, h⟩; replace hS := hS.pur hC.pure; clear hC; refine ⟨_, rfl, ?_⟩; refine ⟨⟨fun hh => Bool.noConfusion (show false = true from hh), ⟨fun _ => (v_mul rfl rfl hi6), ⟨fun _ => (yah (v := (ii (gi (gx d (0 : Int).toNat) v3.toNat))) rfl underlying3 rfl (rd_1 (hS.rdr 4 rfl) hx6 (fun q => yaI q) rfl)), ⟨fun _ => (zi underlying25 yag (yaG (hS.rdr 4 rfl) hx6)), ⟨fun _ => (yab hE5), ⟨fun _ => (yah (v := (Value.slice A5 l3 c5)) rfl underlying25 rfl (hS.clr 5 rfl)), ⟨fun _ => (zi underlying33 yaZ (yaG (hS.rdr 1 rfl) hx5)), ⟨fun _ => (yab hE0), ⟨fun _ => (yab hE4), ⟨fun _ => (yab hE3), trivial⟩⟩⟩⟩⟩⟩⟩⟩⟩⟩, ?_⟩; obtain ⟨hi7, h⟩ := h; refine zp (v_mul rfl rfl hi7) ?_; obtain ⟨hi8, h⟩ := h; refine zp (zA hi8) (zp (za (ii (v + ((v2 * (gi (gx d (0 : Int).toNat) v3.toNat)) * r)))) (ybl (zr (zq (yab hE4) ?_)))); obtain ⟨hi9, h⟩ := h; refine zq (v_neg rfl hi9) (zq (za (ii (-v2))) (yaa (yai (zr (zq (yab hE5) ?_))))); obtain ⟨hi10, h⟩ := h; refine zq (zA hi10) (zq (za (ii (v3 + 1))) (yaa ?_)); obtain ⟨mq, hlt, h⟩ := h; exact again mq _ _ _ ⟨_, _, _, h, rfl, hE0, rfl, rfl, rfl, (hS.sel [1] (by decide))⟩ hlt
    · replace h := h.2 hp2; exact zd hp2 (yav rfl (zs (zq (yab hE3) (zq (za (ii v)) (yaa (yal rfl rfl ⟨_, rfl, (hS.sel [] (by decide)), h⟩))))))
theorem yiD {nf} : ∀ {O : Nat → Prop} {w : World} {d Ad ld cd} {R : Int → Prop} (h : ydU nf d R) (hO : ∀ k, O k → k < w.heap.size) (hA0 : (FP.sl (cL cI) Ad ld cd d).P O w), Calls Tryz.prog 132 #[(Value.slice Ad ld cd)] w fun e w' => ∃ r2, e = .returned (Value.int .i64 r2) ∧ Sep w no O w' (rl []) ∧ R r2 := by
  induction nf with
  | zero => intros; rename_i h _; first | exact h.elim | (rename_i h _ _; exact h.elim) | contradiction
  | succ nf ih => intro O w d Ad ld cd R h hO hA0; exact pokr_r25_det ih h hO hA0
def ycV (g : Int) (g2 : List E3) (q : Int) (d : List Int) (R : (List Int) → Bool → Prop) : Prop :=
ybs d (fun r =>
((r = 0 →
ycT g g2 q (-1) d (fun r2 =>
(∃ fu, ydU fu r2 (fun r3 =>
(∃ I2 : Nat → (List Int) → Int → Prop, (∃ m0, I2 m0 ([]) 0) ∧ ∀ m2 s v, I2 m2 s v → 
((v < g →
((v = q →
(s.length + 1 ≤ 1000000000 ∧
(In64 (v + 1) ∧
∃ m3, m3 < m2 ∧ I2 m3 (s ++ [0]) (v + 1)))) ∧
(¬ (v = q) →
ycT g g2 q v d (fun r4 =>
(∃ fu2, ydU fu2 r4 (fun r5 =>
(r3 ≠ 0 ∧
(((r5.tmod r3) = 0 →
(In64 (r5.tdiv r3) ∧
(s.length + 1 ≤ 1000000000 ∧
(In64 (v + 1) ∧
∃ m4, m4 < m2 ∧ I2 m4 (s ++ [r5.tdiv r3]) (v + 1))))) ∧
(¬ ((r5.tmod r3) = 0) →
R ([]) false))))))))) ∧
(¬ (v < g) →
R s true))))))) ∧
(¬ (r = 0) →
R ([]) false)))
theorem ygr {O : Nat → Prop} {w : World} {g g2 q d Ag lg cg Ad ld cd} {R : (List Int) → Bool → Prop} (h : ycV g g2 q d R) (hO : ∀ k, O k → k < w.heap.size) (hA0 : (FP.sl c3 Ag lg cg g2).P O w) (hA1 : (FP.sl cI Ad ld cd d).P O w) :
    Calls Tryz.prog 91 #[(.agg #[(ii g), (.slice Ag lg cg)]), (ii q), (.slice Ad ld cd)] w fun e w' => ∃ r6 r7 Ar3 lr3 cr3, e = .returned (.tuple #[(.slice Ar3 lr3 cr3), (.bool (r7))]) ∧ Sep w no O w' (rl [Res.own cI 3 Ar3 lr3 cr3 r6]) ∧ R r6 r7 := by
  unfold ycV at h; have hS : Sep w no O w (rl [Res.ro (FP.sl c3 Ag lg cg g2), Res.ro (FP.sl cI Ad ld cd d)]) := Sep.startl hO [(FP.sl c3 Ag lg cg g2), (FP.sl cI Ad ld cd d)] ⟨hA0, hA1, trivial⟩; refine yar (l := [(.agg #[(ii g), (.slice Ag lg cg)]), (ii q), (.slice Ad ld cd)]) func91 rfl ntmps91 (Nat.le_of_ble_eq_true rfl) (zs (zn (ybq (v := (.agg #[(ii g), (.slice Ag lg cg)])) rfl ?_))); intro g3 w2 hN; replace hS : Sep w no O w2 (stl _ 2 (Res.box 24 g3 [(ii g), (.slice Ag lg cg)])) := hS.new 2 rfl hN; clear hN; refine zb (zq (za (.slice none 0 0)) (zq (za (.bool (false))) (yaa (yac (zs (zq (zm (.slice Ad ld cd)) (zn (yan rfl (am1 rfl) ye6 ((yb3 h (yaF _) (hS.rdr 1 rfl)).mono ?_))))))))); rintro _ w3 ⟨r, rfl, hC, h⟩; replace hS := hS.pur hC.pure; clear hC; refine ⟨_, rfl, ?_⟩; refine zb (zq zN (yaa ?_)); by_cases hp : r = 0
  · replace h := h.1 hp; refine ze hp (yaf (zs (zq (yas (vs := [(ii g), (.slice Ag lg cg)]) rfl underlying24 rfl yaq ⟨Row.cell (hS.bx 2 rfl) (i := 0) rfl, Row.cell (hS.bx 2 rfl) (i := 1) rfl, trivial⟩) (zq (zm (ii q)) (zq (zm (.slice Ad ld cd)) (zn (yan rfl (am4 rfl rfl rfl rfl) enter_133 ((ygU h hS.blt (hS.ro 0 rfl) (hS.ro 1 rfl)).mono ?_)))))))); rintro _ w4 ⟨r2, Ar, lr, cr, rfl, hC, h⟩; replace hS := hS.call1 hC 3 0 rfl; clear hC; refine ⟨_, rfl, ?_⟩; refine zb ?_; obtain ⟨fu, h⟩ := h; refine zn (yan rfl (am1 rfl) yiu ((yiD h (yaF _) (hS.rdo 3 rfl)).mono ?_)); rintro _ w5 ⟨r3, rfl, hC, h⟩; replace hS := hS.pur hC.pure; clear hC; refine ⟨_, rfl, ?_⟩; refine zb (zq (za (ii r3)) (yaa (zs (zq (za (.slice none 0 0)) (yaa (yac (zs (zq (za (ii 0)) (yaa (yak ?_)))))))))); replace hS := hS.nil 4 rfl cI 3; obtain ⟨I2, ⟨m0, h0⟩, hr⟩ := h; refine yaw (fun m E ds w' => ∃ s v As ls cs, I2 m s v ∧ ds = [] ∧ E 1 = (ii q) ∧ E 2 = (Value.slice Ad ld cd) ∧ E 3 = (Value.pointer (some (⟨g3, 0, none⟩ : Addr))) ∧ E 8 = (ii r3) ∧ E 9 = (Value.slice As ls cs) ∧ E 10 = (ii v) ∧ Sep w no O w' (rl [Res.own cI 3 As ls cs s, Res.ro (FP.sl cI Ad ld cd d), Res.box 24 g3 [(ii g), (.slice Ag lg cg)], Res.ro (FP.sl c3 Ag lg cg g2)])) m0 ⟨_, _, _, _, _, h0, rfl, rfl, rfl, rfl, rfl, rfl, rfl, (hS.sel [4, 1, 2, 0] (by decide))⟩ ?_; clear h0 hS; rintro m2 E ds w6 ⟨s, v, As, ls, cs, h, rfl, hE1, hE2, hE3, hE8, hE9, hE10, hS⟩ again; replace h := hr m2 s v h; clear hr; refine yac (zs (zq (yab hE10) (zq (yam hE3 underlying24 rfl yag) (zq (zl underlying3 (Row.cell (hS.bx 2 rfl) (i := 0) rfl)) (zq zL (yaa ?_)))))); by_cases hp2 : v < g
    · replace h := h.1 hp2; refine zc hp2 (yaf (yac (yak (yac (zs (zq (yab hE10) (zq (yab hE1) (zq zE (yaa ?_))))))))); by_cases hp3 : v = q
      · replace h := h.1 hp3; refine zc hp3 (zs (zq (yab hE9) (zn (yaD (l := [(0, (ii 0))]) (cells := [(ii 0)]) (bp1 rfl) underlying25 yag rfl rfl ?_)))); intro g4 w7 hN; replace hS := hS.litf (n := 1) 4 rfl (fI .i64) hN ([0] : List Int) rfl (by decide) rfl; clear hN; refine zb ?_; obtain ⟨hx, h⟩ := h; refine zn (yee (c := cI) rfl rfl underlying25 underlying25 yag rfl rfl (by decide) hS 0 rfl (hS.yo 4 rfl) hx ?_); clear hS; intro A c w8 hS; refine zb (zq (za (.slice A (ls + 1) c)) (yaa (yav rfl (zr (zq (yab hE10) ?_))))); obtain ⟨hi, h⟩ := h; refine zq (zA hi) (zq (za (ii (v + 1))) (yaa ?_)); obtain ⟨mq, hlt, h⟩ := h; exact again mq _ _ _ ⟨_, _, _, _, _, h, rfl, hE1, hE2, hE3, hE8, rfl, rfl, (hS.sel [0, 1, 2, 3] (by decide))⟩ hlt
      · replace h := h.2 hp3; refine zd hp3 (yaf (zs (zq (yas (vs := [(ii g), (.slice Ag lg cg)]) hE3 underlying24 rfl yaq ⟨Row.cell (hS.bx 2 rfl) (i := 0) rfl, Row.cell (hS.bx 2 rfl) (i := 1) rfl, trivial⟩) (zq (yab hE1) (zq (yab hE10) (zq (yab hE2) (zn (yan rfl (am4 rfl rfl rfl rfl) enter_133 ((ygU h hS.blt (hS.ro 3 rfl) (hS.ro 1 rfl)).mono ?_))))))))); rintro _ w9 ⟨r4, Ar2, lr2, cr2, rfl, hC, h⟩; replace hS := hS.call1 hC 4 0 rfl; clear hC; refine ⟨_, rfl, ?_⟩; refine zb ?_; obtain ⟨fu2, h⟩ := h; refine zn (yan rfl (am1 rfl) yiu ((yiD h (yaF _) (hS.rdo 4 rfl)).mono ?_)); rintro _ w10 ⟨r5, rfl, hC, h⟩; replace hS := hS.pur hC.pure; clear hC; refine ⟨_, rfl, ?_⟩; refine zb (zq (za (ii r5)) (yaa (yac (zs (zq (zm (ii r5)) (zq (yab hE8) ?_)))))); obtain ⟨hz, h⟩ := h; refine zq (v_rem rfl rfl hz) (zq zN (yaa ?_)); by_cases hp4 : (r5.tmod r3) = 0
        · replace h := h.1 hp4; refine ze hp4 (yaf (zr (zq (yab hE9) (zq (zm (ii r5)) (zq (yab hE8) ?_))))); obtain ⟨hi2, h⟩ := h; refine zq (v_quo rfl rfl hz hi2) (zn (yaD (l := [(0, (ii (r5.tdiv r3)))]) (cells := [(ii (r5.tdiv r3))]) (bp1 rfl) underlying25 yag rfl rfl ?_)); intro g5 w11 hN; replace hS := hS.litf (n := 1) 5 rfl (fI .i64) hN ([r5.tdiv r3] : List Int) rfl (by decide) rfl; clear hN; refine zb ?_; obtain ⟨hx2, h⟩ := h; refine zn (yee (c := cI) rfl rfl underlying25 underlying25 yag rfl rfl (by decide) hS 0 rfl (hS.yo 5 rfl) hx2 ?_); clear hS; intro A2 c2 w12 hS; refine zb (zq (za (.slice A2 (ls + 1) c2)) (yaa (yai (zr (zq (yab hE10) ?_))))); obtain ⟨hi3, h⟩ := h; refine zq (zA hi3) (zq (za (ii (v + 1))) (yaa ?_)); obtain ⟨mq, hlt, h⟩ := h; exact again mq _ _ _ ⟨_, _, _, _, _, h, rfl, hE1, hE2, hE3, hE8, rfl, rfl, (hS.sel [0, 1, 2, 3] (by decide))⟩ hlt
        · replace h := h.2 hp4; refine zf hp4 (zs (zq (za (.slice none 0 0)) (zq (za (.bool (false))) (yaa ?_)))); replace hS := hS.nil 5 rfl cI 3; exact yaR rfl rfl rfl ⟨_, _, _, _, _, rfl, (hS.sel [5] (by decide)), h⟩
    · replace h := h.2 hp2; exact zd hp2 (yav rfl (zs (zq (yab hE9) (zq (za (.slice As ls cs)) (zq (za (.bool (true))) (yaa (yaR rfl rfl rfl ⟨_, _, _, _, _, rfl, (hS.sel [0] (by decide)), h⟩)))))))
  · replace h := h.2 hp; refine zf hp (zs (zq (za (.slice none 0 0)) (zq (za (.bool (false))) (yaa ?_)))); replace hS := hS.nil 3 rfl cI 3; exact yaR rfl rfl rfl ⟨_, _, _, _, _, rfl, (hS.sel [3] (by decide)), h⟩
def yeq (g : Int) (g2 : List E3) (a : List Int) (b : List Int) (R : Bool → Prop) : Prop :=
ycm a b (-1) (fun r =>
ycV g g2 0 r (fun r2 r3 =>
R r3))
theorem pok_r25_Alike {O : Nat → Prop} {w : World} {g g2 a b Ag lg cg Aa la ca Ab lb cb} {R : Bool → Prop} (h : yeq g g2 a b R) (hO : ∀ k, O k → k < w.heap.size) (hA0 : (FP.sl c3 Ag lg cg g2).P O w) (hA1 : (FP.sl cI Aa la ca a).P O w) (hA2 : (FP.sl cI Ab lb cb b).P O w) :
    Calls Tryz.prog 135 #[(.agg #[(ii g), (.slice Ag lg cg)]), (.slice Aa la ca), (.slice Ab lb cb)] w fun e w' => ∃ r4, e = .returned (.bool (r4)) ∧ Sep w no O w' (rl []) ∧ R r4 := by
  unfold yeq at h; have hS : Sep w no O w (rl [Res.ro (FP.sl c3 Ag lg cg g2), Res.ro (FP.sl cI Aa la ca a), Res.ro (FP.sl cI Ab lb cb b)]) := Sep.startl hO [(FP.sl c3 Ag lg cg g2), (FP.sl cI Aa la ca a), (FP.sl cI Ab lb cb b)] ⟨hA0, hA1, hA2, trivial⟩; refine yar (l := [(.agg #[(ii g), (.slice Ag lg cg)]), (.slice Aa la ca), (.slice Ab lb cb)]) func135 rfl ntmps135 (Nat.le_of_ble_eq_true rfl) (zs (zn (ybq (v := (.agg #[(ii g), (.slice Ag lg cg)])) rfl ?_))); intro g3 w2 hN; replace hS : Sep w no O w2 (stl _ 3 (Res.box 24 g3 [(ii g), (.slice Ag lg cg)])) := hS.new 3 rfl hN; clear hN; refine zb (zq (za (.bool (false))) (yaa (yac (ya3 [0, 1, 2, 3, 4, 5, 6, 7, 8, 9] (fun i => match i with | 3 => [0] | _ => []) ya8 (by kernel_rfl) (by kernel_rfl) ?_)))); replace hS := hS.drew; refine zp (yas (vs := [(ii g), (.slice Ag lg cg)]) rfl underlying24 rfl yaq ⟨Row.cell (hS.bx 3 rfl) (i := 0) rfl, Row.cell (hS.bx 3 rfl) (i := 1) rfl, trivial⟩) (zp (zm (.slice Aa la ca)) (zp (zm (.slice Ab lb cb)) (rp_n rfl rfl rfl rfl (yan rfl (am3 rfl rfl rfl) yhS ((yek h (yaF _) (hS.rdr 1 rfl) (hS.rdr 2 rfl)).mono ?_))))); rintro _ w3 ⟨r, Ar, lr, cr, rfl, hC, h⟩; replace hS := hS.call1 (hC.widen (ydi (ya1 (fI .i64) _ _ _ _ _) yeb) hS.blt) 4 0 rfl; clear hC; refine ⟨_, rfl, ?_⟩; refine ⟨⟨fun hh => Bool.noConfusion (show false = true from hh), ⟨fun hh => Bool.noConfusion (show false = true from hh), ⟨fun _ => (yas (vs := [(ii g), (.slice Ag lg cg)]) rfl underlying24 rfl yaq ⟨Row.cell (hS.bx 3 rfl) (i := 0) rfl, Row.cell (hS.bx 3 rfl) (i := 1) rfl, trivial⟩), trivial⟩⟩⟩, ?_⟩; refine rp_n rfl rfl rfl rfl (yan rfl (am3 rfl rfl rfl) enter_91 ((ygr h (yaF _) (hS.rdr 0 rfl) (hS.rdo 4 rfl)).mono ?_)); rintro _ w4 ⟨r2, r3, Ar2, lr2, cr2, rfl, hC, h⟩; replace hS := hS.call1 (hC.widen (ydi (ya1 (fI .i64) _ _ _ _ _) yeb) hS.blt) 5 0 rfl; clear hC; refine ⟨_, rfl, ?_⟩; exact zb (zp (zm (.tuple #[(.slice Ar2 lr2 cr2), (.bool (r3))])) (zp (zx (.slice Ar2 lr2 cr2)) (zp (zx (.bool (r3))) (zp (za (.slice Ar2 lr2 cr2)) (zp (za (.bool (r3))) (ybl (zs (zq (zm (.bool (r3))) (zq (za (.bool (r3))) (yaa (yal rfl rfl ⟨_, rfl, (hS.sel [] (by decide)), h⟩)))))))))))
def ycq (g : Int) (g2 : List E3) (q : Int) (R : (List Int) → Prop) : Prop :=
((0 ≤ g ∧ g ≤ 1000000) ∧
(∃ I2 : Nat → Int → (List Int) → Prop, (∃ m0, I2 m0 0 (List.replicate g.toNat (0 : Int))) ∧ ∀ m2 v out, I2 m2 v out → 
((v < g →
((v = q →
(In64 (v + 1) ∧
∃ m3, m3 < m2 ∧ I2 m3 (v + 1) out)) ∧
(¬ (v = q) →
ycj g g2 v (fun r =>
(In64 (r - 1) ∧
((0 ≤ v ∧ v < ((out.length : Nat) : Int)) ∧
(In64 (v + 1) ∧
∃ m4, m4 < m2 ∧ I2 m4 (v + 1) (out.set v.toNat (r - 1))))))))) ∧
(¬ (v < g) →
R out))))
theorem yhx {O : Nat → Prop} {w : World} {g g2 q Ag lg cg} {R : (List Int) → Prop} (h : ycq g g2 q R) (hO : ∀ k, O k → k < w.heap.size) (hA0 : (FP.sl c3 Ag lg cg g2).P O w) :
    Calls Tryz.prog 165 #[(.agg #[(ii g), (.slice Ag lg cg)]), (ii q)] w fun e w' => ∃ r2 Ar lr cr, e = .returned (.slice Ar lr cr) ∧ Sep w no O w' (rl [Res.own cI 3 Ar lr cr r2]) ∧ R r2 := by
  unfold ycq at h; have hS : Sep w no O w (rl [Res.ro (FP.sl c3 Ag lg cg g2)]) := Sep.startl hO [(FP.sl c3 Ag lg cg g2)] ⟨hA0, trivial⟩; refine yar (l := [(.agg #[(ii g), (.slice Ag lg cg)]), (ii q)]) func165 rfl ntmps165 (Nat.le_of_ble_eq_true rfl) (zs (zn (ybq (v := (.agg #[(ii g), (.slice Ag lg cg)])) rfl ?_))); intro g3 w2 hN; replace hS : Sep w no O w2 (stl _ 1 (Res.box 24 g3 [(ii g), (.slice Ag lg cg)])) := hS.new 1 rfl hN; clear hN; refine zb (zq (za (.slice none 0 0)) (yaa (zs (zq (yam rfl underlying24 rfl yag) (zq (zl underlying3 (Row.cell (hS.bx 1 rfl) (i := 0) rfl)) ?_))))); obtain ⟨hx, h⟩ := h; refine zn (ygJ rfl rfl underlying25 yag (by decide) rfl hx ?_); intro g4 w3 hN; replace hS := hS.made 2 rfl cI (ii 0) (0 : Int) (fun _ _ => rfl) hN (by omega); clear hN; refine zb (zq (za (.slice (some ⟨g4, 0, none⟩) g.toNat g.toNat)) (yaa (yac (zs (zq (za (ii 0)) (yaa (yak ?_))))))); obtain ⟨I2, ⟨m0, h0⟩, hr⟩ := h; refine yaw (fun m E ds w' => ∃ v out Aout lout cout, I2 m v out ∧ ds = [] ∧ E 1 = (ii q) ∧ E 2 = (Value.pointer (some (⟨g3, 0, none⟩ : Addr))) ∧ E 5 = (Value.slice Aout lout cout) ∧ E 6 = (ii v) ∧ Sep w no O w' (rl [Res.box 24 g3 [(ii g), (.slice Ag lg cg)], Res.ro (FP.sl c3 Ag lg cg g2), Res.own cI 3 Aout lout cout out])) m0 ⟨_, _, _, _, _, h0, rfl, rfl, rfl, rfl, rfl, (hS.sel [1, 0, 2] (by decide))⟩ ?_; clear h0 hS; rintro m2 E ds w4 ⟨v, out, Aout, lout, cout, h, rfl, hE1, hE2, hE5, hE6, hS⟩ again; replace h := hr m2 v out h; clear hr; refine yac (zs (zq (yab hE6) (zq (yam hE2 underlying24 rfl yag) (zq (zl underlying3 (Row.cell (hS.bx 0 rfl) (i := 0) rfl)) (zq zL (yaa ?_)))))); by_cases hp : v < g
  · replace h := h.1 hp; refine zc hp (yaf (yac (yak (zs (zq (yab hE6) (zq (yab hE1) (zq zN (yaa ?_)))))))); by_cases hp2 : v = q
    · replace h := h.1 hp2; refine ze hp2 (yaf (yai (zr (zq (yab hE6) ?_)))); obtain ⟨hi, h⟩ := h; refine zq (zA hi) (zq (za (ii (v + 1))) (yaa ?_)); obtain ⟨mq, hlt, h⟩ := h; exact again mq _ _ _ ⟨_, _, _, _, _, h, rfl, hE1, hE2, hE5, rfl, (hS.sel [0, 1, 2] (by decide))⟩ hlt
    · replace h := h.2 hp2; refine zf hp2 (zr (zq (yab hE5) (zq (yab hE6) (zq (yas (vs := [(ii g), (.slice Ag lg cg)]) hE2 underlying24 rfl yaq ⟨Row.cell (hS.bx 0 rfl) (i := 0) rfl, Row.cell (hS.bx 0 rfl) (i := 1) rfl, trivial⟩) (zq (yab hE6) (zn (yan rfl (am2 rfl rfl) enter_164 ((yfT h (yaF _) (hS.rdr 1 rfl)).mono ?_)))))))); rintro _ w5 ⟨r, rfl, hC, h⟩; replace hS := hS.pur hC.pure; clear hC; refine ⟨_, rfl, ?_⟩; refine zb ?_; obtain ⟨hi2, h⟩ := h; refine zq (zS hi2) ?_; obtain ⟨hx2, h⟩ := h; refine zq (zi underlying25 yag (yaG (hS.rdo 2 rfl) hx2)) (zo (zt (ii (r - 1)) yag (hS.wr 2 rfl rfl hx2) ?_)); intro w6 e1; replace hS := hS.st 2 rfl rfl hx2 (x := r - 1) rfl e1; clear e1; refine zb (yaa (yai (zr (zq (yab hE6) ?_)))); obtain ⟨hi3, h⟩ := h; refine zq (zA hi3) (zq (za (ii (v + 1))) (yaa ?_)); obtain ⟨mq, hlt, h⟩ := h; exact again mq _ _ _ ⟨_, _, _, _, _, h, rfl, hE1, hE2, hE5, rfl, (hS.sel [0, 1, 2] (by decide))⟩ hlt
  · replace h := h.2 hp; exact zd hp (yav rfl (zs (zq (yab hE5) (zq (za (.slice Aout lout cout)) (yaa (yal rfl rfl ⟨_, _, _, _, rfl, (hS.sel [2] (by decide)), h⟩))))))
def ydX (g : Int) (g2 : List E3) (q : Int) (d : List Int) (R : Bool → Prop) : Prop :=
(∃ I2 : Nat → Int → Prop, (∃ m0, I2 m0 0) ∧ ∀ m2 v, I2 m2 v → 
((v < g →
((0 ≤ v ∧ v < ((d.length : Nat) : Int)) ∧
(((gi d v.toNat) < 0 →
R false) ∧
(¬ ((gi d v.toNat) < 0) →
((v = q →
(((gi d v.toNat) = 0 →
(In64 (v + 1) ∧
∃ m3, m3 < m2 ∧ I2 m3 (v + 1))) ∧
(¬ ((gi d v.toNat) = 0) →
R false))) ∧
(¬ (v = q) →
(In64 (v + 1) ∧
∃ m4, m4 < m2 ∧ I2 m4 (v + 1)))))))) ∧
(¬ (v < g) →
ydt g g2 q d (fun r =>
R r))))
theorem pok_r25_Calm {O : Nat → Prop} {w : World} {g g2 q d Ag lg cg Ad ld cd} {R : Bool → Prop} (h : ydX g g2 q d R) (hO : ∀ k, O k → k < w.heap.size) (hA0 : (FP.sl c3 Ag lg cg g2).P O w) (hA1 : (FP.sl cI Ad ld cd d).P O w) :
    Calls Tryz.prog 166 #[(.agg #[(ii g), (.slice Ag lg cg)]), (ii q), (.slice Ad ld cd)] w fun e w' => ∃ r2, e = .returned (.bool (r2)) ∧ Sep w no O w' (rl []) ∧ R r2 := by
  unfold ydX at h; have hS : Sep w no O w (rl [Res.ro (FP.sl c3 Ag lg cg g2), Res.ro (FP.sl cI Ad ld cd d)]) := Sep.startl hO [(FP.sl c3 Ag lg cg g2), (FP.sl cI Ad ld cd d)] ⟨hA0, hA1, trivial⟩; refine yar (l := [(.agg #[(ii g), (.slice Ag lg cg)]), (ii q), (.slice Ad ld cd)]) func166 rfl ntmps166 (Nat.le_of_ble_eq_true rfl) (zs (zn (ybq (v := (.agg #[(ii g), (.slice Ag lg cg)])) rfl ?_))); intro g3 w2 hN; replace hS : Sep w no O w2 (stl _ 2 (Res.box 24 g3 [(ii g), (.slice Ag lg cg)])) := hS.new 2 rfl hN; clear hN; refine zb (zq (za (.bool (false))) (yaa (yac (zs (zq (za (ii 0)) (yaa (yak ?_))))))); obtain ⟨I2, ⟨m0, h0⟩, hr⟩ := h; refine yaw (fun m E ds w' => ∃ v, I2 m v ∧ ds = [] ∧ E 1 = (ii q) ∧ E 2 = (Value.slice Ad ld cd) ∧ E 3 = (Value.pointer (some (⟨g3, 0, none⟩ : Addr))) ∧ E 7 = (ii v) ∧ Sep w no O w' (rl [Res.ro (FP.sl cI Ad ld cd d), Res.box 24 g3 [(ii g), (.slice Ag lg cg)], Res.ro (FP.sl c3 Ag lg cg g2)])) m0 ⟨_, h0, rfl, rfl, rfl, rfl, rfl, (hS.sel [1, 2, 0] (by decide))⟩ ?_; clear h0 hS; rintro m2 E ds w3 ⟨v, h, rfl, hE1, hE2, hE3, hE7, hS⟩ again; replace h := hr m2 v h; clear hr; refine yac (zs (zq (yab hE7) (zq (yam hE3 underlying24 rfl yag) (zq (zl underlying3 (Row.cell (hS.bx 1 rfl) (i := 0) rfl)) (zq zL (yaa ?_)))))); by_cases hp : v < g
  · replace h := h.1 hp; refine zc hp (yaf (yac (yak (zs (zq (yab hE2) (zq (yab hE7) ?_)))))); obtain ⟨hx, h⟩ := h; refine zq (zi underlying25 yag (yaG (hS.rdr 0 rfl) hx)) (zq (yah (v := (ii (gi d v.toNat))) rfl underlying3 rfl (rd_1 (hS.rdr 0 rfl) hx (fun q => yaI q) rfl)) ?_); refine zq zL (zq (zm (.bool (decide ((gi d v.toNat) < 0)))) ?_); by_cases hp2 : (gi d v.toNat) < 0
    · replace h := h.1 hp2; exact rl_p (yad rfl (yaj rfl (congrArg Value.bool (decide_eq_true hp2))) rfl) rfl (rl_p (yad rfl (yaj rfl (congrArg Value.bool (decide_eq_true hp2))) rfl) rfl (rl_p (yad rfl (yaj rfl (congrArg Value.bool (decide_eq_true hp2))) rfl) rfl (rl_p (yad rfl (yaj rfl (congrArg Value.bool (decide_eq_true hp2))) rfl) rfl (rl_p (ycl rfl rfl) rfl (rl_p (ycl rfl rfl) rfl (rl_p (ycl rfl rfl) rfl (rl_p (ycl rfl rfl) rfl (rl_p (ycl rfl rfl) rfl (rl_p (yad rfl (yaj rfl (congrArg Value.bool (decide_eq_true hp2))) rfl) rfl (zq (yaB (v := (.bool (true))) (congrArg Value.bool (decide_eq_true hp2)) rfl) (yaa (yau rfl (zs (zq (za (.bool (false))) (yaa (yal rfl rfl ⟨_, rfl, (hS.sel [] (by decide)), h⟩))))))))))))))))
    · replace h := h.2 hp2; refine rl_q (yae rfl (yaj rfl (congrArg Value.bool (decide_eq_false hp2)))) rfl rfl (yab hE7) (rl_q (yae rfl (yaj rfl (congrArg Value.bool (decide_eq_false hp2)))) rfl rfl (yab hE1) (rl_q (yae rfl (yaj rfl (congrArg Value.bool (decide_eq_false hp2)))) rfl rfl zE (rl_q (yae rfl (yaj rfl (congrArg Value.bool (decide_eq_false hp2)))) rfl rfl (zm (.bool (decide (v = q)))) ?_))); by_cases hp3 : v = q
      · replace h := h.1 hp3; refine rl_q (yae rfl (yaj rfl (congrArg Value.bool (decide_eq_true hp3)))) rfl rfl (yab hE2) (rl_q (yae rfl (yaj rfl (congrArg Value.bool (decide_eq_true hp3)))) rfl rfl (yab hE7) (rl_q (yae rfl (yaj rfl (congrArg Value.bool (decide_eq_true hp3)))) rfl rfl (zi underlying25 yag (yaG (hS.rdr 0 rfl) hx)) (rl_q (yae rfl (yaj rfl (congrArg Value.bool (decide_eq_true hp3)))) rfl rfl (yah (v := (ii (gi d v.toNat))) rfl underlying3 rfl (rd_1 (hS.rdr 0 rfl) hx (fun q => yaI q) rfl)) ?_))); refine rl_q (yae rfl (yaj rfl (congrArg Value.bool (decide_eq_true hp3)))) rfl rfl zN (rl_q (yae rfl (yaj rfl (congrArg Value.bool (decide_eq_false hp2)))) rfl rfl (yaB (v := (.bool (!(decide ((gi d v.toNat) = 0))))) (congrArg Value.bool (decide_eq_true hp3)) rfl) (zq (yaz (v := (.bool (!(decide ((gi d v.toNat) = 0))))) (congrArg Value.bool (decide_eq_false hp2)) rfl) (yaa ?_))); by_cases hp4 : (gi d v.toNat) = 0
        · replace h := h.1 hp4; refine ze hp4 (yaf (yai (zr (zq (yab hE7) ?_)))); obtain ⟨hi, h⟩ := h; refine zq (zA hi) (zq (za (ii (v + 1))) (yaa ?_)); obtain ⟨mq, hlt, h⟩ := h; exact again mq _ _ _ ⟨_, h, rfl, hE1, hE2, hE3, rfl, (hS.sel [0, 1, 2] (by decide))⟩ hlt
        · replace h := h.2 hp4; exact zf hp4 (zs (zq (za (.bool (false))) (yaa (yal rfl rfl ⟨_, rfl, (hS.sel [] (by decide)), h⟩))))
      · replace h := h.2 hp3; refine rl_p (yad rfl (yaj rfl (congrArg Value.bool (decide_eq_false hp3))) rfl) rfl (rl_p (yad rfl (yaj rfl (congrArg Value.bool (decide_eq_false hp3))) rfl) rfl (rl_p (yad rfl (yaj rfl (congrArg Value.bool (decide_eq_false hp3))) rfl) rfl (rl_p (yad rfl (yaj rfl (congrArg Value.bool (decide_eq_false hp3))) rfl) rfl (rl_p (yad rfl (yaj rfl (congrArg Value.bool (decide_eq_false hp3))) rfl) rfl (rl_q (yae rfl (yaj rfl (congrArg Value.bool (decide_eq_false hp2)))) rfl rfl (yaz (v := (.bool (false))) (congrArg Value.bool (decide_eq_false hp3)) rfl) (zq (yaz (v := (.bool (false))) (congrArg Value.bool (decide_eq_false hp2)) rfl) (yaa (yay rfl (yaf (yai (zr (zq (yab hE7) ?_)))))))))))); obtain ⟨hi2, h⟩ := h; refine zq (zA hi2) (zq (za (ii (v + 1))) (yaa ?_)); obtain ⟨mq, hlt, h⟩ := h; exact again mq _ _ _ ⟨_, h, rfl, hE1, hE2, hE3, rfl, (hS.sel [0, 1, 2] (by decide))⟩ hlt
  · replace h := h.2 hp; refine zd hp (yav rfl (zs (zq (yas (vs := [(ii g), (.slice Ag lg cg)]) hE3 underlying24 rfl yaq ⟨Row.cell (hS.bx 1 rfl) (i := 0) rfl, Row.cell (hS.bx 1 rfl) (i := 1) rfl, trivial⟩) (zq (yab hE1) (zq (yab hE2) (zn (yan rfl (am3 rfl rfl rfl) enter_176 ((pok_r25_Tight h (yaF _) (hS.rdr 2 rfl) (hS.rdr 0 rfl)).mono ?_)))))))); rintro _ w4 ⟨r, rfl, hC, h⟩; replace hS := hS.pur hC.pure; clear hC; refine ⟨_, rfl, ?_⟩; exact zb (zq (za (.bool (r))) (yaa (yal rfl rfl ⟨_, rfl, (hS.sel [] (by decide)), h⟩)))
def yeo (d : Int) (d2 : List E3) (i : Int) (R : (List (List Int)) → Prop) : Prop :=
ycq d d2 i (fun r =>
(∃ I2 : Nat → (List (List Int)) → Int → Prop, (∃ m0, I2 m0 ([[]]) 0) ∧ ∀ m2 v v2, I2 m2 v v2 → 
((v2 < d →
(∃ I3 : Nat → (List (List Int)) → Int → Prop, (∃ m0, I3 m0 ([]) 0) ∧ ∀ m3 v3 v4, I3 m3 v3 v4 → 
((v4 < ((v.length : Nat) : Int) →
(∃ I4 : Nat → (List (List Int)) → Int → Prop, (∃ m0, I4 m0 v3 0) ∧ ∀ m4 v5 v6, I4 m4 v5 v6 → 
((0 ≤ v2 ∧ v2 < ((r.length : Nat) : Int)) ∧
((v6 ≤ (gi r v2.toNat) →
((0 ≤ v4 ∧ v4 < ((v.length : Nat) : Int)) ∧
(0 + (gx v v4.toNat).length ≤ 1000000000 ∧
(([] ++ (gx v v4.toNat)).length + 1 ≤ 1000000000 ∧
(v5.length + 1 ≤ 1000000000 ∧
(In64 (v6 + 1) ∧
∃ m5, m5 < m4 ∧ I4 m5 (v5 ++ [(([] ++ (gx v v4.toNat)) ++ [v6])]) (v6 + 1))))))) ∧
(¬ (v6 ≤ (gi r v2.toNat)) →
(In64 (v4 + 1) ∧
∃ m6, m6 < m3 ∧ I3 m6 v5 (v4 + 1))))))) ∧
(¬ (v4 < ((v.length : Nat) : Int)) →
(In64 (v2 + 1) ∧
∃ m7, m7 < m2 ∧ I2 m7 v3 (v2 + 1)))))) ∧
(¬ (v2 < d) →
(∃ I5 : Nat → (List (List Int)) → Int → Prop, (∃ m0, I5 m0 ([]) 0) ∧ ∀ m8 v7 v8, I5 m8 v7 v8 → 
((v8 < ((v.length : Nat) : Int) →
((0 ≤ v8 ∧ v8 < ((v.length : Nat) : Int)) ∧
ydX d d2 i (gx v v8.toNat) (fun r2 =>
((r2 = true →
(v7.length + 1 ≤ 1000000000 ∧
(In64 (v8 + 1) ∧
∃ m9, m9 < m8 ∧ I5 m9 (v7 ++ [(gx v v8.toNat)]) (v8 + 1)))) ∧
(¬ (r2 = true) →
(In64 (v8 + 1) ∧
∃ m10, m10 < m8 ∧ I5 m10 v7 (v8 + 1))))))) ∧
(¬ (v8 < ((v.length : Nat) : Int)) →
R v7)))))))
theorem pok_r25_Calms {O : Nat → Prop} {w : World} {d d2 i Ad ld cd} {R : (List (List Int)) → Prop} (h : yeo d d2 i R) (hO : ∀ k, O k → k < w.heap.size) (hA0 : (FP.sl c3 Ad ld cd d2).P O w) :
    Calls Tryz.prog 134 #[(.agg #[(ii d), (.slice Ad ld cd)]), (ii i)] w fun e w' => ∃ r3 Ar2 lr2 cr2, e = .returned (.slice Ar2 lr2 cr2) ∧ Sep w no O w' (rl [Res.own (cL cI) 25 Ar2 lr2 cr2 r3]) ∧ R r3 := by
  unfold yeo at h; have hS : Sep w no O w (rl [Res.ro (FP.sl c3 Ad ld cd d2)]) := Sep.startl hO [(FP.sl c3 Ad ld cd d2)] ⟨hA0, trivial⟩; refine yar (l := [(.agg #[(ii d), (.slice Ad ld cd)]), (ii i)]) func134 rfl ntmps134 (Nat.le_of_ble_eq_true rfl) (zs (zn (ybq (v := (.agg #[(ii d), (.slice Ad ld cd)])) rfl ?_))); intro g w2 hN; replace hS : Sep w no O w2 (stl _ 1 (Res.box 24 g [(ii d), (.slice Ad ld cd)])) := hS.new 1 rfl hN; clear hN; refine zb (zq (za (.slice none 0 0)) (yaa (zs (zq (yas (vs := [(ii d), (.slice Ad ld cd)]) rfl underlying24 rfl yaq ⟨Row.cell (hS.bx 1 rfl) (i := 0) rfl, Row.cell (hS.bx 1 rfl) (i := 1) rfl, trivial⟩) (zq (zm (ii i)) (zn (yan rfl (am2 rfl rfl) enter_165 ((yhx h (yaF _) (hS.rdr 0 rfl)).mono ?_)))))))); rintro _ w3 ⟨r, Ar, lr, cr, rfl, hC, h⟩; replace hS := hS.call1 (hC.widen (ydi (ya1 (fI .i64) _ _ _ _ _) yeb) hS.blt) 2 0 rfl; clear hC; refine ⟨_, rfl, ?_⟩; refine zb (zq (za (.slice Ar lr cr)) (yaa (zs (zn (yaD (l := [(0, (.slice none 0 0))]) (cells := [(.slice none 0 0)]) (bp1 rfl) underlying33 yaZ rfl rfl ?_))))); intro g2 w4 hN; replace hS := hS.lit (n := 1) (c := (cL cI)) 3 rfl hN ([[]] : List (List Int)) rfl (by decide) ⟨[(.slice none 0 0)], _, rfl, ⟨_, _, _, rfl, rfl, Nat.le_refl _, Sl.nil _ _ _ _⟩, rfl⟩; clear hN; refine zb (zq (za (.slice (some ⟨g2, 0, none⟩) 1 1)) (yaa (yac (zs (zq (za (ii 0)) (yaa (yak ?_))))))); obtain ⟨I2, ⟨m0, h0⟩, hr⟩ := h; refine yaw (fun m E ds w' => ∃ v v2 Av lv cv, I2 m v v2 ∧ ds = [] ∧ E 1 = (ii i) ∧ E 2 = (Value.pointer (some (⟨g, 0, none⟩ : Addr))) ∧ E 5 = (Value.slice Ar lr cr) ∧ E 6 = (Value.slice Av lv cv) ∧ E 7 = (ii v2) ∧ Sep w no O w' (rl [Res.own (cL cI) 25 Av lv cv v, Res.box 24 g [(ii d), (.slice Ad ld cd)], Res.ro (FP.sl c3 Ad ld cd d2), Res.own cI 3 Ar lr cr r])) m0 ⟨_, _, _, _, _, h0, rfl, rfl, rfl, rfl, rfl, rfl, (hS.sel [3, 1, 0, 2] (by decide))⟩ ?_; clear h0 hS; rintro m2 E ds w5 ⟨v, v2, Av, lv, cv, h, rfl, hE1, hE2, hE5, hE6, hE7, hS⟩ again; replace h := hr m2 v v2 h; clear hr; refine yac (zs (zq (yab hE7) (zq (yam hE2 underlying24 rfl yag) (zq (zl underlying3 (Row.cell (hS.bx 1 rfl) (i := 0) rfl)) (zq zL (yaa ?_)))))); by_cases hp : v2 < d
  · replace h := h.1 hp; refine zc hp (yaf (yac (yak (zs (zq (za (.slice none 0 0)) (yaa (yac (zs (zq (za (ii 0)) (yaa (yak ?_))))))))))); replace hS := hS.nil 4 rfl (cL cI) 25; obtain ⟨I3, ⟨m0, h0⟩, hr⟩ := h; refine yaw (fun m E ds w' => ∃ v3 v4 Av2 lv2 cv2, I3 m v3 v4 ∧ ds = [] ∧ E 1 = (ii i) ∧ E 2 = (Value.pointer (some (⟨g, 0, none⟩ : Addr))) ∧ E 5 = (Value.slice Ar lr cr) ∧ E 6 = (Value.slice Av lv cv) ∧ E 7 = (ii v2) ∧ E 8 = (Value.slice Av2 lv2 cv2) ∧ E 9 = (ii v4) ∧ Sep w no O w' (rl [Res.own (cL cI) 25 Av2 lv2 cv2 v3, Res.box 24 g [(ii d), (.slice Ad ld cd)], Res.ro (FP.sl c3 Ad ld cd d2), Res.own cI 3 Ar lr cr r, Res.own (cL cI) 25 Av lv cv v])) m0 ⟨_, _, _, _, _, h0, rfl, hE1, hE2, hE5, hE6, hE7, rfl, rfl, (hS.sel [4, 1, 2, 3, 0] (by decide))⟩ ?_; clear h0 hS; rintro m3 E ds w6 ⟨v3, v4, Av2, lv2, cv2, h, rfl, hE1, hE2, hE5, hE6, hE7, hE8, hE9, hS⟩ again2; replace h := hr m3 v3 v4 h; clear hr; refine yac (zs (zq (yab hE9) (zq (yab hE6) (zq (yaO (n := v.length) rfl underlying33 (yaL (hS.rdo 4 rfl))) (zq zL (yaa ?_)))))); by_cases hp2 : v4 < ((v.length : Nat) : Int)
    · replace h := h.1 hp2; refine zc hp2 (yaf (yac (yak (zs (zq (za (ii 0)) (yaa (yak ?_))))))); obtain ⟨I4, ⟨m0, h0⟩, hr⟩ := h; refine yaw (fun m E ds w' => ∃ v5 v6 Av3 lv3 cv3, I4 m v5 v6 ∧ ds = [] ∧ E 1 = (ii i) ∧ E 2 = (Value.pointer (some (⟨g, 0, none⟩ : Addr))) ∧ E 5 = (Value.slice Ar lr cr) ∧ E 6 = (Value.slice Av lv cv) ∧ E 7 = (ii v2) ∧ E 8 = (Value.slice Av3 lv3 cv3) ∧ E 9 = (ii v4) ∧ E 10 = (ii v6) ∧ Sep w no O w' (rl [Res.own (cL cI) 25 Av3 lv3 cv3 v5, Res.box 24 g [(ii d), (.slice Ad ld cd)], Res.ro (FP.sl c3 Ad ld cd d2), Res.own cI 3 Ar lr cr r, Res.own (cL cI) 25 Av lv cv v])) m0 ⟨_, _, _, _, _, h0, rfl, hE1, hE2, hE5, hE6, hE7, hE8, hE9, rfl, (hS.sel [0, 1, 2, 3, 4] (by decide))⟩ ?_; clear h0 hS; rintro m4 E ds w7 ⟨v5, v6, Av3, lv3, cv3, h, rfl, hE1, hE2, hE5, hE6, hE7, hE8, hE9, hE10, hS⟩ again3; replace h := hr m4 v5 v6 h; clear hr; refine yac (zs (zq (yab hE10) (zq (yab hE5) (zq (yab hE7) ?_)))); obtain ⟨hx, h⟩ := h; refine zq (zi underlying25 yag (yaG (hS.rdo 3 rfl) hx)) (zq (yah (v := (ii (gi r v2.toNat))) rfl underlying3 rfl (rd_1 (hS.rdo 3 rfl) hx (fun q => yaI q) rfl)) ?_); refine zq (v_leq rfl rfl) (yaa ?_); by_cases hp3 : v6 ≤ (gi r v2.toNat)
      · replace h := h.1 hp3; refine zc hp3 (yaf (yac (yak (zr (zq (yab hE8) (zn (yaD (l := []) (cells := []) (bp0) underlying25 yag rfl rfl ?_))))))); intro g3 w8 hN; replace hS := hS.litf (n := 0) 5 rfl (fI .i64) hN ([] : List Int) rfl (by decide) rfl; clear hN; refine zb (zq (yab hE6) (zq (yab hE9) ?_)); obtain ⟨hx2, h⟩ := h; refine zq (zi underlying33 yaZ (yaG (hS.rdo 4 rfl) hx2)) ?_; obtain ⟨A, l, c, hc, hq⟩ := hS.elo 4 rfl hx2 6 rfl; replace hS := hq; clear hq; refine zq (yah (v := (.slice A l c)) rfl underlying25 rfl hc) ?_; obtain ⟨hx3, h⟩ := h; refine zn (yee (c := cI) rfl rfl underlying25 underlying25 yag rfl rfl (by decide) hS 5 rfl (hS.yr 6 rfl) hx3 ?_); clear hS; intro A2 c2 w9 hS; refine zb (zq (yab hE10) (zn (yaD (l := [(0, (ii v6))]) (cells := [(ii v6)]) (bp1 rfl) underlying25 yag rfl rfl ?_))); intro g4 w10 hN; replace hS := hS.litf (n := 1) 7 rfl (fI .i64) hN ([v6] : List Int) rfl (by decide) rfl; clear hN; refine zb ?_; obtain ⟨hx4, h⟩ := h; refine zn (yee (c := cI) rfl rfl underlying25 underlying25 yag rfl rfl (by decide) hS 5 rfl (hS.yo 7 rfl) hx4 ?_); clear hS; intro A3 c3 w11 hS; refine zb ?_; replace hS := hS.frz 5 rfl; refine zn (yaD (l := [(0, (.slice A3 ((0 + l) + 1) c3))]) (cells := [(.slice A3 ((0 + l) + 1) c3)]) (bp1 rfl) underlying33 yaZ rfl rfl ?_); intro g5 w12 hN; replace hS := hS.lit (n := 1) (c := (cL cI)) 8 rfl hN ([(([] ++ (gx v v4.toNat)) ++ [v6])] : List (List Int)) rfl (by decide) ⟨[(.slice A3 ((0 + l) + 1) c3)], _, rfl, (ro_R (hS.ro 5 rfl)), rfl⟩; clear hN; refine zb ?_; obtain ⟨hx5, h⟩ := h; refine zn (yee (c := (cL cI)) rfl rfl underlying33 underlying33 yaZ rfl rfl (by decide) hS 0 rfl (hS.yo 8 rfl) hx5 ?_); clear hS; intro A4 c4 w13 hS; refine zb (zq (za (.slice A4 (lv3 + 1) c4)) (yaa (yai (zr (zq (yab hE10) ?_))))); obtain ⟨hi, h⟩ := h; refine zq (zA hi) (zq (za (ii (v6 + 1))) (yaa ?_)); obtain ⟨mq, hlt, h⟩ := h; exact again3 mq _ _ _ ⟨_, _, _, _, _, h, rfl, hE1, hE2, hE5, hE6, hE7, rfl, hE9, rfl, (hS.sel [0, 1, 2, 3, 4] (by decide))⟩ hlt
      · replace h := h.2 hp3; refine zd hp3 (yav rfl (yai (zr (zq (yab hE9) ?_)))); obtain ⟨hi2, h⟩ := h; refine zq (zA hi2) (zq (za (ii (v4 + 1))) (yaa ?_)); obtain ⟨mq, hlt, h⟩ := h; exact again2 mq _ _ _ ⟨_, _, _, _, _, h, rfl, hE1, hE2, hE5, hE6, hE7, hE8, rfl, (hS.sel [0, 1, 2, 3, 4] (by decide))⟩ hlt
    · replace h := h.2 hp2; refine zd hp2 (yav rfl (zr (zq (yab hE8) (zq (za (.slice Av2 lv2 cv2)) (yaa (yai (zr (zq (yab hE7) ?_)))))))); obtain ⟨hi3, h⟩ := h; refine zq (zA hi3) (zq (za (ii (v2 + 1))) (yaa ?_)); obtain ⟨mq, hlt, h⟩ := h; exact again mq _ _ _ ⟨_, _, _, _, _, h, rfl, hE1, hE2, hE5, rfl, rfl, (hS.sel [0, 1, 2, 3] (by decide))⟩ hlt
  · replace h := h.2 hp; refine zd hp (yav rfl (zs (zq (za (.slice none 0 0)) (yaa (yac (zs (zq (za (ii 0)) (yaa (yak ?_))))))))); replace hS := hS.nil 4 rfl (cL cI) 25; obtain ⟨I5, ⟨m0, h0⟩, hr⟩ := h; refine yaw (fun m E ds w' => ∃ v7 v8 Av4 lv4 cv4, I5 m v7 v8 ∧ ds = [] ∧ E 1 = (ii i) ∧ E 2 = (Value.pointer (some (⟨g, 0, none⟩ : Addr))) ∧ E 6 = (Value.slice Av lv cv) ∧ E 11 = (Value.slice Av4 lv4 cv4) ∧ E 12 = (ii v8) ∧ Sep w no O w' (rl [Res.own (cL cI) 25 Av4 lv4 cv4 v7, Res.box 24 g [(ii d), (.slice Ad ld cd)], Res.ro (FP.sl c3 Ad ld cd d2), Res.own (cL cI) 25 Av lv cv v])) m0 ⟨_, _, _, _, _, h0, rfl, hE1, hE2, hE6, rfl, rfl, (hS.sel [4, 1, 2, 0] (by decide))⟩ ?_; clear h0 hS; rintro m8 E ds w14 ⟨v7, v8, Av4, lv4, cv4, h, rfl, hE1, hE2, hE6, hE11, hE12, hS⟩ again4; replace h := hr m8 v7 v8 h; clear hr; refine yac (zs (zq (yab hE12) (zq (yab hE6) (zq (yaO (n := v.length) rfl underlying33 (yaL (hS.rdo 3 rfl))) (zq zL (yaa ?_)))))); by_cases hp4 : v8 < ((v.length : Nat) : Int)
    · replace h := h.1 hp4; refine zc hp4 (yaf (yac (yak (yac (ya3 [0, 1, 2, 3, 4, 5, 6] st0 ya8 (by kernel_rfl) (by kernel_rfl) ?_))))); replace hS := hS.drew; refine zp (yas (vs := [(ii d), (.slice Ad ld cd)]) hE2 underlying24 rfl yaq ⟨Row.cell (hS.bx 1 rfl) (i := 0) rfl, Row.cell (hS.bx 1 rfl) (i := 1) rfl, trivial⟩) (zp (yab hE1) (zp (yab hE6) (zp (yab hE12) ?_))); obtain ⟨hx6, h⟩ := h; refine zp (zi underlying33 yaZ (yaG (hS.rdo 3 rfl) hx6)) ?_; obtain ⟨A5, l2, c5, hc2, hq⟩ := hS.elo 3 rfl hx6 4 rfl; replace hS := hq; clear hq; refine zp (yah (v := (.slice A5 l2 c5)) rfl underlying25 rfl hc2) (rp_n rfl rfl rfl rfl (yan rfl (am3 rfl rfl rfl) enter_166 ((pok_r25_Calm h (yaF _) (hS.rdr 2 rfl) (hS.rdr 4 rfl)).mono ?_))); rintro _ w15 ⟨r2, rfl, hC, h⟩; replace hS := hS.pur hC.pure; clear hC; refine ⟨_, rfl, ?_⟩; refine zb (ybl ?_); by_cases hp5 : r2 = true
      · replace h := h.1 hp5; refine yau (congrArg Value.bool hp5) (zr (zq (yab hE11) (zq (yab hE6) (zq (yab hE12) (zq (zi underlying33 yaZ (yaG (hS.rdo 3 rfl) hx6)) ?_))))); obtain ⟨A6, l3, c6, hc3, hq⟩ := hS.elo 3 rfl hx6 5 rfl; replace hS := hq; clear hq; refine zq (yah (v := (.slice A6 l3 c6)) rfl underlying25 rfl hc3) (zn (yaD (l := [(0, (.slice A6 l3 c6))]) (cells := [(.slice A6 l3 c6)]) (bp1 rfl) underlying33 yaZ rfl rfl ?_)); intro g6 w16 hN; replace hS := hS.lit (n := 1) (c := (cL cI)) 6 rfl hN ([(gx v v8.toNat)] : List (List Int)) rfl (by decide) ⟨[(.slice A6 l3 c6)], _, rfl, (ro_R (hS.ro 5 rfl)), rfl⟩; clear hN; refine zb ?_; obtain ⟨hx7, h⟩ := h; refine zn (yee (c := (cL cI)) rfl rfl underlying33 underlying33 yaZ rfl rfl (by decide) hS 0 rfl (hS.yo 6 rfl) hx7 ?_); clear hS; intro A7 c7 w17 hS; refine zb (zq (za (.slice A7 (lv4 + 1) c7)) (yaa (yai (zr (zq (yab hE12) ?_))))); obtain ⟨hi4, h⟩ := h; refine zq (zA hi4) (zq (za (ii (v8 + 1))) (yaa ?_)); obtain ⟨mq, hlt, h⟩ := h; exact again4 mq _ _ _ ⟨_, _, _, _, _, h, rfl, hE1, hE2, hE6, rfl, rfl, (hS.sel [0, 1, 2, 3] (by decide))⟩ hlt
      · replace h := h.2 hp5; refine yay (congrArg Value.bool (Bool.eq_false_iff.2 hp5)) (yaf (yai (zr (zq (yab hE12) ?_)))); obtain ⟨hi5, h⟩ := h; refine zq (zA hi5) (zq (za (ii (v8 + 1))) (yaa ?_)); obtain ⟨mq, hlt, h⟩ := h; exact again4 mq _ _ _ ⟨_, _, _, _, _, h, rfl, hE1, hE2, hE6, hE11, rfl, (hS.sel [0, 1, 2, 3] (by decide))⟩ hlt
    · replace h := h.2 hp4; exact zd hp4 (yav rfl (zs (zq (yab hE11) (zq (za (.slice Av4 lv4 cv4)) (yaa (yal rfl rfl ⟨_, _, _, _, rfl, (hS.sel [0] (by decide)), h⟩))))))
def ydq (g : Int) (g2 : List E3) (q : Int) (d : List Int) (R : (List Int) → Prop) : Prop :=
yeo g g2 q (fun r =>
(∃ I2 : Nat → Int → Prop, (∃ m0, I2 m0 0) ∧ ∀ m2 i, I2 m2 i → 
((i < ((r.length : Nat) : Int) →
((0 ≤ i ∧ i < ((r.length : Nat) : Int)) ∧
ydh d q (fun r2 =>
ydh (gx r i.toNat) q (fun r3 =>
yeq g g2 r2 r3 (fun r4 =>
((r4 = true →
R (gx r i.toNat)) ∧
(¬ (r4 = true) →
(In64 (i + 1) ∧
∃ m3, m3 < m2 ∧ I2 m3 (i + 1))))))))) ∧
(¬ (i < ((r.length : Nat) : Int)) →
R ([])))))
theorem yil {O : Nat → Prop} {w : World} {g g2 q d Ag lg cg Ad ld cd} {R : (List Int) → Prop} (h : ydq g g2 q d R) (hO : ∀ k, O k → k < w.heap.size) (hA0 : (FP.sl c3 Ag lg cg g2).P O w) (hA1 : (FP.sl cI Ad ld cd d).P O w) :
    Calls Tryz.prog 92 #[(.agg #[(ii g), (.slice Ag lg cg)]), (ii q), (.slice Ad ld cd)] w fun e w' => ∃ r5 Ar4 lr4 cr4, e = .returned (.slice Ar4 lr4 cr4) ∧ Sep w no O w' (rl [Res.ro (FP.sl cI Ar4 lr4 cr4 r5)]) ∧ R r5 := by
  unfold ydq at h; have hS : Sep w no O w (rl [Res.ro (FP.sl c3 Ag lg cg g2), Res.ro (FP.sl cI Ad ld cd d)]) := Sep.startl hO [(FP.sl c3 Ag lg cg g2), (FP.sl cI Ad ld cd d)] ⟨hA0, hA1, trivial⟩; refine yar (l := [(.agg #[(ii g), (.slice Ag lg cg)]), (ii q), (.slice Ad ld cd)]) func92 rfl ntmps92 (Nat.le_of_ble_eq_true rfl) (zs (zn (ybq (v := (.agg #[(ii g), (.slice Ag lg cg)])) rfl ?_))); intro g3 w2 hN; replace hS : Sep w no O w2 (stl _ 2 (Res.box 24 g3 [(ii g), (.slice Ag lg cg)])) := hS.new 2 rfl hN; clear hN; refine zb (zq (za (.slice none 0 0)) (yaa (zs (zq (yas (vs := [(ii g), (.slice Ag lg cg)]) rfl underlying24 rfl yaq ⟨Row.cell (hS.bx 2 rfl) (i := 0) rfl, Row.cell (hS.bx 2 rfl) (i := 1) rfl, trivial⟩) (zq (zm (ii q)) (zn (yan rfl (am2 rfl rfl) enter_134 ((pok_r25_Calms h hS.blt (hS.ro 0 rfl)).mono ?_)))))))); rintro _ w3 ⟨r, Ar, lr, cr, rfl, hC, h⟩; replace hS := hS.call1 hC 3 0 rfl; clear hC; refine ⟨_, rfl, ?_⟩; refine zb (zq (za (.slice Ar lr cr)) (yaa (yac (zs (zq (za (ii 0)) (yaa (yak ?_))))))); replace hS := hS.frz 3 rfl; obtain ⟨I2, ⟨m0, h0⟩, hr⟩ := h; refine yaw (fun m E ds w' => ∃ i, I2 m i ∧ ds = [] ∧ E 1 = (ii q) ∧ E 2 = (Value.slice Ad ld cd) ∧ E 3 = (Value.pointer (some (⟨g3, 0, none⟩ : Addr))) ∧ E 7 = (Value.slice Ar lr cr) ∧ E 8 = (ii i) ∧ Sep w no O w' (rl [Res.ro (FP.sl cI Ad ld cd d), Res.box 24 g3 [(ii g), (.slice Ag lg cg)], Res.ro (FP.sl c3 Ag lg cg g2), Res.ro (FP.sl (cL cI) Ar lr cr r)])) m0 ⟨_, h0, rfl, rfl, rfl, rfl, rfl, rfl, (hS.sel [1, 2, 0, 3] (by decide))⟩ ?_; clear h0 hS; rintro m2 E ds w4 ⟨i, h, rfl, hE1, hE2, hE3, hE7, hE8, hS⟩ again; replace h := hr m2 i h; clear hr; refine yac (zs (zq (yab hE8) (zq (yab hE7) (zq (yaO (n := r.length) rfl underlying33 (yaL (hS.rdr 3 rfl))) (zq zL (yaa ?_)))))); by_cases hp : i < ((r.length : Nat) : Int)
  · replace h := h.1 hp; refine zc hp (yaf (yac (yak (yac (ya3 [0, 1, 2, 4, 5, 6, 7, 8, 3, 9, 10] (fun i => match i with | 3 => [0, 4, 5, 6, 7, 8] | 9 => [0] | _ => []) ya8 (by kernel_rfl) (by kernel_rfl) ?_))))); replace hS := hS.drew; refine zp (yas (vs := [(ii g), (.slice Ag lg cg)]) hE3 underlying24 rfl yaq ⟨Row.cell (hS.bx 1 rfl) (i := 0) rfl, Row.cell (hS.bx 1 rfl) (i := 1) rfl, trivial⟩) (zp (yab hE2) (zp (yab hE1) (zp (yab hE7) (zp (yab hE8) ?_)))); obtain ⟨hx, h⟩ := h; refine zp (zi underlying33 yaZ (yaG (hS.rdr 3 rfl) hx)) ?_; obtain ⟨A, l, c, hc, hq⟩ := hS.el 3 rfl hx 4 5 rfl rfl (by decide); replace hS := hq; clear hq; refine zp (yah (v := (.slice A l c)) rfl underlying25 rfl (hS.clr 5 rfl)) (zp (yab hE1) (rp_n rfl rfl rfl rfl (yan rfl (am2 rfl rfl) enter_136 ((yhu h (yaF _) (hS.rdr 0 rfl)).mono ?_)))); rintro _ w5 ⟨r2, Ar2, lr2, cr2, rfl, hC, h⟩; replace hS := hS.call1 (hC.widen (ydi (ya1 (fI .i64) _ _ _ _ _) yeb) hS.blt) 6 0 rfl; clear hC; refine ⟨_, rfl, ?_⟩; refine ⟨⟨fun _ => (yab hE1), ⟨fun _ => (yah (v := (Value.slice A l c)) rfl underlying25 rfl (hS.clr 5 rfl)), ⟨fun _ => (zi underlying33 yaZ (yaG (hS.rdr 3 rfl) hx)), ⟨fun _ => (yab hE8), ⟨fun _ => (yab hE7), ⟨fun hh => Bool.noConfusion (show false = true from hh), ⟨fun hh => Bool.noConfusion (show false = true from hh), ⟨fun _ => (yas (vs := [(ii g), (.slice Ag lg cg)]) hE3 underlying24 rfl yaq ⟨Row.cell (hS.bx 1 rfl) (i := 0) rfl, Row.cell (hS.bx 1 rfl) (i := 1) rfl, trivial⟩), trivial⟩⟩⟩⟩⟩⟩⟩⟩, ?_⟩; refine rp_n rfl rfl rfl rfl (yan rfl (am2 rfl rfl) enter_136 ((yhu h (yaF _) (hS.rdr 4 rfl)).mono ?_)); rintro _ w6 ⟨r3, Ar3, lr3, cr3, rfl, hC, h⟩; replace hS := hS.call1 (hC.widen (ydi (ya1 (fI .i64) _ _ _ _ _) yeb) hS.blt) 7 0 rfl; clear hC; refine ⟨_, rfl, ?_⟩; refine ⟨⟨fun hh => Bool.noConfusion (show false = true from hh), ⟨fun hh => Bool.noConfusion (show false = true from hh), ⟨fun hh => Bool.noConfusion (show false = true from hh), ⟨fun hh => Bool.noConfusion (show false = true from hh), ⟨fun hh => Bool.noConfusion (show false = true from hh), ⟨fun hh => Bool.noConfusion (show false = true from hh), ⟨fun hh => Bool.noConfusion (show false = true from hh), ⟨fun _ => (yas (vs := [(ii g), (.slice Ag lg cg)]) hE3 underlying24 rfl yaq ⟨Row.cell (hS.bx 1 rfl) (i := 0) rfl, Row.cell (hS.bx 1 rfl) (i := 1) rfl, trivial⟩), trivial⟩⟩⟩⟩⟩⟩⟩⟩, ?_⟩; refine rp_n rfl rfl rfl rfl (yan rfl (am3 rfl rfl rfl) enter_135 ((pok_r25_Alike h (yaF _) (hS.rdr 2 rfl) (hS.rdo 6 rfl) (hS.rdo 7 rfl)).mono ?_)); rintro _ w7 ⟨r4, rfl, hC, h⟩; replace hS := hS.pur hC.pure; clear hC; refine ⟨_, rfl, ?_⟩; refine zb (ybl ?_); by_cases hp2 : r4 = true
    · replace h := h.1 hp2; refine yau (congrArg Value.bool hp2) (zs (zq (yab hE7) (zq (yab hE8) (zq (zi underlying33 yaZ (yaG (hS.rdr 3 rfl) hx)) ?_)))); obtain ⟨A2, l2, c2, hc2, hq⟩ := hS.el 3 rfl hx 8 9 rfl rfl (by decide); replace hS := hq; clear hq; exact zq (yah (v := (.slice A2 l2 c2)) rfl underlying25 rfl (hS.clr 9 rfl)) (zq (za (.slice A2 l2 c2)) (yaa (yal rfl rfl ⟨_, _, _, _, rfl, (hS.sel [8] (by decide)), h⟩)))
    · replace h := h.2 hp2; refine yay (congrArg Value.bool (Bool.eq_false_iff.2 hp2)) (yaf (yai (zr (zq (yab hE8) ?_)))); obtain ⟨hi, h⟩ := h; refine zq (zA hi) (zq (za (ii (i + 1))) (yaa ?_)); obtain ⟨mq, hlt, h⟩ := h; exact again mq _ _ _ ⟨_, h, rfl, hE1, hE2, hE3, hE7, rfl, (hS.sel [0, 1, 2, 3] (by decide))⟩ hlt
  · replace h := h.2 hp; refine zd hp (yav rfl (zs (zq (za (.slice none 0 0)) (yaa ?_)))); replace hS := hS.addro 4 rfl _ (nil_sl cI _ _); exact yal rfl rfl ⟨_, _, _, _, rfl, (hS.sel [4] (by decide)), h⟩
def ydY (g : Int) (g2 : List E3) (q : Int) (d : List Int) (R : (List Int) → Prop) : Prop :=
ydq g g2 q d (fun r =>
(0 + r.length ≤ 1000000000 ∧
ybs d (fun r2 =>
ybs ([] ++ r) (fun r3 =>
(In64 (r2 - r3) ∧
((0 ≤ q ∧ q < ((([] ++ r).length : Nat) : Int)) ∧
R (([] ++ r).set q.toNat (r2 - r3))))))))
theorem pok_r34_Form {O : Nat → Prop} {w : World} {g g2 q d Ag lg cg Ad ld cd} {R : (List Int) → Prop} (h : ydY g g2 q d R) (hO : ∀ k, O k → k < w.heap.size) (hA0 : (FP.sl c3 Ag lg cg g2).P O w) (hA1 : (FP.sl cI Ad ld cd d).P O w) :
    Calls Tryz.prog 51 #[(.agg #[(ii g), (.slice Ag lg cg)]), (ii q), (.slice Ad ld cd)] w fun e w' => ∃ r4 Ar2 lr2 cr2, e = .returned (.slice Ar2 lr2 cr2) ∧ Sep w no O w' (rl [Res.own cI 3 Ar2 lr2 cr2 r4]) ∧ R r4 := by
  unfold ydY at h; have hS : Sep w no O w (rl [Res.ro (FP.sl c3 Ag lg cg g2), Res.ro (FP.sl cI Ad ld cd d)]) := Sep.startl hO [(FP.sl c3 Ag lg cg g2), (FP.sl cI Ad ld cd d)] ⟨hA0, hA1, trivial⟩; refine yar (l := [(.agg #[(ii g), (.slice Ag lg cg)]), (ii q), (.slice Ad ld cd)]) func51 rfl ntmps51 (Nat.le_of_ble_eq_true rfl) (zs (zn (ybq (v := (.agg #[(ii g), (.slice Ag lg cg)])) rfl ?_))); intro g3 w2 hN; replace hS : Sep w no O w2 (stl _ 2 (Res.box 24 g3 [(ii g), (.slice Ag lg cg)])) := hS.new 2 rfl hN; clear hN; refine zb (zq (za (.slice none 0 0)) (yaa (zs (zn (yaD (l := []) (cells := []) (bp0) underlying25 yag rfl rfl ?_))))); intro g4 w3 hN; replace hS := hS.litf (n := 0) 3 rfl (fI .i64) hN ([] : List Int) rfl (by decide) rfl; clear hN; refine zb (zq (yas (vs := [(ii g), (.slice Ag lg cg)]) rfl underlying24 rfl yaq ⟨Row.cell (hS.bx 2 rfl) (i := 0) rfl, Row.cell (hS.bx 2 rfl) (i := 1) rfl, trivial⟩) (zq (zm (ii q)) (zq (zm (.slice Ad ld cd)) (zn (yan rfl (am3 rfl rfl rfl) enter_92 ((yil h hS.blt (hS.ro 0 rfl) (hS.ro 1 rfl)).mono ?_)))))); rintro _ w4 ⟨r, Ar, lr, cr, rfl, hC, h⟩; replace hS := hS.call1 hC 4 0 rfl; clear hC; refine ⟨_, rfl, ?_⟩; refine zb ?_; obtain ⟨hx, h⟩ := h; refine zn (yee (c := cI) rfl rfl underlying25 underlying25 yag rfl rfl (by decide) hS 3 rfl (hS.yr 4 rfl) hx ?_); clear hS; intro A c w5 hS; refine zb (zq (za (.slice A (0 + lr) c)) (yaa (zs (zq (zm (.slice A (0 + lr) c)) (zq (zm (ii q)) (zq (zm (.slice Ad ld cd)) (zn (yan rfl (am1 rfl) ye6 ((yb3 h (yaF _) (hS.rdr 1 rfl)).mono ?_))))))))); rintro _ w6 ⟨r2, rfl, hC, h⟩; replace hS := hS.pur hC.pure; clear hC; refine ⟨_, rfl, ?_⟩; refine zb (zq (zm (.slice A (0 + lr) c)) (zn (yan rfl (am1 rfl) ye6 ((yb3 h (yaF _) (hS.rdo 3 rfl)).mono ?_)))); rintro _ w7 ⟨r3, rfl, hC, h⟩; replace hS := hS.pur hC.pure; clear hC; refine ⟨_, rfl, ?_⟩; refine zb ?_; obtain ⟨hi, h⟩ := h; refine zq (zS hi) ?_; obtain ⟨hx2, h⟩ := h; refine zq (zi underlying25 yag (yaG (hS.rdo 3 rfl) hx2)) (zo (zt (ii (r2 - r3)) yag (hS.wr 3 rfl rfl hx2) ?_)); intro w8 e1; replace hS := hS.st 3 rfl rfl hx2 (x := r2 - r3) rfl e1; clear e1; exact zb (yaa (zs (zq (zm (.slice A (0 + lr) c)) (zq (za (.slice A (0 + lr) c)) (yaa (yal rfl rfl ⟨_, _, _, _, rfl, (hS.sel [3] (by decide)), h⟩))))))
def yeS (g : Int) (g2 : List E3) (q : Int) (a : List Int) (b : List Int) (R : (List Int) → Prop) : Prop :=
ycm a b (-1) (fun r =>
ycV g g2 q r (fun r2 r3 =>
R r2))
theorem pok_r34_Way {O : Nat → Prop} {w : World} {g g2 q a b Ag lg cg Aa la ca Ab lb cb} {R : (List Int) → Prop} (h : yeS g g2 q a b R) (hO : ∀ k, O k → k < w.heap.size) (hA0 : (FP.sl c3 Ag lg cg g2).P O w) (hA1 : (FP.sl cI Aa la ca a).P O w) (hA2 : (FP.sl cI Ab lb cb b).P O w) :
    Calls Tryz.prog 50 #[(.agg #[(ii g), (.slice Ag lg cg)]), (ii q), (.slice Aa la ca), (.slice Ab lb cb)] w fun e w' => ∃ r4 Ar3 lr3 cr3, e = .returned (.slice Ar3 lr3 cr3) ∧ Sep w no O w' (rl [Res.own cI 3 Ar3 lr3 cr3 r4]) ∧ R r4 := by
  unfold yeS at h; have hS : Sep w no O w (rl [Res.ro (FP.sl c3 Ag lg cg g2), Res.ro (FP.sl cI Aa la ca a), Res.ro (FP.sl cI Ab lb cb b)]) := Sep.startl hO [(FP.sl c3 Ag lg cg g2), (FP.sl cI Aa la ca a), (FP.sl cI Ab lb cb b)] ⟨hA0, hA1, hA2, trivial⟩; refine yar (l := [(.agg #[(ii g), (.slice Ag lg cg)]), (ii q), (.slice Aa la ca), (.slice Ab lb cb)]) func50 rfl ntmps50 (Nat.le_of_ble_eq_true rfl) (zs (zn (ybq (v := (.agg #[(ii g), (.slice Ag lg cg)])) rfl ?_))); intro g3 w2 hN; replace hS : Sep w no O w2 (stl _ 3 (Res.box 24 g3 [(ii g), (.slice Ag lg cg)])) := hS.new 3 rfl hN; clear hN; refine zb (zq (za (.slice none 0 0)) (yaa (yac (ya3 [0, 1, 2, 3, 4, 5, 6, 7, 8, 9, 10] (fun i => match i with | 4 => [0, 1] | _ => []) ya8 (by kernel_rfl) (by kernel_rfl) ?_)))); replace hS := hS.drew; refine zp (yas (vs := [(ii g), (.slice Ag lg cg)]) rfl underlying24 rfl yaq ⟨Row.cell (hS.bx 3 rfl) (i := 0) rfl, Row.cell (hS.bx 3 rfl) (i := 1) rfl, trivial⟩) (zp (zm (ii q)) (zp (zm (.slice Aa la ca)) (zp (zm (.slice Ab lb cb)) (rp_n rfl rfl rfl rfl (yan rfl (am3 rfl rfl rfl) yhS ((yek h (yaF _) (hS.rdr 1 rfl) (hS.rdr 2 rfl)).mono ?_)))))); rintro _ w3 ⟨r, Ar, lr, cr, rfl, hC, h⟩; replace hS := hS.call1 (hC.widen (ydi (ya1 (fI .i64) _ _ _ _ _) yeb) hS.blt) 4 0 rfl; clear hC; refine ⟨_, rfl, ?_⟩; refine ⟨⟨fun hh => Bool.noConfusion (show false = true from hh), ⟨fun hh => Bool.noConfusion (show false = true from hh), ⟨fun _ => (zm (ii q)), ⟨fun _ => (yas (vs := [(ii g), (.slice Ag lg cg)]) rfl underlying24 rfl yaq ⟨Row.cell (hS.bx 3 rfl) (i := 0) rfl, Row.cell (hS.bx 3 rfl) (i := 1) rfl, trivial⟩), trivial⟩⟩⟩⟩, ?_⟩; refine rp_n rfl rfl rfl rfl (yan rfl (am3 rfl rfl rfl) enter_91 ((ygr h (yaF _) (hS.rdr 0 rfl) (hS.rdo 4 rfl)).mono ?_)); rintro _ w4 ⟨r2, r3, Ar2, lr2, cr2, rfl, hC, h⟩; replace hS := hS.call1 (hC.widen (ydi (ya1 (fI .i64) _ _ _ _ _) yeb) hS.blt) 5 0 rfl; clear hC; refine ⟨_, rfl, ?_⟩; exact zb (zp (zm (.tuple #[(.slice Ar2 lr2 cr2), (.bool (r3))])) (zp (zx (.slice Ar2 lr2 cr2)) (zp (zx (.bool (r3))) (zp (za (.slice Ar2 lr2 cr2)) (zp (za (.bool (r3))) (ybl (zs (zq (zm (.slice Ar2 lr2 cr2)) (zq (za (.slice Ar2 lr2 cr2)) (yaa (yal rfl rfl ⟨_, _, _, _, rfl, (hS.sel [5] (by decide)), h⟩)))))))))))
end Go.Proofs.YtmeoemmemjipdaaGreat

/- What the references' pure forms come to: graphs and divisors. -/
namespace Go.Proofs.YtmeoemmemjipdaaGreat
open Go Go.Proofs.Tryz
set_option linter.unusedVariables false
set_option linter.unusedSimpArgs false
theorem p_r17_In {k : Int} {R : Bool → Prop} (h : R (inF k)) : yfB k R := by
  unfold yfB
  refine ⟨fun h1 => ?_, fun h1 => ?_⟩
  · have e : decide (k ≤ 1048576) = inF k := by unfold inF; simp [h1]
    rw [e]; exact h
  · have e : false = inF k := by unfold inF; simp [h1]
    rw [e]; exact h
theorem yhr {n v : Int} {es : List E3} {R : Bool → Prop} (h : R (decide (0 ≤ v ∧ v < n))) : ycv n es v R := by
  unfold ycv
  refine ⟨fun h1 => ?_, fun h1 => ?_⟩
  · have e : decide (v < n) = decide (0 ≤ v ∧ v < n) := by simp [h1]
    rw [e]; exact h
  · have e : false = decide (0 ≤ v ∧ v < n) := by simp [h1]
    rw [e]; exact h
theorem yiC {d : List Int} {n : Int} {R : Int → Prop} (h : R (yaM d n)) : ycP d n R := by
  unfold ycP
  have hout : ¬ (1 ≤ n ∧ n ≤ 12) → R 2 := fun q => by
    have : yaM d n = 2 := by unfold yaM yfs; rw [if_neg q, if_neg (by omega)]
    rwa [this] at h
  refine ⟨1 ≤ n ∧ n ≤ 12, fun hn => ?_, fun q => hout (by omega), fun q => ⟨fun q2 => hout (by omega), fun q2 => ⟨by omega, by omega⟩⟩⟩
  have hc : yaM d n = if (d.length : Int) = n then (if d.all inF then 0 else 2) else 8 := by unfold yaM; rw [if_pos (by unfold yfs; rw [if_pos hn])]
  rw [hc] at h
  refine ⟨fun hln => ?_, fun hln => by rwa [if_neg hln] at h⟩
  rw [if_pos hln] at h
  refine ⟨Cnt d.length (fun k => ∀ j, j < k → inF (gi d j) = true), Cnt.start (fun j hj => absurd hj (by omega)), ?_⟩
  rintro m _ ⟨k, rfl, rfl, hk, hinv⟩
  refine ⟨fun hlt => ⟨by omega, p_r17_In ⟨fun h1 => Cnt.next (by omega) (by omega) fun j hj => ?_, fun h1 => ?_⟩⟩, fun hge => ?_⟩
  · by_cases e : j = k
    · subst e; simpa using h1
    · exact hinv j (by omega)
  · rw [if_neg (fun hall => h1 ((ycQ inF d).1 hall _ (by omega)))] at h; exact h
  · rw [if_pos ((ycQ inF d).2 fun j hj => hinv j (by omega))] at h; exact h
theorem ycO {d : List Int} {R : Int → Prop} (hl : d.length ≤ 1000000) (hb : ∀ i, i < d.length → -1000000000000 ≤ gi d i ∧ gi d i ≤ 1000000000000) (h : R (dg d)) : ybs d R := by
  unfold ybs
  refine ⟨fun m n v => Cnt d.length (fun k => n = sm k (gi d)) m v, Cnt.start rfl, ?_⟩
  rintro m n _ ⟨k, rfl, rfl, hk, rfl⟩
  refine ⟨fun hlt => ⟨by omega, ?_, Cnt.next (by omega) (by omega) rfl⟩, fun hge => ?_⟩
  · have := yc0 (f := gi d) (B := 1000000000000) (by omega) (n := k + 1) fun i hi => hb i (by omega)
    rw [sm] at this
    exact i64 (by simp only [Int.toNat_natCast]; omega)
  · have : k = d.length := by omega
    subst this; exact h
theorem p_r08_edge {n : Int} {es : List E3} {k : Nat} {R : Int → Prop} (hk : k < es.length) (hl : es.length ≤ 1000000000) (h : R (ygl n (pre es k).1 (pre es k).2 (ge es k))) : yd8 n es (k : Int) R := by
  unfold yd8
  simp only [Int.toNat_natCast]
  generalize hx : ge es k = x at h ⊢
  refine ⟨by omega, (0 ≤ x.1 ∧ x.1 < n) ∧ (0 ≤ x.2.1 ∧ x.2.1 < n) ∧ 1 ≤ x.2.2 ∧ x.2.2 ≤ 50, fun hJ => ?_, ?_⟩
  · have hed : ∀ a b, ygl n a b x = if x.1 ≤ x.2.1 ∧ yft a b x.1 x.2.1 < 0 then 0 else 9 := fun a b => by unfold ygl; rw [if_pos hJ]
    rw [hed] at h
    refine ⟨fun q => by rw [if_neg (by omega)] at h; exact h, fun q => ⟨fun h0 => ?_, fun h0 => ?_⟩⟩
    · have e1 : ((k : Int) - 1).toNat = k - 1 := by omega
      rw [e1]
      have hp : pre es k = ((ge es (k - 1)).1, (ge es (k - 1)).2.1) := by unfold pre; rw [if_neg (by omega)]
      rw [hp] at h
      have hc := yiv (ge es (k - 1)).1 (ge es (k - 1)).2.1 x.1 x.2.1
      refine ⟨i64 (by omega), by omega, fun q1 => ?_, fun q1 => ⟨fun q2 => ⟨fun q3 => ?_, fun q3 => ?_⟩, fun q2 => ?_⟩⟩
      · rw [if_neg (fun h => by have := hc.1 h.2; omega)] at h; exact h
      · rw [if_neg (fun h => by have := hc.1 h.2; omega)] at h; exact h
      · rw [if_pos ⟨by omega, hc.2 (by omega)⟩] at h; exact h
      · rw [if_pos ⟨by omega, hc.2 (by omega)⟩] at h; exact h
    · have hp : pre es k = (-1, -1) := by unfold pre; rw [if_pos (by omega)]
      rw [hp, if_pos ⟨by omega, (yiv _ _ _ _).2 (.inl (by omega))⟩] at h
      exact h
  · have hed : ¬ ((0 ≤ x.1 ∧ x.1 < n) ∧ (0 ≤ x.2.1 ∧ x.2.1 < n) ∧ 1 ≤ x.2.2 ∧ x.2.2 ≤ 50) → R 2 := fun q => by unfold ygl at h; rwa [if_neg q] at h
    refine yhr ⟨fun h1 => yhr ⟨fun h2 => ⟨fun h3 => hed (by omega), fun h3 => ⟨fun h4 => hed (by omega), fun h4 => ?_⟩⟩, fun h2 => hed (by simp at h2; omega)⟩, fun h1 => hed (by simp at h1; omega)⟩
    simp only [decide_eq_true_eq] at h1 h2
    exact ⟨h1, h2, by omega, by omega⟩
theorem yiK {n : Int} {es : List E3} {R : Int → Prop} (hl : es.length ≤ 1000000000) (h : R (yat n es)) : ycR n es R := by
  unfold ycR
  have hout : ¬ (1 ≤ n ∧ n ≤ 12) → R 2 := fun q => by unfold yat at h; rwa [if_neg q] at h
  refine ⟨1 ≤ n ∧ n ≤ 12, fun hn => ?_, fun q => hout (by omega), fun q => ⟨fun q2 => hout (by omega), fun q2 => ⟨by omega, by omega⟩⟩⟩
  have hg : yat n es = gchk n (-1) (-1) es := by unfold yat; rw [if_pos hn]
  rw [hg] at h
  refine ⟨Cnt es.length (fun k => gchk n (-1) (-1) es = gchk n (pre es k).1 (pre es k).2 (es.drop k)), Cnt.start rfl, ?_⟩
  rintro m _ ⟨k, rfl, rfl, hk, hinv⟩
  refine ⟨fun hlt => p_r08_edge (by omega) hl ⟨fun h0 => Cnt.next (by omega) (by omega) ?_, fun h0 => ?_⟩, fun hge => ?_⟩
  · rw [ygY (by omega), yfF, if_pos h0] at hinv
    rw [hinv]; simp [pre]
  · rw [ygY (by omega), yfF, if_neg h0] at hinv
    rwa [hinv] at h
  · have hk2 : k = es.length := by omega
    rw [hinv, hk2, List.drop_length] at h
    exact h
theorem p_r08_Between' {n : Int} {es : List E3} {a b : Int} {R : Int → Prop} (hl : es.length ≤ 1000000000) (h : R (((es.find? fun x => decide (x.1 = mnF a b ∧ x.2.1 = mxF a b)).map (·.2.2)).getD 0)) : ya9 n es a b R := by
  unfold ya9
  refine ⟨Cnt es.length (fun k => es.find? (fun x => decide (x.1 = mnF a b ∧ x.2.1 = mxF a b)) = (es.drop k).find? (fun x => decide (x.1 = mnF a b ∧ x.2.1 = mxF a b))), Cnt.start rfl, ?_⟩
  rintro m _ ⟨k, rfl, rfl, hk, hinv⟩
  refine ⟨fun hlt => ?_, fun hge => ?_⟩
  · have hlt : k < es.length := by omega
    rw [ygY hlt, List.find?_cons] at hinv
    simp only [Int.toNat_natCast]
    refine ⟨by omega, fun h1 => ⟨fun h2 => ?_, fun h2 => Cnt.next hlt (by omega) ?_⟩, fun h1 => Cnt.next hlt (by omega) ?_⟩
    · rw [hinv] at h; simpa [h1, h2] using h
    · rw [hinv]; simp [h2]
    · rw [hinv]; simp [h1]
  · have hk2 : k = es.length := by omega
    rw [hinv, hk2, List.drop_length] at h
    exact h
theorem ygS {n : Int} {es : List E3} (hg : yat n es = 0) (u v : Nat) : 0 ≤ W es u v ∧ W es u v ≤ 50 := by
  by_cases e : u = v
  · subst e; rw [yfK]; omega
  · have hok := gchk_ok es _ _ (ye4 hg)
    rw [← yh9 u v e es (-1) (-1) (ye4 hg)]
    cases hf : es.find? fun x => decide (x.1 = mnF (u : Int) v ∧ x.2.1 = mxF (u : Int) v) with
    | none => simp
    | some x => have := hok x (List.mem_of_find?_eq_some hf); simp; omega
theorem ycy {n : Int} {es : List E3} {u v : Nat} {R : Int → Prop} (hl : es.length ≤ 1000000000) (hg : yat n es = 0) (huv : u ≠ v) (h : R (W es u v)) : ya9 n es (u : Int) (v : Int) R :=
  p_r08_Between' hl (by rw [yh9 u v huv es (-1) (-1) (ye4 hg)]; exact h)
theorem yfU {n : Int} {es : List E3} (hg : yat n es = 0) (k v : Nat) : 0 ≤ sm k (fun u => W es v u) ∧ sm k (fun u => W es v u) ≤ k * 50 :=
  ⟨yaX fun i _ => (ygS hg v i).1, (yc0 (f := fun u => W es v u) (B := 50) (by omega) fun i _ => by have := ygS hg v i; omega).2⟩
theorem ygp {n : Nat} {es : List E3} {v : Nat} {R : Int → Prop} (hl : es.length ≤ 1000000000) (hg : yat n es = 0) (h : R (deg n es v)) : ycj (n : Int) es (v : Int) R := by
  obtain ⟨hE, hn1, hn12⟩ := yba hg
  unfold ycj
  refine ⟨fun m a u => Cnt n (fun k => a = sm k (fun u => W es v u)) m u, Cnt.start rfl, ?_⟩
  rintro m a _ ⟨k, rfl, rfl, hk, rfl⟩
  refine ⟨fun hlt => ⟨fun e => Cnt.next (by omega) (by omega) ?_, fun e => ycy hl hg (by omega) ?_⟩, fun hge => ?_⟩
  · have e : k = v := by omega
    subst e
    rw [sm, yfK]; omega
  · have h1 := yfU hg k v
    have h2 := ygS hg k v
    refine ⟨i64 (by omega), Cnt.next (by omega) (by omega) ?_⟩
    rw [sm, ydG es v k]
  · have hk2 : k = n := by omega
    subst hk2; exact h
def yhF (es : List E3) : List (Int × Int) := es.flatMap fun x => List.replicate x.2.2.toNat (x.1, x.2.1)
theorem endsF_take {es : List E3} {k : Nat} (hk : k < es.length) : yhF (es.take (k + 1)) = yhF (es.take k) ++ List.replicate (ge es k).2.2.toNat ((ge es k).1, (ge es k).2.1) := by
  unfold yhF
  rw [List.take_add_one, List.getElem?_eq_getElem hk, ydR hk, List.flatMap_append]
  simp
theorem yhv (es : List E3) (hE : ∀ x ∈ es, 1 ≤ x.2.2 ∧ x.2.2 ≤ 50) : ((yhF es).length : Int) = (es.map (·.2.2)).sum ∧ (yhF es).length ≤ 50 * es.length := by
  induction es with
  | nil => simp [yhF]
  | cons x t ih =>
    have hx := hE x (by simp)
    have := ih fun y hy => hE y (by simp [hy])
    unfold yhF at this ⊢
    rw [List.flatMap_cons, List.length_append, List.length_replicate, List.map_cons, List.sum_cons, List.length_cons]
    omega
theorem p_r08_Ends {n : Int} {es : List E3} {R : List (Int × Int) → Prop} (hl : es.length ≤ 1000) (hE : ∀ x ∈ es, 1 ≤ x.2.2 ∧ x.2.2 ≤ 50) (h : R (yhF es)) : yd6 n es R := by
  unfold yd6
  have hlen : ∀ k, (yhF (es.take k)).length ≤ 50 * k := fun k => by
    have := (yhv (es.take k) fun x hx => hE x (List.mem_of_mem_take hx)).2
    rw [List.length_take] at this
    omega
  refine ⟨fun m out i => Cnt es.length (fun k => out = yhF (es.take k)) m i, Cnt.start (by simp [yhF]), ?_⟩
  rintro m out _ ⟨k, rfl, rfl, hk, rfl⟩
  refine ⟨fun hlt => ?_, fun hge => ?_⟩
  · have hlt : k < es.length := by omega
    have hmk := hE _ (yjI hlt)
    have hl2 := hlen k
    simp only [Int.toNat_natCast]
    refine ⟨fun m2 out2 j => Cnt (ge es k).2.2.toNat (fun i => out2 = yhF (es.take k) ++ List.replicate i ((ge es k).1, (ge es k).2.1)) m2 j, Cnt.start (by simp), ?_⟩
    rintro m2 out2 _ ⟨j, rfl, rfl, hj, rfl⟩
    refine ⟨by omega, fun h1 => ⟨?_, Cnt.next (by omega) (by omega) ?_⟩, fun h1 => Cnt.next hlt (by omega) ?_⟩
    · rw [List.length_append, List.length_replicate]; omega
    · rw [List.append_assoc, List.replicate_succ']
    · have : j = (ge es k).2.2.toNat := by omega
      rw [endsF_take hlt, this]
  · have hk2 : k = es.length := by omega
    rw [hk2, List.take_length]; exact h
theorem p_r08_Size {n : Int} {es : List E3} {R : Int → Prop} (hl : es.length ≤ 1000) (hE : ∀ x ∈ es, 1 ≤ x.2.2 ∧ x.2.2 ≤ 50) (h : R ((es.map (·.2.2)).sum)) : ye2 n es R :=
  p_r08_Ends hl hE (by rw [(yhv es hE).1]; exact h)
theorem p_r08_small {n a b : Int} {es : List E3} {R : Bool → Prop} (h : R (yhl n es a b)) : yds n es a b R := by
  unfold yds
  unfold yhl at h
  refine ⟨fun h1 => ?_, fun h1 => yiK (by omega) ⟨fun h2 => ⟨fun h3 => ?_, fun h3 => ?_⟩, fun h2 => ?_⟩⟩
  · rwa [decide_eq_false (by omega)] at h
  · have hE := gchk_ok es _ _ (ye4 h2)
    refine p_r08_Size (by omega) (fun x hx => (hE x hx).2.2.2.2) ?_
    have e : decide ((es.map (·.2.2)).sum ≤ b) = decide (es.length ≤ 40 ∧ (yat n es = 0 → n ≤ a ∧ (es.map (·.2.2)).sum ≤ b)) := by
      rw [decide_eq_decide]; constructor
      · intro q; exact ⟨by omega, fun _ => ⟨h3, q⟩⟩
      · intro q; exact (q.2 h2).2
    rw [e]; exact h
  · rwa [decide_eq_false (fun q => h3 (q.2 h2).1)] at h
  · rwa [decide_eq_true ⟨by omega, fun q => absurd q h2⟩] at h
end Go.Proofs.YtmeoemmemjipdaaGreat

/- What the references' pure forms come to: connectedness, errors, scripts. -/
namespace Go.Proofs.YtmeoemmemjipdaaGreat
open Go Go.Proofs.Tryz
set_option linter.unusedVariables false
set_option linter.unusedSimpArgs false
section
variable {n : Nat} {es : List E3}
theorem p_r08_Reached {v : Nat} {R : List Bool → Prop} (hl : es.length ≤ 1000000000) (hg : yat n es = 0) (hv : v < n) (h : ∀ o : List Bool, o.length = n → (∀ u, u < n → gb o u = decide (root (yax es) u = root (yax es) v)) → R o) : ycL (n : Int) es (v : Int) R := by
  obtain ⟨hE, hn1, hn12⟩ := yba hg
  unfold ycL
  simp only [Int.toNat_natCast]
  refine ⟨by omega, by simp; omega, ?_⟩
  let Q : List Bool → Prop := fun o => o.length = n ∧ gb o v = true ∧ ∀ u, u < n → gb o u = true → root (yax es) u = root (yax es) v
  let Z : List Bool → List Bool → Prop := fun o0 o => (Cl n es o0 → o = o0) ∧ (o = o0 ∨ cf o < cf o0) ∧ ∀ a, gb o0 a = true → gb o a = true
  have hq4 : Q ((List.replicate n false).set v true) := by
    refine ⟨by simp, by rw [ydI (by simpa using hv), if_pos rfl], fun u hu h => ?_⟩
    rw [ydI (by simpa using hv)] at h
    split at h
    · rename_i e; rw [e]
    · rw [gb_rep] at h; cases h
  have hcf0 : cf ((List.replicate n false).set v true) + 1 = n := by
    rw [cf_set (by simpa using hv) (gb_rep n v)]
    unfold cf
    rw [List.filter_eq_self.2 (fun x hx => by rw [(List.mem_replicate.1 hx).2]; rfl)]
    simp
  have hsetQ : ∀ {o : List Bool} {b : Nat}, Q o → b < n → root (yax es) b = root (yax es) v → Q (o.set b true) := by
    rintro o b ⟨q1, q4, q5⟩ hb hr
    have hbl : b < o.length := by omega
    refine ⟨by simpa using q1, ?_, fun u hu h => ?_⟩
    · rw [ydI hbl]; split <;> first | rfl | exact q4
    · rw [ydI hbl] at h
      split at h
      · rename_i e; rw [e]; exact hr
      · exact q5 u hu h
  refine ⟨fun m i o => Cnt n (fun k => Q o ∧ (Cl n es o ∨ cf o + k + 1 ≤ n)) m i, Cnt.start ⟨hq4, .inr (by omega)⟩, ?_⟩
  rintro m _ o0 ⟨k, rfl, rfl, hk, hq5, hpr⟩
  refine ⟨fun hlt => ?_, fun hge => ?_⟩
  · refine ⟨fun m i o => Cnt n (fun a => Q o ∧ Z o0 o ∧ ∀ a', a' < a → gb o0 a' = true → ∀ b, b < n → 0 < W es a' b → gb o b = true) m i, Cnt.start ⟨hq5, ⟨fun _ => rfl, .inl rfl, fun _ h => h⟩, fun a' h => absurd h (by omega)⟩, ?_⟩
    rintro m _ o ⟨a, rfl, rfl, ha, hq6, hz, hdone⟩
    refine ⟨fun hlta => ?_, fun hgea => ?_⟩
    · refine ⟨fun m i o => Cnt n (fun b => Q o ∧ Z o0 o ∧ (∀ a', a' < a → gb o0 a' = true → ∀ b, b < n → 0 < W es a' b → gb o b = true) ∧ (gb o0 a = true → ∀ b', b' < b → 0 < W es a b' → gb o b' = true)) m i, Cnt.start ⟨hq6, hz, hdone, fun _ b' h => absurd h (by omega)⟩, ?_⟩
      clear hq6 hz hdone hq5
      rintro m _ o ⟨b, rfl, rfl, hb, hq7, hz, hdone, hnow⟩
      have hol := hq7.1
      refine ⟨fun hltb => ⟨by omega, fun hx => ?_, fun hx => Cnt.next (by omega) (by omega) ⟨hq7, hz, hdone, fun h => absurd (hz.2.2 a h) (by simpa using hx)⟩⟩, fun hgeb => ?_⟩
      · simp only [Int.toNat_natCast] at hx ⊢
        have hstep : (a ≠ b → 0 < W es a b) → Q (o.set b true) ∧ Z o0 (o.set b true) ∧ (∀ a', a' < a → gb o0 a' = true → ∀ b', b' < n → 0 < W es a' b' → gb (o.set b true) b' = true) ∧ (gb o0 a = true → ∀ b', b' < b + 1 → 0 < W es a b' → gb (o.set b true) b' = true) := by
          intro hW
          have hbl : b < o.length := by omega
          have hup : ∀ x, gb o x = true → gb (o.set b true) x = true := fun x h => by rw [ydI hbl]; split <;> first | rfl | exact h
          have hrb : root (yax es) b = root (yax es) v := by
            have h1 := hq7.2.2 a (by omega) hx
            by_cases eab : a = b
            · rw [← eab]; exact h1
            · rw [← root_W hE hn1 hn12 (hW eab)]; exact h1
          refine ⟨hsetQ hq7 (by omega) hrb, ⟨fun hcl => ?_, ?_, fun x h => hup x (hz.2.2 x h)⟩, fun a' h1 h2 b' h3 h4 => hup _ (hdone a' h1 h2 b' h3 h4), fun h1 b' h2 h3 => ?_⟩
          · have e0 := hz.1 hcl
            subst e0
            refine set_same ?_
            by_cases eab : a = b
            · rw [← eab]; exact hx
            · exact hcl a b (by omega) (by omega) hx (hW eab)
          · cases hob : gb o b with
            | true => rw [set_same hob]; exact hz.2.1
            | false =>
              have := cf_set hbl hob
              rcases hz.2.1 with h | h
              · right; rw [← h]; omega
              · right; omega
          · by_cases e2 : b' = b
            · subst e2; rw [ydI hbl, if_pos rfl]
            · exact hup _ (hnow h1 b' (by omega) h3)
        have hpass : ¬ 0 < W es a b → (gb o0 a = true → ∀ b', b' < b + 1 → 0 < W es a b' → gb o b' = true) := fun h h1 b' h2 h3 => by
          by_cases e2 : b' = b
          · subst e2; exact absurd h3 h
          · exact hnow h1 b' (by omega) h3
        by_cases eab : a = b
        · subst eab
          refine p_r08_Between' hl ⟨fun h => ⟨by omega, Cnt.next (by omega) (by omega) (hstep fun h => absurd rfl h)⟩, fun h => Cnt.next (by omega) (by omega) ⟨hq7, hz, hdone, hpass (by rw [show W es a a = 0 from yfK es a]; omega)⟩⟩
        · refine ycy hl hg eab ⟨fun h => ⟨by omega, Cnt.next (by omega) (by omega) (hstep fun _ => h)⟩, fun h => Cnt.next (by omega) (by omega) ⟨hq7, hz, hdone, hpass h⟩⟩
      · have hbn : b = n := by omega
        subst hbn
        refine Cnt.next (by omega) (by omega) ⟨hq7, hz, fun a' h1 h2 b' h3 h4 => ?_⟩
        by_cases e2 : a' = a
        · subst e2; exact hnow h2 b' h3 h4
        · exact hdone a' (by omega) h2 b' h3 h4
    · have han : a = n := by omega
      subst han
      refine Cnt.next (by omega) (by omega) ⟨hq6, ?_⟩
      by_cases hcl : Cl a es o0
      · rw [hz.1 hcl]; exact .inl hcl
      · rcases hz.2.1 with h | h
        · exfalso
          subst h
          exact hcl fun x y hx hy h1 h2 => hdone x hx h1 y hy h2
        · rcases hpr with h2 | h2
          · exact absurd h2 hcl
          · right; omega
  · have hkn : k = n := by omega
    subst hkn
    rcases hpr with q | q
    · exact h o0 hq5.1 (cl_root hE hn1 hn12 q hv hq5.2.1 hq5.2.2)
    · omega
theorem p_r08_Parts {R : Int → Prop} (hl : es.length ≤ 1000000000) (hg : yat n es = 0) (h : ∀ k : Int, (k = 1 ↔ ycJ n es = true) → R k) : ydr (n : Int) es R := by
  obtain ⟨hE, hn1, hn12⟩ := yba hg
  have hcr := conn_root hE hn1 hn12
  unfold ydr
  simp only [Int.toNat_natCast]
  refine ⟨by omega, ?_⟩
  refine ⟨fun m k i o => Cnt n (fun v => 0 ≤ k ∧ k ≤ v ∧ (v = 0 → k = 0) ∧ (0 < v → 1 ≤ k ∧ (k = 1 ↔ ∀ x, x < v → root (yax es) x = root (yax es) 0)) ∧ o.length = n ∧ (∀ u, u < n → (gb o u = true ↔ ∃ x, x < v ∧ root (yax es) u = root (yax es) x))) m i,
    Cnt.start ⟨by omega, by omega, fun _ => rfl, fun h => absurd h (by omega), by simp, fun u _ => by rw [gb_rep]; simp⟩, ?_⟩
  rintro m k _ o ⟨v, rfl, rfl, hv, k0, k1, k2, k3, hol, hseen⟩
  refine ⟨fun hlt => ?_, fun hge => ?_⟩
  · have hlt : v < n := by omega
    simp only [Int.toNat_natCast]
    refine ⟨by omega, fun hx => ?_, fun hx => ⟨i64 (by omega), p_r08_Reached hl hg hlt fun ro hrl hro => ?_⟩⟩
    · obtain ⟨x, hxv, hxr⟩ := (hseen v hlt).1 hx
      refine Cnt.next hlt (by omega) ⟨k0, by omega, fun h => absurd h (by omega), fun _ => ?_, hol, fun u hu => ?_⟩
      · have h3 := k3 (by omega)
        refine ⟨h3.1, ?_⟩
        rw [h3.2]
        constructor
        · intro h y hy
          by_cases e : y = v
          · subst e; rw [hxr]; exact h x hxv
          · exact h y (by omega)
        · intro h y hy; exact h y (by omega)
      · rw [hseen u hu]
        constructor
        · rintro ⟨y, hy, hyr⟩; exact ⟨y, by omega, hyr⟩
        · rintro ⟨y, hy, hyr⟩
          by_cases e : y = v
          · subst e; exact ⟨x, hxv, hyr.trans hxr⟩
          · exact ⟨y, by omega, hyr⟩
    · refine ⟨fun m i o' => Cnt n (fun u => o'.length = n ∧ (∀ x, x < n → (gb o' x = true ↔ (gb o x = true ∨ (x < u ∧ gb ro x = true))))) m i, Cnt.start ⟨hol, fun x _ => by simp⟩, ?_⟩
      rintro m _ o' ⟨u, rfl, rfl, hu, hol', hor⟩
      refine ⟨fun hltu => ?_, fun hgeu => ?_⟩
      · have hltu : u < n := by omega
        simp only [Int.toNat_natCast]
        have hou := hor u hltu
        have st : ∀ b : Bool, (b = true ↔ (gb o u = true ∨ gb ro u = true)) → (o'.set u b).length = n ∧ (∀ x, x < n → (gb (o'.set u b) x = true ↔ (gb o x = true ∨ (x < u + 1 ∧ gb ro x = true)))) := fun b hbb => by
          refine ⟨by simpa using hol', fun x hx => ?_⟩
          rw [ydI (by omega)]
          by_cases e : x = u
          · subst e
            rw [if_pos rfl, hbb]
            constructor
            · rintro (h | h)
              · exact .inl h
              · exact .inr ⟨by omega, h⟩
            · rintro (h | h)
              · exact .inl h
              · exact .inr h.2
          · rw [if_neg e, hor x hx]
            constructor
            · rintro (h | h)
              · exact .inl h
              · exact .inr ⟨by omega, h.2⟩
            · rintro (h | h)
              · exact .inl h
              · exact .inr ⟨by omega, h.2⟩
        refine ⟨by omega, fun hx2 => Cnt.next hltu (by omega) (st true ?_), fun hx2 => ⟨by omega, Cnt.next hltu (by omega) (st _ ?_)⟩⟩
        · have := hou.1 hx2
          constructor
          · intro _; rcases this with h | h
            · exact .inl h
            · exact .inr h.2
          · intro _; rfl
        · constructor
          · intro h; exact .inr h
          · rintro (h | h)
            · exact absurd (hou.2 (.inl h)) hx2
            · exact h
      · have hun : u = n := by omega
        subst hun
        have hnew : ¬ ∃ x, x < v ∧ root (yax es) v = root (yax es) x := fun h => hx ((hseen v hlt).2 h)
        refine Cnt.next (by omega) (by omega) ⟨by omega, by omega, fun h => absurd h (by omega), fun _ => ⟨by omega, ?_⟩, hol', fun x hxn => ?_⟩
        · by_cases e0 : v = 0
          · subst e0
            have := k2 rfl
            subst this
            constructor
            · intro _ y hy; rw [show y = 0 by omega]
            · intro _; rfl
          · have h3 := k3 (by omega)
            constructor
            · intro h; omega
            · intro h; exact absurd ⟨0, by omega, h v (by omega)⟩ hnew
        · rw [hor x hxn, hseen x hxn, hro x hxn, decide_eq_true_eq]
          constructor
          · rintro (⟨y, hy, hyr⟩ | h)
            · exact ⟨y, by omega, hyr⟩
            · exact ⟨v, by omega, h.2⟩
          · rintro ⟨y, hy, hyr⟩
            by_cases e : y = v
            · subst e; exact .inr ⟨hxn, hyr⟩
            · exact .inl ⟨y, by omega, hyr⟩
  · have hvn : v = n := by omega
    subst hvn
    refine h k ?_
    rw [(k3 (by omega)).2, hcr]
theorem yiI {R : Bool → Prop} (hl : es.length ≤ 1000000000) (hg : yat n es = 0) (h : R (ycJ n es)) : ycM (n : Int) es R :=
  p_r08_Parts hl hg fun k hk => by
    have e : decide (k = 1) = ycJ n es := by rw [Bool.eq_iff_iff, decide_eq_true_eq]; exact hk
    rw [e]; exact h
end
section
variable {n q : Int} {es : List E3} {d s : List Int}
theorem p_r25_Joined {R : Int → Prop} (hl : es.length ≤ 1000000000) (h : R (yca n es)) : yc7 n es R := by
  unfold yc7
  unfold yca at h
  refine yiK hl ⟨fun h0 => ?_, fun h0 => by rwa [if_neg h0] at h⟩
  rw [if_pos h0] at h
  have hn : 1 ≤ n ∧ n ≤ 12 := by
    unfold yat at h0
    split at h0
    · assumption
    · omega
  obtain ⟨n, rfl⟩ : ∃ n' : Nat, n = (n' : Int) := ⟨n.toNat, by omega⟩
  exact yiI hl h0 ⟨fun h1 => by rwa [if_pos h1] at h, fun h1 => by rwa [if_neg h1] at h⟩
def lowF (n : Int) (d : List Int) : Bool := decide (d.length ≤ 100 ∧ (yaM d n = 0 → ∀ j, j < d.length → -100 ≤ gi d j ∧ gi d j ≤ 100))
theorem ygv : lowF n d = true ↔ d.length ≤ 100 ∧ (yaM d n = 0 → ∀ j, j < d.length → -100 ≤ gi d j ∧ gi d j ≤ 100) := by unfold lowF; exact decide_eq_true_iff
theorem p_r34_Low {R : Bool → Prop} (h : R (lowF n d)) : yeE n es d R := by
  unfold yeE
  have ht : (d.length ≤ 100 ∧ (yaM d n = 0 → ∀ j, j < d.length → -100 ≤ gi d j ∧ gi d j ≤ 100)) → R true := fun q => by rwa [ygv.2 q] at h
  have hf : ¬ (d.length ≤ 100 ∧ (yaM d n = 0 → ∀ j, j < d.length → -100 ≤ gi d j ∧ gi d j ≤ 100)) → R false := fun q => by
    have : lowF n d = false := by rw [Bool.eq_false_iff]; exact fun q2 => q (ygv.1 q2)
    rwa [this] at h
  refine ⟨fun h1 => hf (by omega), fun h1 => yiC ⟨fun h2 => ?_, fun h2 => ht ⟨by omega, fun q => absurd q h2⟩⟩⟩
  refine ⟨Cnt d.length (fun k => ∀ j, j < k → -100 ≤ gi d j ∧ gi d j ≤ 100), Cnt.start (fun j hj => absurd hj (by omega)), ?_⟩
  rintro m _ ⟨k, rfl, rfl, hk, hinv⟩
  simp only [Int.toNat_natCast]
  refine ⟨fun hlt => ⟨by omega, fun h3 => hf fun q => ?_, fun h3 => ⟨fun h4 => hf fun q => ?_, fun h4 => Cnt.next (by omega) (by omega) fun j hj => ?_⟩⟩, fun hge => ht ⟨by omega, fun _ j hj => hinv j (by omega)⟩⟩
  · have := q.2 h2 k (by omega); omega
  · have := q.2 h2 k (by omega); omega
  · by_cases e : j = k
    · subst e; omega
    · exact hinv j (by omega)
def plusF (a b : List Int) (k : Int) : List Int := tab (fun i => gi a i + k * gi b i) a.length
theorem yf1 {a b : List Int} {k : Int} {R : List Int → Prop} (hl : a.length ≤ 1000) (hlb : a.length ≤ b.length) (hk : -1 ≤ k ∧ k ≤ 1) (ha : ∀ j, j < a.length → -1000000000000000 ≤ gi a j ∧ gi a j ≤ 1000000000000000) (hb : ∀ j, j < a.length → -1000000000000000 ≤ gi b j ∧ gi b j ≤ 1000000000000000) (h : R (plusF a b k)) : ycm a b k R := by
  unfold ycm
  simp only [Int.toNat_natCast]
  refine ⟨by omega, fun m i out => Cnt a.length (fun j => out = upto (fun i => gi a i + k * gi b i) j a.length) m i, Cnt.start (yiM _ _).symm, ?_⟩
  rintro m _ out ⟨i, rfl, rfl, hi, rfl⟩
  refine ⟨fun hlt => ?_, fun hge => ?_⟩
  · have hlt : i < a.length := by omega
    have h1 := ha i hlt
    have h2 := hb i hlt
    simp only [Int.toNat_natCast]
    have hkb : -1000000000000000 ≤ k * gi b i ∧ k * gi b i ≤ 1000000000000000 := by
      have : k = -1 ∨ k = 0 ∨ k = 1 := by omega
      rcases this with rfl | rfl | rfl <;> omega
    refine ⟨by omega, by omega, i64 (by omega), i64 (by omega), by rw [ybR]; omega, Cnt.next hlt (by omega) ?_⟩
    exact yjF (fun i => gi a i + k * gi b i) hlt
  · have hkn : i = a.length := by omega
    subst hkn
    rw [yjD]; exact h
def appF (n : Nat) (es : List E3) (d s : List Int) : List Int := tab (fun v => gi d v - Lp n es (gi s) v) n
end
end Go.Proofs.YtmeoemmemjipdaaGreat

/- What ref25's functions compute by the rule of Cramer. -/
namespace Go.Proofs.YtmeoemmemjipdaaGreat
open Go Go.Proofs.Tryz
set_option linter.unusedVariables false
set_option linter.unusedSimpArgs false
theorem gi_snc (s : List Int) (x : Int) {j : Nat} (hj : j < s.length + 1) : gi (s ++ [x]) j = if j = s.length then x else gi s j := by
  unfold gi
  by_cases e : j = s.length
  · subst e; simp
  · rw [if_neg e]; simp only [List.getD_eq_getElem?_getD]; rw [List.getElem?_append_left (by omega)]
theorem tab_succ (f : Nat → Int) (n : Nat) : tab f (n + 1) = tab f n ++ [f n] := by simp [tab, List.range_succ]
def rws (f : Nat → List Int) (n : Nat) : List (List Int) := (List.range n).map f
theorem rws_succ (f : Nat → List Int) (n : Nat) : rws f (n + 1) = rws f n ++ [f n] := by simp [rws, List.range_succ]
theorem yeH (f : Nat → List Int) (n : Nat) : (rws f n).length = n := by simp [rws]
theorem gx_rws (f : Nat → List Int) {n i : Nat} (hi : i < n) : gx (rws f n) i = f i := by rw [yen (by rw [yeH]; exact hi)]; simp [rws]
def cn (k j : Nat) : Nat := if j ≤ k then j else j - 1
theorem cn_same (k : Nat) : cn k (k + 1) = cn k k := by unfold cn; rw [if_neg (by omega), if_pos (Nat.le_refl _)]; omega
theorem cn_next {k j : Nat} (h : j ≠ k) : cn k (j + 1) = cn k j + 1 := by unfold cn; split <;> split <;> omega
theorem sk_cn {k j : Nat} (h : j ≠ k) : sk k (cn k j) = j := by unfold sk cn; split <;> split <;> omega
theorem cn_zero (k : Nat) : cn k 0 = 0 := by unfold cn; rw [if_pos (Nat.zero_le _)]
theorem cn_all {k m : Nat} (h : k ≤ m) : cn k (m + 1) = m := by unfold cn; rw [if_neg (by omega)]; omega
theorem cn_le (k j : Nat) : cn k j ≤ j := by unfold cn; split <;> omega
def Tbl (m : Nat) (l : List (List Int)) (T : Mat) : Prop := l.length = m ∧ ∀ i, i < m → (gx l i).length = m ∧ ∀ k, k < m → gi (gx l i) k = T i k
theorem det_le {m : Nat} {T : Mat} (hm : m ≤ 5) (hT : ∀ i j, i < m → j < m → -1000 ≤ T i j ∧ T i j ≤ 1000) : -120000000000000000 ≤ detF m T ∧ detF m T ≤ 120000000000000000 := by
  have h := yh7 (B := 1000) (by omega) hT
  have e : fct m * 1000 ^ m ≤ 120000000000000000 := by
    rcases (by omega : m = 0 ∨ m = 1 ∨ m = 2 ∨ m = 3 ∨ m = 4 ∨ m = 5) with rfl | rfl | rfl | rfl | rfl | rfl <;> decide
  omega
theorem det_le4 {m : Nat} {T : Mat} (hm : m ≤ 4) (hT : ∀ i j, i < m → j < m → -1000 ≤ T i j ∧ T i j ≤ 1000) : -24000000000000 ≤ detF m T ∧ detF m T ≤ 24000000000000 := by
  have h := yh7 (B := 1000) (by omega) hT
  have e : fct m * 1000 ^ m ≤ 24000000000000 := by
    rcases (by omega : m = 0 ∨ m = 1 ∨ m = 2 ∨ m = 3 ∨ m = 4) with rfl | rfl | rfl | rfl | rfl <;> decide
  omega
theorem yiG : ∀ {m : Nat} {l : List (List Int)} {T : Mat} {R : Int → Prop}, m ≤ 5 → Tbl m l T → (∀ i j, i < m → j < m → -1000 ≤ T i j ∧ T i j ≤ 1000) → R (detF m T) → ydU (m + 1) l R
  | 0, l, T, R, _, hl, _, h => ⟨fun _ => h, fun q => absurd (by rw [hl.1]; rfl) q⟩
  | m + 1, l, T, R, hm, hl, hT, h => by
    obtain ⟨hll, hrow⟩ := hl
    rw [ydU]
    unfold yfa
    have hTm : ∀ k, k < m + 1 → ∀ i j, i < m → j < m → -1000 ≤ ycX T k i j ∧ ycX T k i j ≤ 1000 := fun k hk i j hi hj => hT _ _ (by omega) (yiz hj)
    have hterm : ∀ k, k < m + 1 → -24000000000000000 ≤ sgn k * T 0 k * detF m (ycX T k) ∧ sgn k * T 0 k * detF m (ycX T k) ≤ 24000000000000000 := fun k hk => by
      have h1 := det_le4 (by omega) (hTm k hk)
      have h2 := hT 0 k (by omega) hk
      have h3 : -1000 ≤ sgn k * T 0 k ∧ sgn k * T 0 k ≤ 1000 := by unfold sgn; split <;> omega
      exact abs_mul h3 h1
    refine ⟨fun e => absurd e (by rw [hll]; omega), fun _ => ?_⟩
    rw [hll]
    refine ⟨fun m2 v v2 v3 => Cnt (m + 1) (fun k => v = sm k (fun k => sgn k * T 0 k * detF m (ycX T k)) ∧ v2 = sgn k) m2 v3, Cnt.start ⟨rfl, rfl⟩, ?_⟩
    rintro m2 v v2 _ ⟨k, rfl, rfl, hk, rfl, rfl⟩
    simp only [Int.toNat_natCast]
    refine ⟨fun hlt => ?_, fun hge => ?_⟩
    · have hlt : k < m + 1 := by omega
      refine ⟨fun m3 v4 v5 => Cnt (m + 1) (fun i => 1 ≤ i ∧ v4 = rws (fun r => tab (fun c => T (r + 1) (sk k c)) m) (i - 1)) m3 v5, ⟨m, 1, by omega, rfl, by omega, by omega, rfl⟩, ?_⟩
      rintro m3 v4 _ ⟨i, rfl, rfl, hi, hi1, rfl⟩
      simp only [Int.toNat_natCast]
      refine ⟨fun hlti => ?_, fun hgei => ?_⟩
      · have hlti : i < m + 1 := by omega
        obtain ⟨hrl, hre⟩ := hrow i hlti
        refine ⟨fun m4 v6 v7 => Cnt (m + 1) (fun j => v6 = tab (fun c => T i (sk k c)) (cn k j)) m4 v7, Cnt.start (by rw [cn_zero]; rfl), ?_⟩
        rintro m4 v6 _ ⟨j, rfl, rfl, hj, rfl⟩
        simp only [Int.toNat_natCast]
        refine ⟨fun hltj => ⟨fun e => ?_, fun e => ?_⟩, fun hgej => ?_⟩
        · have e : j = k := by omega
          subst e
          exact Cnt.next (by omega) (by omega) (by rw [cn_same])
        · have e : j ≠ k := by omega
          have := cn_le k j
          refine ⟨by omega, by omega, by rw [ya2]; omega, Cnt.next (by omega) (by omega) ?_⟩
          rw [cn_next e, tab_succ, sk_cn e, hre j (by omega)]
        · have e : j = m + 1 := by omega
          subst e
          refine ⟨by rw [yeH]; omega, Cnt.next hlti (by omega) ⟨by omega, ?_⟩⟩
          rw [cn_all (by omega), show i + 1 - 1 = i - 1 + 1 by omega, rws_succ, show i - 1 + 1 = i by omega]
      · have e : i = m + 1 := by omega
        subst e
        obtain ⟨hrl, hre⟩ := hrow 0 (by omega)
        have ht := hterm k hlt
        have h2 := hT 0 k (by omega) hlt
        have hsg : sgn k = 1 ∨ sgn k = -1 := by unfold sgn; split <;> simp
        have hs1 : sgn (k + 1) = - sgn k := sgn_succ k
        have hb := yc0 (f := fun k => sgn k * T 0 k * detF m (ycX T k)) (B := 24000000000000000) (by omega) (n := k) fun j hj => hterm j (by omega)
        have hkb : (k : Int) * 24000000000000000 ≤ 5 * 24000000000000000 := by omega
        simp only [Int.toNat_zero]
        rw [hre k hlt]
        refine ⟨by omega, by omega, fun e0 => ⟨i64 (by omega), Cnt.next hlt (by omega) ⟨?_, hs1.symm⟩⟩, fun e0 => ⟨?_, ?_⟩⟩
        · rw [sm, e0, Int.mul_zero, Int.zero_mul, Int.add_zero]
        · rcases hsg with e | e <;> rw [e] <;> exact i64 (by omega)
        · refine yiG (T := ycX T k) (by omega) ⟨by rw [yeH]; omega, fun i hi => ?_⟩ (hTm k hlt) ⟨i64 (by omega), i64 (by omega), i64 (by omega), Cnt.next hlt (by omega) ⟨?_, hs1.symm⟩⟩
          · rw [gx_rws _ (by omega)]
            exact ⟨ya2 _ _, fun c hc => by rw [yde _ hc]; rfl⟩
          · rw [sm]
    · have e : k = m + 1 := by omega
      subst e
      exact h
def entT (n : Nat) (es : List E3) (col : Int) (d : List Int) (i k : Nat) : Int := if (k : Int) = col then gi d i else if k = i then deg n es i else - W es i k
theorem yiL {m q : Nat} {es : List E3} {col : Int} {d : List Int} {R : List (List Int) → Prop} (hm : m ≤ 11) (hl : es.length ≤ 1000000000) (hg : yat ((m + 1 : Nat) : Int) es = 0) (hq : q ≤ m) (hdl : d.length = m + 1)
    (h : ∀ l, Tbl m l (fun r c => entT (m + 1) es col d (sk q r) (sk q c)) → R l) : ycT ((m + 1 : Nat) : Int) es (q : Int) col d R := by
  unfold ycT
  refine ⟨fun m2 v v2 => Cnt (m + 1) (fun i => v = rws (fun r => tab (fun c => entT (m + 1) es col d (sk q r) (sk q c)) m) (cn q i)) m2 v2, Cnt.start (by rw [cn_zero]; rfl), ?_⟩
  rintro m2 v _ ⟨i, rfl, rfl, hi, rfl⟩
  simp only [Int.toNat_natCast]
  refine ⟨fun hlt => ⟨fun e => ?_, fun e => ?_⟩, fun hge => ?_⟩
  · have e : i = q := by omega
    subst e
    exact Cnt.next (by omega) (by omega) (by rw [cn_same])
  · have e : i ≠ q := by omega
    refine ⟨fun m3 v3 v4 => Cnt (m + 1) (fun k => v3 = tab (fun c => entT (m + 1) es col d i (sk q c)) (cn q k)) m3 v4, Cnt.start (by rw [cn_zero]; rfl), ?_⟩
    rintro m3 v3 _ ⟨k, rfl, rfl, hk, rfl⟩
    simp only [Int.toNat_natCast]
    refine ⟨fun hltk => ⟨fun e2 => ?_, fun e2 => ?_⟩, fun hgek => ?_⟩
    · have e2 : k = q := by omega
      subst e2
      exact Cnt.next (by omega) (by omega) (by rw [cn_same])
    · have e2 : k ≠ q := by omega
      have hle := cn_le q k
      have hnx : tab (fun c => entT (m + 1) es col d i (sk q c)) (cn q (k + 1)) = tab (fun c => entT (m + 1) es col d i (sk q c)) (cn q k) ++ [entT (m + 1) es col d i k] := by
        rw [cn_next e2, tab_succ, sk_cn e2]
      refine ⟨fun e3 => ?_, fun e3 => ⟨fun e4 => ?_, fun e4 => ?_⟩⟩
      · refine ⟨by omega, by rw [ya2]; omega, Cnt.next (by omega) (by omega) ?_⟩
        rw [hnx]; unfold entT; rw [if_pos e3]
      · have e4 : k = i := by omega
        refine ygp hl hg ⟨by rw [ya2]; omega, Cnt.next (by omega) (by omega) ?_⟩
        rw [hnx]; unfold entT; rw [if_neg e3, if_pos e4]
      · have e4 : k ≠ i := by omega
        have := ygS hg i k
        refine ycy hl hg (fun x => e4 x.symm) ⟨i64 (by omega), by rw [ya2]; omega, Cnt.next (by omega) (by omega) ?_⟩
        rw [hnx]; unfold entT; rw [if_neg e3, if_neg e4]
    · have ek : k = m + 1 := by omega
      subst ek
      have hle := cn_le q i
      refine ⟨by rw [yeH]; omega, Cnt.next (by omega) (by omega) ?_⟩
      rw [cn_next e, rws_succ, sk_cn e, cn_all hq]
  · have ei : i = m + 1 := by omega
    subst ei
    rw [cn_all hq]
    exact h _ ⟨yeH _ _, fun r hr => by rw [gx_rws _ hr]; exact ⟨ya2 _ _, fun c hc => yde _ hc⟩⟩
section
variable {m q : Nat} {es : List E3}
theorem ent_red (d : List Int) : (fun r c => entT (m + 1) es (-1) d (sk q r) (sk q c)) = redM (m + 1) es q := by
  funext r c
  unfold entT redM
  rw [if_neg (by omega)]
  by_cases e : r = c
  · subst e; rw [if_pos rfl, if_pos rfl]
  · rw [if_neg e, if_neg fun h => e (sk_inj h).symm]
theorem ent_col (d : List Int) {v : Nat} (hv : v ≠ q) : (fun r c => entT (m + 1) es (v : Int) d (sk q r) (sk q c)) = repl (redM (m + 1) es q) (pd q v) fun i => gi d (sk q i) := by
  funext r c
  unfold entT repl redM
  by_cases e0 : c = pd q v
  · rw [if_pos e0, if_pos (by rw [(sk_eq hv).2 e0])]
  · rw [if_neg e0, if_neg (fun h => e0 ((sk_eq hv).1 (by omega)))]
    by_cases e : r = c
    · subst e; rw [if_pos rfl, if_pos rfl]
    · rw [if_neg e, if_neg fun h => e (sk_inj h).symm]
theorem ygP (hg : yat ((m + 1 : Nat) : Int) es = 0) (hm : m ≤ 11) {d : List Int} (hd : ∀ j, j < m + 1 → -1000 ≤ gi d j ∧ gi d j ≤ 1000) (col : Int) {i k : Nat} (hi : i < m + 1) : -1000 ≤ entT (m + 1) es col d i k ∧ entT (m + 1) es col d i k ≤ 1000 := by
  have h1 := hd i hi
  have h2 := ygS hg i k
  have h3 := yfU hg (m + 1) i
  unfold entT deg
  split
  · exact h1
  · split <;> omega
theorem tdiv_i64 {x n : Int} (h : -120000000000000000 ≤ x ∧ x ≤ 120000000000000000) : In64 (x.tdiv n) := by
  have h1 : (x.tdiv n).natAbs ≤ x.natAbs := by rw [Int.natAbs_tdiv]; exact Nat.div_le_self _ _
  exact i64 (by omega)
variable (hl : es.length ≤ 1000000000) (hg : yat ((m + 1 : Nat) : Int) es = 0) (hc : ycJ ((m + 1 : Nat) : Int) es = true) (hm : m ≤ 5) (hq : q ≤ m) {d : List Int} (hdl : d.length = m + 1) (hd : ∀ j, j < m + 1 → -1000 ≤ gi d j ∧ gi d j ≤ 1000)
include hl hg hc hm hq hdl hd
theorem yiN {R : List Int → Bool → Prop} (h1 : ∀ s : List Int, s.length = m + 1 → gi s q = 0 → (∀ v, v < m + 1 → Lp (m + 1) es (gi s) v = gi d v) → R s true)
    (h2 : (¬ ∃ t : Nat → Int, ∀ v, v < m + 1 → Lp (m + 1) es t v = gi d v) → R [] false) : ycV ((m + 1 : Nat) : Int) es (q : Int) d R := by
  obtain ⟨hE, hn1, hn12⟩ := yba hg
  have hE : EOk (m + 1) es := hE
  have hC : Conn (m + 1) es q := (ygK hE hn1 hn12 (by omega)).1 hc
  have hN := redM_ne hE hC hq
  unfold ycV
  refine ycO (by omega) (fun i hi => by have := hd i (by omega); omega) ⟨fun e0 => ?_, fun e0 => h2 ?_⟩
  · have hdM := det_le (m := m) (T := redM (m + 1) es q) hm fun i j hi hj => by
      rw [← ent_red d]; exact ygP hg (by omega) hd _ (yiz hi)
    refine yiL (by omega) hl hg hq hdl fun l hT => ⟨m + 1, yiG hm hT (fun i j hi hj => ygP hg (by omega) hd _ (yiz hi)) ?_⟩
    rw [ent_red]
    generalize hNN : detF m (redM (m + 1) es q) = N at hN
    refine ⟨fun m2 s v => Cnt (m + 1) (fun k => s.length = k ∧ ∀ j, j < k → if j = q then gi s j = 0 else xF m es q (gi d) j = gi s j * N) m2 v, Cnt.start ⟨rfl, fun j hj => absurd hj (by omega)⟩, ?_⟩
    rintro m2 s _ ⟨k, rfl, rfl, hk, hsl, hs⟩
    have happ : ∀ x : Int, (if k = q then x = 0 else xF m es q (gi d) k = x * N) → ∀ j, j < k + 1 → if j = q then gi (s ++ [x]) j = 0 else xF m es q (gi d) j = gi (s ++ [x]) j * N := fun x hx j hj => by
      rw [gi_snc s x (by omega), hsl]
      by_cases e : j = k
      · subst e; rw [if_pos rfl]; exact hx
      · rw [if_neg e]; exact hs j (by omega)
    refine ⟨fun hlt => ⟨fun e => ?_, fun e => ?_⟩, fun hge => ?_⟩
    · exact ⟨by omega, Cnt.next (by omega) (by omega) ⟨by simp [hsl], happ 0 (by rw [if_pos (by omega)])⟩⟩
    · have e : k ≠ q := by omega
      have hxM := det_le (m := m) (T := fun r c => entT (m + 1) es (k : Int) d (sk q r) (sk q c)) hm fun i j hi hj => ygP hg (by omega) hd _ (yiz hi)
      refine yiL (by omega) hl hg hq hdl fun l2 hT2 => ⟨m + 1, yiG hm hT2 (fun i j hi hj => ygP hg (by omega) hd _ (yiz hi)) ?_⟩
      rw [ent_col d e] at hxM ⊢
      refine ⟨hN, fun hx => ?_, fun hx => h2 ?_⟩
      · refine ⟨tdiv_i64 hxM, by omega, Cnt.next (by omega) (by omega) ⟨by simp [hsl], happ _ ?_⟩⟩
        rw [if_neg e]
        have := Int.tmod_add_mul_tdiv (detF m (repl (redM (m + 1) es q) (pd q k) fun i => gi d (sk q i))) N
        show detF m (repl (redM (m + 1) es q) (pd q k) fun i => gi d (sk q i)) = _
        rw [Int.mul_comm]; omega
      · rintro ⟨t, ht⟩
        apply hx
        have h3 := solve_fwd (m := m) (es := es) hq (t := fun i => t i + - t q) (d := gi d) (by show t q + - t q = 0; omega) (fun v hv _ => by rw [yfC, yeh, ht v hv]; omega) (v := k) (by omega) e
        rw [hNN] at h3
        show (xF m es q (gi d) k).tmod N = 0
        rw [h3]; exact Int.mul_tmod_left _ _
    · have hk : k = m + 1 := by omega
      subst hk
      have hsq : gi s q = 0 := by have := hs q (by omega); rwa [if_pos rfl] at this
      have hoff : ∀ v, v < m + 1 → v ≠ q → Lp (m + 1) es (gi s) v = gi d v := fun v hv hvq => solve_bwd hE hC hq hsq (fun v hv hvq => by
        have := hs v hv
        rw [if_neg hvq] at this
        rw [this, hNN]) hv hvq
      refine h1 s hsl hsq fun v hv => ?_
      by_cases e : v = q
      · subst e
        have t1 := yfb (n := m + 1) (es := es) (gi s)
        unfold dg at e0
        rw [hdl] at e0
        rw [yfe hv] at t1 e0
        rw [yap (g := fun u => if u = v then 0 else gi d u) fun u hu => by
          by_cases e : u = v
          · rw [if_pos e, if_pos e]
          · rw [if_neg e, if_neg e, hoff u hu e]] at t1
        omega
      · exact hoff v hv e
  · rintro ⟨t, ht⟩
    apply e0
    unfold dg
    rw [hdl, ← yfb (n := m + 1) (es := es) t]
    exact yap fun v hv => (ht v hv).symm
end
theorem p_r25_Alike {m : Nat} {es : List E3} {a b : List Int} {R : Bool → Prop} (hl : es.length ≤ 1000000000) (hg : yat ((m + 1 : Nat) : Int) es = 0) (hc : ycJ ((m + 1 : Nat) : Int) es = true) (hm : m ≤ 5) (hal : a.length = m + 1) (hbl : b.length = m + 1)
    (hab : ∀ j, j < m + 1 → -900 ≤ gi a j ∧ gi a j ≤ 900 ∧ -100 ≤ gi b j ∧ gi b j ≤ 100)
    (h1 : (∃ t : Nat → Int, ∀ v, v < m + 1 → Lp (m + 1) es t v = gi a v - gi b v) → R true)
    (h2 : (¬ ∃ t : Nat → Int, ∀ v, v < m + 1 → Lp (m + 1) es t v = gi a v - gi b v) → R false) : yeq ((m + 1 : Nat) : Int) es a b R := by
  have hp : ∀ j, j < m + 1 → gi (plusF a b (-1)) j = gi a j - gi b j := fun j hj => by unfold plusF; rw [yde _ (by omega)]; omega
  refine yf1 (by omega) (by omega) (by omega) (fun j hj => by have := hab j (by omega); omega) (fun j hj => by have := hab j (by omega); omega) ?_
  refine yiN (q := 0) hl hg hc hm (by omega) (by unfold plusF; rw [ya2]; exact hal) (fun j hj => by rw [hp j hj]; have := hab j hj; omega) (fun s hsl hs0 hs => h1 ⟨gi s, fun v hv => by rw [hs v hv, hp v hv]⟩) (fun hno => h2 fun ⟨t, ht⟩ => hno ⟨t, fun v hv => by rw [ht v hv, hp v hv]⟩)
end Go.Proofs.YtmeoemmemjipdaaGreat

/- Pure forms of functions, made by program (pf.py), each with the proof that the code does so. -/
namespace Go.Proofs.YtmeoemmemjipdaaGreat
open Go Go.RowKit Go.Shelf Go.Proofs.Tryz
set_option linter.unusedVariables false
set_option maxRecDepth 100000
set_option maxHeartbeats 1000000
def ya0 (s1 : List Int) (s2 : List Int) (R : Bool → Prop) : Prop :=
((((s1.length : Nat) : Int) = ((s2.length : Nat) : Int) →
(∃ I2 : Nat → Int → Prop, (∃ m0, I2 m0 0) ∧ ∀ m2 v, I2 m2 v → 
((v < ((s1.length : Nat) : Int) →
((0 ≤ v ∧ v < ((s1.length : Nat) : Int)) ∧
((0 ≤ v ∧ v < ((s2.length : Nat) : Int)) ∧
(((gi s1 v.toNat) = (gi s2 v.toNat) →
(In64 (v + 1) ∧
∃ m3, m3 < m2 ∧ I2 m3 (v + 1))) ∧
(¬ ((gi s1 v.toNat) = (gi s2 v.toNat)) →
R false))))) ∧
(¬ (v < ((s1.length : Nat) : Int)) →
R true)))) ∧
(¬ (((s1.length : Nat) : Int) = ((s2.length : Nat) : Int)) →
R false))
theorem ycU {O : Nat → Prop} {w : World} {s1 s2 As1 ls1 cs1 As2 ls2 cs2} {R : Bool → Prop} (h : ya0 s1 s2 R) (hO : ∀ k, O k → k < w.heap.size) (hA0 : (FP.sl cI As1 ls1 cs1 s1).P O w) (hA1 : (FP.sl cI As2 ls2 cs2 s2).P O w) :
    Calls Tryz.prog 42 #[(.slice As1 ls1 cs1), (.slice As2 ls2 cs2)] w fun e w' => ∃ r, e = .returned (.bool (r)) ∧ Sep w no O w' (rl []) ∧ R r := by
  unfold ya0 at h; have hS : Sep w no O w (rl [Res.ro (FP.sl cI As1 ls1 cs1 s1), Res.ro (FP.sl cI As2 ls2 cs2 s2)]) := Sep.startl hO [(FP.sl cI As1 ls1 cs1 s1), (FP.sl cI As2 ls2 cs2 s2)] ⟨hA0, hA1, trivial⟩; refine yar (l := [(.slice As1 ls1 cs1), (.slice As2 ls2 cs2)]) func42 rfl ntmps42 (Nat.le_of_ble_eq_true rfl) (zs (zq (za (.bool (false))) (yaa (yac (zs (zq (zm (.slice As1 ls1 cs1)) (zq (yaO (n := s1.length) rfl underlying26 (yaL (hS.rdr 0 rfl))) (zq (zm (.slice As2 ls2 cs2)) (zq (yaO (n := s2.length) rfl underlying26 (yaL (hS.rdr 1 rfl))) (zq zN (yaa ?_))))))))))); by_cases hp : ((s1.length : Nat) : Int) = ((s2.length : Nat) : Int)
  · replace h := h.1 hp; refine ze hp (yaf (yac (zs (zq (zm (.slice As1 ls1 cs1)) (zq (yaO (n := s1.length) rfl underlying26 (yaL (hS.rdr 0 rfl))) (zq (zm (ii 0)) (yaa (yak ?_)))))))); obtain ⟨I2, ⟨m0, h0⟩, hr⟩ := h; refine yaw (fun m E ds w' => ∃ v, I2 m v ∧ ds = [] ∧ E 0 = (Value.slice As1 ls1 cs1) ∧ E 1 = (Value.slice As2 ls2 cs2) ∧ E 12 = (ii ((s1.length : Nat) : Int)) ∧ E 13 = (ii v) ∧ Sep w no O w' (rl [Res.ro (FP.sl cI As1 ls1 cs1 s1), Res.ro (FP.sl cI As2 ls2 cs2 s2)])) m0 ⟨_, h0, rfl, rfl, rfl, rfl, rfl, (hS.sel [0, 1] (by decide))⟩ ?_; clear h0 hS; rintro m2 E ds w2 ⟨v, h, rfl, hE0, hE1, hE12, hE13, hS⟩ again; replace h := hr m2 v h; clear hr; refine zs (zq (yaJ hE13 hE12) (yaa (yac ?_))); by_cases hp2 : v < ((s1.length : Nat) : Int)
    · replace h := h.1 hp2; refine zc hp2 (yaf (yac (yak (zs (zq (yab hE13) (zq (za (ii v)) (yaa (yac (ya3 [0, 1, 2, 3, 4, 5, 6, 7, 8] st0 ya8 (by kernel_rfl) (by kernel_rfl) ?_))))))))); replace hS := hS.drew; refine zp (yab hE0) (zp (zm (ii v)) ?_); obtain ⟨hx, h⟩ := h; refine zp (zi underlying26 yag (yaG (hS.rdr 0 rfl) hx)) (zp (yah (v := (ii (gi s1 v.toNat))) rfl underlying3 rfl (rd_1 (hS.rdr 0 rfl) hx (fun q => yaI q) rfl)) ?_); refine zp (yab hE1) (zp (zm (ii v)) ?_); obtain ⟨hx2, h⟩ := h; refine zp (zi underlying26 yag (yaG (hS.rdr 1 rfl) hx2)) (zp (yah (v := (ii (gi s2 v.toNat))) rfl underlying3 rfl (rd_1 (hS.rdr 1 rfl) hx2 (fun q => yaI q) rfl)) ?_); refine zp zN (ybl ?_); by_cases hp3 : (gi s1 v.toNat) = (gi s2 v.toNat)
      · replace h := h.1 hp3; refine ze hp3 (yaf (yai (zr ?_))); obtain ⟨hi, h⟩ := h; refine zq (yaC hE13 rfl hi) (zq (zm (ii (v + 1))) (yaa ?_)); obtain ⟨mq, hlt, h⟩ := h; exact again mq _ _ _ ⟨_, h, rfl, hE0, hE1, hE12, rfl, (hS.sel [0, 1] (by decide))⟩ hlt
      · replace h := h.2 hp3; exact zf hp3 (zs (zq (za (.bool (false))) (yaa (yal rfl rfl ⟨_, rfl, (hS.sel [] (by decide)), h⟩))))
    · replace h := h.2 hp2; exact zd hp2 (yav rfl (zs (zq (za (.bool (true))) (yaa (yal rfl rfl ⟨_, rfl, (hS.sel [] (by decide)), h⟩)))))
  · replace h := h.2 hp; exact zf hp (zs (zq (za (.bool (false))) (yaa (yal rfl rfl ⟨_, rfl, (hS.sel [] (by decide)), h⟩))))
def ybm (s1 : List Int) (s2 : List Int) (R : Bool → Prop) : Prop :=
((((s1.length : Nat) : Int) = ((s2.length : Nat) : Int) →
(∃ I2 : Nat → Int → Prop, (∃ m0, I2 m0 0) ∧ ∀ m2 v, I2 m2 v → 
((v < ((s1.length : Nat) : Int) →
((0 ≤ v ∧ v < ((s1.length : Nat) : Int)) ∧
((0 ≤ v ∧ v < ((s2.length : Nat) : Int)) ∧
(((gi s1 v.toNat) = (gi s2 v.toNat) →
(In64 (v + 1) ∧
∃ m3, m3 < m2 ∧ I2 m3 (v + 1))) ∧
(¬ ((gi s1 v.toNat) = (gi s2 v.toNat)) →
R false))))) ∧
(¬ (v < ((s1.length : Nat) : Int)) →
R true)))) ∧
(¬ (((s1.length : Nat) : Int) = ((s2.length : Nat) : Int)) →
R false))
theorem ye5 {O : Nat → Prop} {w : World} {s1 s2 As1 ls1 cs1 As2 ls2 cs2} {R : Bool → Prop} (h : ybm s1 s2 R) (hO : ∀ k, O k → k < w.heap.size) (hA0 : (FP.sl cI As1 ls1 cs1 s1).P O w) (hA1 : (FP.sl cI As2 ls2 cs2 s2).P O w) :
    Calls Tryz.prog 13 #[(.slice As1 ls1 cs1), (.slice As2 ls2 cs2)] w fun e w' => ∃ r, e = .returned (.bool (r)) ∧ Sep w no O w' (rl []) ∧ R r := by
  unfold ybm at h; have hS : Sep w no O w (rl [Res.ro (FP.sl cI As1 ls1 cs1 s1), Res.ro (FP.sl cI As2 ls2 cs2 s2)]) := Sep.startl hO [(FP.sl cI As1 ls1 cs1 s1), (FP.sl cI As2 ls2 cs2 s2)] ⟨hA0, hA1, trivial⟩; refine yar (l := [(.slice As1 ls1 cs1), (.slice As2 ls2 cs2)]) func13 rfl ntmps13 (Nat.le_of_ble_eq_true rfl) (zs (zq (za (.bool (false))) (yaa (yac (zs (zq (zm (.slice As1 ls1 cs1)) (zq (yaO (n := s1.length) rfl underlying37 (yaL (hS.rdr 0 rfl))) (zq (zm (.slice As2 ls2 cs2)) (zq (yaO (n := s2.length) rfl underlying37 (yaL (hS.rdr 1 rfl))) (zq zN (yaa ?_))))))))))); by_cases hp : ((s1.length : Nat) : Int) = ((s2.length : Nat) : Int)
  · replace h := h.1 hp; refine ze hp (yaf (yac (zs (zq (zm (.slice As1 ls1 cs1)) (zq (yaO (n := s1.length) rfl underlying37 (yaL (hS.rdr 0 rfl))) (zq (zm (ii 0)) (yaa (yak ?_)))))))); obtain ⟨I2, ⟨m0, h0⟩, hr⟩ := h; refine yaw (fun m E ds w' => ∃ v, I2 m v ∧ ds = [] ∧ E 0 = (Value.slice As1 ls1 cs1) ∧ E 1 = (Value.slice As2 ls2 cs2) ∧ E 12 = (ii ((s1.length : Nat) : Int)) ∧ E 13 = (ii v) ∧ Sep w no O w' (rl [Res.ro (FP.sl cI As1 ls1 cs1 s1), Res.ro (FP.sl cI As2 ls2 cs2 s2)])) m0 ⟨_, h0, rfl, rfl, rfl, rfl, rfl, (hS.sel [0, 1] (by decide))⟩ ?_; clear h0 hS; rintro m2 E ds w2 ⟨v, h, rfl, hE0, hE1, hE12, hE13, hS⟩ again; replace h := hr m2 v h; clear hr; refine zs (zq (yaJ hE13 hE12) (yaa (yac ?_))); by_cases hp2 : v < ((s1.length : Nat) : Int)
    · replace h := h.1 hp2; refine zc hp2 (yaf (yac (yak (zs (zq (yab hE13) (zq (za (ii v)) (yaa (yac (ya3 [0, 1, 2, 3, 4, 5, 6, 7, 8] st0 ya8 (by kernel_rfl) (by kernel_rfl) ?_))))))))); replace hS := hS.drew; refine zp (yab hE0) (zp (zm (ii v)) ?_); obtain ⟨hx, h⟩ := h; refine zp (zi underlying37 yag (yaG (hS.rdr 0 rfl) hx)) (zp (yah (v := (ii (gi s1 v.toNat))) rfl underlying3 rfl (rd_1 (hS.rdr 0 rfl) hx (fun q => yaI q) rfl)) ?_); refine zp (yab hE1) (zp (zm (ii v)) ?_); obtain ⟨hx2, h⟩ := h; refine zp (zi underlying37 yag (yaG (hS.rdr 1 rfl) hx2)) (zp (yah (v := (ii (gi s2 v.toNat))) rfl underlying3 rfl (rd_1 (hS.rdr 1 rfl) hx2 (fun q => yaI q) rfl)) ?_); refine zp zN (ybl ?_); by_cases hp3 : (gi s1 v.toNat) = (gi s2 v.toNat)
      · replace h := h.1 hp3; refine ze hp3 (yaf (yai (zr ?_))); obtain ⟨hi, h⟩ := h; refine zq (yaC hE13 rfl hi) (zq (zm (ii (v + 1))) (yaa ?_)); obtain ⟨mq, hlt, h⟩ := h; exact again mq _ _ _ ⟨_, h, rfl, hE0, hE1, hE12, rfl, (hS.sel [0, 1] (by decide))⟩ hlt
      · replace h := h.2 hp3; exact zf hp3 (zs (zq (za (.bool (false))) (yaa (yal rfl rfl ⟨_, rfl, (hS.sel [] (by decide)), h⟩))))
    · replace h := h.2 hp2; exact zd hp2 (yav rfl (zs (zq (za (.bool (true))) (yaa (yal rfl rfl ⟨_, rfl, (hS.sel [] (by decide)), h⟩)))))
  · replace h := h.2 hp; exact zf hp (zs (zq (za (.bool (false))) (yaa (yal rfl rfl ⟨_, rfl, (hS.sel [] (by decide)), h⟩))))
def ybg (s : List Int) (R : (List Int) → Prop) : Prop :=
(∀ nil : Bool, (nil = true → s = []) →
((nil = true →
R ([])) ∧
(¬ (nil = true) →
(0 + s.length ≤ 1000000000 ∧
R ([] ++ s)))))
theorem yeU {O : Nat → Prop} {w : World} {s As ls cs} {R : (List Int) → Prop} (h : ybg s R) (hO : ∀ k, O k → k < w.heap.size) (hA0 : (FP.sl cI As ls cs s).P O w) :
    Calls Tryz.prog 97 #[(.slice As ls cs)] w fun e w' => ∃ r Ar lr cr, e = .returned (.slice Ar lr cr) ∧ Sep w no O w' (rl [Res.own cI 3 Ar lr cr r]) ∧ R r := by
  unfold ybg at h; have hS : Sep w no O w (rl [Res.ro (FP.sl cI As ls cs s)]) := Sep.startl hO [(FP.sl cI As ls cs s)] ⟨hA0, trivial⟩; refine yar (l := [(.slice As ls cs)]) func97 rfl ntmps97 (Nat.le_of_ble_eq_true rfl) (zs (zq (za (.slice none 0 0)) (yaa (yac (zs (zq (zm (.slice As ls cs)) ?_)))))); obtain ⟨nil, hn⟩ : ∃ b, Option.isNone As = b := ⟨_, rfl⟩; replace h := h nil (by rw [← hn]; exact rd_nil (hS.rdr 0 rfl)); refine zq (v_seqlx rfl rfl underlying26 hn) (yaa ?_); by_cases hp : nil = true
  · replace h := h.1 hp; refine yau (congrArg Value.bool hp) (zs (zq (za (.slice none 0 0)) (yaa ?_))); replace hS := hS.nil 1 rfl cI 3; exact yal rfl rfl ⟨_, _, _, _, rfl, (hS.sel [1] (by decide)), h⟩
  · replace h := h.2 hp; refine yay (congrArg Value.bool (Bool.eq_false_iff.2 hp)) (yaf (zs (zn (yaD (l := []) (cells := []) (bp0) underlying26 yag rfl rfl ?_)))); intro g w2 hN; replace hS := hS.litf (n := 0) 1 rfl (fI .i64) hN ([] : List Int) rfl (by decide) rfl; clear hN; refine zb (zq (zm (.slice As ls cs)) ?_); obtain ⟨hx, h⟩ := h; refine zn (yee (c := cI) rfl rfl underlying26 underlying26 yag rfl rfl (by decide) hS 1 rfl (hS.yr 0 rfl) hx ?_); clear hS; intro A c w3 hS; exact zb (zq (za (.slice A (0 + ls) c)) (yaa (yal rfl rfl ⟨_, _, _, _, rfl, (hS.sel [1] (by decide)), h⟩)))
end Go.Proofs.YtmeoemmemjipdaaGreat

/- What the pure forms of the program's and the library's small functions come to. -/
namespace Go.Proofs.YtmeoemmemjipdaaGreat
open Go Go.Proofs.Tryz
set_option linter.unusedVariables false
set_option linter.unusedSimpArgs false
theorem ydd {a b : List Int} {R : Bool → Prop} (hl : a.length ≤ 1000000000) (h : R (decide (a = b))) : ya0 a b R := by
  unfold ya0
  have ht : a = b → R true := fun q => by rwa [decide_eq_true q] at h
  have hf : ¬ a = b → R false := fun q => by rwa [decide_eq_false q] at h
  refine ⟨fun hln => ?_, fun hln => hf fun q => hln (by rw [q])⟩
  refine ⟨Cnt a.length (fun k => ∀ j, j < k → gi a j = gi b j), Cnt.start (fun j hj => absurd hj (by omega)), ?_⟩
  rintro m _ ⟨k, rfl, rfl, hk, hinv⟩
  simp only [Int.toNat_natCast]
  refine ⟨fun hlt => ⟨by omega, by omega, fun h1 => Cnt.next (by omega) (by omega) fun j hj => ?_, fun h1 => hf fun q => h1 (by rw [q])⟩, fun hge => ht (yeT (by omega) fun j hj => hinv j (by omega))⟩
  by_cases e : j = k
  · subst e; exact h1
  · exact hinv j (by omega)
theorem yfr {a b : List Int} {R : Bool → Prop} (hl : a.length ≤ 1000000000) (h : R (decide (a = b))) : ybm a b R := by
  unfold ybm
  have ht : a = b → R true := fun q => by rwa [decide_eq_true q] at h
  have hf : ¬ a = b → R false := fun q => by rwa [decide_eq_false q] at h
  refine ⟨fun hln => ?_, fun hln => hf fun q => hln (by rw [q])⟩
  refine ⟨Cnt a.length (fun k => ∀ j, j < k → gi a j = gi b j), Cnt.start (fun j hj => absurd hj (by omega)), ?_⟩
  rintro m _ ⟨k, rfl, rfl, hk, hinv⟩
  simp only [Int.toNat_natCast]
  refine ⟨fun hlt => ⟨by omega, by omega, fun h1 => Cnt.next (by omega) (by omega) fun j hj => ?_, fun h1 => hf fun q => h1 (by rw [q])⟩, fun hge => ht (yeT (by omega) fun j hj => hinv j (by omega))⟩
  by_cases e : j = k
  · subst e; exact h1
  · exact hinv j (by omega)
theorem yfo {s : List Int} {R : List Int → Prop} (hl : s.length ≤ 1000000000) (h : R s) : ybg s R := by
  unfold ybg
  exact fun nil hn => ⟨fun q => by rw [hn q] at h; exact h, fun q => ⟨by omega, h⟩⟩
end Go.Proofs.YtmeoemmemjipdaaGreat

/- What the references' pure forms on sets come to. -/
namespace Go.Proofs.YtmeoemmemjipdaaGreat
open Go Go.Proofs.Tryz
set_option linter.unusedVariables false
set_option linter.unusedSimpArgs false
section
variable {n : Nat} {es : List E3} {d : List Int}
theorem p_r25_out {m v : Nat} {R : Int → Prop} (hl : es.length ≤ 1000) (hg : yat n es = 0) (hm : m < 9223372036854775808) (h : R (outS n es m.testBit v)) : yeQ (n : Int) es (m : Int) (v : Int) R := by
  obtain ⟨hE, hn1, hn12⟩ := yba hg
  unfold yeQ
  unfold outS at h
  refine ⟨fun mm t i => Cnt n (fun k => t = sm k (fun u => if m.testBit u = true then 0 else W es v u)) mm i, Cnt.start rfl, ?_⟩
  rintro mm t _ ⟨k, rfl, rfl, hk, rfl⟩
  refine ⟨fun hlt => ?_, fun hge => ?_⟩
  · have hz : (if m.testBit k = true then 0 else W es v k) = 0 → sm k (fun u => if m.testBit u = true then 0 else W es v u) = sm (k + 1) (fun u => if m.testBit u = true then 0 else W es v u) := fun h => by rw [sm, h]; omega
    refine ⟨k ≠ v ∧ ¬ m.testBit k = true, fun ⟨hkv, hbit⟩ => ?_, fun h => Cnt.next (by omega) (by omega) (hz (by rw [show k = v by omega, yfK]; simp)), fun h => ⟨by omega, bit_fit m k hm, ?_⟩⟩
    · have h1 := ygS hg k v
      have h2 := yc0 (f := fun u => if m.testBit u = true then 0 else W es v u) (B := 50) (by omega) (n := k) fun i _ => by
        have := ygS hg v i
        show -50 ≤ ite _ _ _ ∧ ite _ _ _ ≤ _
        split <;> omega
      refine ycy (by omega) hg hkv ⟨i64 (by omega), Cnt.next (by omega) (by omega) ?_⟩
      rw [sm, if_neg hbit, ydG es k v]
    · rw [yih]
      refine ⟨fun h0 => ⟨by omega, fun hb => by rw [if_pos hb] at h0; omega⟩, fun h0 => Cnt.next (by omega) (by omega) (hz ?_)⟩
      by_cases hb : m.testBit k = true
      · rw [if_pos hb]
      · rw [if_neg hb] at h0; exact absurd rfl h0
  · have hkn : k = n := by omega
    subst hkn; exact h
theorem p_r25_May {m : Nat} {R : Bool → Prop} (hl : es.length ≤ 1000) (hg : yat n es = 0) (hdn : d.length = n) (hm : m < 9223372036854775808) (h1 : mayF n es d m.testBit → R true) (h2 : ¬ mayF n es d m.testBit → R false) : yeW (n : Int) es d (m : Int) R := by
  obtain ⟨hE, hn1, hn12⟩ := yba hg
  unfold yeW
  refine ⟨Cnt n (fun k => ∀ v, v < k → m.testBit v = true → outS n es m.testBit v ≤ gi d v), Cnt.start (fun v h => absurd h (by omega)), ?_⟩
  rintro mm _ ⟨k, rfl, rfl, hk, hinv⟩
  have hnext : (m.testBit k = true → outS n es m.testBit k ≤ gi d k) → ∀ v, v < k + 1 → m.testBit v = true → outS n es m.testBit v ≤ gi d v := fun h v hv hb => by
    by_cases e : v = k
    · subst e; exact h hb
    · exact hinv v (by omega) hb
  refine ⟨fun hlt => ⟨by omega, bit_fit m k hm, ?_, ?_⟩, fun hge => h1 ?_⟩
  · rw [yih]
    intro h0
    have hb : m.testBit k = true := by
      by_cases hb : m.testBit k = true
      · exact hb
      · rw [if_neg hb] at h0; omega
    simp only [Int.toNat_natCast]
    refine ⟨by omega, p_r25_out hl hg hm ⟨fun q => h2 fun hall => ?_, fun q => Cnt.next (by omega) (by omega) (hnext fun _ => by omega)⟩⟩
    have := hall k (by omega) hb; omega
  · rw [yih]
    intro h0
    refine Cnt.next (by omega) (by omega) (hnext fun hb => ?_)
    rw [if_pos hb] at h0; exact absurd rfl h0
  · have hkn : k = n := by omega
    subst hkn; exact hinv
theorem p_r25_Tight {q : Nat} {R : Bool → Prop} (hl : es.length ≤ 1000) (hg : yat n es = 0) (hdn : d.length = n) (hq : q < n) (h1 : (∀ m, 1 ≤ m → m < 2 ^ n → m.testBit q = false → ¬ mayF n es d m.testBit) → R true) (h2 : ¬ (∀ m, 1 ≤ m → m < 2 ^ n → m.testBit q = false → ¬ mayF n es d m.testBit) → R false) : ydt (n : Int) es (q : Int) d R := by
  obtain ⟨hE, hn1, hn12⟩ := yba hg
  have h2n := two_pow_small hn12
  unfold ydt
  rw [pow_cast]
  generalize hP : 2 ^ n = P at *
  have hP1 : 1 ≤ P := by rw [← hP]; exact Nat.one_le_two_pow
  refine ⟨Cnt P (fun k => 1 ≤ k ∧ ∀ m, 1 ≤ m → m < k → m.testBit q = false → ¬ mayF n es d m.testBit), ⟨P - 1, 1, rfl, rfl, by omega, by omega, fun m h1 h2 => absurd h2 (by omega)⟩, ?_⟩
  rintro mm _ ⟨k, rfl, rfl, hk, hk1, hinv⟩
  have hnext : (k.testBit q = false → ¬ mayF n es d k.testBit) → 1 ≤ k + 1 ∧ ∀ m, 1 ≤ m → m < k + 1 → m.testBit q = false → ¬ mayF n es d m.testBit := fun h => ⟨by omega, fun m h1 h2 h3 => by
    by_cases e : m = k
    · subst e; exact h h3
    · exact hinv m h1 (by omega) h3⟩
  refine ⟨by omega, i64 (by omega), fun hlt => ⟨by omega, bit_fit k q (by omega), ?_, ?_⟩, fun hge => h1 ?_⟩
  · rw [yih]
    intro h0
    have hb : k.testBit q = false := by
      cases hb : k.testBit q with
      | false => rfl
      | true => rw [hb, if_pos rfl] at h0; omega
    refine p_r25_May hl hg hdn (by omega) (fun hm => ⟨fun _ => h2 fun hall => hall k hk1 (by omega) hb hm, fun q => absurd rfl q⟩) (fun hm => ⟨fun q => (by cases q), fun _ => Cnt.next (by omega) (by omega) (hnext fun _ => hm)⟩)
  · rw [yih]
    intro h0
    refine Cnt.next (by omega) (by omega) (hnext fun hb => ?_)
    rw [hb, if_neg (by simp)] at h0; exact absurd rfl h0
  · have hkn : k = P := by omega
    subst hkn; exact hinv
end
end Go.Proofs.YtmeoemmemjipdaaGreat

/- What ref25's and ref34's functions compute that try all configurations. -/
namespace Go.Proofs.YtmeoemmemjipdaaGreat
open Go Go.Proofs.Tryz
set_option linter.unusedVariables false
set_option linter.unusedSimpArgs false
theorem sm_only_le {n a : Nat} {c : Int} (hc : 0 ≤ c) {f : Nat → Int} (h : ∀ u, u < n → f u ≤ if u = a then c else 0) : sm n f ≤ c := by
  refine Int.le_trans (ydc h) ?_
  by_cases ha : a < n
  · rw [yc2 _ ha]; exact Int.le_refl _
  · rw [yap (g := fun _ => 0) fun u hu => if_neg (by omega), ybr]; exact hc
theorem deg_le_sum : ∀ {es : List E3}, (∀ x ∈ es, 0 ≤ x.2.2) → ∀ n v, deg n es v ≤ (es.map (·.2.2)).sum
  | [], _, n, v => by unfold deg; rw [yap (g := fun _ => 0) fun u _ => W_nil v u, ybr]; simp
  | x :: es, h, n, v => by
    have h1 := deg_le_sum (es := es) (fun y hy => h y (by simp [hy])) n v
    have hx := h x (by simp)
    unfold deg at h1 ⊢
    rw [yap fun u _ => yeR x es v u, ybB, List.map_cons, List.sum_cons]
    have h2 : sm n (w1 x v) ≤ x.2.2 := sm_only_le (a := (x.1 + x.2.1 - v).toNat) hx fun u hu => by
      unfold w1
      split
      · rw [if_pos (by omega)]; exact Int.le_refl _
      · split <;> omega
    exact Int.add_le_add h2 h1
theorem upto_skip (f : Nat → Int) {k n : Nat} (h : f k = 0) : upto f (k + 1) n = upto f k n := by
  unfold upto
  refine List.map_congr_left fun i _ => ?_
  by_cases e : i = k
  · subst e; rw [if_pos (by omega), if_neg (by omega), h]
  · by_cases c : i < k
    · rw [if_pos c, if_pos (by omega)]
    · rw [if_neg c, if_neg (by omega)]
def topF (n : Nat) (es : List E3) (q : Nat) (v : Nat) : Int := if v = q then 0 else deg n es v - 1
section
variable {n : Nat} {es : List E3} {q : Nat}
theorem p_r25_Greatest {R : List Int → Prop} (hl : es.length ≤ 1000000000) (hg : yat n es = 0) (h : R (tab (topF n es q) n)) : ycq (n : Int) es (q : Int) R := by
  obtain ⟨hE, hn1, hn12⟩ := yba hg
  unfold ycq
  refine ⟨by omega, fun m2 v out => Cnt n (fun k => out = upto (topF n es q) k n) m2 v, Cnt.start (yiM _ _).symm, ?_⟩
  rintro m2 _ out ⟨k, rfl, rfl, hk, rfl⟩
  simp only [Int.toNat_natCast]
  refine ⟨fun hlt => ⟨fun e => ?_, fun e => ?_⟩, fun hge => ?_⟩
  · exact Cnt.next (by omega) (by omega) (upto_skip _ (if_pos (by omega))).symm
  · have hd := yfU hg n k
    refine ygp hl hg ⟨?_, by rw [ybR]; omega, Cnt.next (by omega) (by omega) ?_⟩
    · unfold deg; exact i64 (by omega)
    · have : deg n es k - 1 = topF n es q k := (if_neg (by omega)).symm
      rw [this]; exact yjF _ (by omega)
  · have e : k = n := by omega
    subst e
    rw [yjD]; exact h
structure CalmF (n : Nat) (es : List E3) (q : Nat) (d : List Int) : Prop where
  nn : ∀ v, v < n → 0 ≤ gi d v
  sq : gi d q = 0
  red : Red n es q d
theorem p_r25_Calm {d : List Int} {R : Bool → Prop} (hl : es.length ≤ 1000) (hg : yat n es = 0) (hdn : d.length = n) (hq : q < n) (h1 : CalmF n es q d → R true) (h2 : ¬ CalmF n es q d → R false) : ydX (n : Int) es (q : Int) d R := by
  obtain ⟨hE, hn1, hn12⟩ := yba hg
  unfold ydX
  refine ⟨fun m2 v => Cnt n (fun k => ∀ j, j < k → 0 ≤ gi d j ∧ (j = q → gi d j = 0)) m2 v, Cnt.start (fun j hj => absurd hj (by omega)), ?_⟩
  rintro m2 _ ⟨k, rfl, rfl, hk, hinv⟩
  simp only [Int.toNat_natCast]
  have hnx : 0 ≤ gi d k ∧ (k = q → gi d k = 0) → ∀ j, j < k + 1 → 0 ≤ gi d j ∧ (j = q → gi d j = 0) := fun h j hj => by
    by_cases e : j = k
    · subst e; exact h
    · exact hinv j (by omega)
  refine ⟨fun hlt => ⟨by omega, fun hneg => h2 fun hC => ?_, fun hneg => ⟨fun e => ⟨fun e0 => Cnt.next (by omega) (by omega) (hnx ⟨by omega, fun _ => e0⟩), fun e0 => h2 fun hC => e0 ?_⟩, fun e => Cnt.next (by omega) (by omega) (hnx ⟨by omega, fun e1 => absurd e1 (by omega)⟩)⟩⟩, fun hge => ?_⟩
  · have := hC.nn k (by omega); omega
  · have e : k = q := by omega
    subst e; exact hC.sq
  · have e : k = n := by omega
    subst e
    have hpos : ∀ v, v < k → v ≠ q → 0 ≤ gi d v := fun v hv _ => (hinv v hv).1
    exact p_r25_Tight hl hg hdn hq (fun ht => h1 ⟨fun v hv => (hinv v hv).1, (hinv q hq).2 rfl, (yig hq hpos).1 ht⟩) (fun ht => h2 fun hr => ht ((yig hq hpos).2 hr.red))
def Cfg (t : Nat → Int) (k : Nat) (x : List Int) : Prop := x.length = k ∧ ∀ j, j < k → 0 ≤ gi x j ∧ gi x j ≤ t j
theorem take_gx {v : List (List Int)} {i : Nat} (h : i < v.length) : v.take (i + 1) = v.take i ++ [gx v i] := by
  rw [yen h, List.take_add_one, List.getElem?_eq_getElem h]; rfl
theorem Cfg.snoc {t : Nat → Int} {k : Nat} {y : List Int} : Cfg t (k + 1) y ↔ ∃ x c, Cfg t k x ∧ 0 ≤ c ∧ c ≤ t k ∧ y = x ++ [c] := by
  constructor
  · rintro ⟨h1, h2⟩
    refine ⟨y.take k, gi y k, ⟨by simp; omega, fun j hj => ?_⟩, (h2 k (by omega)).1, (h2 k (by omega)).2, ?_⟩
    · have : gi (y.take k) j = gi y j := by unfold gi; simp only [List.getD_eq_getElem?_getD]; rw [List.getElem?_take_of_lt hj]
      rw [this]; exact h2 j (by omega)
    · have hk : k < y.length := by omega
      have e : y.take (k + 1) = y.take k ++ [gi y k] := by rw [List.take_add_one, List.getElem?_eq_getElem hk, ybb hk]; rfl
      rw [← e, List.take_of_length_le (by omega)]
  · rintro ⟨x, c, ⟨h1, h2⟩, h3, h4, rfl⟩
    refine ⟨by simp [h1], fun j hj => ?_⟩
    rw [gi_snc x c (by omega), h1]
    by_cases e : j = k
    · subst e; rw [if_pos rfl]; exact ⟨h3, h4⟩
    · rw [if_neg e]; exact h2 j (by omega)
theorem p_r25_Calms {R : List (List Int) → Prop} (hl : es.length ≤ 1000) (hg : yat n es = 0) (hn6 : n ≤ 6) (hq : q < n) (ht : ∀ v, v < n → topF n es q v ≤ 8)
    (h : ∀ L : List (List Int), (∀ y, y ∈ L ↔ Cfg (topF n es q) n y ∧ CalmF n es q y) → L.length ≤ 1000000 → R L) : yeo (n : Int) es (q : Int) R := by
  obtain ⟨hE, hn1, hn12⟩ := yba hg
  refine p_r25_Greatest (by omega) hg ?_
  generalize hT : topF n es q = t at *
  refine ⟨fun m2 v v2 => Cnt n (fun k => v.length ≤ 9 ^ k ∧ ∀ y, y ∈ v ↔ Cfg t k y) m2 v2, Cnt.start ⟨Nat.le_refl _, fun y => ⟨fun hy => ?_, fun hy => ?_⟩⟩, ?_⟩
  · have : y = [] := by simpa using hy
    subst this; exact ⟨rfl, fun j hj => absurd hj (by omega)⟩
  · have : y = [] := List.eq_nil_of_length_eq_zero hy.1
    subst this; exact List.mem_cons_self
  rintro m2 v _ ⟨k, rfl, rfl, hk, hvl, hv⟩
  simp only [Int.toNat_natCast]
  have h9 : v.length ≤ 531441 := by
    have : 9 ^ k ≤ 9 ^ 6 := Nat.pow_le_pow_right (by omega) (by omega)
    omega
  refine ⟨fun hlt => ?_, fun hge => ?_⟩
  · have hlt : k < n := by omega
    have htk := ht k hlt
    refine ⟨fun m3 v3 v4 => Cnt v.length (fun i => v3.length ≤ i * 9 ∧ ∀ y, y ∈ v3 ↔ ∃ x c, x ∈ v.take i ∧ 0 ≤ c ∧ c ≤ t k ∧ y = x ++ [c]) m3 v4, Cnt.start ⟨by simp, fun y => by simp⟩, ?_⟩
    rintro m3 v3 _ ⟨i, rfl, rfl, hi, hl3, h3⟩
    simp only [Int.toNat_natCast]
    refine ⟨fun hlti => ?_, fun hgei => ?_⟩
    · have hlti : i < v.length := by omega
      refine ⟨fun m4 v5 v6 => Cnt (t k + 1).toNat (fun c => v5.length ≤ i * 9 + c ∧ ∀ y, y ∈ v5 ↔ y ∈ v3 ∨ ∃ c' : Nat, c' < c ∧ y = gx v i ++ [(c' : Int)]) m4 v6, Cnt.start ⟨by omega, fun y => by simp⟩, ?_⟩
      rintro m4 v5 _ ⟨c, rfl, rfl, hc, hl5, h5⟩
      simp only [List.nil_append]
      have hgl := (hv (gx v i)).1 (by rw [yen hlti]; exact List.getElem_mem _)
      have hgk := hgl.1
      rw [yde _ hlt, ya2]
      refine ⟨by omega, fun hle => ⟨by omega, by omega, by omega, by omega, Cnt.next (by omega) (by omega) ⟨by simp; omega, fun y => ?_⟩⟩, fun hgt => Cnt.next hlti (by omega) ⟨by omega, fun y => ?_⟩⟩
      · rw [List.mem_append, h5, List.mem_singleton, or_assoc]
        refine or_congr_right ⟨?_, ?_⟩
        · rintro (⟨c', hc', rfl⟩ | rfl)
          · exact ⟨c', by omega, rfl⟩
          · exact ⟨c, by omega, rfl⟩
        · rintro ⟨c', hc', rfl⟩
          by_cases e : c' = c
          · subst e; exact .inr rfl
          · exact .inl ⟨c', by omega, rfl⟩
      · rw [h5, h3, take_gx hlti]
        constructor
        · rintro (⟨x, c0, hx, h01, h02, rfl⟩ | ⟨c', hc', rfl⟩)
          · exact ⟨x, c0, List.mem_append_left _ hx, h01, h02, rfl⟩
          · exact ⟨_, _, List.mem_append_right _ (List.mem_singleton.2 rfl), by omega, by omega, rfl⟩
        · rintro ⟨x, c0, hx, h01, h02, rfl⟩
          rcases List.mem_append.1 hx with hx | hx
          · exact .inl ⟨x, c0, hx, h01, h02, rfl⟩
          · rw [List.mem_singleton] at hx
            subst hx
            exact .inr ⟨c0.toNat, by omega, by rw [Int.toNat_of_nonneg h01]⟩
    · have e : i = v.length := by omega
      subst e
      refine Cnt.next hlt (by omega) ⟨?_, fun y => ?_⟩
      · rw [Nat.pow_succ]; exact Nat.le_trans hl3 (Nat.mul_le_mul_right 9 hvl)
      · rw [h3, Cfg.snoc, List.take_length]
        constructor
        · rintro ⟨x, c, hx, h01, h02, rfl⟩; exact ⟨x, c, (hv x).1 hx, h01, h02, rfl⟩
        · rintro ⟨x, c, hx, h01, h02, rfl⟩; exact ⟨x, c, (hv x).2 hx, h01, h02, rfl⟩
  · have e : k = n := by omega
    subst e
    refine ⟨fun m8 v7 v8 => Cnt v.length (fun i => v7.length ≤ i ∧ ∀ y, y ∈ v7 ↔ y ∈ v.take i ∧ CalmF k es q y) m8 v8, Cnt.start ⟨by simp, fun y => by simp⟩, ?_⟩
    rintro m8 v7 _ ⟨i, rfl, rfl, hi, hl7, h7⟩
    simp only [Int.toNat_natCast]
    refine ⟨fun hlti => ?_, fun hgei => ?_⟩
    · have hlti : i < v.length := by omega
      have hgl := (hv (gx v i)).1 (by rw [yen hlti]; exact List.getElem_mem _)
      refine ⟨by omega, p_r25_Calm hl hg hgl.1 hq (fun hC => ⟨fun _ => ⟨by omega, Cnt.next hlti (by omega) ⟨by simp; omega, fun y => ?_⟩⟩, fun q => absurd rfl q⟩) (fun hC => ⟨fun q => (by cases q), fun _ => Cnt.next hlti (by omega) ⟨by omega, fun y => ?_⟩⟩)⟩
      · rw [List.mem_append, h7, take_gx hlti, List.mem_append, List.mem_singleton]
        constructor
        · rintro (⟨h1, h2⟩ | rfl)
          · exact ⟨.inl h1, h2⟩
          · exact ⟨.inr rfl, hC⟩
        · rintro ⟨h1 | rfl, h2⟩
          · exact .inl ⟨h1, h2⟩
          · exact .inr rfl
      · rw [h7, take_gx hlti, List.mem_append, List.mem_singleton]
        constructor
        · rintro ⟨h1, h2⟩; exact ⟨.inl h1, h2⟩
        · rintro ⟨h1 | rfl, h2⟩
          · exact ⟨h1, h2⟩
          · exact absurd h2 hC
    · have e : i = v.length := by omega
      subst e
      refine h v7 (fun y => ?_) (by omega)
      rw [h7, List.take_length, hv]
end
theorem dg_set {d : List Int} {q : Nat} (hq : q < d.length) (x : Int) : dg (d.set q x) = dg d - gi d q + x := by
  unfold dg
  rw [List.length_set, yfe hq, yfe hq (f := gi d), ybi hq, if_pos rfl, yap (g := fun v => if v = q then 0 else gi d v) fun v hv => by
    by_cases e : v = q
    · rw [if_pos e, if_pos e]
    · rw [if_neg e, if_neg e, ybi hq, if_neg e]]
  omega
def yfM (d : List Int) (q : Nat) : List Int := d.set q (gi d q - dg d)
theorem ygG {d : List Int} {B : Int} (hB : 0 ≤ B) (h : ∀ j, j < d.length → -B ≤ gi d j ∧ gi d j ≤ B) : -(d.length * B) ≤ dg d ∧ dg d ≤ d.length * B := yc0 hB h
theorem p_r25_Flat {d : List Int} {q : Nat} {R : List Int → Prop} (hq : q < d.length) (hl : d.length ≤ 12) (hb : ∀ i, i < d.length → -1000000000 ≤ gi d i ∧ gi d i ≤ 1000000000) (h : R (yfM d q)) : ydh d (q : Int) R := by
  unfold ydh
  simp only [List.nil_append, Int.toNat_natCast]
  have h1 := ygG (by omega) hb
  have h2 := hb q hq
  have h3 : (d.length : Int) * 1000000000 ≤ 12 * 1000000000 := by omega
  refine ⟨by omega, by omega, ycO (by omega) (fun i hi => by have := hb i hi; omega) ⟨i64 (by omega), h⟩⟩
theorem lp_at {n : Nat} {es : List E3} {q : Nat} (hq : q < n) {f a : Nat → Int} (h0 : sm n a = 0) (h : ∀ v, v < n → v ≠ q → Lp n es f v = a v) : ∀ v, v < n → Lp n es f v = a v := by
  intro v hv
  by_cases e : v = q
  · subst e
    have t1 := yfb (n := n) (es := es) f
    rw [yfe hv] at t1 h0
    rw [yap (g := fun u => if u = v then 0 else a u) fun u hu => by
      by_cases e : u = v
      · rw [if_pos e, if_pos e]
      · rw [if_neg e, if_neg e, h u hu e]] at t1
    omega
  · exact h v hv e
section
variable {m q : Nat} {es : List E3} {d : List Int}
variable (hl : es.length ≤ 1000) (hg : yat ((m + 1 : Nat) : Int) es = 0) (hc : ycJ ((m + 1 : Nat) : Int) es = true) (hm : m ≤ 5) (hq : q ≤ m) (ht : ∀ v, v < m + 1 → topF (m + 1) es q v ≤ 8) (hdl : d.length = m + 1) (hd : ∀ j, j < m + 1 → -120 ≤ gi d j ∧ gi d j ≤ 120)
include hl hg hc hm hq ht hdl hd
theorem p_r25_Settled {R : List Int → Prop} (hex : ∃ y, Cfg (topF (m + 1) es q) (m + 1) y ∧ CalmF (m + 1) es q y ∧ ∃ f : Nat → Int, ∀ v, v < m + 1 → v ≠ q → Lp (m + 1) es f v = gi d v - gi y v)
    (h : ∀ y, Cfg (topF (m + 1) es q) (m + 1) y → CalmF (m + 1) es q y → (∃ f : Nat → Int, ∀ v, v < m + 1 → v ≠ q → Lp (m + 1) es f v = gi d v - gi y v) → R y) : ydq ((m + 1 : Nat) : Int) es (q : Int) d R := by
  refine p_r25_Calms hl hg (by omega) (by omega) ht fun L hL hLl => ?_
  have hflat : ∀ y, y.length = m + 1 → ∀ v, v < m + 1 → gi (yfM y q) v = if v = q then gi y q - dg y else gi y v := fun y hy v hv => by unfold yfM; rw [ybi (by omega)]
  have hfd : ∀ y, y.length = m + 1 → sm (m + 1) (gi (yfM y q)) = 0 := fun y hy => by
    have e : (yfM y q).length = m + 1 := by unfold yfM; rw [List.length_set, hy]
    have := dg_set (d := y) (q := q) (by omega) (gi y q - dg y)
    have h2 : dg (yfM y q) = sm (m + 1) (gi (yfM y q)) := by unfold dg; rw [e]
    rw [← h2]
    unfold yfM; omega
  refine ⟨fun m2 i => Cnt L.length (fun k => ∀ j, j < k → ¬ ∃ f : Nat → Int, ∀ v, v < m + 1 → v ≠ q → Lp (m + 1) es f v = gi d v - gi (gx L j) v) m2 i, Cnt.start (fun j hj => absurd hj (by omega)), ?_⟩
  rintro m2 _ ⟨i, rfl, rfl, hi, hinv⟩
  simp only [Int.toNat_natCast]
  refine ⟨fun hlt => ?_, fun hge => ?_⟩
  · have hlt : i < L.length := by omega
    obtain ⟨hy1, hy2⟩ := (hL (gx L i)).1 (by rw [yen hlt]; exact List.getElem_mem _)
    generalize hyg : gx L i = y at hy1 hy2 ⊢
    obtain ⟨hyl, hyb⟩ := hy1
    have hyB : ∀ j, j < y.length → -8 ≤ gi y j ∧ gi y j ≤ 8 := fun j hj => by have := hyb j (by omega); have := ht j (by omega); omega
    have hyd := ygG (by omega) hyB
    have hdd := ygG (d := d) (B := 120) (by omega) (fun j hj => hd j (by omega))
    rw [hyl] at hyd
    rw [hdl] at hdd
    have hm1 : ((m + 1 : Nat) : Int) * 8 ≤ 48 := by omega
    have hm2 : ((m + 1 : Nat) : Int) * 120 ≤ 720 := by omega
    have hkey : ∀ f : Nat → Int, (∀ v, v < m + 1 → Lp (m + 1) es f v = gi (yfM d q) v - gi (yfM y q) v) ↔ (∀ v, v < m + 1 → v ≠ q → Lp (m + 1) es f v = gi d v - gi y v) := fun f => by
      constructor
      · intro hf v hv hvq
        rw [hf v hv, hflat d hdl v hv, hflat y hyl v hv, if_neg hvq, if_neg hvq]
      · intro hf
        refine lp_at (by omega : q < m + 1) (a := fun v => gi (yfM d q) v - gi (yfM y q) v) (by rw [yeD, hfd d hdl, hfd y hyl]; rfl) fun v hv hvq => ?_
        show _ = gi (yfM d q) v - gi (yfM y q) v
        rw [hflat d hdl v hv, hflat y hyl v hv, if_neg hvq, if_neg hvq]; exact hf v hv hvq
    refine ⟨by omega, p_r25_Flat (by omega) (by omega) (fun j hj => by have := hd j (by omega); omega) (p_r25_Flat (by omega) (by omega) (fun j hj => by have := hyB j (by omega); omega) ?_)⟩
    refine p_r25_Alike (by omega) hg hc hm (by unfold yfM; rw [List.length_set, hdl]) (by unfold yfM; rw [List.length_set, hyl]) (fun j hj => ?_) (fun ⟨f, hf⟩ => ⟨fun _ => h y ⟨hyl, hyb⟩ hy2 ⟨f, (hkey f).1 hf⟩, fun q => absurd rfl q⟩) (fun hno => ⟨fun q => (by cases q), fun _ => Cnt.next hlt (by omega) fun j hj => ?_⟩)
    · have h1 := hd j hj
      have h2 := hyB j (by omega)
      have h3 := hd q (by omega)
      have h4 := hyB q (by omega)
      rw [hflat d hdl j hj, hflat y hyl j hj]
      split <;> omega
    · by_cases e : j = i
      · rw [e, hyg]
        exact fun ⟨f, hf⟩ => hno ⟨f, (hkey f).2 hf⟩
      · exact hinv j (by omega)
  · have e : i = L.length := by omega
    subst e
    obtain ⟨y, hy1, hy2, hy3⟩ := hex
    obtain ⟨j, hj, rfl⟩ := List.getElem_of_mem ((hL y).2 ⟨hy1, hy2⟩)
    exfalso
    refine hinv j hj ?_
    rw [yen hj]; exact hy3
end
end Go.Proofs.YtmeoemmemjipdaaGreat

/- Words for the laws of layer 34. -/
namespace Go.Proofs.YtmeoemmemjipdaaGreat
open Go Go.Proofs.Tryz
set_option linter.unusedVariables false
set_option linter.unusedSimpArgs false
structure Right (n : Int) (es : List E3) (d : List Int) : Prop where
  few : yhl n es 6 9 = true
  joined : yca n es = 0
  chips : yaM d n = 0
  low : lowF n d = true
theorem Right.given {n : Int} {es : List E3} {d : List Int} (h : Right n es d) {q : Int} (hq : 0 ≤ q ∧ q < n) : yaH n es q d = 0 := by
  have hj := h.joined
  unfold yca at hj
  unfold yaH
  by_cases h1 : yat n es = 0
  · rw [if_pos h1] at hj ⊢
    by_cases h2 : ycJ n es = true
    · rw [if_pos h2, if_pos hq, h.chips]
    · rw [if_neg h2] at hj; omega
  · rw [if_neg h1] at hj; exact absurd hj h1
end Go.Proofs.YtmeoemmemjipdaaGreat
