/- Texts laid together: RedP, Pe, Pg, PEa, PEb, PRa, Bor, Gen, SpE. -/
import Derived.Test.YtmeoemmemjipdaaGreatK5
/- What the reference's Reduce comes to. -/
namespace Go.Proofs.YtmeoemmemjipdaaGreat
open Go Go.Proofs.Tryz
set_option linter.unusedVariables false
set_option linter.unusedSimpArgs false
theorem red_set1 {n : Nat} {es : List E3} {q : Nat} {x : List Int} (hx : x.length = n) (hq : q < n) (h : Red n es q x) (c : Int) : Red n es q (x.set q c) :=
  ⟨fun v hv hvq => by rw [ybi (by omega), if_neg hvq]; exact h.pos v hv hvq, fun S hS hex => by
    obtain ⟨v, hv, hSv, hlt⟩ := h.no S hS hex
    refine ⟨v, hv, hSv, ?_⟩
    rw [ybi (by omega), if_neg (fun e => by rw [e, hS] at hSv; cases hSv)]; exact hlt⟩
theorem dg_eq {l : List Int} {n : Nat} (h : l.length = n) : dg l = sm n (gi l) := by unfold dg; rw [h]
theorem red_top {n : Nat} {es : List E3} {q : Nat} {x : List Int} (h : Red n es q x) {v : Nat} (hv : v < n) (hvq : v ≠ q) : gi x v ≤ deg n es v - 1 := by
  obtain ⟨u, hu, hSu, hlt⟩ := h.no (fun w => decide (w = v)) (by simp; exact fun e => hvq e.symm) ⟨v, hv, by simp⟩
  simp only [decide_eq_true_eq] at hSu hlt
  subst hSu
  have : sm n (fun w => if w = u then 0 else W es u w) = deg n es u := by
    unfold deg
    exact yap fun w _ => by
      by_cases e : w = u
      · subst e; rw [if_pos rfl, yfK]
      · rw [if_neg e]
  omega
section
variable {m q : Nat} {es : List E3} {d x s : List Int}
end
end Go.Proofs.YtmeoemmemjipdaaGreat

/- Pure forms of functions, made by program (pf.py), each with the proof that the code does so. -/
namespace Go.Proofs.YtmeoemmemjipdaaGreat
open Go Go.RowKit Go.Shelf Go.Proofs.Tryz
set_option linter.unusedVariables false
set_option maxRecDepth 100000
set_option maxHeartbeats 1000000
def ycf (x : Int) (R : Bool → Prop) : Prop :=
R (!(decide (x = x)))
theorem yeB {O : Nat → Prop} {w : World} {x} {R : Bool → Prop} (h : ycf x R) (hO : ∀ k, O k → k < w.heap.size) :
    Calls Tryz.prog 169 #[(ii x)] w fun e w' => ∃ r, e = .returned (.bool (r)) ∧ Sep w no O w' (rl []) ∧ R r := by
  unfold ycf at h; have hS : Sep w no O w (rl []) := Sep.start w hO; exact yar (l := [(ii x)]) func169 rfl ntmps169 (Nat.le_of_ble_eq_true rfl) (zs (zq (za (.bool (false))) (yaa (zs (zq (zm (ii x)) (zq (zm (ii x)) (zq zN (zq (za (.bool (!(decide (x = x))))) (yaa (yal rfl rfl ⟨_, rfl, (hS.sel [] (by decide)), h⟩))))))))))
def ybn (x : List Int) (R : Int → Prop) : Prop :=
(∃ J2 : Prop, (J2 → ((0 ≤ (0 : Int) ∧ (0 : Int) < ((x.length : Nat) : Int)) ∧
(∃ I2 : Nat → Int → Int → Prop, (∃ m0, I2 m0 (gi x (0 : Int).toNat) 1) ∧ ∀ m2 m3 i, I2 m2 m3 i → 
((i < ((x.length : Nat) : Int) →
((0 ≤ i ∧ i < ((x.length : Nat) : Int)) ∧
(In64 (i + 1) ∧
∃ m4, m4 < m2 ∧ I2 m4 (mnF m3 (gi x i.toNat)) (i + 1)))) ∧
(¬ (i < ((x.length : Nat) : Int)) →
R m3))))) ∧
((((x.length : Nat) : Int) < 1 →
False) ∧
(¬ (((x.length : Nat) : Int) < 1) →
J2)))
theorem yfm {O : Nat → Prop} {w : World} {x Ax lx cx} {R : Int → Prop} (h : ybn x R) (hO : ∀ k, O k → k < w.heap.size) (hA0 : (FP.sl cI Ax lx cx x).P O w) :
    Calls Tryz.prog 73 #[(.slice Ax lx cx)] w fun e w' => ∃ r, e = .returned (ii r) ∧ Sep w no O w' (rl []) ∧ R r := by
  unfold ybn at h; have hS : Sep w no O w (rl [Res.ro (FP.sl cI Ax lx cx x)]) := Sep.startl hO [(FP.sl cI Ax lx cx x)] ⟨hA0, trivial⟩; refine yar (l := [(.slice Ax lx cx)]) func73 rfl ntmps73 (Nat.le_of_ble_eq_true rfl) (zs (zq (za (ii 0)) (yaa (yac (zs (zq (zm (.slice Ax lx cx)) (zq (yaO (n := x.length) rfl underlying26 (yaL (hS.rdr 0 rfl))) (zq zL (yaa ?_))))))))); obtain ⟨J2, hJ, h⟩ := h; refine yhY (fun E ds w' => J2 ∧ ds = [] ∧ E 0 = (Value.slice Ax lx cx) ∧ Sep w no O w' (rl [Res.ro (FP.sl cI Ax lx cx x)])) ?_ ?_
  · clear h hS; rintro E ds w2 ⟨h, rfl, hE0, hS⟩; replace h := hJ h; refine zs (zq (yab hE0) ?_); obtain ⟨hx, h⟩ := h; refine zq (zi underlying26 yag (yaG (hS.rdr 0 rfl) hx)) (zq (yah (v := (ii (gi x (0 : Int).toNat))) rfl underlying3 rfl (rd_1 (hS.rdr 0 rfl) hx (fun q => yaI q) rfl)) ?_); refine zq (za (ii (gi x (0 : Int).toNat))) (yaa (yac (zs (zq (za (ii 1)) (yaa (yak ?_)))))); obtain ⟨I2, ⟨m0, h0⟩, hr⟩ := h; refine yaw (fun m E ds w' => ∃ m3 i, I2 m m3 i ∧ ds = [] ∧ E 0 = (Value.slice Ax lx cx) ∧ E 3 = (ii m3) ∧ E 4 = (ii i) ∧ Sep w no O w' (rl [Res.ro (FP.sl cI Ax lx cx x)])) m0 ⟨_, _, h0, rfl, hE0, rfl, rfl, (hS.sel [0] (by decide))⟩ ?_; clear h0 hS; rintro m2 E ds w3 ⟨m3, i, h, rfl, hE0, hE3, hE4, hS⟩ again; replace h := hr m2 m3 i h; clear hr; refine yac (zs (zq (yab hE4) (zq (yab hE0) (zq (yaO (n := x.length) rfl underlying26 (yaL (hS.rdr 0 rfl))) (zq zL (yaa ?_)))))); by_cases hp : i < ((x.length : Nat) : Int)
    · replace h := h.1 hp; refine zc hp (yaf (yac (yak (zr (zq (yab hE3) (zq (yab hE0) (zq (yab hE4) ?_))))))); obtain ⟨hx2, h⟩ := h; refine zq (zi underlying26 yag (yaG (hS.rdr 0 rfl) hx2)) (zq (yah (v := (ii (gi x i.toNat))) rfl underlying3 rfl (rd_1 (hS.rdr 0 rfl) hx2 (fun q => yaI q) rfl)) ?_); refine zq (v_min2 rfl rfl) (zq (za (ii (mnF m3 (gi x i.toNat)))) (yaa (yai (zr (zq (yab hE4) ?_))))); obtain ⟨hi, h⟩ := h; refine zq (zA hi) (zq (za (ii (i + 1))) (yaa ?_)); obtain ⟨mq, hlt, h⟩ := h; exact again mq _ _ _ ⟨_, _, h, rfl, hE0, rfl, rfl, (hS.sel [0] (by decide))⟩ hlt
    · replace h := h.2 hp; exact zd hp (yav rfl (zs (zq (yab hE3) (zq (za (ii m3)) (yaa (yal rfl rfl ⟨_, rfl, (hS.sel [] (by decide)), h⟩))))))
  clear hJ; intro j; by_cases hp2 : ((x.length : Nat) : Int) < 1
  · replace h := h.1 hp2; exact zc hp2 (zr h.elim)
  · replace h := h.2 hp2; exact zd hp2 (yaf (j _ _ _ ⟨h, rfl, rfl, (hS.sel [0] (by decide))⟩))
end Go.Proofs.YtmeoemmemjipdaaGreat

/- Pure forms of functions, made by program (pf.py), each with the proof that the code does so. -/
namespace Go.Proofs.YtmeoemmemjipdaaGreat
open Go Go.RowKit Go.Shelf Go.Proofs.Tryz
set_option linter.unusedVariables false
set_option maxRecDepth 100000
set_option maxHeartbeats 1000000
def yct (k : Int) (R : Bool → Prop) : Prop :=
(((-1048576) ≤ k →
R (decide (k ≤ 1048576))) ∧
(¬ ((-1048576) ≤ k) →
R false))
theorem yhB {O : Nat → Prop} {w : World} {k} {R : Bool → Prop} (h : yct k R) (hO : ∀ k, O k → k < w.heap.size) :
    Calls Tryz.prog 102 #[(ii k)] w fun e w' => ∃ r, e = .returned (.bool (r)) ∧ Sep w no O w' (rl []) ∧ R r := by
  unfold yct at h; have hS : Sep w no O w (rl []) := Sep.start w hO; refine yar (l := [(ii k)]) func102 rfl ntmps102 (Nat.le_of_ble_eq_true rfl) (zs (zq (za (.bool (false))) (yaa (zs (zq (zm (ii k)) (zq (v_geq rfl rfl) (zq (zm (.bool (decide ((-1048576) ≤ k)))) ?_))))))); by_cases hp : (-1048576) ≤ k
  · replace h := h.1 hp; exact rl_q (yae rfl (yaj rfl (congrArg Value.bool (decide_eq_true hp)))) rfl rfl (zm (ii k)) (rl_q (yae rfl (yaj rfl (congrArg Value.bool (decide_eq_true hp)))) rfl rfl (v_leq rfl rfl) (zq (yaB (v := (.bool (decide (k ≤ 1048576)))) (congrArg Value.bool (decide_eq_true hp)) rfl) (zq (za (.bool (decide (k ≤ 1048576)))) (yaa (yal rfl rfl ⟨_, rfl, (hS.sel [] (by decide)), h⟩)))))
  · replace h := h.2 hp; exact rl_p (yad rfl (yaj rfl (congrArg Value.bool (decide_eq_false hp))) rfl) rfl (rl_p (yad rfl (yaj rfl (congrArg Value.bool (decide_eq_false hp))) rfl) rfl (zq (yaz (v := (.bool (false))) (congrArg Value.bool (decide_eq_false hp)) rfl) (zq (za (.bool (false))) (yaa (yal rfl rfl ⟨_, rfl, (hS.sel [] (by decide)), h⟩)))))
def ycB (n : Int) (R : Int → Prop) : Prop :=
((n < 1 →
R 2) ∧
(¬ (n < 1) →
((12 < n →
R 2) ∧
(¬ (12 < n) →
R 0))))
theorem ygV {O : Nat → Prop} {w : World} {n} {R : Int → Prop} (h : ycB n R) (hO : ∀ k, O k → k < w.heap.size) :
    Calls Tryz.prog 120 #[(ii n)] w fun e w' => ∃ r, e = .returned (ii r) ∧ Sep w no O w' (rl []) ∧ R r := by
  unfold ycB at h; have hS : Sep w no O w (rl []) := Sep.start w hO; refine yar (l := [(ii n)]) func120 rfl ntmps120 (Nat.le_of_ble_eq_true rfl) (zs (zq (za (ii 0)) (yaa (yac (zs (zq (zm (ii n)) (zq zL (zq (zm (.bool (decide (n < 1)))) ?_)))))))); by_cases hp : n < 1
  · replace h := h.1 hp; exact rl_p (yad rfl (yaj rfl (congrArg Value.bool (decide_eq_true hp))) rfl) rfl (rl_p (yad rfl (yaj rfl (congrArg Value.bool (decide_eq_true hp))) rfl) rfl (zq (yaB (v := (.bool (true))) (congrArg Value.bool (decide_eq_true hp)) rfl) (yaa (yau rfl (zs (zq (za (ii 2)) (yaa (yal rfl rfl ⟨_, rfl, (hS.sel [] (by decide)), h⟩))))))))
  · replace h := h.2 hp; refine rl_q (yae rfl (yaj rfl (congrArg Value.bool (decide_eq_false hp)))) rfl rfl (zm (ii n)) (rl_q (yae rfl (yaj rfl (congrArg Value.bool (decide_eq_false hp)))) rfl rfl zG (zq (yaz (v := (.bool (decide (12 < n)))) (congrArg Value.bool (decide_eq_false hp)) rfl) (yaa ?_))); by_cases hp2 : 12 < n
    · replace h := h.1 hp2; exact zc hp2 (zs (zq (za (ii 2)) (yaa (yal rfl rfl ⟨_, rfl, (hS.sel [] (by decide)), h⟩))))
    · replace h := h.2 hp2; exact zd hp2 (yaf (zs (zq (za (ii 0)) (yaa (yal rfl rfl ⟨_, rfl, (hS.sel [] (by decide)), h⟩)))))
def ych (d : List Int) (n : Int) (R : Int → Prop) : Prop :=
ycB n (fun r =>
((r = 0 →
((((d.length : Nat) : Int) = n →
(∃ I2 : Nat → Int → Prop, (∃ m0, I2 m0 0) ∧ ∀ m2 v, I2 m2 v → 
((v < ((d.length : Nat) : Int) →
((0 ≤ v ∧ v < ((d.length : Nat) : Int)) ∧
yct (gi d v.toNat) (fun r2 =>
((r2 = true →
(In64 (v + 1) ∧
∃ m3, m3 < m2 ∧ I2 m3 (v + 1))) ∧
(¬ (r2 = true) →
R 2))))) ∧
(¬ (v < ((d.length : Nat) : Int)) →
R 0)))) ∧
(¬ (((d.length : Nat) : Int) = n) →
R 8))) ∧
(¬ (r = 0) →
R r)))
theorem yfR {O : Nat → Prop} {w : World} {d n Ad ld cd} {R : Int → Prop} (h : ych d n R) (hO : ∀ k, O k → k < w.heap.size) (hA0 : (FP.sl cI Ad ld cd d).P O w) :
    Calls Tryz.prog 81 #[(.slice Ad ld cd), (ii n)] w fun e w' => ∃ r3, e = .returned (ii r3) ∧ Sep w no O w' (rl []) ∧ R r3 := by
  unfold ych at h; have hS : Sep w no O w (rl [Res.ro (FP.sl cI Ad ld cd d)]) := Sep.startl hO [(FP.sl cI Ad ld cd d)] ⟨hA0, trivial⟩; refine yar (l := [(.slice Ad ld cd), (ii n)]) func81 rfl ntmps81 (Nat.le_of_ble_eq_true rfl) (zs (zq (za (ii 0)) (yaa (yac (zs (zq (zm (ii n)) (zn (yan rfl (am1 rfl) enter_120 ((ygV h (yaF _)).mono ?_))))))))); rintro _ w2 ⟨r, rfl, hC, h⟩; replace hS := hS.pur hC.pure; clear hC; refine ⟨_, rfl, ?_⟩; refine zb (zq (za (ii r)) (yaa (zs (zq (zm (ii r)) (zq zN (yaa ?_)))))); by_cases hp : r = 0
  · replace h := h.1 hp; refine ze hp (yaf (yac (zs (zq (zm (.slice Ad ld cd)) (zq (yaO (n := d.length) rfl underlying26 (yaL (hS.rdr 0 rfl))) (zq (zm (ii n)) (zq zN (yaa ?_)))))))); by_cases hp2 : ((d.length : Nat) : Int) = n
    · replace h := h.1 hp2; refine ze hp2 (yaf (yac (zs (zq (zm (.slice Ad ld cd)) (zq (yaO (n := d.length) rfl underlying26 (yaL (hS.rdr 0 rfl))) (zq (zm (ii 0)) (yaa (yak ?_)))))))); obtain ⟨I2, ⟨m0, h0⟩, hr⟩ := h; refine yaw (fun m E ds w' => ∃ v, I2 m v ∧ ds = [] ∧ E 17 = (Value.slice Ad ld cd) ∧ E 18 = (ii ((d.length : Nat) : Int)) ∧ E 19 = (ii v) ∧ Sep w no O w' (rl [Res.ro (FP.sl cI Ad ld cd d)])) m0 ⟨_, h0, rfl, rfl, rfl, rfl, (hS.sel [0] (by decide))⟩ ?_; clear h0 hS; rintro m2 E ds w3 ⟨v, h, rfl, hE17, hE18, hE19, hS⟩ again; replace h := hr m2 v h; clear hr; refine zs (zq (yaJ hE19 hE18) (yaa (yac ?_))); by_cases hp3 : v < ((d.length : Nat) : Int)
      · replace h := h.1 hp3; refine zc hp3 (yaf (yac (yak (zs ?_)))); obtain ⟨hx, h⟩ := h; refine zq (yao hE17 hE19 underlying26 yag (yaG (hS.rdr 0 rfl) hx)) (zq (yah (v := (ii (gi d v.toNat))) rfl underlying3 rfl (rd_1 (hS.rdr 0 rfl) hx (fun q => yaI q) rfl)) ?_); refine zq (za (ii (gi d v.toNat))) (yaa (zs (zq (zm (ii (gi d v.toNat))) (zn (yan rfl (am1 rfl) enter_102 ((yhB h (yaF _)).mono ?_)))))); rintro _ w4 ⟨r2, rfl, hC, h⟩; replace hS := hS.pur hC.pure; clear hC; refine ⟨_, rfl, ?_⟩; refine zb (zq (ydA rfl) (yaa ?_)); by_cases hp4 : r2 = true
        · replace h := h.1 hp4; refine yay (congrArg Value.bool (congrArg Bool.not hp4)) (yaf (yai (zr ?_))); obtain ⟨hi, h⟩ := h; refine zq (yaC hE19 rfl hi) (zq (zm (ii (v + 1))) (yaa ?_)); obtain ⟨mq, hlt, h⟩ := h; exact again mq _ _ _ ⟨_, h, rfl, hE17, hE18, rfl, (hS.sel [0] (by decide))⟩ hlt
        · replace h := h.2 hp4; exact yau (congrArg Value.bool (congrArg Bool.not (Bool.eq_false_iff.2 hp4))) (zs (zq (za (ii 2)) (yaa (yal rfl rfl ⟨_, rfl, (hS.sel [] (by decide)), h⟩))))
      · replace h := h.2 hp3; exact zd hp3 (yav rfl (zs (zq (za (ii 0)) (yaa (yal rfl rfl ⟨_, rfl, (hS.sel [] (by decide)), h⟩)))))
    · replace h := h.2 hp2; exact zf hp2 (zs (zq (za (ii 8)) (yaa (yal rfl rfl ⟨_, rfl, (hS.sel [] (by decide)), h⟩))))
  · replace h := h.2 hp; exact zf hp (zs (zq (zm (ii r)) (zq (za (ii r)) (yaa (yal rfl rfl ⟨_, rfl, (hS.sel [] (by decide)), h⟩)))))
def yb1 (n : Int) (v : Int) (R : Bool → Prop) : Prop :=
((0 ≤ v →
R (decide (v < n))) ∧
(¬ (0 ≤ v) →
R false))
theorem yfl {O : Nat → Prop} {w : World} {n v} {R : Bool → Prop} (h : yb1 n v R) (hO : ∀ k, O k → k < w.heap.size) :
    Calls Tryz.prog 117 #[(ii n), (ii v)] w fun e w' => ∃ r, e = .returned (.bool (r)) ∧ Sep w no O w' (rl []) ∧ R r := by
  unfold yb1 at h; have hS : Sep w no O w (rl []) := Sep.start w hO; refine yar (l := [(ii n), (ii v)]) func117 rfl ntmps117 (Nat.le_of_ble_eq_true rfl) (zs (zq (za (.bool (false))) (yaa (zs (zq (zm (ii v)) (zq (v_geq rfl rfl) (zq (zm (.bool (decide (0 ≤ v)))) ?_))))))); by_cases hp : 0 ≤ v
  · replace h := h.1 hp; exact rl_q (yae rfl (yaj rfl (congrArg Value.bool (decide_eq_true hp)))) rfl rfl (zm (ii v)) (rl_q (yae rfl (yaj rfl (congrArg Value.bool (decide_eq_true hp)))) rfl rfl (zm (ii n)) (rl_q (yae rfl (yaj rfl (congrArg Value.bool (decide_eq_true hp)))) rfl rfl zL (zq (yaB (v := (.bool (decide (v < n)))) (congrArg Value.bool (decide_eq_true hp)) rfl) (zq (za (.bool (decide (v < n)))) (yaa (yal rfl rfl ⟨_, rfl, (hS.sel [] (by decide)), h⟩))))))
  · replace h := h.2 hp; exact rl_p (yad rfl (yaj rfl (congrArg Value.bool (decide_eq_false hp))) rfl) rfl (rl_p (yad rfl (yaj rfl (congrArg Value.bool (decide_eq_false hp))) rfl) rfl (rl_p (yad rfl (yaj rfl (congrArg Value.bool (decide_eq_false hp))) rfl) rfl (zq (yaz (v := (.bool (false))) (congrArg Value.bool (decide_eq_false hp)) rfl) (zq (za (.bool (false))) (yaa (yal rfl rfl ⟨_, rfl, (hS.sel [] (by decide)), h⟩))))))
def ybt (x : Int) (y : Int) (R : Int → Prop) : Prop :=
ycf x (fun r =>
ycf y (fun r2 =>
((r = true →
((r2 = true →
R 0) ∧
(¬ (r2 = true) →
R (-1)))) ∧
(¬ (r = true) →
((r2 = true →
R 1) ∧
(¬ (r2 = true) →
((x < y →
R (-1)) ∧
(¬ (x < y) →
((y < x →
R 1) ∧
(¬ (y < x) →
R 0))))))))))
theorem yd5 {O : Nat → Prop} {w : World} {x y} {R : Int → Prop} (h : ybt x y R) (hO : ∀ k, O k → k < w.heap.size) :
    Calls Tryz.prog 144 #[(ii x), (ii y)] w fun e w' => ∃ r3, e = .returned (ii r3) ∧ Sep w no O w' (rl []) ∧ R r3 := by
  unfold ybt at h; have hS : Sep w no O w (rl []) := Sep.start w hO; refine yar (l := [(ii x), (ii y)]) func144 rfl ntmps144 (Nat.le_of_ble_eq_true rfl) (zs (zq (za (ii 0)) (yaa (zs (zq (zm (ii x)) (zn (yan rfl (am1 rfl) enter_169 ((yeB h (yaF _)).mono ?_)))))))); rintro _ w2 ⟨r, rfl, hC, h⟩; replace hS := hS.pur hC.pure; clear hC; refine ⟨_, rfl, ?_⟩; refine zb (zq (za (.bool (r))) (yaa (zs (zq (zm (ii y)) (zn (yan rfl (am1 rfl) enter_169 ((yeB h (yaF _)).mono ?_))))))); rintro _ w3 ⟨r2, rfl, hC, h⟩; replace hS := hS.pur hC.pure; clear hC; refine ⟨_, rfl, ?_⟩; refine zb (zq (za (.bool (r2))) (yaa (yac (zs (zq (zm (.bool (r))) (yaa ?_)))))); by_cases hp : r = true
  · replace h := h.1 hp; refine yau (congrArg Value.bool hp) (yac (zs (zq (zm (.bool (r2))) (yaa ?_)))); by_cases hp2 : r2 = true
    · replace h := h.1 hp2; exact yau (congrArg Value.bool hp2) (zs (zq (za (ii 0)) (yaa (yal rfl rfl ⟨_, rfl, (hS.sel [] (by decide)), h⟩))))
    · replace h := h.2 hp2; exact yay (congrArg Value.bool (Bool.eq_false_iff.2 hp2)) (yaf (zs (zq (za (ii (-1))) (yaa (yal rfl rfl ⟨_, rfl, (hS.sel [] (by decide)), h⟩)))))
  · replace h := h.2 hp; refine yay (congrArg Value.bool (Bool.eq_false_iff.2 hp)) (yaf (yac (zs (zq (zm (.bool (r2))) (yaa ?_))))); by_cases hp3 : r2 = true
    · replace h := h.1 hp3; exact yau (congrArg Value.bool hp3) (zs (zq (za (ii 1)) (yaa (yal rfl rfl ⟨_, rfl, (hS.sel [] (by decide)), h⟩))))
    · replace h := h.2 hp3; refine yay (congrArg Value.bool (Bool.eq_false_iff.2 hp3)) (yaf (yac (zs (zq (zm (ii x)) (zq (zm (ii y)) (zq zL (yaa ?_))))))); by_cases hp4 : x < y
      · replace h := h.1 hp4; exact zc hp4 (zs (zq (za (ii (-1))) (yaa (yal rfl rfl ⟨_, rfl, (hS.sel [] (by decide)), h⟩))))
      · replace h := h.2 hp4; refine zd hp4 (yaf (yac (zs (zq (zm (ii x)) (zq (zm (ii y)) (zq zG (yaa ?_))))))); by_cases hp5 : y < x
        · replace h := h.1 hp5; exact zc hp5 (zs (zq (za (ii 1)) (yaa (yal rfl rfl ⟨_, rfl, (hS.sel [] (by decide)), h⟩))))
        · replace h := h.2 hp5; exact zd hp5 (yaf (zs (zq (za (ii 0)) (yaa (yal rfl rfl ⟨_, rfl, (hS.sel [] (by decide)), h⟩)))))
def ydb (vals : List Int) (R : Int → Prop) : Prop :=
(∃ I2 : Nat → Int → Prop, (∃ m0, I2 m0 0) ∧ ∀ m2 v, I2 m2 v → 
((v < ((vals.length : Nat) : Int) →
((0 ≤ v ∧ v < ((vals.length : Nat) : Int)) ∧
(((gi vals v.toNat) = 0 →
(In64 (v + 1) ∧
∃ m3, m3 < m2 ∧ I2 m3 (v + 1))) ∧
(¬ ((gi vals v.toNat) = 0) →
R (gi vals v.toNat))))) ∧
(¬ (v < ((vals.length : Nat) : Int)) →
R 0)))
theorem pok_cmp_Or_int {O : Nat → Prop} {w : World} {vals Avals lvals cvals} {R : Int → Prop} (h : ydb vals R) (hO : ∀ k, O k → k < w.heap.size) (hA0 : (FP.sl cI Avals lvals cvals vals).P O w) :
    Calls Tryz.prog 151 #[(.slice Avals lvals cvals)] w fun e w' => ∃ r, e = .returned (ii r) ∧ Sep w no O w' (rl []) ∧ R r := by
  unfold ydb at h; have hS : Sep w no O w (rl [Res.ro (FP.sl cI Avals lvals cvals vals)]) := Sep.startl hO [(FP.sl cI Avals lvals cvals vals)] ⟨hA0, trivial⟩; refine yar (l := [(.slice Avals lvals cvals)]) func151 rfl ntmps151 (Nat.le_of_ble_eq_true rfl) (zs (zq (za (ii 0)) (yaa (zs (zq (za (ii 0)) (yaa (yac (zs (zq (zm (.slice Avals lvals cvals)) (zq (yaO (n := vals.length) rfl underlying25 (yaL (hS.rdr 0 rfl))) (zq (zm (ii 0)) (yaa (yak ?_))))))))))))); obtain ⟨I2, ⟨m0, h0⟩, hr⟩ := h; refine yaw (fun m E ds w' => ∃ v, I2 m v ∧ ds = [] ∧ E 3 = (ii 0) ∧ E 6 = (Value.slice Avals lvals cvals) ∧ E 7 = (ii ((vals.length : Nat) : Int)) ∧ E 8 = (ii v) ∧ Sep w no O w' (rl [Res.ro (FP.sl cI Avals lvals cvals vals)])) m0 ⟨_, h0, rfl, rfl, rfl, rfl, rfl, (hS.sel [0] (by decide))⟩ ?_; clear h0 hS; rintro m2 E ds w2 ⟨v, h, rfl, hE3, hE6, hE7, hE8, hS⟩ again; replace h := hr m2 v h; clear hr; refine zs (zq (yaJ hE8 hE7) (yaa (yac ?_))); by_cases hp : v < ((vals.length : Nat) : Int)
  · replace h := h.1 hp; refine zc hp (yaf (yac (yak (zs ?_)))); obtain ⟨hx, h⟩ := h; refine zq (yao hE6 hE8 underlying25 yag (yaG (hS.rdr 0 rfl) hx)) (zq (yah (v := (ii (gi vals v.toNat))) rfl underlying3 rfl (rd_1 (hS.rdr 0 rfl) hx (fun q => yaI q) rfl)) ?_); refine zq (za (ii (gi vals v.toNat))) (yaa (zs (zq (zm (ii (gi vals v.toNat))) (zq (yab hE3) (zq zN (yaa ?_)))))); by_cases hp2 : (gi vals v.toNat) = 0
    · replace h := h.1 hp2; refine ze hp2 (yaf (yai (zr ?_))); obtain ⟨hi, h⟩ := h; refine zq (yaC hE8 rfl hi) (zq (zm (ii (v + 1))) (yaa ?_)); obtain ⟨mq, hlt, h⟩ := h; exact again mq _ _ _ ⟨_, h, rfl, hE3, hE6, hE7, rfl, (hS.sel [0] (by decide))⟩ hlt
    · replace h := h.2 hp2; exact zf hp2 (zs (zq (zm (ii (gi vals v.toNat))) (zq (za (ii (gi vals v.toNat))) (yaa (yal rfl rfl ⟨_, rfl, (hS.sel [] (by decide)), h⟩)))))
  · replace h := h.2 hp; exact zd hp (yav rfl (zs (zq (yab hE3) (zq (za (ii 0)) (yaa (yal rfl rfl ⟨_, rfl, (hS.sel [] (by decide)), h⟩))))))
def ybO (p : Int) (p2 : Int) (q : Int) (q2 : Int) (R : Int → Prop) : Prop :=
ybt p q (fun r =>
ybt p2 q2 (fun r2 =>
ydb ([r, r2]) (fun r3 =>
R r3)))
theorem yfp {O : Nat → Prop} {w : World} {p p2 q q2} {R : Int → Prop} (h : ybO p p2 q q2 R) (hO : ∀ k, O k → k < w.heap.size) :
    Calls Tryz.prog 118 #[(.agg #[(ii p), (ii p2)]), (.agg #[(ii q), (ii q2)])] w fun e w' => ∃ r4, e = .returned (ii r4) ∧ Sep w no O w' (rl []) ∧ R r4 := by
  unfold ybO at h; have hS : Sep w no O w (rl []) := Sep.start w hO; refine yar (l := [(.agg #[(ii p), (ii p2)]), (.agg #[(ii q), (ii q2)])]) func118 rfl ntmps118 (Nat.le_of_ble_eq_true rfl) (zs (zn (ybq (v := (.agg #[(ii p), (ii p2)])) rfl ?_))); intro g w2 hN; replace hS : Sep w no O w2 (stl _ 0 (Res.box 120 g [(ii p), (ii p2)])) := hS.new 0 rfl hN; clear hN; refine zb (zn (ybq (v := (.agg #[(ii q), (ii q2)])) rfl ?_)); intro g2 w3 hN; replace hS : Sep w no O w3 (stl _ 1 (Res.box 120 g2 [(ii q), (ii q2)])) := hS.new 1 rfl hN; clear hN; refine zb (zq (za (ii 0)) (yaa (yac (ya3 [0, 1, 2, 3, 5, 6, 7, 8, 4, 9, 10, 11, 12] (fun i => match i with | 4 => [5, 6, 7, 8] | _ => []) ya8 (by kernel_rfl) (by kernel_rfl) ?_)))); replace hS := hS.drew; refine zp (yam rfl underlying120 rfl yag) (zp (zl underlying3 (Row.cell (hS.bx 0 rfl) (i := 0) rfl)) (zp (yam rfl underlying120 rfl yag) (zp (zl underlying3 (Row.cell (hS.bx 1 rfl) (i := 0) rfl)) (zp (yam rfl underlying120 rfl yag) (zp (zl underlying3 (Row.cell (hS.bx 0 rfl) (i := 1) rfl)) (zp (yam rfl underlying120 rfl yag) (zp (zl underlying3 (Row.cell (hS.bx 1 rfl) (i := 1) rfl)) (rp_n rfl rfl rfl rfl (yan rfl (am2 rfl rfl) enter_144 ((yd5 h (yaF _)).mono ?_)))))))))); rintro _ w4 ⟨r, rfl, hC, h⟩; replace hS := hS.pur hC.pure; clear hC; refine ⟨_, rfl, ?_⟩; refine ⟨⟨fun _ => (zl underlying3 (Row.cell (hS.bx 1 rfl) (i := 1) rfl)), ⟨fun _ => (yam rfl underlying120 rfl yag), ⟨fun _ => (zl underlying3 (Row.cell (hS.bx 0 rfl) (i := 1) rfl)), ⟨fun _ => (yam rfl underlying120 rfl yag), ⟨fun hh => Bool.noConfusion (show false = true from hh), ⟨fun hh => Bool.noConfusion (show false = true from hh), ⟨fun hh => Bool.noConfusion (show false = true from hh), ⟨fun hh => Bool.noConfusion (show false = true from hh), trivial⟩⟩⟩⟩⟩⟩⟩⟩, ?_⟩; refine rp_n rfl rfl rfl rfl (yan rfl (am2 rfl rfl) enter_144 ((yd5 h (yaF _)).mono ?_)); rintro _ w5 ⟨r2, rfl, hC, h⟩; replace hS := hS.pur hC.pure; clear hC; refine ⟨_, rfl, ?_⟩; refine zb (rp_n rfl rfl rfl rfl (yaD (l := [(0, (ii r)), (1, (ii r2))]) (cells := [(ii r), (ii r2)]) (bp2 rfl rfl) underlying25 yag rfl rfl ?_)); intro g3 w6 hN; replace hS := hS.litf (n := 2) 2 rfl (fI .i64) hN ([r, r2] : List Int) rfl (by decide) rfl; clear hN; refine zb (rp_n rfl rfl rfl rfl (yan rfl (am1 rfl) enter_151 ((pok_cmp_Or_int h (yaF _) (hS.rdo 2 rfl)).mono ?_))); rintro _ w7 ⟨r3, rfl, hC, h⟩; replace hS := hS.pur hC.pure; clear hC; refine ⟨_, rfl, ?_⟩; exact zb (zp (za (ii r3)) (ybl (yal rfl rfl ⟨_, rfl, (hS.sel [] (by decide)), h⟩)))
def yci (d : Int) (d2 : List E3) (R : Int → Prop) : Prop :=
(∃ J2 : Prop, (J2 → (∃ I2 : Nat → Int → Int → Int → Prop, (∃ m0, I2 m0 0 (-1) (-1)) ∧ ∀ m2 v v2 v3, I2 m2 v v2 v3 → 
((v < ((d2.length : Nat) : Int) →
((0 ≤ v ∧ v < ((d2.length : Nat) : Int)) ∧
(∃ J3 : Prop, (J3 → ((((ge d2 v.toNat).2.1) < ((ge d2 v.toNat).1) →
R 9) ∧
(¬ (((ge d2 v.toNat).2.1) < ((ge d2 v.toNat).1)) →
ybO v2 v3 ((ge d2 v.toNat).1) ((ge d2 v.toNat).2.1) (fun r =>
((0 ≤ r →
R 9) ∧
(¬ (0 ≤ r) →
(In64 (v + 1) ∧
∃ m3, m3 < m2 ∧ I2 m3 (v + 1) ((ge d2 v.toNat).1) ((ge d2 v.toNat).2.1)))))))) ∧
yb1 d ((ge d2 v.toNat).1) (fun r2 =>
((r2 = true →
yb1 d ((ge d2 v.toNat).2.1) (fun r3 =>
((r3 = true →
((((ge d2 v.toNat).2.2) < 1 →
R 2) ∧
(¬ (((ge d2 v.toNat).2.2) < 1) →
((50 < ((ge d2 v.toNat).2.2) →
R 2) ∧
(¬ (50 < ((ge d2 v.toNat).2.2)) →
J3))))) ∧
(¬ (r3 = true) →
R 2)))) ∧
(¬ (r2 = true) →
R 2)))))) ∧
(¬ (v < ((d2.length : Nat) : Int)) →
R 0)))) ∧
((d < 1 →
R 2) ∧
(¬ (d < 1) →
((12 < d →
R 2) ∧
(¬ (12 < d) →
J2)))))
theorem yfE {O : Nat → Prop} {w : World} {d d2 Ad ld cd} {R : Int → Prop} (h : yci d d2 R) (hO : ∀ k, O k → k < w.heap.size) (hA0 : (FP.sl c3 Ad ld cd d2).P O w) :
    Calls Tryz.prog 78 #[(.agg #[(ii d), (.slice Ad ld cd)])] w fun e w' => ∃ r4, e = .returned (ii r4) ∧ Sep w no O w' (rl []) ∧ R r4 := by
  unfold yci at h; have hS : Sep w no O w (rl [Res.ro (FP.sl c3 Ad ld cd d2)]) := Sep.startl hO [(FP.sl c3 Ad ld cd d2)] ⟨hA0, trivial⟩; refine yar (l := [(.agg #[(ii d), (.slice Ad ld cd)])]) func78 rfl ntmps78 (Nat.le_of_ble_eq_true rfl) (zs (zn (ybq (v := (.agg #[(ii d), (.slice Ad ld cd)])) rfl ?_))); intro g w2 hN; replace hS : Sep w no O w2 (stl _ 1 (Res.box 24 g [(ii d), (.slice Ad ld cd)])) := hS.new 1 rfl hN; clear hN; refine zb (zq (za (ii 0)) (yaa (yac (yac ?_)))); obtain ⟨J2, hJ, h⟩ := h; refine ydO (fun E ds w' => J2 ∧ ds = [] ∧ E 1 = (Value.pointer (some (⟨g, 0, none⟩ : Addr))) ∧ Sep w no O w' (rl [Res.box 24 g [(ii d), (.slice Ad ld cd)], Res.ro (FP.sl c3 Ad ld cd d2)])) ?_ ?_
  · clear h hS; rintro E ds w3 ⟨h, rfl, hE1, hS⟩; replace h := hJ h; refine zs (zn (ybw (l := [(0, (ii (-1))), (1, (ii (-1)))]) (cells := [(ii (-1)), (ii (-1))]) (places := [(0, 1), (1, 1)]) (bp2 rfl rfl) underlying120 ycw (by kernel_rfl) rfl ?_)); refine zb (zn (ya7 ycw ?_)); intro g2 w4 hN; replace hS : Sep w no O w4 (stl _ 2 (Res.box 120 g2 [(ii 0), (ii 0)])) := hS.new 2 rfl hN; clear hN; refine zb (zo (ybF (b := g2) (o := 0) (cells := #[(ii (-1)), (ii (-1))]) rfl rfl ycw rfl rfl (ybc (hS.bx 2 rfl) (Nat.le_of_ble_eq_true rfl)) ?_)); intro w5 e1; replace hS := hS.bstn 2 rfl 0 [(ii (-1)), (ii (-1))] e1; clear e1; refine zb (yaa (yac (zs (zq (yam hE1 underlying24 rfl ycH) (zq (zl underlying22 (Row.cell (hS.bx 0 rfl) (i := 1) rfl)) (zq (yaO (n := d2.length) rfl underlying22 (yaL (hS.rdr 1 rfl))) (zq (zm (ii 0)) (yaa (yak ?_))))))))); obtain ⟨I2, ⟨m0, h0⟩, hr⟩ := h; refine yaw (fun m E ds w' => ∃ v v2 v3, I2 m v v2 v3 ∧ ds = [] ∧ E 1 = (Value.pointer (some (⟨g, 0, none⟩ : Addr))) ∧ E 3 = (Value.pointer (some (⟨g2, 0, none⟩ : Addr))) ∧ E 17 = (Value.slice Ad ld cd) ∧ E 18 = (ii ((d2.length : Nat) : Int)) ∧ E 19 = (ii v) ∧ Sep w no O w' (rl [Res.box 24 g [(ii d), (.slice Ad ld cd)], Res.ro (FP.sl c3 Ad ld cd d2), Res.box 120 g2 [(ii v2), (ii v3)]])) m0 ⟨_, _, _, h0, rfl, hE1, rfl, rfl, rfl, rfl, (hS.sel [0, 1, 2] (by decide))⟩ ?_; clear h0 hS; rintro m2 E ds w6 ⟨v, v2, v3, h, rfl, hE1, hE3, hE17, hE18, hE19, hS⟩ again; replace h := hr m2 v v2 v3 h; clear hr; refine zs (zq (yaJ hE19 hE18) (yaa (yac ?_))); by_cases hp : v < ((d2.length : Nat) : Int)
    · replace h := h.1 hp; refine zc hp (yaf (yac (yak (zs ?_)))); obtain ⟨hx, h⟩ := h; refine zq (yao hE17 hE19 underlying22 yaP (yaG (hS.rdr 1 rfl) hx)) (zq (yas (vs := [(ii ((ge d2 v.toNat).1)), (ii ((ge d2 v.toNat).2.1)), (ii ((ge d2 v.toNat).2.2))]) rfl underlying76 rfl yaP (rd_fs (hS.rdr 1 rfl) hx (fun q => ydj q))) ?_); refine zn (ya7 yaP ?_); intro g3 w7 hN; replace hS : Sep w no O w7 (stl _ 3 (Res.box 76 g3 [(ii 0), (ii 0), (ii 0)])) := hS.new 3 rfl hN; clear hN; refine zb (zo (ybF (b := g3) (o := 0) (cells := #[(ii ((ge d2 v.toNat).1)), (ii ((ge d2 v.toNat).2.1)), (ii ((ge d2 v.toNat).2.2))]) rfl rfl yaP rfl rfl (ybc (hS.bx 3 rfl) (Nat.le_of_ble_eq_true rfl)) ?_)); intro w8 e1; replace hS := hS.bstn 3 rfl 0 [(ii ((ge d2 v.toNat).1)), (ii ((ge d2 v.toNat).2.1)), (ii ((ge d2 v.toNat).2.2))] e1; clear e1; refine zb (yaa (zs (zq (yam rfl underlying76 rfl yag) (zq (zl underlying3 (Row.cell (hS.bx 3 rfl) (i := 0) rfl)) (zq (yam rfl underlying76 rfl yag) (zq (zl underlying3 (Row.cell (hS.bx 3 rfl) (i := 1) rfl)) (zn (ybw (l := [(0, (ii ((ge d2 v.toNat).1))), (1, (ii ((ge d2 v.toNat).2.1)))]) (cells := [(ii ((ge d2 v.toNat).1)), (ii ((ge d2 v.toNat).2.1))]) (places := [(0, 1), (1, 1)]) (bp2 rfl rfl) underlying120 ycw (by kernel_rfl) rfl ?_)))))))); refine zb (zn (ya7 ycw ?_)); intro g4 w9 hN; replace hS : Sep w no O w9 (stl _ 4 (Res.box 120 g4 [(ii 0), (ii 0)])) := hS.new 4 rfl hN; clear hN; refine zb (zo (ybF (b := g4) (o := 0) (cells := #[(ii ((ge d2 v.toNat).1)), (ii ((ge d2 v.toNat).2.1))]) rfl rfl ycw rfl rfl (ybc (hS.bx 4 rfl) (Nat.le_of_ble_eq_true rfl)) ?_)); intro w10 e1; replace hS := hS.bstn 4 rfl 0 [(ii ((ge d2 v.toNat).1)), (ii ((ge d2 v.toNat).2.1))] e1; clear e1; refine zb (yaa (yac (yak (yac ?_)))); obtain ⟨J3, hJ, h⟩ := h; refine wt_cutB1 (fun E ds w' => J3 ∧ ds = [] ∧ E 1 = (Value.pointer (some (⟨g, 0, none⟩ : Addr))) ∧ E 3 = (Value.pointer (some (⟨g2, 0, none⟩ : Addr))) ∧ E 5 = (Value.pointer (some (⟨g3, 0, none⟩ : Addr))) ∧ E 6 = (Value.pointer (some (⟨g4, 0, none⟩ : Addr))) ∧ E 17 = (Value.slice Ad ld cd) ∧ E 18 = (ii ((d2.length : Nat) : Int)) ∧ E 19 = (ii v) ∧ Sep w no O w' (rl [Res.box 24 g [(ii d), (.slice Ad ld cd)], Res.ro (FP.sl c3 Ad ld cd d2), Res.box 120 g2 [(ii v2), (ii v3)], Res.box 76 g3 [(ii ((ge d2 v.toNat).1)), (ii ((ge d2 v.toNat).2.1)), (ii ((ge d2 v.toNat).2.2))], Res.box 120 g4 [(ii ((ge d2 v.toNat).1)), (ii ((ge d2 v.toNat).2.1))]])) ?_ ?_
      · clear h hS; rintro E ds w11 ⟨h, rfl, hE1, hE3, hE5, hE6, hE17, hE18, hE19, hS⟩; replace h := hJ h; refine zs (zq (yam hE5 underlying76 rfl yag) (zq (zl underlying3 (Row.cell (hS.bx 3 rfl) (i := 0) rfl)) (zq (yam hE5 underlying76 rfl yag) (zq (zl underlying3 (Row.cell (hS.bx 3 rfl) (i := 1) rfl)) (zq zG (zq (zm (.bool (decide (((ge d2 v.toNat).2.1) < ((ge d2 v.toNat).1))))) ?_)))))); by_cases hp2 : ((ge d2 v.toNat).2.1) < ((ge d2 v.toNat).1)
        · replace h := h.1 hp2; exact rl_p (yad rfl (yaj rfl (congrArg Value.bool (decide_eq_true hp2))) rfl) rfl (rl_p (yad rfl (yaj rfl (congrArg Value.bool (decide_eq_true hp2))) rfl) rfl (rl_p (yad rfl (yaj rfl (congrArg Value.bool (decide_eq_true hp2))) rfl) rfl (rl_p (yad rfl (yaj rfl (congrArg Value.bool (decide_eq_true hp2))) rfl) rfl (zq (yaB (v := (.bool (true))) (congrArg Value.bool (decide_eq_true hp2)) rfl) (zq (za (.bool (true))) (yaa (yau rfl (zs (zq (za (ii 9)) (yaa (yal rfl rfl ⟨_, rfl, (hS.sel [] (by decide)), h⟩)))))))))))
        · replace h := h.2 hp2; refine rl_q (yae rfl (yaj rfl (congrArg Value.bool (decide_eq_false hp2)))) rfl rfl (yas (vs := [(ii v2), (ii v3)]) hE3 underlying120 rfl ycw ⟨Row.cell (hS.bx 2 rfl) (i := 0) rfl, Row.cell (hS.bx 2 rfl) (i := 1) rfl, trivial⟩) (rl_q (yae rfl (yaj rfl (congrArg Value.bool (decide_eq_false hp2)))) rfl rfl (yas (vs := [(ii ((ge d2 v.toNat).1)), (ii ((ge d2 v.toNat).2.1))]) hE6 underlying120 rfl ycw ⟨Row.cell (hS.bx 4 rfl) (i := 0) rfl, Row.cell (hS.bx 4 rfl) (i := 1) rfl, trivial⟩) (rl_n (yae rfl (yaj rfl (congrArg Value.bool (decide_eq_false hp2)))) rfl rfl rfl (yan rfl (am2 rfl rfl) enter_118 ((yfp h (yaF _)).mono ?_)))); rintro _ w12 ⟨r, rfl, hC, h⟩; replace hS := hS.pur hC.pure; clear hC; refine ⟨_, rfl, ?_⟩; refine zb (rl_q (yae rfl (yaj rfl (congrArg Value.bool (decide_eq_false hp2)))) rfl rfl (v_geq rfl rfl) (zq (yaz (v := (.bool (decide (0 ≤ r)))) (congrArg Value.bool (decide_eq_false hp2)) rfl) (zq (za (.bool (decide (0 ≤ r)))) (yaa ?_)))); by_cases hp3 : 0 ≤ r
          · replace h := h.1 hp3; exact zc hp3 (zs (zq (za (ii 9)) (yaa (yal rfl rfl ⟨_, rfl, (hS.sel [] (by decide)), h⟩))))
          · replace h := h.2 hp3; refine zd hp3 (yaf (yai (zr (zq (yas (vs := [(ii ((ge d2 v.toNat).1)), (ii ((ge d2 v.toNat).2.1))]) hE6 underlying120 rfl ycw ⟨Row.cell (hS.bx 4 rfl) (i := 0) rfl, Row.cell (hS.bx 4 rfl) (i := 1) rfl, trivial⟩) (zo (ybF (b := g2) (o := 0) (cells := #[(ii ((ge d2 v.toNat).1)), (ii ((ge d2 v.toNat).2.1))]) hE3 rfl ycw rfl rfl (ybc (hS.bx 2 rfl) (Nat.le_of_ble_eq_true rfl)) ?_)))))); intro w13 e1; replace hS := hS.bstn 2 rfl 0 [(ii ((ge d2 v.toNat).1)), (ii ((ge d2 v.toNat).2.1))] e1; clear e1; refine zb (yaa (yai (zr ?_))); obtain ⟨hi, h⟩ := h; refine zq (yaC hE19 rfl hi) (zq (zm (ii (v + 1))) (yaa ?_)); obtain ⟨mq, hlt, h⟩ := h; exact again mq _ _ _ ⟨_, _, _, h, rfl, hE1, hE3, hE17, hE18, rfl, (hS.sel [0, 1, 2] (by decide))⟩ hlt
      clear hJ; intro j2; refine zr (zq (yam hE1 underlying24 rfl yag) (zq (zl underlying3 (Row.cell (hS.bx 0 rfl) (i := 0) rfl)) (zq (yam rfl underlying76 rfl yag) (zq (zl underlying3 (Row.cell (hS.bx 3 rfl) (i := 0) rfl)) (zn (yan rfl (am2 rfl rfl) yj5 ((yfl h (yaF _)).mono ?_))))))); rintro _ w14 ⟨r2, rfl, hC, h⟩; replace hS := hS.pur hC.pure; clear hC; refine ⟨_, rfl, ?_⟩; refine zb (zq (ydA rfl) (zq (zm (.bool (!(r2)))) ?_)); by_cases hp4 : r2 = true
      · replace h := h.1 hp4; refine rl_q (yae rfl (yaj rfl (congrArg Value.bool (congrArg Bool.not hp4)))) rfl rfl (yam hE1 underlying24 rfl yag) (rl_q (yae rfl (yaj rfl (congrArg Value.bool (congrArg Bool.not hp4)))) rfl rfl (zl underlying3 (Row.cell (hS.bx 0 rfl) (i := 0) rfl)) (rl_q (yae rfl (yaj rfl (congrArg Value.bool (congrArg Bool.not hp4)))) rfl rfl (yam rfl underlying76 rfl yag) (rl_q (yae rfl (yaj rfl (congrArg Value.bool (congrArg Bool.not hp4)))) rfl rfl (zl underlying3 (Row.cell (hS.bx 3 rfl) (i := 1) rfl)) (rl_n (yae rfl (yaj rfl (congrArg Value.bool (congrArg Bool.not hp4)))) rfl rfl rfl (yan rfl (am2 rfl rfl) yj5 ((yfl h (yaF _)).mono ?_)))))); rintro _ w15 ⟨r3, rfl, hC, h⟩; replace hS := hS.pur hC.pure; clear hC; refine ⟨_, rfl, ?_⟩; refine zb (rl_q (yae rfl (yaj rfl (congrArg Value.bool (congrArg Bool.not hp4)))) rfl rfl (ydA rfl) (zq (yaz (v := (.bool (!(r3)))) (congrArg Value.bool (congrArg Bool.not hp4)) rfl) (zq (zm (.bool (!(r3)))) ?_))); by_cases hp5 : r3 = true
        · replace h := h.1 hp5; refine rl_q (yae rfl (yaj rfl (congrArg Value.bool (congrArg Bool.not hp5)))) rfl rfl (yam rfl underlying76 rfl yag) (rl_q (yae rfl (yaj rfl (congrArg Value.bool (congrArg Bool.not hp5)))) rfl rfl (zl underlying3 (Row.cell (hS.bx 3 rfl) (i := 2) rfl)) (rl_q (yae rfl (yaj rfl (congrArg Value.bool (congrArg Bool.not hp5)))) rfl rfl zL (zq (yaz (v := (.bool (decide (((ge d2 v.toNat).2.2) < 1)))) (congrArg Value.bool (congrArg Bool.not hp5)) rfl) (zq (zm (.bool (decide (((ge d2 v.toNat).2.2) < 1)))) ?_)))); by_cases hp6 : ((ge d2 v.toNat).2.2) < 1
          · replace h := h.1 hp6; exact rl_p (yad rfl (yaj rfl (congrArg Value.bool (decide_eq_true hp6))) rfl) rfl (rl_p (yad rfl (yaj rfl (congrArg Value.bool (decide_eq_true hp6))) rfl) rfl (rl_p (yad rfl (yaj rfl (congrArg Value.bool (decide_eq_true hp6))) rfl) rfl (zq (yaB (v := (.bool (true))) (congrArg Value.bool (decide_eq_true hp6)) rfl) (zq (za (.bool (true))) (yaa (yau rfl (zs (zq (za (ii 2)) (yaa (yal rfl rfl ⟨_, rfl, (hS.sel [] (by decide)), h⟩))))))))))
          · replace h := h.2 hp6; refine rl_q (yae rfl (yaj rfl (congrArg Value.bool (decide_eq_false hp6)))) rfl rfl (yam rfl underlying76 rfl yag) (rl_q (yae rfl (yaj rfl (congrArg Value.bool (decide_eq_false hp6)))) rfl rfl (zl underlying3 (Row.cell (hS.bx 3 rfl) (i := 2) rfl)) (rl_q (yae rfl (yaj rfl (congrArg Value.bool (decide_eq_false hp6)))) rfl rfl zG (zq (yaz (v := (.bool (decide (50 < ((ge d2 v.toNat).2.2))))) (congrArg Value.bool (decide_eq_false hp6)) rfl) (zq (za (.bool (decide (50 < ((ge d2 v.toNat).2.2))))) (yaa ?_))))); by_cases hp7 : 50 < ((ge d2 v.toNat).2.2)
            · replace h := h.1 hp7; exact zc hp7 (zs (zq (za (ii 2)) (yaa (yal rfl rfl ⟨_, rfl, (hS.sel [] (by decide)), h⟩))))
            · replace h := h.2 hp7; exact zd hp7 (j2 _ _ _ ⟨h, rfl, hE1, hE3, rfl, rfl, hE17, hE18, hE19, (hS.sel [0, 1, 2, 3, 4] (by decide))⟩)
        · replace h := h.2 hp5; exact rl_p (yad rfl (yaj rfl (congrArg Value.bool (congrArg Bool.not (Bool.eq_false_iff.2 hp5)))) rfl) rfl (rl_p (yad rfl (yaj rfl (congrArg Value.bool (congrArg Bool.not (Bool.eq_false_iff.2 hp5)))) rfl) rfl (rl_p (yad rfl (yaj rfl (congrArg Value.bool (congrArg Bool.not (Bool.eq_false_iff.2 hp5)))) rfl) rfl (zq (yaB (v := (.bool (true))) (congrArg Value.bool (congrArg Bool.not (Bool.eq_false_iff.2 hp5))) rfl) (zq (zm (.bool (true))) (rl_p (yad rfl (yaj rfl rfl) rfl) rfl (rl_p (yad rfl (yaj rfl rfl) rfl) rfl (rl_p (yad rfl (yaj rfl rfl) rfl) rfl (zq (yaB (v := (.bool (true))) rfl rfl) (zq (za (.bool (true))) (yaa (yau rfl (zs (zq (za (ii 2)) (yaa (yal rfl rfl ⟨_, rfl, (hS.sel [] (by decide)), h⟩)))))))))))))))
      · replace h := h.2 hp4; exact rl_p (yad rfl (yaj rfl (congrArg Value.bool (congrArg Bool.not (Bool.eq_false_iff.2 hp4)))) rfl) rfl (rl_p (yad rfl (yaj rfl (congrArg Value.bool (congrArg Bool.not (Bool.eq_false_iff.2 hp4)))) rfl) rfl (rl_p (yad rfl (yaj rfl (congrArg Value.bool (congrArg Bool.not (Bool.eq_false_iff.2 hp4)))) rfl) rfl (rl_p (yad rfl (yaj rfl (congrArg Value.bool (congrArg Bool.not (Bool.eq_false_iff.2 hp4)))) rfl) rfl (rl_p (yad rfl (yaj rfl (congrArg Value.bool (congrArg Bool.not (Bool.eq_false_iff.2 hp4)))) rfl) rfl (rl_p (yad rfl (yaj rfl (congrArg Value.bool (congrArg Bool.not (Bool.eq_false_iff.2 hp4)))) rfl) rfl (zq (yaB (v := (.bool (true))) (congrArg Value.bool (congrArg Bool.not (Bool.eq_false_iff.2 hp4))) rfl) (zq (zm (.bool (true))) (rl_p (yad rfl (yaj rfl rfl) rfl) rfl (rl_p (yad rfl (yaj rfl rfl) rfl) rfl (rl_p (yad rfl (yaj rfl rfl) rfl) rfl (zq (yaB (v := (.bool (true))) rfl rfl) (zq (zm (.bool (true))) (rl_p (yad rfl (yaj rfl rfl) rfl) rfl (rl_p (yad rfl (yaj rfl rfl) rfl) rfl (rl_p (yad rfl (yaj rfl rfl) rfl) rfl (zq (yaB (v := (.bool (true))) rfl rfl) (zq (za (.bool (true))) (yaa (yau rfl (zs (zq (za (ii 2)) (yaa (yal rfl rfl ⟨_, rfl, (hS.sel [] (by decide)), h⟩)))))))))))))))))))))))
    · replace h := h.2 hp; exact zd hp (yav rfl (zs (zq (za (ii 0)) (yaa (yal rfl rfl ⟨_, rfl, (hS.sel [] (by decide)), h⟩)))))
  clear hJ; intro j; refine zr (zq (yam rfl underlying24 rfl yag) (zq (zl underlying3 (Row.cell (hS.bx 1 rfl) (i := 0) rfl)) (zq zL (zq (zm (.bool (decide (d < 1)))) ?_)))); by_cases hp8 : d < 1
  · replace h := h.1 hp8; exact rl_p (yad rfl (yaj rfl (congrArg Value.bool (decide_eq_true hp8))) rfl) rfl (rl_p (yad rfl (yaj rfl (congrArg Value.bool (decide_eq_true hp8))) rfl) rfl (rl_p (yad rfl (yaj rfl (congrArg Value.bool (decide_eq_true hp8))) rfl) rfl (zq (yaB (v := (.bool (true))) (congrArg Value.bool (decide_eq_true hp8)) rfl) (yaa (yau rfl (zs (zq (za (ii 2)) (yaa (yal rfl rfl ⟨_, rfl, (hS.sel [] (by decide)), h⟩)))))))))
  · replace h := h.2 hp8; refine rl_q (yae rfl (yaj rfl (congrArg Value.bool (decide_eq_false hp8)))) rfl rfl (yam rfl underlying24 rfl yag) (rl_q (yae rfl (yaj rfl (congrArg Value.bool (decide_eq_false hp8)))) rfl rfl (zl underlying3 (Row.cell (hS.bx 1 rfl) (i := 0) rfl)) (rl_q (yae rfl (yaj rfl (congrArg Value.bool (decide_eq_false hp8)))) rfl rfl zG (zq (yaz (v := (.bool (decide (12 < d)))) (congrArg Value.bool (decide_eq_false hp8)) rfl) (yaa ?_)))); by_cases hp9 : 12 < d
    · replace h := h.1 hp9; exact zc hp9 (zs (zq (za (ii 2)) (yaa (yal rfl rfl ⟨_, rfl, (hS.sel [] (by decide)), h⟩))))
    · replace h := h.2 hp9; exact zd hp9 (yaf (j _ _ _ ⟨h, rfl, rfl, (hS.sel [1, 0] (by decide))⟩))
end Go.Proofs.YtmeoemmemjipdaaGreat

/- Pure forms of functions, made by program (pf.py), each with the proof that the code does so. -/
namespace Go.Proofs.YtmeoemmemjipdaaGreat
open Go Go.RowKit Go.Shelf Go.Proofs.Tryz
set_option linter.unusedVariables false
set_option maxRecDepth 100000
set_option maxHeartbeats 1000000
def yaU (g : Int) (g2 : List E3) (d : List Int) (R : Bool → (List Int) → (List Int) → Int → Prop) : Prop :=
yeG g g2 0 d (fun r r2 r3 =>
((r3 = 0 →
((0 ≤ (0 : Int) ∧ (0 : Int) < ((r.length : Nat) : Int)) ∧
R (decide (0 ≤ (gi r (0 : Int).toNat))) r r2 0)) ∧
(¬ (r3 = 0) →
R false ([]) ([]) r3)))
theorem ybE {O : Nat → Prop} {w : World} {g g2 d Ag lg cg Ad ld cd} {R : Bool → (List Int) → (List Int) → Int → Prop} (h : yaU g g2 d R) (hO : ∀ k, O k → k < w.heap.size) (hA0 : (FP.sl c3 Ag lg cg g2).P O w) (hA1 : (FP.sl cI Ad ld cd d).P O w) :
    Calls Tryz.prog 37 #[(.agg #[(ii g), (.slice Ag lg cg)]), (.slice Ad ld cd)] w fun e w' => ∃ r4 r5 r6 r7 Ar3 lr3 cr3 Ar4 lr4 cr4, e = .returned (.tuple #[(.bool (r4)), (.slice Ar3 lr3 cr3), (.slice Ar4 lr4 cr4), (ii r7)]) ∧ Sep w no O w' (rl [Res.own cI 3 Ar3 lr3 cr3 r5, Res.own cI 3 Ar4 lr4 cr4 r6]) ∧ R r4 r5 r6 r7 := by
  unfold yaU at h; have hS : Sep w no O w (rl [Res.ro (FP.sl c3 Ag lg cg g2), Res.ro (FP.sl cI Ad ld cd d)]) := Sep.startl hO [(FP.sl c3 Ag lg cg g2), (FP.sl cI Ad ld cd d)] ⟨hA0, hA1, trivial⟩; refine yar (l := [(.agg #[(ii g), (.slice Ag lg cg)]), (.slice Ad ld cd)]) func37 rfl ntmps37 (Nat.le_of_ble_eq_true rfl) (zs (zn (ybq (v := (.agg #[(ii g), (.slice Ag lg cg)])) rfl ?_))); intro g3 w2 hN; replace hS : Sep w no O w2 (stl _ 2 (Res.box 24 g3 [(ii g), (.slice Ag lg cg)])) := hS.new 2 rfl hN; clear hN; refine zb (zq (za (.bool (false))) (zq (za (.slice none 0 0)) (zq (za (.slice none 0 0)) (zq (za (ii 0)) (yaa (zs (zq (yas (vs := [(ii g), (.slice Ag lg cg)]) rfl underlying24 rfl yaq ⟨Row.cell (hS.bx 2 rfl) (i := 0) rfl, Row.cell (hS.bx 2 rfl) (i := 1) rfl, trivial⟩) (zq (zm (.slice Ad ld cd)) (zn (yan rfl (am3 rfl rfl rfl) enter_84 ((ygL h (yaF _) (hS.rdr 0 rfl) (hS.rdr 1 rfl)).mono ?_))))))))))); rintro _ w3 ⟨r, r2, r3, Ar, lr, cr, Ar2, lr2, cr2, rfl, hC, h⟩; replace hS := hS.call2 (hC.widen (ydi (ya1 (fI .i64) _ _ _ _ _) (ydi (ya1 (fI .i64) _ _ _ _ _) yeb)) hS.blt) 3 0 4 1 rfl rfl (by decide) (by decide); clear hC; refine ⟨_, rfl, ?_⟩; refine zb (zq (zm (.tuple #[(.slice Ar lr cr), (.slice Ar2 lr2 cr2), (ii r3)])) (zq (zx (.slice Ar lr cr)) (zq (zx (.slice Ar2 lr2 cr2)) (zq (zx (ii r3)) (zq (za (.slice Ar lr cr)) (zq (za (.slice Ar2 lr2 cr2)) (zq (za (ii r3)) (yaa (yac (zs (zq (zm (ii r3)) (zq zN (yaa ?_))))))))))))); by_cases hp : r3 = 0
  · replace h := h.1 hp; refine ze hp (yaf (zs (zq (zm (.slice Ar lr cr)) ?_))); obtain ⟨hx, h⟩ := h; refine zq (zi underlying26 yag (yaG (hS.rdo 3 rfl) hx)) (zq (yah (v := (ii (gi r (0 : Int).toNat))) rfl underlying3 rfl (rd_1 (hS.rdo 3 rfl) hx (fun q => yaI q) rfl)) ?_); exact zq (v_geq rfl rfl) (zq (zm (.slice Ar lr cr)) (zq (zm (.slice Ar2 lr2 cr2)) (zq (za (.bool (decide (0 ≤ (gi r (0 : Int).toNat))))) (zq (za (.slice Ar lr cr)) (zq (za (.slice Ar2 lr2 cr2)) (zq (za (ii 0)) (yaa (wt_ret4 rfl rfl rfl rfl rfl ⟨_, _, _, _, _, _, _, _, _, _, rfl, (hS.sel [3, 4] (by decide)), h⟩))))))))
  · replace h := h.2 hp; refine zf hp (zs (zq (zm (ii r3)) (zq (za (.bool (false))) (zq (za (.slice none 0 0)) (zq (za (.slice none 0 0)) (zq (za (ii r3)) (yaa ?_))))))); replace hS := hS.nil 5 rfl cI 3; replace hS := hS.nil 6 rfl cI 3; exact wt_ret4 rfl rfl rfl rfl rfl ⟨_, _, _, _, _, _, _, _, _, _, rfl, (hS.sel [5, 6] (by decide)), h⟩
def ycW (g : Int) (g2 : List E3) (d : List Int) (R : Int → Prop) : Prop :=
yc7 g g2 (fun r =>
((r = 0 →
ycP d g (fun r2 =>
R r2)) ∧
(¬ (r = 0) →
R r)))
theorem ygx {O : Nat → Prop} {w : World} {g g2 d Ag lg cg Ad ld cd} {R : Int → Prop} (h : ycW g g2 d R) (hO : ∀ k, O k → k < w.heap.size) (hA0 : (FP.sl c3 Ag lg cg g2).P O w) (hA1 : (FP.sl cI Ad ld cd d).P O w) :
    Calls Tryz.prog 40 #[(.agg #[(ii g), (.slice Ag lg cg)]), (.slice Ad ld cd)] w fun e w' => ∃ r3, e = .returned (ii r3) ∧ Sep w no O w' (rl []) ∧ R r3 := by
  unfold ycW at h; have hS : Sep w no O w (rl [Res.ro (FP.sl c3 Ag lg cg g2), Res.ro (FP.sl cI Ad ld cd d)]) := Sep.startl hO [(FP.sl c3 Ag lg cg g2), (FP.sl cI Ad ld cd d)] ⟨hA0, hA1, trivial⟩; refine yar (l := [(.agg #[(ii g), (.slice Ag lg cg)]), (.slice Ad ld cd)]) func40 rfl ntmps40 (Nat.le_of_ble_eq_true rfl) (zs (zn (ybq (v := (.agg #[(ii g), (.slice Ag lg cg)])) rfl ?_))); intro g3 w2 hN; replace hS : Sep w no O w2 (stl _ 2 (Res.box 24 g3 [(ii g), (.slice Ag lg cg)])) := hS.new 2 rfl hN; clear hN; refine zb (zq (za (ii 0)) (yaa (yac (zs (zq (yas (vs := [(ii g), (.slice Ag lg cg)]) rfl underlying24 rfl yaq ⟨Row.cell (hS.bx 2 rfl) (i := 0) rfl, Row.cell (hS.bx 2 rfl) (i := 1) rfl, trivial⟩) (zn (yan rfl (am1 rfl) enter_74 ((yjz h (yaF _) (hS.rdr 0 rfl)).mono ?_)))))))); rintro _ w3 ⟨r, rfl, hC, h⟩; replace hS := hS.pur hC.pure; clear hC; refine ⟨_, rfl, ?_⟩; refine zb (zq (za (ii r)) (yaa (zs (zq (zm (ii r)) (zq zN (yaa ?_)))))); by_cases hp : r = 0
  · replace h := h.1 hp; refine ze hp (yaf (zs (zq (zm (.slice Ad ld cd)) (zq (yam rfl underlying24 rfl yag) (zq (zl underlying3 (Row.cell (hS.bx 2 rfl) (i := 0) rfl)) (zn (yan rfl (am2 rfl rfl) yjY ((ygX h (yaF _) (hS.rdr 1 rfl)).mono ?_)))))))); rintro _ w4 ⟨r2, rfl, hC, h⟩; replace hS := hS.pur hC.pure; clear hC; refine ⟨_, rfl, ?_⟩; exact zb (zq (za (ii r2)) (yaa (yal rfl rfl ⟨_, rfl, (hS.sel [] (by decide)), h⟩)))
  · replace h := h.2 hp; exact zf hp (zs (zq (zm (ii r)) (zq (za (ii r)) (yaa (yal rfl rfl ⟨_, rfl, (hS.sel [] (by decide)), h⟩)))))
def yc1 (d : List Int) (R : Int → Prop) : Prop :=
(∃ I2 : Nat → Int → Prop, (∃ m0, I2 m0 0) ∧ ∀ m2 v, I2 m2 v → 
((v < ((d.length : Nat) : Int) →
((0 ≤ v ∧ v < ((d.length : Nat) : Int)) ∧
(((gi d v.toNat) < 0 →
R v) ∧
(¬ ((gi d v.toNat) < 0) →
(In64 (v + 1) ∧
∃ m3, m3 < m2 ∧ I2 m3 (v + 1)))))) ∧
(¬ (v < ((d.length : Nat) : Int)) →
R (-1))))
theorem pok_r36_debtor {O : Nat → Prop} {w : World} {d Ad ld cd} {R : Int → Prop} (h : yc1 d R) (hO : ∀ k, O k → k < w.heap.size) (hA0 : (FP.sl cI Ad ld cd d).P O w) :
    Calls Tryz.prog 161 #[(.slice Ad ld cd)] w fun e w' => ∃ r, e = .returned (ii r) ∧ Sep w no O w' (rl []) ∧ R r := by
  unfold yc1 at h; have hS : Sep w no O w (rl [Res.ro (FP.sl cI Ad ld cd d)]) := Sep.startl hO [(FP.sl cI Ad ld cd d)] ⟨hA0, trivial⟩; refine yar (l := [(.slice Ad ld cd)]) func161 rfl ntmps161 (Nat.le_of_ble_eq_true rfl) (zs (zq (za (ii 0)) (yaa (yac (zs (zq (za (ii 0)) (yaa (yak ?_)))))))); obtain ⟨I2, ⟨m0, h0⟩, hr⟩ := h; refine yaw (fun m E ds w' => ∃ v, I2 m v ∧ ds = [] ∧ E 0 = (Value.slice Ad ld cd) ∧ E 3 = (ii v) ∧ Sep w no O w' (rl [Res.ro (FP.sl cI Ad ld cd d)])) m0 ⟨_, h0, rfl, rfl, rfl, (hS.sel [0] (by decide))⟩ ?_; clear h0 hS; rintro m2 E ds w2 ⟨v, h, rfl, hE0, hE3, hS⟩ again; replace h := hr m2 v h; clear hr; refine yac (zs (zq (yab hE3) (zq (yab hE0) (zq (yaO (n := d.length) rfl underlying25 (yaL (hS.rdr 0 rfl))) (zq zL (yaa ?_)))))); by_cases hp : v < ((d.length : Nat) : Int)
  · replace h := h.1 hp; refine zc hp (yaf (yac (yak (zs (zq (yab hE0) (zq (yab hE3) ?_)))))); obtain ⟨hx, h⟩ := h; refine zq (zi underlying25 yag (yaG (hS.rdr 0 rfl) hx)) (zq (yah (v := (ii (gi d v.toNat))) rfl underlying3 rfl (rd_1 (hS.rdr 0 rfl) hx (fun q => yaI q) rfl)) ?_); refine zq zL (yaa ?_); by_cases hp2 : (gi d v.toNat) < 0
    · replace h := h.1 hp2; exact zc hp2 (zs (zq (yab hE3) (zq (za (ii v)) (yaa (yal rfl rfl ⟨_, rfl, (hS.sel [] (by decide)), h⟩)))))
    · replace h := h.2 hp2; refine zd hp2 (yaf (yai (zr (zq (yab hE3) ?_)))); obtain ⟨hi, h⟩ := h; refine zq (zA hi) (zq (za (ii (v + 1))) (yaa ?_)); obtain ⟨mq, hlt, h⟩ := h; exact again mq _ _ _ ⟨_, h, rfl, hE0, rfl, (hS.sel [0] (by decide))⟩ hlt
  · replace h := h.2 hp; exact zd hp (yav rfl (zs (zq (za (ii (-1))) (yaa (yal rfl rfl ⟨_, rfl, (hS.sel [] (by decide)), h⟩)))))
def yeJ (l : List Bool) (R : Bool → Prop) : Prop :=
(∃ I2 : Nat → Int → Prop, (∃ m0, I2 m0 0) ∧ ∀ m2 i, I2 m2 i → 
((i < ((l.length : Nat) : Int) →
((0 ≤ i ∧ i < ((l.length : Nat) : Int)) ∧
((gb l i.toNat = true →
(In64 (i + 1) ∧
∃ m3, m3 < m2 ∧ I2 m3 (i + 1))) ∧
(¬ (gb l i.toNat = true) →
R false)))) ∧
(¬ (i < ((l.length : Nat) : Int)) →
R true)))
theorem pok_r36_all {O : Nat → Prop} {w : World} {l Al ll cl} {R : Bool → Prop} (h : yeJ l R) (hO : ∀ k, O k → k < w.heap.size) (hA0 : (FP.sl cB Al ll cl l).P O w) :
    Calls Tryz.prog 162 #[(.slice Al ll cl)] w fun e w' => ∃ r, e = .returned (.bool (r)) ∧ Sep w no O w' (rl []) ∧ R r := by
  unfold yeJ at h; have hS : Sep w no O w (rl [Res.ro (FP.sl cB Al ll cl l)]) := Sep.startl hO [(FP.sl cB Al ll cl l)] ⟨hA0, trivial⟩; refine yar (l := [(.slice Al ll cl)]) func162 rfl ntmps162 (Nat.le_of_ble_eq_true rfl) (zs (zq (za (.bool (false))) (yaa (yac (zs (zq (za (ii 0)) (yaa (yak ?_)))))))); obtain ⟨I2, ⟨m0, h0⟩, hr⟩ := h; refine yaw (fun m E ds w' => ∃ i, I2 m i ∧ ds = [] ∧ E 0 = (Value.slice Al ll cl) ∧ E 3 = (ii i) ∧ Sep w no O w' (rl [Res.ro (FP.sl cB Al ll cl l)])) m0 ⟨_, h0, rfl, rfl, rfl, (hS.sel [0] (by decide))⟩ ?_; clear h0 hS; rintro m2 E ds w2 ⟨i, h, rfl, hE0, hE3, hS⟩ again; replace h := hr m2 i h; clear hr; refine yac (zs (zq (yab hE3) (zq (yab hE0) (zq (yaO (n := l.length) rfl underlying170 (yaL (hS.rdr 0 rfl))) (zq zL (yaa ?_)))))); by_cases hp : i < ((l.length : Nat) : Int)
  · replace h := h.1 hp; refine zc hp (yaf (yac (yak (zs (zq (yab hE0) (zq (yab hE3) ?_)))))); obtain ⟨hx, h⟩ := h; refine zq (zi underlying170 ycg (yaG (hS.rdr 0 rfl) hx)) (zq (yah (v := (.bool (gb l i.toNat))) rfl underlying4 rfl (rd_1 (hS.rdr 0 rfl) hx (fun q => yh3 q) rfl)) ?_); refine zq (ydA rfl) (yaa ?_); by_cases hp2 : gb l i.toNat = true
    · replace h := h.1 hp2; refine yay (congrArg Value.bool (congrArg Bool.not hp2)) (yaf (yai (zr (zq (yab hE3) ?_)))); obtain ⟨hi, h⟩ := h; refine zq (zA hi) (zq (za (ii (i + 1))) (yaa ?_)); obtain ⟨mq, hlt, h⟩ := h; exact again mq _ _ _ ⟨_, h, rfl, hE0, rfl, (hS.sel [0] (by decide))⟩ hlt
    · replace h := h.2 hp2; exact yau (congrArg Value.bool (congrArg Bool.not (Bool.eq_false_iff.2 hp2))) (zs (zq (za (.bool (false))) (yaa (yal rfl rfl ⟨_, rfl, (hS.sel [] (by decide)), h⟩))))
  · replace h := h.2 hp; exact zd hp (yav rfl (zs (zq (za (.bool (true))) (yaa (yal rfl rfl ⟨_, rfl, (hS.sel [] (by decide)), h⟩)))))
def yd0 (g : Int) (g2 : List E3) (d : List Int) (R : Bool → Prop) : Prop :=
ybs d (fun r =>
((r < 0 →
R false) ∧
(¬ (r < 0) →
(0 + d.length ≤ 1000000000 ∧
((0 ≤ g ∧ g ≤ 1000000) ∧
(∃ I2 : Nat → Int → (List Int) → (List Bool) → Prop, (∃ m0, I2 m0 0 ([] ++ d) (List.replicate g.toNat false)) ∧ ∀ m2 step d2 borrowed, I2 m2 step d2 borrowed → 
((step < 10000000 →
yc1 d2 (fun r2 =>
((r2 < 0 →
R true) ∧
(¬ (r2 < 0) →
yeJ borrowed (fun r3 =>
((r3 = true →
R false) ∧
(¬ (r3 = true) →
((0 ≤ r2 ∧ r2 < ((borrowed.length : Nat) : Int)) ∧
(∃ I3 : Nat → Int → (List Int) → Prop, (∃ m0, I3 m0 0 d2) ∧ ∀ m3 u d3, I3 m3 u d3 → 
((u < g →
((u = r2 →
(In64 (u + 1) ∧
∃ m4, m4 < m3 ∧ I3 m4 (u + 1) d3)) ∧
(¬ (u = r2) →
((0 ≤ u ∧ u < ((d3.length : Nat) : Int)) ∧
ya9 g g2 u r2 (fun r4 =>
(In64 ((gi d3 u.toNat) - r4) ∧
((0 ≤ r2 ∧ r2 < (((d3.set u.toNat ((gi d3 u.toNat) - r4)).length : Nat) : Int)) ∧
ya9 g g2 u r2 (fun r5 =>
(In64 ((gi (d3.set u.toNat ((gi d3 u.toNat) - r4)) r2.toNat) + r5) ∧
(In64 (u + 1) ∧
∃ m5, m5 < m3 ∧ I3 m5 (u + 1) ((d3.set u.toNat ((gi d3 u.toNat) - r4)).set r2.toNat ((gi (d3.set u.toNat ((gi d3 u.toNat) - r4)) r2.toNat) + r5)))))))))))) ∧
(¬ (u < g) →
(In64 (step + 1) ∧
∃ m6, m6 < m2 ∧ I2 m6 (step + 1) d3 (borrowed.set r2.toNat true))))))))))))) ∧
(¬ (step < 10000000) →
R false))))))))
theorem pok_r36_Wins {O : Nat → Prop} {w : World} {g g2 d Ag lg cg Ad ld cd} {R : Bool → Prop} (h : yd0 g g2 d R) (hO : ∀ k, O k → k < w.heap.size) (hA0 : (FP.sl c3 Ag lg cg g2).P O w) (hA1 : (FP.sl cI Ad ld cd d).P O w) :
    Calls Tryz.prog 131 #[(.agg #[(ii g), (.slice Ag lg cg)]), (.slice Ad ld cd)] w fun e w' => ∃ r6, e = .returned (.bool (r6)) ∧ Sep w no O w' (rl []) ∧ R r6 := by
  unfold yd0 at h; have hS : Sep w no O w (rl [Res.ro (FP.sl c3 Ag lg cg g2), Res.ro (FP.sl cI Ad ld cd d)]) := Sep.startl hO [(FP.sl c3 Ag lg cg g2), (FP.sl cI Ad ld cd d)] ⟨hA0, hA1, trivial⟩; refine yar (l := [(.agg #[(ii g), (.slice Ag lg cg)]), (.slice Ad ld cd)]) func131 rfl ntmps131 (Nat.le_of_ble_eq_true rfl) (zs (zn (ybq (v := (.agg #[(ii g), (.slice Ag lg cg)])) rfl ?_))); intro g3 w2 hN; replace hS : Sep w no O w2 (stl _ 2 (Res.box 24 g3 [(ii g), (.slice Ag lg cg)])) := hS.new 2 rfl hN; clear hN; refine zb (zq (za (.bool (false))) (yaa (yac (zs (zq (zm (.slice Ad ld cd)) (zn (yan rfl (am1 rfl) ye6 ((yb3 h (yaF _) (hS.rdr 1 rfl)).mono ?_)))))))); rintro _ w3 ⟨r, rfl, hC, h⟩; replace hS := hS.pur hC.pure; clear hC; refine ⟨_, rfl, ?_⟩; refine zb (zq zL (yaa ?_)); by_cases hp : r < 0
  · replace h := h.1 hp; exact zc hp (zs (zq (za (.bool (false))) (yaa (yal rfl rfl ⟨_, rfl, (hS.sel [] (by decide)), h⟩))))
  · replace h := h.2 hp; refine zd hp (yaf (zs (zn (yaD (l := []) (cells := []) (bp0) underlying25 yag rfl rfl ?_)))); intro g4 w4 hN; replace hS := hS.litf (n := 0) 3 rfl (fI .i64) hN ([] : List Int) rfl (by decide) rfl; clear hN; refine zb (zq (zm (.slice Ad ld cd)) ?_); obtain ⟨hx, h⟩ := h; refine zn (yee (c := cI) rfl rfl underlying25 underlying25 yag rfl rfl (by decide) hS 3 rfl (hS.yr 1 rfl) hx ?_); clear hS; intro A c w5 hS; refine zb (zq (za (.slice A (0 + ld) c)) (yaa (zs (zq (yam rfl underlying24 rfl yag) (zq (zl underlying3 (Row.cell (hS.bx 2 rfl) (i := 0) rfl)) ?_))))); obtain ⟨hx2, h⟩ := h; refine zn (ygJ rfl rfl underlying170 ycg (by decide) rfl hx2 ?_); intro g5 w6 hN; replace hS := hS.made 4 rfl cB (.bool (false)) false (fun _ _ => rfl) hN (by omega); clear hN; refine zb (zq (za (.slice (some ⟨g5, 0, none⟩) g.toNat g.toNat)) (yaa (yac (zs (zq (za (ii 0)) (yaa (yak ?_))))))); obtain ⟨I2, ⟨m0, h0⟩, hr⟩ := h; refine yaw (fun m E ds w' => ∃ step d2 borrowed Ad2 ld2 cd2 Aborrowed lborrowed cborrowed, I2 m step d2 borrowed ∧ ds = [] ∧ E 1 = (Value.slice Ad2 ld2 cd2) ∧ E 2 = (Value.pointer (some (⟨g3, 0, none⟩ : Addr))) ∧ E 5 = (Value.slice Aborrowed lborrowed cborrowed) ∧ E 6 = (ii step) ∧ Sep w no O w' (rl [Res.own cI 3 Ad2 ld2 cd2 d2, Res.box 24 g3 [(ii g), (.slice Ag lg cg)], Res.ro (FP.sl c3 Ag lg cg g2), Res.own cB 4 Aborrowed lborrowed cborrowed borrowed])) m0 ⟨_, _, _, _, _, _, _, _, _, h0, rfl, rfl, rfl, rfl, rfl, (hS.sel [3, 2, 0, 4] (by decide))⟩ ?_; clear h0 hS; rintro m2 E ds w7 ⟨step, d2, borrowed, Ad2, ld2, cd2, Aborrowed, lborrowed, cborrowed, h, rfl, hE1, hE2, hE5, hE6, hS⟩ again; replace h := hr m2 step d2 borrowed h; clear hr; refine yac (zs (zq (yab hE6) (zq zL (yaa ?_)))); by_cases hp2 : step < 10000000
    · replace h := h.1 hp2; refine zc hp2 (yaf (yac (yak (zs (zq (yab hE1) (zn (yan rfl (am1 rfl) enter_161 ((pok_r36_debtor h (yaF _) (hS.rdo 0 rfl)).mono ?_)))))))); rintro _ w8 ⟨r2, rfl, hC, h⟩; replace hS := hS.pur hC.pure; clear hC; refine ⟨_, rfl, ?_⟩; refine zb (zq (za (ii r2)) (yaa (yac (zs (zq (zm (ii r2)) (zq zL (yaa ?_))))))); by_cases hp3 : r2 < 0
      · replace h := h.1 hp3; exact zc hp3 (zs (zq (za (.bool (true))) (yaa (yal rfl rfl ⟨_, rfl, (hS.sel [] (by decide)), h⟩))))
      · replace h := h.2 hp3; refine zd hp3 (yaf (yac (zs (zq (yab hE5) (zn (yan rfl (am1 rfl) enter_162 ((pok_r36_all h (yaF _) (hS.rdo 3 rfl)).mono ?_))))))); rintro _ w9 ⟨r3, rfl, hC, h⟩; replace hS := hS.pur hC.pure; clear hC; refine ⟨_, rfl, ?_⟩; refine zb (yaa ?_); by_cases hp4 : r3 = true
        · replace h := h.1 hp4; exact yau (congrArg Value.bool hp4) (zs (zq (za (.bool (false))) (yaa (yal rfl rfl ⟨_, rfl, (hS.sel [] (by decide)), h⟩))))
        · replace h := h.2 hp4; refine yay (congrArg Value.bool (Bool.eq_false_iff.2 hp4)) (yaf (zs (zq (yab hE5) (zq (zm (ii r2)) ?_)))); obtain ⟨hx3, h⟩ := h; refine zq (zi underlying170 ycg (yaG (hS.rdo 3 rfl) hx3)) (zo (zt (.bool (true)) ycg (hS.wr 3 rfl rfl hx3) ?_)); intro w10 e1; replace hS := hS.st 3 rfl rfl hx3 (x := true) rfl e1; clear e1; refine zb (yaa (zs (zq (za (ii 0)) (yaa (yak ?_))))); obtain ⟨I3, ⟨m0, h0⟩, hr⟩ := h; refine yaw (fun m E ds w' => ∃ u d3 Ad3 ld3 cd3, I3 m u d3 ∧ ds = [] ∧ E 1 = (Value.slice Ad3 ld3 cd3) ∧ E 2 = (Value.pointer (some (⟨g3, 0, none⟩ : Addr))) ∧ E 5 = (Value.slice Aborrowed lborrowed cborrowed) ∧ E 6 = (ii step) ∧ E 7 = (ii r2) ∧ E 8 = (ii u) ∧ Sep w no O w' (rl [Res.own cI 3 Ad3 ld3 cd3 d3, Res.box 24 g3 [(ii g), (.slice Ag lg cg)], Res.ro (FP.sl c3 Ag lg cg g2), Res.own cB 4 Aborrowed lborrowed cborrowed (borrowed.set r2.toNat true)])) m0 ⟨_, _, _, _, _, h0, rfl, hE1, hE2, hE5, hE6, rfl, rfl, (hS.sel [0, 1, 2, 3] (by decide))⟩ ?_; clear h0 hS; rintro m3 E ds w11 ⟨u, d3, Ad3, ld3, cd3, h, rfl, hE1, hE2, hE5, hE6, hE7, hE8, hS⟩ again2; replace h := hr m3 u d3 h; clear hr; refine yac (zs (zq (yab hE8) (zq (yam hE2 underlying24 rfl yag) (zq (zl underlying3 (Row.cell (hS.bx 1 rfl) (i := 0) rfl)) (zq zL (yaa ?_)))))); by_cases hp5 : u < g
          · replace h := h.1 hp5; refine zc hp5 (yaf (yac (yak (zs (zq (yab hE8) (zq (yab hE7) (zq zN (yaa ?_)))))))); by_cases hp6 : u = r2
            · replace h := h.1 hp6; refine ze hp6 (yaf (yai (zr (zq (yab hE8) ?_)))); obtain ⟨hi, h⟩ := h; refine zq (zA hi) (zq (za (ii (u + 1))) (yaa ?_)); obtain ⟨mq, hlt, h⟩ := h; exact again2 mq _ _ _ ⟨_, _, _, _, _, h, rfl, hE1, hE2, hE5, hE6, hE7, rfl, (hS.sel [0, 1, 2, 3] (by decide))⟩ hlt
            · replace h := h.2 hp6; refine zf hp6 (yac (ya3 [0, 1, 2, 3, 4, 5, 6, 7, 8, 9, 10] (fun i => match i with | 7 => [0, 1, 2, 3] | _ => []) ya8 (by kernel_rfl) (by kernel_rfl) ?_)); replace hS := hS.drew; refine zp (yab hE1) (zp (yab hE8) ?_); obtain ⟨hx4, h⟩ := h; refine zp (zi underlying25 yag (yaG (hS.rdo 0 rfl) hx4)) (zp (yah (v := (ii (gi d3 u.toNat))) rfl underlying3 rfl (rd_1 (hS.rdo 0 rfl) hx4 (fun q => yaI q) rfl)) ?_); refine zp (yas (vs := [(ii g), (.slice Ag lg cg)]) hE2 underlying24 rfl yaq ⟨Row.cell (hS.bx 1 rfl) (i := 0) rfl, Row.cell (hS.bx 1 rfl) (i := 1) rfl, trivial⟩) (zp (yab hE8) (zp (yab hE7) (rp_n rfl rfl rfl rfl (yan rfl (am3 rfl rfl rfl) yeN ((ybW h (yaF _) (hS.rdr 2 rfl)).mono ?_))))); rintro _ w12 ⟨r4, rfl, hC, h⟩; replace hS := hS.pur hC.pure; clear hC; refine ⟨_, rfl, ?_⟩; refine ⟨⟨fun hh => Bool.noConfusion (show false = true from hh), ⟨fun hh => Bool.noConfusion (show false = true from hh), ⟨fun hh => Bool.noConfusion (show false = true from hh), ⟨fun _ => (yah (v := (ii (gi d3 u.toNat))) rfl underlying3 rfl (rd_1 (hS.rdo 0 rfl) hx4 (fun q => yaI q) rfl)), ⟨fun _ => (zi underlying25 yag (yaG (hS.rdo 0 rfl) hx4)), ⟨fun _ => (yab hE8), ⟨fun _ => (yab hE1), trivial⟩⟩⟩⟩⟩⟩⟩, ?_⟩; obtain ⟨hi2, h⟩ := h; refine zp (zS hi2) (zp (zi underlying25 yag (yaG (hS.rdo 0 rfl) hx4)) (yg8 rfl rfl rfl (zt (ii ((gi d3 u.toNat) - r4)) yag (hS.wr 0 rfl rfl hx4) ?_))); intro w13 e1; replace hS := hS.st 0 rfl rfl hx4 (x := (gi d3 u.toNat) - r4) rfl e1; clear e1; refine zb (ybl (ya3 [0, 1, 2, 3, 4, 5, 6, 7, 8, 9, 10] (fun i => match i with | 7 => [0, 1, 2, 3] | _ => []) ya8 (by kernel_rfl) (by kernel_rfl) ?_)); replace hS := hS.drew; refine zp (yab hE1) (zp (yab hE7) ?_); obtain ⟨hx5, h⟩ := h; refine zp (zi underlying25 yag (yaG (hS.rdo 0 rfl) hx5)) (zp (yah (v := (ii (gi (d3.set u.toNat ((gi d3 u.toNat) - r4)) r2.toNat))) rfl underlying3 rfl (rd_1 (hS.rdo 0 rfl) hx5 (fun q => yaI q) rfl)) ?_); refine zp (yas (vs := [(ii g), (.slice Ag lg cg)]) hE2 underlying24 rfl yaq ⟨Row.cell (hS.bx 1 rfl) (i := 0) rfl, Row.cell (hS.bx 1 rfl) (i := 1) rfl, trivial⟩) (zp (yab hE8) (zp (yab hE7) (rp_n rfl rfl rfl rfl (yan rfl (am3 rfl rfl rfl) yeN ((ybW h (yaF _) (hS.rdr 2 rfl)).mono ?_))))); rintro _ w14 ⟨r5, rfl, hC, h⟩; replace hS := hS.pur hC.pure; clear hC; refine ⟨_, rfl, ?_⟩; refine ⟨⟨fun hh => Bool.noConfusion (show false = true from hh), ⟨fun hh => Bool.noConfusion (show false = true from hh), ⟨fun hh => Bool.noConfusion (show false = true from hh), ⟨fun _ => (yah (v := (ii (gi (d3.set u.toNat ((gi d3 u.toNat) - r4)) r2.toNat))) rfl underlying3 rfl (rd_1 (hS.rdo 0 rfl) hx5 (fun q => yaI q) rfl)), ⟨fun _ => (zi underlying25 yag (yaG (hS.rdo 0 rfl) hx5)), ⟨fun _ => (yab hE7), ⟨fun _ => (yab hE1), trivial⟩⟩⟩⟩⟩⟩⟩, ?_⟩; obtain ⟨hi3, h⟩ := h; refine zp (zA hi3) (zp (zi underlying25 yag (yaG (hS.rdo 0 rfl) hx5)) (yg8 rfl rfl rfl (zt (ii ((gi (d3.set u.toNat ((gi d3 u.toNat) - r4)) r2.toNat) + r5)) yag (hS.wr 0 rfl rfl hx5) ?_))); intro w15 e1; replace hS := hS.st 0 rfl rfl hx5 (x := (gi (d3.set u.toNat ((gi d3 u.toNat) - r4)) r2.toNat) + r5) rfl e1; clear e1; refine zb (ybl (yai (zr (zq (yab hE8) ?_)))); obtain ⟨hi4, h⟩ := h; refine zq (zA hi4) (zq (za (ii (u + 1))) (yaa ?_)); obtain ⟨mq, hlt, h⟩ := h; exact again2 mq _ _ _ ⟨_, _, _, _, _, h, rfl, hE1, hE2, hE5, hE6, hE7, rfl, (hS.sel [0, 1, 2, 3] (by decide))⟩ hlt
          · replace h := h.2 hp5; refine zd hp5 (yav rfl (yai (zr (zq (yab hE6) ?_)))); obtain ⟨hi5, h⟩ := h; refine zq (zA hi5) (zq (za (ii (step + 1))) (yaa ?_)); obtain ⟨mq, hlt, h⟩ := h; exact again mq _ _ _ ⟨_, _, _, _, _, _, _, _, _, h, rfl, hE1, hE2, hE5, rfl, (hS.sel [0, 1, 2, 3] (by decide))⟩ hlt
    · replace h := h.2 hp2; exact zd hp2 (yav rfl (zs (zq (za (.bool (false))) (yaa (yal rfl rfl ⟨_, rfl, (hS.sel [] (by decide)), h⟩)))))
end Go.Proofs.YtmeoemmemjipdaaGreat

/- Pure forms of functions, made by program (pf.py), each with the proof that the code does so. -/
namespace Go.Proofs.YtmeoemmemjipdaaGreat
open Go Go.RowKit Go.Shelf Go.Proofs.Tryz
set_option linter.unusedVariables false
set_option maxRecDepth 100000
set_option maxHeartbeats 1000000
def ydz (l : List (List Int)) (R : Int → Prop) : Prop :=
(∃ I2 : Nat → Int → Prop, (∃ m0, I2 m0 0) ∧ ∀ m2 v, I2 m2 v → 
((v < ((l.length : Nat) : Int) →
((0 ≤ v ∧ v < ((l.length : Nat) : Int)) ∧
ych (gx l v.toNat) (((gx l v.toNat).length : Nat) : Int) (fun r =>
((r = 0 →
(In64 (v + 1) ∧
∃ m3, m3 < m2 ∧ I2 m3 (v + 1))) ∧
(¬ (r = 0) →
R r))))) ∧
(¬ (v < ((l.length : Nat) : Int)) →
(∃ I3 : Nat → Int → Prop, (∃ m0, I3 m0 0) ∧ ∀ m4 v2, I3 m4 v2 → 
((v2 < ((l.length : Nat) : Int) →
((0 ≤ v2 ∧ v2 < ((l.length : Nat) : Int)) ∧
((0 ≤ (0 : Int) ∧ (0 : Int) < ((l.length : Nat) : Int)) ∧
(((((gx l v2.toNat).length : Nat) : Int) = (((gx l (0 : Int).toNat).length : Nat) : Int) →
(In64 (v2 + 1) ∧
∃ m5, m5 < m4 ∧ I3 m5 (v2 + 1))) ∧
(¬ ((((gx l v2.toNat).length : Nat) : Int) = (((gx l (0 : Int).toNat).length : Nat) : Int)) →
R 8))))) ∧
(¬ (v2 < ((l.length : Nat) : Int)) →
R 0))))))
theorem yjN {O : Nat → Prop} {w : World} {l Al ll cl} {R : Int → Prop} (h : ydz l R) (hO : ∀ k, O k → k < w.heap.size) (hA0 : (FP.sl (cL cI) Al ll cl l).P O w) :
    Calls Tryz.prog 72 #[(.slice Al ll cl)] w fun e w' => ∃ r2, e = .returned (ii r2) ∧ Sep w no O w' (rl []) ∧ R r2 := by
  unfold ydz at h; have hS : Sep w no O w (rl [Res.ro (FP.sl (cL cI) Al ll cl l)]) := Sep.startl hO [(FP.sl (cL cI) Al ll cl l)] ⟨hA0, trivial⟩; refine yar (l := [(.slice Al ll cl)]) func72 rfl ntmps72 (Nat.le_of_ble_eq_true rfl) (zs (zq (za (ii 0)) (yaa (yac (zs (zq (zm (.slice Al ll cl)) (zq (yaO (n := l.length) rfl underlying67 (yaL (hS.rdr 0 rfl))) (zq (zm (ii 0)) (yaa (yak ?_)))))))))); obtain ⟨I2, ⟨m0, h0⟩, hr⟩ := h; refine yaw (fun m E ds w' => ∃ v, I2 m v ∧ ds = [] ∧ E 0 = (Value.slice Al ll cl) ∧ E 8 = (Value.slice Al ll cl) ∧ E 9 = (ii ((l.length : Nat) : Int)) ∧ E 10 = (ii v) ∧ Sep w no O w' (rl [Res.ro (FP.sl (cL cI) Al ll cl l)])) m0 ⟨_, h0, rfl, rfl, rfl, rfl, rfl, (hS.sel [0] (by decide))⟩ ?_; clear h0 hS; rintro m2 E ds w2 ⟨v, h, rfl, hE0, hE8, hE9, hE10, hS⟩ again; replace h := hr m2 v h; clear hr; refine zs (zq (yaJ hE10 hE9) (yaa (yac ?_))); by_cases hp : v < ((l.length : Nat) : Int)
  · replace h := h.1 hp; refine zc hp (yaf (yac (yak (zs ?_)))); obtain ⟨hx, h⟩ := h; refine zq (yao hE8 hE10 underlying67 ybu (yaG (hS.rdr 0 rfl) hx)) ?_; obtain ⟨A, l2, c, hc, hq⟩ := hS.el 0 rfl hx 1 2 rfl rfl (by decide); replace hS := hq; clear hq; refine zq (yah (v := (.slice A l2 c)) rfl underlying26 rfl (hS.clr 2 rfl)) (zq (za (.slice A l2 c)) (yaa (zs (zq (zm (.slice A l2 c)) (zq (zm (.slice A l2 c)) (zq (yaO (n := (gx l v.toNat).length) rfl underlying26 (yaL (hS.rdr 1 rfl))) (zn (yan rfl (am2 rfl rfl) yhN ((yfR h (yaF _) (hS.rdr 1 rfl)).mono ?_))))))))); rintro _ w3 ⟨r, rfl, hC, h⟩; replace hS := hS.pur hC.pure; clear hC; refine ⟨_, rfl, ?_⟩; refine zb (zq (za (ii r)) (yaa (zs (zq (zm (ii r)) (zq zN (yaa ?_)))))); by_cases hp2 : r = 0
    · replace h := h.1 hp2; refine ze hp2 (yaf (yai (zr ?_))); obtain ⟨hi, h⟩ := h; refine zq (yaC hE10 rfl hi) (zq (zm (ii (v + 1))) (yaa ?_)); obtain ⟨mq, hlt, h⟩ := h; exact again mq _ _ _ ⟨_, h, rfl, hE0, hE8, hE9, rfl, (hS.sel [0] (by decide))⟩ hlt
    · replace h := h.2 hp2; exact zf hp2 (zs (zq (zm (ii r)) (zq (za (ii r)) (yaa (yal rfl rfl ⟨_, rfl, (hS.sel [] (by decide)), h⟩)))))
  · replace h := h.2 hp; refine zd hp (yav rfl (yac (zs (zq (yab hE0) (zq (yaO (n := l.length) rfl underlying67 (yaL (hS.rdr 0 rfl))) (zq (zm (ii 0)) (yaa (yak ?_)))))))); obtain ⟨I3, ⟨m0, h0⟩, hr⟩ := h; refine yaw (fun m E ds w' => ∃ v2, I3 m v2 ∧ ds = [] ∧ E 0 = (Value.slice Al ll cl) ∧ E 22 = (Value.slice Al ll cl) ∧ E 23 = (ii ((l.length : Nat) : Int)) ∧ E 24 = (ii v2) ∧ Sep w no O w' (rl [Res.ro (FP.sl (cL cI) Al ll cl l)])) m0 ⟨_, h0, rfl, hE0, rfl, rfl, rfl, (hS.sel [0] (by decide))⟩ ?_; clear h0 hS; rintro m4 E ds w4 ⟨v2, h, rfl, hE0, hE22, hE23, hE24, hS⟩ again2; replace h := hr m4 v2 h; clear hr; refine zs (zq (yaJ hE24 hE23) (yaa (yac ?_))); by_cases hp3 : v2 < ((l.length : Nat) : Int)
    · replace h := h.1 hp3; refine zc hp3 (yaf (yac (yak (zs ?_)))); obtain ⟨hx2, h⟩ := h; refine zq (yao hE22 hE24 underlying67 ybu (yaG (hS.rdr 0 rfl) hx2)) ?_; obtain ⟨A2, l3, c2, hc2, hq⟩ := hS.el 0 rfl hx2 1 2 rfl rfl (by decide); replace hS := hq; clear hq; refine zq (yah (v := (.slice A2 l3 c2)) rfl underlying26 rfl (hS.clr 2 rfl)) (zq (za (.slice A2 l3 c2)) (yaa (zs (zq (zm (.slice A2 l3 c2)) (zq (yaO (n := (gx l v2.toNat).length) rfl underlying26 (yaL (hS.rdr 1 rfl))) (zq (yab hE0) ?_)))))); obtain ⟨hx3, h⟩ := h; refine zq (zi underlying67 ybu (yaG (hS.rdr 0 rfl) hx3)) ?_; obtain ⟨A3, l4, c3, hc3, hq⟩ := hS.el 0 rfl hx3 3 4 rfl rfl (by decide); replace hS := hq; clear hq; refine zq (yah (v := (.slice A3 l4 c3)) rfl underlying26 rfl (hS.clr 4 rfl)) (zq (yaO (n := (gx l (0 : Int).toNat).length) rfl underlying26 (yaL (hS.rdr 3 rfl))) (zq zN (yaa ?_))); by_cases hp4 : (((gx l v2.toNat).length : Nat) : Int) = (((gx l (0 : Int).toNat).length : Nat) : Int)
      · replace h := h.1 hp4; refine ze hp4 (yaf (yai (zr ?_))); obtain ⟨hi2, h⟩ := h; refine zq (yaC hE24 rfl hi2) (zq (zm (ii (v2 + 1))) (yaa ?_)); obtain ⟨mq, hlt, h⟩ := h; exact again2 mq _ _ _ ⟨_, h, rfl, hE0, hE22, hE23, rfl, (hS.sel [0] (by decide))⟩ hlt
      · replace h := h.2 hp4; exact zf hp4 (zs (zq (za (ii 8)) (yaa (yal rfl rfl ⟨_, rfl, (hS.sel [] (by decide)), h⟩))))
    · replace h := h.2 hp3; exact zd hp3 (yav rfl (zs (zq (za (ii 0)) (yaa (yal rfl rfl ⟨_, rfl, (hS.sel [] (by decide)), h⟩)))))
def ybC (d : List Int) (R : Int → Int → Prop) : Prop :=
ydz ([d]) (fun r =>
((r = 0 →
(∃ I2 : Nat → Int → Int → Prop, (∃ m0, I2 m0 0 0) ∧ ∀ m2 sum v, I2 m2 sum v → 
((v < ((d.length : Nat) : Int) →
((0 ≤ v ∧ v < ((d.length : Nat) : Int)) ∧
(In64 (sum + (gi d v.toNat)) ∧
(In64 (v + 1) ∧
∃ m3, m3 < m2 ∧ I2 m3 (sum + (gi d v.toNat)) (v + 1))))) ∧
(¬ (v < ((d.length : Nat) : Int)) →
R sum 0)))) ∧
(¬ (r = 0) →
R 0 r)))
theorem ydF {O : Nat → Prop} {w : World} {d Ad ld cd} {R : Int → Int → Prop} (h : ybC d R) (hO : ∀ k, O k → k < w.heap.size) (hA0 : (FP.sl cI Ad ld cd d).P O w) :
    Calls Tryz.prog 121 #[(.slice Ad ld cd)] w fun e w' => ∃ r2 r3, e = .returned (.tuple #[(ii r2), (ii r3)]) ∧ Sep w no O w' (rl []) ∧ R r2 r3 := by
  unfold ybC at h; have hS : Sep w no O w (rl [Res.ro (FP.sl cI Ad ld cd d)]) := Sep.startl hO [(FP.sl cI Ad ld cd d)] ⟨hA0, trivial⟩; refine yar (l := [(.slice Ad ld cd)]) func121 rfl ntmps121 (Nat.le_of_ble_eq_true rfl) (zs (zq (za (ii 0)) (zq (za (ii 0)) (yaa (yac (zs (zq (zm (.slice Ad ld cd)) (zn (yaD (l := [(0, (.slice Ad ld cd))]) (cells := [(.slice Ad ld cd)]) (bp1 rfl) underlying67 ybu rfl rfl ?_))))))))); intro g w2 hN; replace hS := hS.lit (n := 1) (c := (cL cI)) 1 rfl hN ([d] : List (List Int)) rfl (by decide) ⟨[(.slice Ad ld cd)], _, rfl, (ro_R (hS.ro 0 rfl)), rfl⟩; clear hN; refine zb (zn (yan rfl (am1 rfl) enter_72 ((yjN h (yaF _) (hS.rdo 1 rfl)).mono ?_))); rintro _ w3 ⟨r, rfl, hC, h⟩; replace hS := hS.pur hC.pure; clear hC; refine ⟨_, rfl, ?_⟩; refine zb (zq (za (ii r)) (yaa (zs (zq (zm (ii r)) (zq zN (yaa ?_)))))); by_cases hp : r = 0
  · replace h := h.1 hp; refine ze hp (yaf (zs (zq (za (ii 0)) (yaa (yac (zs (zq (zm (.slice Ad ld cd)) (zq (yaO (n := d.length) rfl underlying26 (yaL (hS.rdr 0 rfl))) (zq (zm (ii 0)) (yaa (yak ?_))))))))))); obtain ⟨I2, ⟨m0, h0⟩, hr⟩ := h; refine yaw (fun m E ds w' => ∃ sum v, I2 m sum v ∧ ds = [] ∧ E 5 = (ii sum) ∧ E 14 = (Value.slice Ad ld cd) ∧ E 15 = (ii ((d.length : Nat) : Int)) ∧ E 16 = (ii v) ∧ Sep w no O w' (rl [Res.ro (FP.sl cI Ad ld cd d)])) m0 ⟨_, _, h0, rfl, rfl, rfl, rfl, rfl, (hS.sel [0] (by decide))⟩ ?_; clear h0 hS; rintro m2 E ds w4 ⟨sum, v, h, rfl, hE5, hE14, hE15, hE16, hS⟩ again; replace h := hr m2 sum v h; clear hr; refine zs (zq (yaJ hE16 hE15) (yaa (yac ?_))); by_cases hp2 : v < ((d.length : Nat) : Int)
    · replace h := h.1 hp2; refine zc hp2 (yaf (yac (yak (zs ?_)))); obtain ⟨hx, h⟩ := h; refine zq (yao hE14 hE16 underlying26 yag (yaG (hS.rdr 0 rfl) hx)) (zq (yah (v := (ii (gi d v.toNat))) rfl underlying3 rfl (rd_1 (hS.rdr 0 rfl) hx (fun q => yaI q) rfl)) ?_); refine zq (za (ii (gi d v.toNat))) (yaa (zr (zq (yab hE5) (zq (zm (ii (gi d v.toNat))) ?_)))); obtain ⟨hi, h⟩ := h; refine zq (zA hi) (zq (za (ii (sum + (gi d v.toNat)))) (yaa (yai (zr ?_)))); obtain ⟨hi2, h⟩ := h; refine zq (yaC hE16 rfl hi2) (zq (zm (ii (v + 1))) (yaa ?_)); obtain ⟨mq, hlt, h⟩ := h; exact again mq _ _ _ ⟨_, _, h, rfl, rfl, hE14, hE15, rfl, (hS.sel [0] (by decide))⟩ hlt
    · replace h := h.2 hp2; exact zd hp2 (yav rfl (zs (zq (yab hE5) (zq (za (ii sum)) (zq (za (ii 0)) (yaa (yaR rfl rfl rfl ⟨_, _, rfl, (hS.sel [] (by decide)), h⟩)))))))
  · replace h := h.2 hp; exact zf hp (zs (zq (zm (ii r)) (zq (za (ii 0)) (zq (za (ii r)) (yaa (yaR rfl rfl rfl ⟨_, _, rfl, (hS.sel [] (by decide)), h⟩))))))
def yea (g : Int) (g2 : List E3) (R : Bool → Prop) : Prop :=
yds g g2 5 7 (fun r =>
R r)
theorem yhE {O : Nat → Prop} {w : World} {g g2 Ag lg cg} {R : Bool → Prop} (h : yea g g2 R) (hO : ∀ k, O k → k < w.heap.size) (hA0 : (FP.sl c3 Ag lg cg g2).P O w) :
    Calls Tryz.prog 14 #[(.agg #[(ii g), (.slice Ag lg cg)])] w fun e w' => ∃ r2, e = .returned (.bool (r2)) ∧ Sep w no O w' (rl []) ∧ R r2 := by
  unfold yea at h; have hS : Sep w no O w (rl [Res.ro (FP.sl c3 Ag lg cg g2)]) := Sep.startl hO [(FP.sl c3 Ag lg cg g2)] ⟨hA0, trivial⟩; refine yar (l := [(.agg #[(ii g), (.slice Ag lg cg)])]) func14 rfl ntmps14 (Nat.le_of_ble_eq_true rfl) (zs (zn (ybq (v := (.agg #[(ii g), (.slice Ag lg cg)])) rfl ?_))); intro g3 w2 hN; replace hS : Sep w no O w2 (stl _ 1 (Res.box 24 g3 [(ii g), (.slice Ag lg cg)])) := hS.new 1 rfl hN; clear hN; refine zb (zq (za (.bool (false))) (yaa (zs (zq (yas (vs := [(ii g), (.slice Ag lg cg)]) rfl underlying24 rfl yaq ⟨Row.cell (hS.bx 1 rfl) (i := 0) rfl, Row.cell (hS.bx 1 rfl) (i := 1) rfl, trivial⟩) (zn (yan rfl (am3 rfl rfl rfl) enter_52 ((pok_r08_small h (yaF _) (hS.rdr 0 rfl)).mono ?_))))))); rintro _ w3 ⟨r, rfl, hC, h⟩; replace hS := hS.pur hC.pure; clear hC; refine ⟨_, rfl, ?_⟩; exact zb (zq (za (.bool (r))) (yaa (yal rfl rfl ⟨_, rfl, (hS.sel [] (by decide)), h⟩)))
end Go.Proofs.YtmeoemmemjipdaaGreat

/- Pure forms of functions, made by program (pf.py), each with the proof that the code does so. -/
namespace Go.Proofs.YtmeoemmemjipdaaGreat
open Go Go.RowKit Go.Shelf Go.Proofs.Tryz
set_option linter.unusedVariables false
set_option maxRecDepth 100000
set_option maxHeartbeats 1000000
def ycN (g : Int) (g2 : List E3) (most : Int) (R : Int → (List E3) → Int → Prop) : Prop :=
yci g g2 (fun r =>
((r = 0 →
(∃ I2 : Nat → Int → (List E3) → Prop, (∃ m0, I2 m0 0 ([])) ∧ ∀ m2 v out, I2 m2 v out → 
((v < ((g2.length : Nat) : Int) →
((0 ≤ v ∧ v < ((g2.length : Nat) : Int)) ∧
((((ge g2 v.toNat).1) = ((ge g2 v.toNat).2.1) →
(In64 (v + 1) ∧
∃ m3, m3 < m2 ∧ I2 m3 (v + 1) out)) ∧
(¬ (((ge g2 v.toNat).1) = ((ge g2 v.toNat).2.1)) →
(out.length + 1 ≤ 1000000000 ∧
(In64 (v + 1) ∧
∃ m4, m4 < m2 ∧ I2 m4 (v + 1) (out ++ [((ge g2 v.toNat).1, (ge g2 v.toNat).2.1, mnF ((ge g2 v.toNat).2.2) most)]))))))) ∧
(¬ (v < ((g2.length : Nat) : Int)) →
R g out 0)))) ∧
(¬ (r = 0) →
R 0 ([]) r)))
theorem yg3 {O : Nat → Prop} {w : World} {g g2 most Ag lg cg} {R : Int → (List E3) → Int → Prop} (h : ycN g g2 most R) (hO : ∀ k, O k → k < w.heap.size) (hA0 : (FP.sl c3 Ag lg cg g2).P O w) :
    Calls Tryz.prog 77 #[(.agg #[(ii g), (.slice Ag lg cg)]), (ii most)] w fun e w' => ∃ r2 r3 r4 Ar lr cr, e = .returned (.tuple #[(.agg #[(ii r2), (.slice Ar lr cr)]), (ii r4)]) ∧ Sep w no O w' (rl [Res.own c3 76 Ar lr cr r3]) ∧ R r2 r3 r4 := by
  unfold ycN at h; have hS : Sep w no O w (rl [Res.ro (FP.sl c3 Ag lg cg g2)]) := Sep.startl hO [(FP.sl c3 Ag lg cg g2)] ⟨hA0, trivial⟩; refine yar (l := [(.agg #[(ii g), (.slice Ag lg cg)]), (ii most)]) func77 rfl ntmps77 (Nat.le_of_ble_eq_true rfl) (zs (zn (ybq (v := (.agg #[(ii g), (.slice Ag lg cg)])) rfl ?_))); intro g3 w2 hN; replace hS : Sep w no O w2 (stl _ 1 (Res.box 24 g3 [(ii g), (.slice Ag lg cg)])) := hS.new 1 rfl hN; clear hN; refine zb (zn (ya7 yaq ?_)); intro g4 w3 hN; replace hS : Sep w no O w3 (stl _ 2 (Res.box 24 g4 [(ii 0), (.slice none 0 0)])) := hS.new 2 rfl hN; clear hN; refine zb (zq (za (ii 0)) (yaa (yac (zs (zq (yas (vs := [(ii g), (.slice Ag lg cg)]) rfl underlying24 rfl yaq ⟨Row.cell (hS.bx 1 rfl) (i := 0) rfl, Row.cell (hS.bx 1 rfl) (i := 1) rfl, trivial⟩) (zn (yan rfl (am1 rfl) enter_78 ((yfE h (yaF _) (hS.rdr 0 rfl)).mono ?_)))))))); rintro _ w4 ⟨r, rfl, hC, h⟩; replace hS := hS.pur hC.pure; clear hC; refine ⟨_, rfl, ?_⟩; refine zb (zq (za (ii r)) (yaa (zs (zq (zm (ii r)) (zq zN (yaa ?_)))))); by_cases hp : r = 0
  · replace h := h.1 hp; refine ze hp (yaf (zs (zq (yam rfl underlying24 rfl yag) (zq (zl underlying3 (Row.cell (hS.bx 1 rfl) (i := 0) rfl)) (zn (ybw (l := [(0, (ii g))]) (cells := [(ii g), (.slice none 0 0)]) (places := [(0, 1), (1, 1)]) (bp1 rfl) underlying24 yaq (by kernel_rfl) rfl ?_)))))); refine zb (zn (ya7 yaq ?_)); intro g5 w5 hN; replace hS : Sep w no O w5 (stl _ 3 (Res.box 24 g5 [(ii 0), (.slice none 0 0)])) := hS.new 3 rfl hN; clear hN; refine zb (zo (ybF (b := g5) (o := 0) (cells := #[(ii g), (.slice none 0 0)]) rfl rfl yaq rfl rfl (ybc (hS.bx 3 rfl) (Nat.le_of_ble_eq_true rfl)) ?_)); intro w6 e1; replace hS := hS.bstn 3 rfl 0 [(ii g), (.slice none 0 0)] e1; clear e1; refine zb (yaa (yac (zs (zq (yam rfl underlying24 rfl ycH) (zq (zl underlying22 (Row.cell (hS.bx 1 rfl) (i := 1) rfl)) (zq (yaO (n := g2.length) rfl underlying22 (yaL (hS.rdr 0 rfl))) (zq (zm (ii 0)) (yaa (yak ?_))))))))); replace hS := hS.nil 4 rfl c3 76; obtain ⟨I2, ⟨m0, h0⟩, hr⟩ := h; refine yaw (fun m E ds w' => ∃ v out Aout lout cout, I2 m v out ∧ ds = [] ∧ E 1 = (ii most) ∧ E 4 = (Value.pointer (some (⟨g4, 0, none⟩ : Addr))) ∧ E 7 = (Value.pointer (some (⟨g5, 0, none⟩ : Addr))) ∧ E 20 = (Value.slice Ag lg cg) ∧ E 21 = (ii ((g2.length : Nat) : Int)) ∧ E 22 = (ii v) ∧ Sep w no O w' (rl [Res.box 24 g4 [(ii 0), (.slice none 0 0)], Res.box 24 g5 [(ii g), (.slice Aout lout cout)], Res.own c3 76 Aout lout cout out, Res.ro (FP.sl c3 Ag lg cg g2)])) m0 ⟨_, _, _, _, _, h0, rfl, rfl, rfl, rfl, rfl, rfl, rfl, (hS.sel [2, 3, 4, 0] (by decide))⟩ ?_; clear h0 hS; rintro m2 E ds w7 ⟨v, out, Aout, lout, cout, h, rfl, hE1, hE4, hE7, hE20, hE21, hE22, hS⟩ again; replace h := hr m2 v out h; clear hr; refine zs (zq (yaJ hE22 hE21) (yaa (yac ?_))); by_cases hp2 : v < ((g2.length : Nat) : Int)
    · replace h := h.1 hp2; refine zc hp2 (yaf (yac (yak (zs ?_)))); obtain ⟨hx, h⟩ := h; refine zq (yao hE20 hE22 underlying22 yaP (yaG (hS.rdr 3 rfl) hx)) (zq (yas (vs := [(ii ((ge g2 v.toNat).1)), (ii ((ge g2 v.toNat).2.1)), (ii ((ge g2 v.toNat).2.2))]) rfl underlying76 rfl yaP (rd_fs (hS.rdr 3 rfl) hx (fun q => ydj q))) ?_); refine zn (ya7 yaP ?_); intro g6 w8 hN; replace hS : Sep w no O w8 (stl _ 4 (Res.box 76 g6 [(ii 0), (ii 0), (ii 0)])) := hS.new 4 rfl hN; clear hN; refine zb (zo (ybF (b := g6) (o := 0) (cells := #[(ii ((ge g2 v.toNat).1)), (ii ((ge g2 v.toNat).2.1)), (ii ((ge g2 v.toNat).2.2))]) rfl rfl yaP rfl rfl (ybc (hS.bx 4 rfl) (Nat.le_of_ble_eq_true rfl)) ?_)); intro w9 e1; replace hS := hS.bstn 4 rfl 0 [(ii ((ge g2 v.toNat).1)), (ii ((ge g2 v.toNat).2.1)), (ii ((ge g2 v.toNat).2.2))] e1; clear e1; refine zb (yaa (zs (zq (yam rfl underlying76 rfl yag) (zq (zl underlying3 (Row.cell (hS.bx 4 rfl) (i := 0) rfl)) (zq (yam rfl underlying76 rfl yag) (zq (zl underlying3 (Row.cell (hS.bx 4 rfl) (i := 1) rfl)) (zq zN (yaa ?_)))))))); by_cases hp3 : ((ge g2 v.toNat).1) = ((ge g2 v.toNat).2.1)
      · replace h := h.1 hp3; refine ze hp3 (yaf (yai (zr ?_))); obtain ⟨hi, h⟩ := h; refine zq (yaC hE22 rfl hi) (zq (zm (ii (v + 1))) (yaa ?_)); obtain ⟨mq, hlt, h⟩ := h; exact again mq _ _ _ ⟨_, _, _, _, _, h, rfl, hE1, hE4, hE7, hE20, hE21, rfl, (hS.sel [0, 1, 2, 3] (by decide))⟩ hlt
      · replace h := h.2 hp3; refine zf hp3 (zs (zq (yam rfl underlying76 rfl yag) (zq (zl underlying3 (Row.cell (hS.bx 4 rfl) (i := 2) rfl)) (zq (yab hE1) (zq (v_min2 rfl rfl) (zq (yam rfl underlying76 rfl yag) (zo (zt (ii (mnF ((ge g2 v.toNat).2.2) most)) yag (hS.bwr 4 rfl (j := 2) rfl) ?_)))))))); intro w10 e1; replace hS := hS.bst 4 rfl 2 (ii (mnF ((ge g2 v.toNat).2.2) most)) e1; clear e1; refine zb (yaa (zr (zq (yam hE7 underlying24 rfl ycH) (zq (zl underlying22 (Row.cell (hS.bx 1 rfl) (i := 1) rfl)) (zq (yas (vs := [(ii ((ge g2 v.toNat).1)), (ii ((ge g2 v.toNat).2.1)), (ii (mnF ((ge g2 v.toNat).2.2) most))]) rfl underlying76 rfl yaP ⟨Row.cell (hS.bx 4 rfl) (i := 0) rfl, Row.cell (hS.bx 4 rfl) (i := 1) rfl, Row.cell (hS.bx 4 rfl) (i := 2) rfl, trivial⟩) (zn (yaD (l := [(0, (.agg #[(ii ((ge g2 v.toNat).1)), (ii ((ge g2 v.toNat).2.1)), (ii (mnF ((ge g2 v.toNat).2.2) most))]))]) (cells := [(ii ((ge g2 v.toNat).1)), (ii ((ge g2 v.toNat).2.1)), (ii (mnF ((ge g2 v.toNat).2.2) most))]) (bp1 rfl) underlying22 yaP rfl rfl ?_))))))); intro g7 w11 hN; replace hS := hS.litf (n := 1) 5 rfl (fP (fI .i64) (fP (fI .i64) (fI .i64))) hN ([((ge g2 v.toNat).1, (ge g2 v.toNat).2.1, mnF ((ge g2 v.toNat).2.2) most)] : List E3) rfl (by decide) rfl; clear hN; refine zb ?_; obtain ⟨hx2, h⟩ := h; refine zn (yee (c := c3) rfl rfl underlying22 underlying22 yaP rfl rfl (by decide) hS 2 rfl (hS.yo 5 rfl) hx2 ?_); clear hS; intro A c w12 hS; refine zb (zq (yam hE7 underlying24 rfl ycH) (zo (zt (.slice A (lout + 1) c) ycH (hS.bwr 1 rfl (j := 1) rfl) ?_))); intro w13 e1; replace hS := hS.bst 1 rfl 1 (.slice A (lout + 1) c) e1; clear e1; refine zb (yaa (yai (zr ?_))); obtain ⟨hi2, h⟩ := h; refine zq (yaC hE22 rfl hi2) (zq (zm (ii (v + 1))) (yaa ?_)); obtain ⟨mq, hlt, h⟩ := h; exact again mq _ _ _ ⟨_, _, _, _, _, h, rfl, hE1, hE4, hE7, hE20, hE21, rfl, (hS.sel [0, 1, 2, 3] (by decide))⟩ hlt
    · replace h := h.2 hp2; refine zd hp2 (yav rfl (zs (zq (yas (vs := [(ii g), (.slice Aout lout cout)]) hE7 underlying24 rfl yaq ⟨Row.cell (hS.bx 1 rfl) (i := 0) rfl, Row.cell (hS.bx 1 rfl) (i := 1) rfl, trivial⟩) (zo (ybF (b := g4) (o := 0) (cells := #[(ii g), (.slice Aout lout cout)]) hE4 rfl yaq rfl rfl (ybc (hS.bx 0 rfl) (Nat.le_of_ble_eq_true rfl)) ?_))))); intro w14 e1; replace hS := hS.bstn 0 rfl 0 [(ii g), (.slice Aout lout cout)] e1; clear e1; exact zb (zq (za (ii 0)) (yaa (wt_retx2 rfl (rv_n (vs := [(ii g), (.slice Aout lout cout)]) hE4 underlying24 rfl yaq ⟨Row.cell (hS.bx 0 rfl) (i := 0) rfl, Row.cell (hS.bx 0 rfl) (i := 1) rfl, trivial⟩) (rv_t rfl) ⟨_, _, _, _, _, _, rfl, (hS.sel [2] (by decide)), h⟩)))
  · replace h := h.2 hp; refine zf hp (zs (zn (ybw (l := []) (cells := [(ii 0), (.slice none 0 0)]) (places := [(0, 1), (1, 1)]) (bp0) underlying24 yaq (by kernel_rfl) rfl ?_))); refine zb (zq (zm (ii r)) (zo (ybF (b := g4) (o := 0) (cells := #[(ii 0), (.slice none 0 0)]) rfl rfl yaq rfl rfl (ybc (hS.bx 2 rfl) (Nat.le_of_ble_eq_true rfl)) ?_))); intro w15 e1; replace hS := hS.bstn 2 rfl 0 [(ii 0), (.slice none 0 0)] e1; clear e1; refine zb (zq (za (ii r)) (yaa ?_)); replace hS := hS.nil 3 rfl c3 76; exact wt_retx2 rfl (rv_n (vs := [(ii 0), (.slice none 0 0)]) rfl underlying24 rfl yaq ⟨Row.cell (hS.bx 2 rfl) (i := 0) rfl, Row.cell (hS.bx 2 rfl) (i := 1) rfl, trivial⟩) (rv_t rfl) ⟨_, _, _, _, _, _, rfl, (hS.sel [3] (by decide)), h⟩
def ybZ (g : Int) (g2 : List E3) (R : Int → (List E3) → Int → Prop) : Prop :=
ycN g g2 50 (fun r r2 r3 =>
R r r2 r3)
theorem ygs {O : Nat → Prop} {w : World} {g g2 Ag lg cg} {R : Int → (List E3) → Int → Prop} (h : ybZ g g2 R) (hO : ∀ k, O k → k < w.heap.size) (hA0 : (FP.sl c3 Ag lg cg g2).P O w) :
    Calls Tryz.prog 32 #[(.agg #[(ii g), (.slice Ag lg cg)])] w fun e w' => ∃ r4 r5 r6 Ar2 lr2 cr2, e = .returned (.tuple #[(.agg #[(ii r4), (.slice Ar2 lr2 cr2)]), (ii r6)]) ∧ Sep w no O w' (rl [Res.own c3 76 Ar2 lr2 cr2 r5]) ∧ R r4 r5 r6 := by
  unfold ybZ at h; have hS : Sep w no O w (rl [Res.ro (FP.sl c3 Ag lg cg g2)]) := Sep.startl hO [(FP.sl c3 Ag lg cg g2)] ⟨hA0, trivial⟩; refine yar (l := [(.agg #[(ii g), (.slice Ag lg cg)])]) func32 rfl ntmps32 (Nat.le_of_ble_eq_true rfl) (zs (zn (ybq (v := (.agg #[(ii g), (.slice Ag lg cg)])) rfl ?_))); intro g3 w2 hN; replace hS : Sep w no O w2 (stl _ 1 (Res.box 24 g3 [(ii g), (.slice Ag lg cg)])) := hS.new 1 rfl hN; clear hN; refine zb (zn (ya7 yaq ?_)); intro g4 w3 hN; replace hS : Sep w no O w3 (stl _ 2 (Res.box 24 g4 [(ii 0), (.slice none 0 0)])) := hS.new 2 rfl hN; clear hN; refine zb (zq (za (ii 0)) (yaa (zs (zq (yas (vs := [(ii g), (.slice Ag lg cg)]) rfl underlying24 rfl yaq ⟨Row.cell (hS.bx 1 rfl) (i := 0) rfl, Row.cell (hS.bx 1 rfl) (i := 1) rfl, trivial⟩) (zn (yan rfl (am2 rfl rfl) enter_77 ((yg3 h (yaF _) (hS.rdr 0 rfl)).mono ?_))))))); rintro _ w4 ⟨r, r2, r3, Ar, lr, cr, rfl, hC, h⟩; replace hS := hS.call1 (hC.widen (ydi (ya1 (fP (fI .i64) (fP (fI .i64) (fI .i64))) _ _ _ _ _) yeb) hS.blt) 3 0 rfl; clear hC; refine ⟨_, rfl, ?_⟩; refine zb (zq (zx (.agg #[(ii r), (.slice Ar lr cr)])) (zq (zx (ii r3)) (zo (ybF (b := g4) (o := 0) (cells := #[(ii r), (.slice Ar lr cr)]) rfl rfl yaq rfl rfl (ybc (hS.bx 2 rfl) (Nat.le_of_ble_eq_true rfl)) ?_)))); intro w5 e1; replace hS := hS.bstn 2 rfl 0 [(ii r), (.slice Ar lr cr)] e1; clear e1; exact zb (zq (za (ii r3)) (yaa (wt_retx2 rfl (rv_n (vs := [(ii r), (.slice Ar lr cr)]) rfl underlying24 rfl yaq ⟨Row.cell (hS.bx 2 rfl) (i := 0) rfl, Row.cell (hS.bx 2 rfl) (i := 1) rfl, trivial⟩) (rv_t rfl) ⟨_, _, _, _, _, _, rfl, (hS.sel [3] (by decide)), h⟩)))
def ydC (g : Int) (g2 : List E3) (R : Prop) : Prop :=
R
theorem yg4 {O : Nat → Prop} {w : World} {g g2 Ag lg cg} {R : Prop} (h : ydC g g2 R) (hO : ∀ k, O k → k < w.heap.size) (hA0 : (FP.sl c3 Ag lg cg g2).P O w) :
    Calls Tryz.prog 79 #[(.agg #[(ii g), (.slice Ag lg cg)])] w fun e w' => ∃ gr, e = .returned (.func (Fn.func 119) #[] #[(.pointer (some (⟨gr, 0, none⟩ : Addr)))]) ∧ Sep w no O w' (rl [Res.box 24 gr [(ii g), (.slice Ag lg cg)]]) ∧ R := by
  unfold ydC at h; have hS : Sep w no O w (rl [Res.ro (FP.sl c3 Ag lg cg g2)]) := Sep.startl hO [(FP.sl c3 Ag lg cg g2)] ⟨hA0, trivial⟩; refine yar (l := [(.agg #[(ii g), (.slice Ag lg cg)])]) func79 rfl ntmps79 (Nat.le_of_ble_eq_true rfl) (zs (zn (ybq (v := (.agg #[(ii g), (.slice Ag lg cg)])) rfl ?_))); intro g3 w2 hN; replace hS : Sep w no O w2 (stl _ 1 (Res.box 24 g3 [(ii g), (.slice Ag lg cg)])) := hS.new 1 rfl hN; clear hN; exact zb (zq (za Value.nilFunc) (yaa (zs (zq (v_func (am0) (am1 rfl)) (zq (za (.func (Fn.func 119) #[] #[(.pointer (some (⟨g3, 0, none⟩ : Addr)))])) (yaa (yal rfl rfl ⟨_, rfl, (hS.sel [1] (by decide)), h⟩)))))))
def ybN (cap : Int) (cap2 : List E3) (Pr R : List E3 → Prop) : Prop :=
(∃ I2 : Nat → (List E3) → Int → Int → Prop, (∃ m0, I2 m0 ([]) 0 0) ∧ ∀ m2 pre2 e2 v, I2 m2 pre2 e2 v → 
((v < ((cap2.length : Nat) : Int) →
((0 ≤ v ∧ v < ((cap2.length : Nat) : Int)) ∧
(∃ I3 : Nat → (List E3) → Int → Int → Prop, (∃ m0, I3 m0 pre2 e2 0) ∧ ∀ m3 pre3 e3 v2, I3 m3 pre3 e3 v2 → 
((v2 < ((ge cap2 v.toNat).2.2) →
(Pr (pre3 ++ [(e3, (ge cap2 v.toNat).1, (ge cap2 v.toNat).2.1)]) ∧
((In64 (e3 + 1) ∧
(In64 (v2 + 1) ∧
∃ m4, m4 < m3 ∧ I3 m4 (pre3 ++ [(e3, (ge cap2 v.toNat).1, (ge cap2 v.toNat).2.1)]) (e3 + 1) (v2 + 1))) ∧
True))) ∧
(¬ (v2 < ((ge cap2 v.toNat).2.2)) →
(In64 (v + 1) ∧
∃ m5, m5 < m2 ∧ I2 m5 pre3 e3 (v + 1))))))) ∧
(¬ (v < ((cap2.length : Nat) : Int)) →
R pre2)))
theorem ygk {w : World} {T0 G0 : BS} {cap cap2 gc Acap lcap ccap} {Pr R : List E3 → Prop} (h : ybN cap cap2 Pr R) (hS0 : Sep w G0 T0 w (rl [Res.box 24 gc [(Value.int .i64 cap), (Value.slice Acap lcap ccap)], Res.ro (FP.sl c3 Acap lcap ccap cap2)])) :
    yiE Tryz.prog 119 #[(.pointer (some (⟨gc, 0, none⟩ : Addr)))] (fun (x : E3) => #[(ii x.1), (.agg #[(ii x.2.1), (ii x.2.2)])]) (fun _ => FP.tt) Pr R T0 G0 w := by
  unfold ybN at h; intro l J Jx T1 w1 hs hJ hp hT; obtain ⟨G, hJ, hS⟩ := gen_start hS0 hs hJ hp hT; clear hS0 hp hT; refine yh0 (l := [(.func (.yield l) #[] #[]), (.pointer (some (⟨gc, 0, none⟩ : Addr)))]) func119 rfl ntmps119 (Nat.le_of_ble_eq_true rfl) rfl (zs (zq (za (ii 0)) (yaa (zs (zq (yam rfl underlying24 rfl ycH) (zq (zl underlying22 (Row.cell (hS.bx 0 rfl) (i := 1) rfl)) (zq (yaO (n := cap2.length) rfl underlying22 (yaL (hS.rdr 1 rfl))) (zq (zm (ii 0)) (yaa (yak ?_)))))))))); obtain ⟨I2, ⟨m0, h0⟩, hr⟩ := h; refine yaw (fun m E ds w' => ∃ pre2 e2 v, ∃ T2 : BS, ∃ G2 : BS, ∃ wb2 : World, I2 m pre2 e2 v ∧ ds = [] ∧ E 0 = (Value.func (.yield l) #[] #[]) ∧ E 3 = (ii e2) ∧ E 7 = (Value.slice Acap lcap ccap) ∧ E 8 = (ii ((cap2.length : Nat) : Int)) ∧ E 9 = (ii v) ∧ J T2 G2 pre2 wb2 ∧ Sep wb2 G2 T2 w' (rl [Res.ro (FP.sl c3 Acap lcap ccap cap2)])) m0 ⟨_, _, _, _, _, _, h0, rfl, rfl, rfl, rfl, rfl, rfl, hJ, (hS.sel [1] (by decide))⟩ ?_; clear h0 hS hJ; rintro m2 E ds w2 ⟨pre2, e2, v, T2, G2, wb2, h, rfl, hE0, hE3, hE7, hE8, hE9, hJ, hS⟩ again; replace h := hr m2 pre2 e2 v h; clear hr; refine zs (zq (yaJ hE9 hE8) (yaa (yac ?_))); by_cases hp : v < ((cap2.length : Nat) : Int)
  · replace h := h.1 hp; refine zc hp (yaf (yac (yak (zs ?_)))); obtain ⟨hx, h⟩ := h; refine zq (yao hE7 hE9 underlying22 yaP (yaG (hS.rdr 0 rfl) hx)) (zq (yas (vs := [(ii ((ge cap2 v.toNat).1)), (ii ((ge cap2 v.toNat).2.1)), (ii ((ge cap2 v.toNat).2.2))]) rfl underlying76 rfl yaP (rd_fs (hS.rdr 0 rfl) hx (fun q => ydj q))) ?_); refine zn (ya7 yaP ?_); intro g w3 hN; replace hS : Sep wb2 G2 T2 w3 (stl _ 1 (Res.box 76 g [(ii 0), (ii 0), (ii 0)])) := hS.new 1 rfl hN; clear hN; refine zb (zo (ybF (b := g) (o := 0) (cells := #[(ii ((ge cap2 v.toNat).1)), (ii ((ge cap2 v.toNat).2.1)), (ii ((ge cap2 v.toNat).2.2))]) rfl rfl yaP rfl rfl (ybc (hS.bx 1 rfl) (Nat.le_of_ble_eq_true rfl)) ?_)); intro w4 e1; replace hS := hS.bstn 1 rfl 0 [(ii ((ge cap2 v.toNat).1)), (ii ((ge cap2 v.toNat).2.1)), (ii ((ge cap2 v.toNat).2.2))] e1; clear e1; refine zb (yaa (zs (zq (yam rfl underlying76 rfl yag) (zq (zl underlying3 (Row.cell (hS.bx 1 rfl) (i := 2) rfl)) (zq (zm (ii 0)) (yaa (yak ?_))))))); obtain ⟨I3, ⟨m0, h0⟩, hr⟩ := h; refine yaw (fun m E ds w' => ∃ pre3 e3 v2, ∃ T3 : BS, ∃ G3 : BS, ∃ wb3 : World, I3 m pre3 e3 v2 ∧ ds = [] ∧ E 0 = (Value.func (.yield l) #[] #[]) ∧ E 3 = (ii e3) ∧ E 5 = (Value.pointer (some (⟨g, 0, none⟩ : Addr))) ∧ E 7 = (Value.slice Acap lcap ccap) ∧ E 8 = (ii ((cap2.length : Nat) : Int)) ∧ E 9 = (ii v) ∧ E 14 = (ii ((ge cap2 v.toNat).2.2)) ∧ E 15 = (ii v2) ∧ J T3 G3 pre3 wb3 ∧ Sep wb3 G3 T3 w' (rl [Res.box 76 g [(ii ((ge cap2 v.toNat).1)), (ii ((ge cap2 v.toNat).2.1)), (ii ((ge cap2 v.toNat).2.2))], Res.ro (FP.sl c3 Acap lcap ccap cap2)])) m0 ⟨_, _, _, _, _, _, h0, rfl, hE0, hE3, rfl, hE7, hE8, hE9, rfl, rfl, hJ, (hS.sel [1, 0] (by decide))⟩ ?_; clear h0 hS hJ; rintro m3 E ds w5 ⟨pre3, e3, v2, T3, G3, wb3, h, rfl, hE0, hE3, hE5, hE7, hE8, hE9, hE14, hE15, hJ, hS⟩ again2; replace h := hr m3 pre3 e3 v2 h; clear hr; refine zs (zq (yaJ hE15 hE14) (yaa (yac ?_))); by_cases hp2 : v2 < ((ge cap2 v.toNat).2.2)
    · replace h := h.1 hp2; refine zc hp2 (yaf (yac (yak (yac (zs (zq (yab hE0) (zq (yab hE3) (zq (yam hE5 underlying76 rfl yag) (zq (zl underlying3 (Row.cell (hS.bx 0 rfl) (i := 0) rfl)) (zq (yam hE5 underlying76 rfl yag) (zq (zl underlying3 (Row.cell (hS.bx 0 rfl) (i := 1) rfl)) (zn (ybw (l := [(0, (ii ((ge cap2 v.toNat).1))), (1, (ii ((ge cap2 v.toNat).2.1)))]) (cells := [(ii ((ge cap2 v.toNat).1)), (ii ((ge cap2 v.toNat).2.1))]) (places := [(0, 1), (1, 1)]) (bp2 rfl rfl) underlying120 ycw (by kernel_rfl) rfl ?_))))))))))))); refine zb ?_; obtain ⟨hPr, hyes, hno⟩ := h; refine zn (n_yield (m := 1) rfl (am2 rfl rfl) (gen_yield (x := (e3, (ge cap2 v.toNat).1, (ge cap2 v.toNat).2.1)) hs hJ hS hPr trivial ?_ ?_))
      · clear hno hJ hS; have h := hyes; clear hyes; intro T4 w6 hJ hS; generalize OwnB _ = G4 at hJ hS; refine ⟨_, rfl, ?_⟩; refine zb (zq (ydA rfl) (yaa (yay (congrArg Value.bool (congrArg Bool.not rfl)) (yaf (zr (zq (yab hE3) ?_)))))); obtain ⟨hi, h⟩ := h; refine zq (zA hi) (zq (za (ii (e3 + 1))) (yaa (yai (zr ?_)))); obtain ⟨hi2, h⟩ := h; refine zq (yaC hE15 rfl hi2) (zq (zm (ii (v2 + 1))) (yaa ?_)); obtain ⟨mq, hlt, h⟩ := h; exact again2 mq _ _ _ ⟨_, _, _, _, _, _, h, rfl, hE0, rfl, hE5, hE7, hE8, hE9, hE14, rfl, hJ, (hS.sel [0, 1] (by decide))⟩ hlt
      · clear hyes hJ hS; have h := hno; clear hno; intro T5 w7 hJ hS; generalize OwnB _ = G5 at hJ hS; refine ⟨_, rfl, ?_⟩; exact zb (zq (ydA rfl) (yaa (yau (congrArg Value.bool (congrArg Bool.not rfl)) (wt_ret0 rfl ⟨⟨_, rfl⟩, gen_endx hs hJ hS⟩))))
    · replace h := h.2 hp2; refine zd hp2 (yav rfl (yai (zr ?_))); obtain ⟨hi3, h⟩ := h; refine zq (yaC hE9 rfl hi3) (zq (zm (ii (v + 1))) (yaa ?_)); obtain ⟨mq, hlt, h⟩ := h; exact again mq _ _ _ ⟨_, _, _, _, _, _, h, rfl, hE0, hE3, hE7, hE8, rfl, hJ, (hS.sel [1] (by decide))⟩ hlt
  · replace h := h.2 hp; exact zd hp (yav rfl (yiA rfl ⟨⟨_, rfl⟩, gen_end hs hJ hS h⟩))
def ybh (f : List Int) (v : Int) (R : Int → Prop) : Prop :=
(∃ I2 : Nat → Int → Prop, (∃ m0, I2 m0 v) ∧ ∀ m2 v2, I2 m2 v2 → 
((0 ≤ v2 ∧ v2 < 12) ∧
(((gi f v2.toNat) = v2 →
R v2) ∧
(¬ ((gi f v2.toNat) = v2) →
∃ m3, m3 < m2 ∧ I2 m3 (gi f v2.toNat)))))
theorem ydu {S O : Nat → Prop} {w : World} {f v gc} {R : Int → Prop} (h : ybh f v R) (hS : Sep w S O w (rl [Res.own cI 115 (some ⟨gc, 0, none⟩) 12 12 f])) :
    Calls Tryz.prog 80 #[(.pointer (some (⟨gc, 0, none⟩ : Addr))), (ii v)] w fun e w' => ∃ r, e = .returned (ii r) ∧ Sep w S O w' (rl [Res.own cI 115 (some ⟨gc, 0, none⟩) 12 12 f]) ∧ R r := by
  unfold ybh at h; refine yar (l := [(.pointer (some (⟨gc, 0, none⟩ : Addr))), (ii v)]) func80 rfl ntmps80 (Nat.le_of_ble_eq_true rfl) (zs (zq (za (ii 0)) (yaa (yac (yak ?_))))); obtain ⟨I2, ⟨m0, h0⟩, hr⟩ := h; refine yaw (fun m E ds w' => ∃ v2, I2 m v2 ∧ ds = [] ∧ E 0 = (Value.pointer (some (⟨gc, 0, none⟩ : Addr))) ∧ E 1 = (ii v2) ∧ Sep w S O w' (rl [Res.own cI 115 (some ⟨gc, 0, none⟩) 12 12 f])) m0 ⟨_, h0, rfl, rfl, rfl, (hS.sel [0] (by decide))⟩ ?_; clear h0 hS; rintro m2 E ds w2 ⟨v2, h, rfl, hE0, hE1, hS⟩ again; replace h := hr m2 v2 h; clear hr; refine yac (zs (zq (yab (v := (.pointer (some (⟨gc, 0, none⟩ : Addr)))) hE0) (zq (yab hE1) (zq (ybI rfl) ?_)))); obtain ⟨hx, h⟩ := h; have hy := arr_ix (hS.rdo 0 rfl) hx; refine zq (yhV rfl rfl underlying115 yag hx) (zq (yah (v := (ii (gi f v2.toNat))) rfl underlying3 rfl (rd_1 (hS.rdo 0 rfl) hy (fun q => yaI q) rfl)) ?_); refine zq (yab hE1) (zq zN (yaa ?_)); by_cases hp : (gi f v2.toNat) = v2
  · replace h := h.1 hp; exact ze hp (yav rfl (zs (zq (yab hE1) (zq (za (ii v2)) (yaa (yal rfl rfl ⟨_, rfl, (hS.sel [0] (by decide)), h⟩))))))
  · replace h := h.2 hp; refine zf hp (yaf (yak (zr (zq (yab (v := (.pointer (some (⟨gc, 0, none⟩ : Addr)))) hE0) (zq (yab hE1) (zq (ybI rfl) ?_)))))); have hy2 := arr_ix (hS.rdo 0 rfl) hx; refine zq (yhV rfl rfl underlying115 yag hx) (zq (yah (v := (ii (gi f v2.toNat))) rfl underlying3 rfl (rd_1 (hS.rdo 0 rfl) hy2 (fun q => yaI q) rfl)) ?_); refine zq (za (ii (gi f v2.toNat))) (yaa (yai ?_)); obtain ⟨mq, hlt, h⟩ := h; exact again mq _ _ _ ⟨_, h, rfl, hE0, rfl, (hS.sel [0] (by decide))⟩ hlt
def ycK (g : Int) (g2 : List E3) (R : Int → Int → Prop) : Prop :=
yci g g2 (fun r =>
((r = 0 →
(∃ I2 : Nat → Int → (List Int) → Prop, (∃ m0, I2 m0 0 (List.replicate 12 (0 : Int))) ∧ ∀ m2 v f, I2 m2 v f → 
((v < 12 →
((0 ≤ v ∧ v < 12) ∧
(In64 (v + 1) ∧
∃ m3, m3 < m2 ∧ I2 m3 (v + 1) (f.set v.toNat v)))) ∧
(¬ (v < 12) →
ydC g g2 ((∃ Pr Rr : List E3 → Prop, ybN g g2 Pr Rr ∧
(∃ I3 : List E3 → (List Int) → Int → Prop, I3 [] f 0 ∧
(∀ pre y y2 y3 f2 genus, I3 pre f2 genus → Pr (pre ++ [(y, y2, y3)]) →
ybh f2 y2 (fun r2 =>
ybh f2 y3 (fun r3 =>
(∃ J2 : Int → Prop, (∀ (genus2 : Int), J2 genus2 → ((0 ≤ (mxF r2 r3) ∧ (mxF r2 r3) < 12) ∧
I3 (pre ++ [(y, y2, y3)]) (f2.set (mxF r2 r3).toNat (mnF r2 r3)) genus2)) ∧
((r2 = r3 →
(In64 (genus + 1) ∧
J2 (genus + 1))) ∧
(¬ (r2 = r3) →
J2 genus)))))) ∧
(∀ ys f2 genus, I3 ys f2 genus → Rr ys →
R genus 0)))))))) ∧
(¬ (r = 0) →
R 0 r)))
theorem yir {O : Nat → Prop} {w : World} {g g2 Ag lg cg} {R : Int → Int → Prop} (h : ycK g g2 R) (hO : ∀ k, O k → k < w.heap.size) (hA0 : (FP.sl c3 Ag lg cg g2).P O w) :
    Calls Tryz.prog 33 #[(.agg #[(ii g), (.slice Ag lg cg)])] w fun e w' => ∃ r4 r5, e = .returned (.tuple #[(ii r4), (ii r5)]) ∧ Sep w no O w' (rl []) ∧ R r4 r5 := by
  unfold ycK at h; have hS : Sep w no O w (rl [Res.ro (FP.sl c3 Ag lg cg g2)]) := Sep.startl hO [(FP.sl c3 Ag lg cg g2)] ⟨hA0, trivial⟩; refine yfL (l := [(.agg #[(ii g), (.slice Ag lg cg)])]) func33 rfl ntmps33 (Nat.le_of_ble_eq_true rfl) (zs (zn (ybq (v := (.agg #[(ii g), (.slice Ag lg cg)])) rfl ?_))); intro g3 w2 hN; replace hS : Sep w no O w2 (stl _ 1 (Res.box 24 g3 [(ii g), (.slice Ag lg cg)])) := hS.new 1 rfl hN; clear hN; refine zb (zq (za (ii 0)) (zq (za (ii 0)) (yaa (yac (zs (zq (yas (vs := [(ii g), (.slice Ag lg cg)]) rfl underlying24 rfl yaq ⟨Row.cell (hS.bx 1 rfl) (i := 0) rfl, Row.cell (hS.bx 1 rfl) (i := 1) rfl, trivial⟩) (zn (yan rfl (am1 rfl) enter_78 ((yfE h (yaF _) (hS.rdr 0 rfl)).mono ?_))))))))); rintro _ w3 ⟨r, rfl, hC, h⟩; replace hS := hS.pur hC.pure; clear hC; refine ⟨_, rfl, ?_⟩; refine zb (zq (za (ii r)) (yaa (zs (zq (zm (ii r)) (zq zN (yaa ?_)))))); by_cases hp : r = 0
  · replace h := h.1 hp; refine ze hp (yaf (zs (zn (ya7 info_115 ?_)))); intro g4 w4 hN; replace hS := hS.made (n := 12) 2 rfl cI (ii 0) (0 : Int) (fun _ _ => rfl) (hN : New _ _ _ (Array.replicate 12 (ii 0)) 115) (by decide); clear hN; refine zb (yaa (yac (zs (zq (zm (ii 0)) (yaa (yak ?_)))))); obtain ⟨I2, ⟨m0, h0⟩, hr⟩ := h; refine yaw (fun m E ds w' => ∃ v f, I2 m v f ∧ ds = [] ∧ E 1 = (Value.pointer (some (⟨g3, 0, none⟩ : Addr))) ∧ E 5 = (Value.pointer (some (⟨g4, 0, none⟩ : Addr))) ∧ E 17 = (ii v) ∧ Sep w no O w' (rl [Res.box 24 g3 [(ii g), (.slice Ag lg cg)], Res.ro (FP.sl c3 Ag lg cg g2), Res.own cI 115 (some ⟨g4, 0, none⟩) 12 12 f])) m0 ⟨_, _, h0, rfl, rfl, rfl, rfl, (hS.sel [1, 0, 2] (by decide))⟩ ?_; clear h0 hS; rintro m2 E ds w5 ⟨v, f, h, rfl, hE1, hE5, hE17, hS⟩ again; replace h := hr m2 v f h; clear hr; refine zs (zq (yaJ hE17 rfl) (yaa (yac ?_))); by_cases hp2 : v < 12
    · replace h := h.1 hp2; refine zc hp2 (yaf (yac (yak (zs (zq (yab hE17) (zq (za (ii v)) (yaa (zr (zq (zm (ii v)) (zq (zm (ii v)) ?_)))))))))); obtain ⟨hx, h⟩ := h; have hy := arr_ix (hS.rdo 2 rfl) hx; refine zq (yhV hE5 rfl underlying115 yag hx) (zo (zt (ii v) yag (hS.wr 2 rfl rfl hy) ?_)); intro w6 e1; replace hS := hS.st 2 rfl rfl hy (x := v) rfl e1; clear e1; refine zb (yaa (yai (zr ?_))); obtain ⟨hi, h⟩ := h; refine zq (yaC hE17 rfl hi) (zq (zm (ii (v + 1))) (yaa ?_)); obtain ⟨mq, hlt, h⟩ := h; exact again mq _ _ _ ⟨_, _, h, rfl, hE1, hE5, rfl, (hS.sel [0, 1, 2] (by decide))⟩ hlt
    · replace h := h.2 hp2; refine zd hp2 (yav rfl (zs (zn (ya7 yag ?_)))); intro g5 w7 hN; replace hS : Sep w no O w7 (stl _ 3 (Res.box 3 g5 [(ii 0)])) := hS.new 3 rfl hN; clear hN; refine zb (zo (zt (ii 0) yag (hS.bwr 3 rfl (j := 0) rfl) ?_)); intro w8 e1; replace hS := hS.bst 3 rfl 0 (ii 0) e1; clear e1; refine zb (yaa (yac (zs (zq (yas (vs := [(ii g), (.slice Ag lg cg)]) hE1 underlying24 rfl yaq ⟨Row.cell (hS.bx 0 rfl) (i := 0) rfl, Row.cell (hS.bx 0 rfl) (i := 1) rfl, trivial⟩) (zn (yan rfl (am1 rfl) enter_79 ((yg4 h hS.blt (hS.ro 1 rfl)).mono ?_))))))); rintro _ w9 ⟨gc, rfl, hC, h⟩; replace hS := hS.call1 hC 4 0 rfl; clear hC; refine ⟨_, rfl, ?_⟩; refine zb (yaa (yak ?_)); obtain ⟨Pr, Rr, hgp, I3, h0, hb, h⟩ := h; refine wt_iterS hS [2, 3] [4, 1] (by decide) (by decide) ⟨.inl (by decide), .inr rfl, trivial⟩ rfl enter_119 (val := (fun (x : E3) => #[(ii x.1), (.agg #[(ii x.2.1), (ii x.2.2)])])) (pass := (fun _ => FP.tt)) (Pr := Pr) (R := Rr) (fun _ => rfl) rfl (fun pr LL => ∃ f2 genus, I3 pr f2 genus ∧ LL = [Res.own cI 115 (some ⟨g4, 0, none⟩) 12 12 f2, Res.box 3 g5 [(ii genus)]]) (fun _ _ _ => False) ⟨_, _, h0, rfl⟩ (fun T G hG => ygk hgp hG) ?_ ?_ (fun _ _ _ _ _ hx => hx.elim)
      · clear h h0 hS hgp; rintro ll rdy busy S O2 pre ⟨y, y2, y3⟩ w10 _ ⟨f2, genus, hI, rfl⟩ hPr hpass hS; have h := hb pre y y2 y3 f2 genus hI hPr; clear hb hI hPr; clear hpass; refine yaT (yaY ll) (zn (ya7 ycw ?_)); intro g6 w12 hN; replace hS : Sep w10 S O2 w12 (stl _ 3 (Res.box 120 g6 [(ii 0), (ii 0)])) := hS.new 3 rfl hN; clear hN; refine zb (zo (ybF (b := g6) (o := 0) (cells := #[(ii y2), (ii y3)]) rfl rfl ycw rfl rfl (ybc (hS.bx 3 rfl) (Nat.le_of_ble_eq_true rfl)) ?_)); intro w13 e1; replace hS := hS.bstn 3 rfl 0 [(ii y2), (ii y3)] e1; clear e1; refine zb (yaa (yfH fun a ra => ⟨rfl, _, _, ra, hS, ⟨2, rfl⟩, ?_⟩)); intro w14 hw; replace hS := hS.flip 2 rfl busy hw; clear hw ra a; refine yak (yac (ya3 [0, 1, 3, 4, 2, 5, 6, 7] (fun i => match i with | 2 => [3, 4] | _ => []) (yaY ll) (by kernel_rfl) (by kernel_rfl) ?_)); replace hS := hS.drew; refine zp (yam rfl underlying120 rfl yag) (zp (zl underlying3 (Row.cell (hS.bx 3 rfl) (i := 0) rfl)) (zp (yam rfl underlying120 rfl yag) (zp (zl underlying3 (Row.cell (hS.bx 3 rfl) (i := 1) rfl)) ?_))); have hB := hS.lend (asc [(0, 0)]) [0] (by decide) ⟨.inl (yd2 rfl), trivial⟩; refine rp_n rfl rfl rfl rfl (yhp (vs := #[(.pointer (some (⟨g4, 0, none⟩ : Addr))), (ii y2)]) (us := #[]) rfl (am2 hE5 rfl) enter_80 ((ydk (by simp) (ydu h hB)).mono ?_)); rintro _ w15 ⟨r2, rfl, hC, h⟩; replace hS := hS.back (asc [(0, 0)]) (yg2 (by decide)) hC; clear hC hB; refine ⟨_, rfl, ?_⟩; refine ⟨⟨fun _ => (zl underlying3 (Row.cell (hS.bx 3 rfl) (i := 1) rfl)), ⟨fun _ => (yam rfl underlying120 rfl yag), ⟨fun hh => Bool.noConfusion (show false = true from hh), ⟨fun hh => Bool.noConfusion (show false = true from hh), trivial⟩⟩⟩⟩, ?_⟩; have hB := hS.lend (asc [(0, 0)]) [0] (by decide) ⟨.inl (yd2 rfl), trivial⟩; refine rp_n rfl rfl rfl rfl (yhp (vs := #[(.pointer (some (⟨g4, 0, none⟩ : Addr))), (ii y3)]) (us := #[]) rfl (am2 hE5 rfl) enter_80 ((ydk (by simp) (ydu h hB)).mono ?_)); rintro _ w16 ⟨r3, rfl, hC, h⟩; replace hS := hS.back (asc [(0, 0)]) (yg2 (by decide)) hC; clear hC hB; refine ⟨_, rfl, ?_⟩; refine zb (zp (za (ii r2)) (zp (za (ii r3)) (ybl (yac (yac (yaT (yaY ll) (zq (zm (ii r2)) (zq (zm (ii r3)) (zq zE (yaa ?_)))))))))); obtain ⟨J2, hJ, h⟩ := h; refine yhY (fun E ds w' => ∃ genus2, J2 genus2 ∧ ds = [] ∧ E 5 = (Value.pointer (some (⟨g4, 0, none⟩ : Addr))) ∧ E 7 = (Value.pointer (some (⟨g5, 0, none⟩ : Addr))) ∧ E 10 = (ii r2) ∧ E 11 = (ii r3) ∧ Sep w10 S O2 w' (rl [Res.obj ll busy, Res.own cI 115 (some ⟨g4, 0, none⟩) 12 12 f2, Res.box 3 g5 [(ii genus2)]])) ?_ ?_
        · clear h hS; rintro E ds w17 ⟨genus2, h, rfl, hE5, hE7, hE10, hE11, hS⟩; replace h := hJ genus2 h; refine yaT (yaY ll) (zq (yab hE10) (zq (yab hE11) (zq (v_max2 rfl rfl) (zq (yab hE10) (zq (yab hE11) (zq (v_min2 rfl rfl) ?_)))))); obtain ⟨hx2, h⟩ := h; have hy2 := arr_ix (hS.rdo 1 rfl) hx2; refine zq (yhV hE5 rfl underlying115 yag hx2) (zo (zt (ii (mnF r2 r3)) yag (hS.wr 1 rfl rfl hy2) ?_)); intro w18 e1; replace hS := hS.st 1 rfl rfl hy2 (x := mnF r2 r3) rfl e1; clear e1; exact zb (yaa (yai (yfH fun a r => ⟨_, ⟨_, _, h, rfl⟩, (hS.sel [1, 2, 0] (by decide))⟩)))
        clear hJ; intro j; by_cases hp3 : r2 = r3
        · replace h := h.1 hp3; refine zc hp3 (yaT (yaY ll) (zq (zl underlying3 (Row.cell (hS.bx 1 rfl) (i := 0) rfl)) ?_)); obtain ⟨hi2, h⟩ := h; refine zq (zA hi2) (zo (zt (ii (genus + 1)) yag (hS.bwr 1 rfl (j := 0) rfl) ?_)); intro w19 e1; replace hS := hS.bst 1 rfl 0 (ii (genus + 1)) e1; clear e1; exact zb (yaa (j _ _ _ ⟨_, h, rfl, hE5, rfl, rfl, rfl, (hS.sel [2, 0, 1] (by decide))⟩))
        · replace h := h.2 hp3; exact zd hp3 (yaf (j _ _ _ ⟨_, h, rfl, hE5, rfl, rfl, rfl, (hS.sel [2, 0, 1] (by decide))⟩))
      · clear hb h0 hS hgp; rintro D ys w11 _ hRr ⟨f2, genus, hI, rfl⟩ hS; replace h := h ys f2 genus hI hRr; clear hI hRr; exact yai (zs (zq (zl underlying3 (Row.cell (hS.bx 1 rfl) (i := 0) rfl)) (zq (za (ii genus)) (zq (za (ii 0)) (yaa (wt_retk2 (rs := [D]) (by simp) (hS.marked 2 rfl) rfl rfl rfl (fun w9 hk => ⟨_, _, rfl, (hS.unmark [2] [] (by decide) (by decide) (yfi 2 rfl) hk), h⟩)))))))
  · replace h := h.2 hp; exact zf hp (zs (zq (zm (ii r)) (zq (za (ii 0)) (zq (za (ii r)) (yaa (wt_retk2 (rs := []) (by simp) (by simp) rfl rfl rfl (fun w9 hk => ⟨_, _, rfl, (hS.unmark [] [] (by decide) (by decide) (by simp) hk), h⟩)))))))
def yc9 (d : List Int) (R : Bool → (List Int) → Prop) : Prop :=
(In64 (((d.length : Nat) : Int) - 1) ∧
(∃ I2 : Nat → Int → Prop, (∃ m0, I2 m0 (((d.length : Nat) : Int) - 1)) ∧ ∀ m2 j, I2 m2 j → 
((0 < j →
((0 ≤ j ∧ j < ((d.length : Nat) : Int)) ∧
(((gi d j.toNat) = 0 →
(In64 (j - 1) ∧
∃ m3, m3 < m2 ∧ I2 m3 (j - 1))) ∧
(¬ ((gi d j.toNat) = 0) →
((j = 0 →
R false d) ∧
(¬ (j = 0) →
(In64 ((gi d j.toNat) - 1) ∧
(In64 (j - 1) ∧
((0 ≤ (j - 1) ∧ (j - 1) < (((d.set j.toNat 0).length : Nat) : Int)) ∧
(In64 ((gi (d.set j.toNat 0) (j - 1).toNat) + 1) ∧
((0 ≤ (((d.length : Nat) : Int) - 1) ∧ (((d.length : Nat) : Int) - 1) < ((((d.set j.toNat 0).set (j - 1).toNat ((gi (d.set j.toNat 0) (j - 1).toNat) + 1)).length : Nat) : Int)) ∧
R true (((d.set j.toNat 0).set (j - 1).toNat ((gi (d.set j.toNat 0) (j - 1).toNat) + 1)).set (((d.length : Nat) : Int) - 1).toNat ((gi d j.toNat) - 1))))))))))))) ∧
(¬ (0 < j) →
((j = 0 →
R false d) ∧
(¬ (j = 0) →
((0 ≤ j ∧ j < ((d.length : Nat) : Int)) ∧
(In64 ((gi d j.toNat) - 1) ∧
(In64 (j - 1) ∧
((0 ≤ (j - 1) ∧ (j - 1) < (((d.set j.toNat 0).length : Nat) : Int)) ∧
(In64 ((gi (d.set j.toNat 0) (j - 1).toNat) + 1) ∧
((0 ≤ (((d.length : Nat) : Int) - 1) ∧ (((d.length : Nat) : Int) - 1) < ((((d.set j.toNat 0).set (j - 1).toNat ((gi (d.set j.toNat 0) (j - 1).toNat) + 1)).length : Nat) : Int)) ∧
R true (((d.set j.toNat 0).set (j - 1).toNat ((gi (d.set j.toNat 0) (j - 1).toNat) + 1)).set (((d.length : Nat) : Int) - 1).toNat ((gi d j.toNat) - 1))))))))))))))
theorem pok_chips_step {S O : Nat → Prop} {w : World} {d Ad ld cd} {R : Bool → (List Int) → Prop} (h : yc9 d R) (hS : Sep w S O w (rl [Res.own cI 3 Ad ld cd d])) :
    Calls Tryz.prog 130 #[(.slice Ad ld cd)] w fun e w' => ∃ r z, e = .returned (.bool (r)) ∧ Sep w S O w' (rl [Res.own cI 3 Ad ld cd z]) ∧ R r z := by
  unfold yc9 at h; refine yar (l := [(.slice Ad ld cd)]) func130 rfl ntmps130 (Nat.le_of_ble_eq_true rfl) (zs (zq (za (.bool (false))) (yaa (zs (zq (zm (.slice Ad ld cd)) (zq (yaO (n := d.length) rfl underlying26 (yaL (hS.rdo 0 rfl))) ?_)))))); obtain ⟨hi, h⟩ := h; refine zq (zS hi) (zq (za (ii (((d.length : Nat) : Int) - 1))) (yaa (zs (zq (zm (ii (((d.length : Nat) : Int) - 1))) (zq (za (ii (((d.length : Nat) : Int) - 1))) (yaa (yac (yak ?_)))))))); obtain ⟨I2, ⟨m0, h0⟩, hr⟩ := h; refine yaw (fun m E ds w' => ∃ j, I2 m j ∧ ds = [] ∧ E 0 = (Value.slice Ad ld cd) ∧ E 3 = (ii (((d.length : Nat) : Int) - 1)) ∧ E 4 = (ii j) ∧ Sep w S O w' (rl [Res.own cI 3 Ad ld cd d])) m0 ⟨_, h0, rfl, rfl, rfl, rfl, (hS.sel [0] (by decide))⟩ ?_; clear h0 hS; rintro m2 E ds w2 ⟨j, h, rfl, hE0, hE3, hE4, hS⟩ again; replace h := hr m2 j h; clear hr; refine yac (zs (zq (yab hE4) (zq zG (zq (zm (.bool (decide (0 < j)))) ?_)))); by_cases hp : 0 < j
  · replace h := h.1 hp; refine rl_q (yae rfl (yaj rfl (congrArg Value.bool (decide_eq_true hp)))) rfl rfl (yab hE0) (rl_q (yae rfl (yaj rfl (congrArg Value.bool (decide_eq_true hp)))) rfl rfl (yab hE4) ?_); obtain ⟨hx, h⟩ := h; refine rl_q (yae rfl (yaj rfl (congrArg Value.bool (decide_eq_true hp)))) rfl rfl (zi underlying26 yag (yaG (hS.rdo 0 rfl) hx)) (rl_q (yae rfl (yaj rfl (congrArg Value.bool (decide_eq_true hp)))) rfl rfl (yah (v := (ii (gi d j.toNat))) rfl underlying3 rfl (rd_1 (hS.rdo 0 rfl) hx (fun q => yaI q) rfl)) ?_); refine rl_q (yae rfl (yaj rfl (congrArg Value.bool (decide_eq_true hp)))) rfl rfl zE (zq (yaB (v := (.bool (decide ((gi d j.toNat) = 0)))) (congrArg Value.bool (decide_eq_true hp)) rfl) (yaa ?_)); by_cases hp2 : (gi d j.toNat) = 0
    · replace h := h.1 hp2; refine zc hp2 (yaf (yak (zr (zq (yab hE4) ?_)))); obtain ⟨hi2, h⟩ := h; refine zq (zS hi2) (zq (za (ii (j - 1))) (yaa (yai ?_))); obtain ⟨mq, hlt, h⟩ := h; exact again mq _ _ _ ⟨_, h, rfl, hE0, hE3, rfl, (hS.sel [0] (by decide))⟩ hlt
    · replace h := h.2 hp2; refine zd hp2 (yav rfl (yac (zs (zq (yab hE4) (zq zE (yaa ?_)))))); by_cases hp3 : j = 0
      · replace h := h.1 hp3; exact zc hp3 (zs (zq (za (.bool (false))) (yaa (yal rfl rfl ⟨_, _, rfl, (hS.sel [0] (by decide)), h⟩))))
      · replace h := h.2 hp3; refine zd hp3 (yaf (zs (zq (yab hE0) (zq (yab hE4) (zq (zi underlying26 yag (yaG (hS.rdo 0 rfl) hx)) (zq (yah (v := (ii (gi d j.toNat))) rfl underlying3 rfl (rd_1 (hS.rdo 0 rfl) hx (fun q => yaI q) rfl)) ?_)))))); obtain ⟨hi3, h⟩ := h; refine zq (zS hi3) (zq (za (ii ((gi d j.toNat) - 1))) (yaa (zs (zq (yab hE0) (zq (yab hE4) (zq (zi underlying26 yag (yaG (hS.rdo 0 rfl) hx)) (zo (zt (ii 0) yag (hS.wr 0 rfl rfl hx) ?_)))))))); intro w3 e1; replace hS := hS.st 0 rfl rfl hx (x := 0) rfl e1; clear e1; refine zb (yaa (zs (zq (yab hE0) (zq (yab hE4) ?_)))); obtain ⟨hi4, h⟩ := h; refine zq (zS hi4) ?_; obtain ⟨hx2, h⟩ := h; refine zq (zi underlying26 yag (yaG (hS.rdo 0 rfl) hx2)) (zq (yah (v := (ii (gi (d.set j.toNat 0) (j - 1).toNat))) rfl underlying3 rfl (rd_1 (hS.rdo 0 rfl) hx2 (fun q => yaI q) rfl)) ?_); obtain ⟨hi5, h⟩ := h; refine zq (zA hi5) (zq (zi underlying26 yag (yaG (hS.rdo 0 rfl) hx2)) (zo (zt (ii ((gi (d.set j.toNat 0) (j - 1).toNat) + 1)) yag (hS.wr 0 rfl rfl hx2) ?_))); intro w4 e1; replace hS := hS.st 0 rfl rfl hx2 (x := (gi (d.set j.toNat 0) (j - 1).toNat) + 1) rfl e1; clear e1; refine zb (yaa (zs (zq (yab hE0) (zq (yab (v := (ii (((d.length : Nat) : Int) - 1))) hE3) (zq (zm (ii ((gi d j.toNat) - 1))) ?_))))); obtain ⟨hx3, h⟩ := h; refine zq (zi underlying26 yag (yaG (hS.rdo 0 rfl) hx3)) (zo (zt (ii ((gi d j.toNat) - 1)) yag (hS.wr 0 rfl rfl hx3) ?_)); intro w5 e1; replace hS := hS.st 0 rfl rfl hx3 (x := (gi d j.toNat) - 1) rfl e1; clear e1; exact zb (yaa (zs (zq (za (.bool (true))) (yaa (yal rfl rfl ⟨_, _, rfl, (hS.sel [0] (by decide)), h⟩)))))
  · replace h := h.2 hp; refine rl_p (yad rfl (yaj rfl (congrArg Value.bool (decide_eq_false hp))) rfl) rfl (rl_p (yad rfl (yaj rfl (congrArg Value.bool (decide_eq_false hp))) rfl) rfl (rl_p (yad rfl (yaj rfl (congrArg Value.bool (decide_eq_false hp))) rfl) rfl (rl_p (yad rfl (yaj rfl (congrArg Value.bool (decide_eq_false hp))) rfl) rfl (rl_p (yad rfl (yaj rfl (congrArg Value.bool (decide_eq_false hp))) rfl) rfl (zq (yaz (v := (.bool (false))) (congrArg Value.bool (decide_eq_false hp)) rfl) (yaa (yay rfl (yav rfl (yac (zs (zq (yab hE4) (zq zE (yaa ?_))))))))))))); by_cases hp4 : j = 0
    · replace h := h.1 hp4; exact zc hp4 (zs (zq (za (.bool (false))) (yaa (yal rfl rfl ⟨_, _, rfl, (hS.sel [0] (by decide)), h⟩))))
    · replace h := h.2 hp4; refine zd hp4 (yaf (zs (zq (yab hE0) (zq (yab hE4) ?_)))); obtain ⟨hx4, h⟩ := h; refine zq (zi underlying26 yag (yaG (hS.rdo 0 rfl) hx4)) (zq (yah (v := (ii (gi d j.toNat))) rfl underlying3 rfl (rd_1 (hS.rdo 0 rfl) hx4 (fun q => yaI q) rfl)) ?_); obtain ⟨hi6, h⟩ := h; refine zq (zS hi6) (zq (za (ii ((gi d j.toNat) - 1))) (yaa (zs (zq (yab hE0) (zq (yab hE4) (zq (zi underlying26 yag (yaG (hS.rdo 0 rfl) hx4)) (zo (zt (ii 0) yag (hS.wr 0 rfl rfl hx4) ?_)))))))); intro w6 e1; replace hS := hS.st 0 rfl rfl hx4 (x := 0) rfl e1; clear e1; refine zb (yaa (zs (zq (yab hE0) (zq (yab hE4) ?_)))); obtain ⟨hi7, h⟩ := h; refine zq (zS hi7) ?_; obtain ⟨hx5, h⟩ := h; refine zq (zi underlying26 yag (yaG (hS.rdo 0 rfl) hx5)) (zq (yah (v := (ii (gi (d.set j.toNat 0) (j - 1).toNat))) rfl underlying3 rfl (rd_1 (hS.rdo 0 rfl) hx5 (fun q => yaI q) rfl)) ?_); obtain ⟨hi8, h⟩ := h; refine zq (zA hi8) (zq (zi underlying26 yag (yaG (hS.rdo 0 rfl) hx5)) (zo (zt (ii ((gi (d.set j.toNat 0) (j - 1).toNat) + 1)) yag (hS.wr 0 rfl rfl hx5) ?_))); intro w7 e1; replace hS := hS.st 0 rfl rfl hx5 (x := (gi (d.set j.toNat 0) (j - 1).toNat) + 1) rfl e1; clear e1; refine zb (yaa (zs (zq (yab hE0) (zq (yab (v := (ii (((d.length : Nat) : Int) - 1))) hE3) (zq (zm (ii ((gi d j.toNat) - 1))) ?_))))); obtain ⟨hx6, h⟩ := h; refine zq (zi underlying26 yag (yaG (hS.rdo 0 rfl) hx6)) (zo (zt (ii ((gi d j.toNat) - 1)) yag (hS.wr 0 rfl rfl hx6) ?_)); intro w8 e1; replace hS := hS.st 0 rfl rfl hx6 (x := (gi d j.toNat) - 1) rfl e1; clear e1; exact zb (yaa (zs (zq (za (.bool (true))) (yaa (yal rfl rfl ⟨_, _, rfl, (hS.sel [0] (by decide)), h⟩)))))
def yc3 (d : List Int) (R : (List Int) → Bool → Int → Prop) : Prop :=
ybC d (fun r r2 =>
((r2 = 0 →
ybn d (fun r3 =>
((r3 < 0 →
R ([]) false 15) ∧
(¬ (r3 < 0) →
((1048576 < r →
R ([]) false 11) ∧
(¬ (1048576 < r) →
ybg d (fun r4 =>
yc9 r4 (fun r5 y =>
((r5 = true →
R y true 0) ∧
(¬ (r5 = true) →
R ([]) false 0)))))))))) ∧
(¬ (r2 = 0) →
R ([]) false r2)))
theorem pok_chips_Next {O : Nat → Prop} {w : World} {d Ad ld cd} {R : (List Int) → Bool → Int → Prop} (h : yc3 d R) (hO : ∀ k, O k → k < w.heap.size) (hA0 : (FP.sl cI Ad ld cd d).P O w) :
    Calls Tryz.prog 89 #[(.slice Ad ld cd)] w fun e w' => ∃ r6 r7 r8 Ar2 lr2 cr2, e = .returned (.tuple #[(.slice Ar2 lr2 cr2), (.bool (r7)), (ii r8)]) ∧ Sep w no O w' (rl [Res.own cI 3 Ar2 lr2 cr2 r6]) ∧ R r6 r7 r8 := by
  unfold yc3 at h; have hS : Sep w no O w (rl [Res.ro (FP.sl cI Ad ld cd d)]) := Sep.startl hO [(FP.sl cI Ad ld cd d)] ⟨hA0, trivial⟩; refine yar (l := [(.slice Ad ld cd)]) func89 rfl ntmps89 (Nat.le_of_ble_eq_true rfl) (zs (zq (za (.slice none 0 0)) (zq (za (.bool (false))) (zq (za (ii 0)) (yaa (zs (zq (zm (.slice Ad ld cd)) (zn (yan rfl (am1 rfl) yib ((ydF h (yaF _) (hS.rdr 0 rfl)).mono ?_)))))))))); rintro _ w2 ⟨r, r2, rfl, hC, h⟩; replace hS := hS.pur hC.pure; clear hC; refine ⟨_, rfl, ?_⟩; refine zb (zq (zm (.tuple #[(ii r), (ii r2)])) (zq (zx (ii r)) (zq (zx (ii r2)) (zq (za (ii r)) (zq (za (ii r2)) (yaa (yac (yak (zs (zq (zm (ii r2)) (zq zN (zq (za (.bool (!(decide (r2 = 0))))) (yaa ?_))))))))))))); by_cases hp : r2 = 0
  · replace h := h.1 hp; refine ze hp (zs (zq (zm (.slice Ad ld cd)) (zn (yan rfl (am1 rfl) enter_73 ((yfm h (yaF _) (hS.rdr 0 rfl)).mono ?_))))); rintro _ w3 ⟨r3, rfl, hC, h⟩; replace hS := hS.pur hC.pure; clear hC; refine ⟨_, rfl, ?_⟩; refine zb (zq zL (zq (za (.bool (decide (r3 < 0)))) (yaa ?_))); by_cases hp2 : r3 < 0
    · replace h := h.1 hp2; refine zc hp2 (zs (zq (za (.slice none 0 0)) (zq (za (.bool (false))) (zq (za (ii 15)) (yaa ?_))))); replace hS := hS.nil 1 rfl cI 3; exact yd7 rfl rfl rfl rfl ⟨_, _, _, _, _, _, rfl, (hS.sel [1] (by decide)), h⟩
    · replace h := h.2 hp2; refine zd hp2 (zs (zq (zm (ii r)) (zq zG (zq (za (.bool (decide (1048576 < r)))) (yaa ?_))))); by_cases hp3 : 1048576 < r
      · replace h := h.1 hp3; refine zc hp3 (zs (zq (za (.slice none 0 0)) (zq (za (.bool (false))) (zq (za (ii 11)) (yaa ?_))))); replace hS := hS.nil 1 rfl cI 3; exact yd7 rfl rfl rfl rfl ⟨_, _, _, _, _, _, rfl, (hS.sel [1] (by decide)), h⟩
      · replace h := h.2 hp3; refine zd hp3 (yaf (yai (zs (zq (zm (.slice Ad ld cd)) (zn (yan rfl (am1 rfl) enter_97 ((yeU h (yaF _) (hS.rdr 0 rfl)).mono ?_))))))); rintro _ w4 ⟨r4, Ar, lr, cr, rfl, hC, h⟩; replace hS := hS.call1 (hC.widen (ydi (ya1 (fI .i64) _ _ _ _ _) yeb) hS.blt) 1 0 rfl; clear hC; refine ⟨_, rfl, ?_⟩; refine zb (zq (za (.slice Ar lr cr)) (yaa (yac (zs (zq (zm (.slice Ar lr cr)) ?_))))); have hB := hS.lend (asc [(1, 0)]) [1] (by decide) ⟨.inl (yd2 rfl), trivial⟩; refine zn (yhp (vs := #[(.slice Ar lr cr)]) (us := #[]) rfl (am1 rfl) enter_130 ((ydk (by simp) (pok_chips_step h hB)).mono ?_)); rintro _ w5 ⟨r5, y, rfl, hC, h⟩; replace hS := hS.back (asc [(1, 0)]) (yg2 (by decide)) hC; clear hC hB; refine ⟨_, rfl, ?_⟩; refine zb (zq (ydA rfl) (yaa ?_)); by_cases hp4 : r5 = true
        · replace h := h.1 hp4; exact yay (congrArg Value.bool (congrArg Bool.not hp4)) (yaf (zs (zq (zm (.slice Ar lr cr)) (zq (za (.slice Ar lr cr)) (zq (za (.bool (true))) (zq (za (ii 0)) (yaa (yd7 rfl rfl rfl rfl ⟨_, _, _, _, _, _, rfl, (hS.sel [1] (by decide)), h⟩))))))))
        · replace h := h.2 hp4; refine yau (congrArg Value.bool (congrArg Bool.not (Bool.eq_false_iff.2 hp4))) (zs (zq (za (.slice none 0 0)) (zq (za (.bool (false))) (zq (za (ii 0)) (yaa ?_))))); replace hS := hS.nil 2 rfl cI 3; exact yd7 rfl rfl rfl rfl ⟨_, _, _, _, _, _, rfl, (hS.sel [2] (by decide)), h⟩
  · replace h := h.2 hp; refine zf hp (zs (zq (zm (ii r2)) (zq (za (.slice none 0 0)) (zq (za (.bool (false))) (zq (za (ii r2)) (yaa ?_)))))); replace hS := hS.nil 1 rfl cI 3; exact yd7 rfl rfl rfl rfl ⟨_, _, _, _, _, _, rfl, (hS.sel [1] (by decide)), h⟩
def yb6 (g : Int) (g2 : List E3) (l : List (List Int)) (R : Int → Prop) : Prop :=
ydK g g2 (fun r r2 =>
((r2 = 0 →
((r = true →
(∃ I2 : Nat → Int → Prop, (∃ m0, I2 m0 0) ∧ ∀ m2 v, I2 m2 v → 
((v < ((l.length : Nat) : Int) →
((0 ≤ v ∧ v < ((l.length : Nat) : Int)) ∧
ych (gx l v.toNat) g (fun r3 =>
((r3 = 0 →
(In64 (v + 1) ∧
∃ m3, m3 < m2 ∧ I2 m3 (v + 1))) ∧
(¬ (r3 = 0) →
R r3))))) ∧
(¬ (v < ((l.length : Nat) : Int)) →
R 0)))) ∧
(¬ (r = true) →
R 13))) ∧
(¬ (r2 = 0) →
R r2)))
theorem yex {O : Nat → Prop} {w : World} {g g2 l Ag lg cg Al ll cl} {R : Int → Prop} (h : yb6 g g2 l R) (hO : ∀ k, O k → k < w.heap.size) (hA0 : (FP.sl c3 Ag lg cg g2).P O w) (hA1 : (FP.sl (cL cI) Al ll cl l).P O w) :
    Calls Tryz.prog 43 #[(.agg #[(ii g), (.slice Ag lg cg)]), (.slice Al ll cl)] w fun e w' => ∃ r4, e = .returned (ii r4) ∧ Sep w no O w' (rl []) ∧ R r4 := by
  unfold yb6 at h; have hS : Sep w no O w (rl [Res.ro (FP.sl c3 Ag lg cg g2), Res.ro (FP.sl (cL cI) Al ll cl l)]) := Sep.startl hO [(FP.sl c3 Ag lg cg g2), (FP.sl (cL cI) Al ll cl l)] ⟨hA0, hA1, trivial⟩; refine yar (l := [(.agg #[(ii g), (.slice Ag lg cg)]), (.slice Al ll cl)]) func43 rfl ntmps43 (Nat.le_of_ble_eq_true rfl) (zs (zn (ybq (v := (.agg #[(ii g), (.slice Ag lg cg)])) rfl ?_))); intro g3 w2 hN; replace hS : Sep w no O w2 (stl _ 2 (Res.box 24 g3 [(ii g), (.slice Ag lg cg)])) := hS.new 2 rfl hN; clear hN; refine zb (zq (za (ii 0)) (yaa (zs (zq (yas (vs := [(ii g), (.slice Ag lg cg)]) rfl underlying24 rfl yaq ⟨Row.cell (hS.bx 2 rfl) (i := 0) rfl, Row.cell (hS.bx 2 rfl) (i := 1) rfl, trivial⟩) (zn (yan rfl (am1 rfl) enter_87 ((yfu h (yaF _) (hS.rdr 0 rfl)).mono ?_))))))); rintro _ w3 ⟨r, r2, rfl, hC, h⟩; replace hS := hS.pur hC.pure; clear hC; refine ⟨_, rfl, ?_⟩; refine zb (zq (zm (.tuple #[(.bool (r)), (ii r2)])) (zq (zx (.bool (r))) (zq (zx (ii r2)) (zq (za (.bool (r))) (zq (za (ii r2)) (yaa (yac (zs (zq (zm (ii r2)) (zq zN (yaa ?_))))))))))); by_cases hp : r2 = 0
  · replace h := h.1 hp; refine ze hp (yaf (yac (zs (zq (zm (.bool (r))) (zq (ydA rfl) (yaa ?_)))))); by_cases hp2 : r = true
    · replace h := h.1 hp2; refine yay (congrArg Value.bool (congrArg Bool.not hp2)) (yaf (yac (zs (zq (zm (.slice Al ll cl)) (zq (yaO (n := l.length) rfl underlying67 (yaL (hS.rdr 1 rfl))) (zq (zm (ii 0)) (yaa (yak ?_)))))))); obtain ⟨I2, ⟨m0, h0⟩, hr⟩ := h; refine yaw (fun m E ds w' => ∃ v, I2 m v ∧ ds = [] ∧ E 2 = (Value.pointer (some (⟨g3, 0, none⟩ : Addr))) ∧ E 20 = (Value.slice Al ll cl) ∧ E 21 = (ii ((l.length : Nat) : Int)) ∧ E 22 = (ii v) ∧ Sep w no O w' (rl [Res.box 24 g3 [(ii g), (.slice Ag lg cg)], Res.ro (FP.sl c3 Ag lg cg g2), Res.ro (FP.sl (cL cI) Al ll cl l)])) m0 ⟨_, h0, rfl, rfl, rfl, rfl, rfl, (hS.sel [2, 0, 1] (by decide))⟩ ?_; clear h0 hS; rintro m2 E ds w4 ⟨v, h, rfl, hE2, hE20, hE21, hE22, hS⟩ again; replace h := hr m2 v h; clear hr; refine zs (zq (yaJ hE22 hE21) (yaa (yac ?_))); by_cases hp3 : v < ((l.length : Nat) : Int)
      · replace h := h.1 hp3; refine zc hp3 (yaf (yac (yak (zs ?_)))); obtain ⟨hx, h⟩ := h; refine zq (yao hE20 hE22 underlying67 ybu (yaG (hS.rdr 2 rfl) hx)) ?_; obtain ⟨A, l2, c, hc, hq⟩ := hS.el 2 rfl hx 3 4 rfl rfl (by decide); replace hS := hq; clear hq; refine zq (yah (v := (.slice A l2 c)) rfl underlying26 rfl (hS.clr 4 rfl)) (zq (za (.slice A l2 c)) (yaa (zs (zq (zm (.slice A l2 c)) (zq (yam hE2 underlying24 rfl yag) (zq (zl underlying3 (Row.cell (hS.bx 0 rfl) (i := 0) rfl)) (zn (yan rfl (am2 rfl rfl) yhN ((yfR h (yaF _) (hS.rdr 3 rfl)).mono ?_))))))))); rintro _ w5 ⟨r3, rfl, hC, h⟩; replace hS := hS.pur hC.pure; clear hC; refine ⟨_, rfl, ?_⟩; refine zb (zq (za (ii r3)) (yaa (zs (zq (zm (ii r3)) (zq zN (yaa ?_)))))); by_cases hp4 : r3 = 0
        · replace h := h.1 hp4; refine ze hp4 (yaf (yai (zr ?_))); obtain ⟨hi, h⟩ := h; refine zq (yaC hE22 rfl hi) (zq (zm (ii (v + 1))) (yaa ?_)); obtain ⟨mq, hlt, h⟩ := h; exact again mq _ _ _ ⟨_, h, rfl, hE2, hE20, hE21, rfl, (hS.sel [0, 1, 2] (by decide))⟩ hlt
        · replace h := h.2 hp4; exact zf hp4 (zs (zq (zm (ii r3)) (zq (za (ii r3)) (yaa (yal rfl rfl ⟨_, rfl, (hS.sel [] (by decide)), h⟩)))))
      · replace h := h.2 hp3; exact zd hp3 (yav rfl (zs (zq (za (ii 0)) (yaa (yal rfl rfl ⟨_, rfl, (hS.sel [] (by decide)), h⟩)))))
    · replace h := h.2 hp2; exact yau (congrArg Value.bool (congrArg Bool.not (Bool.eq_false_iff.2 hp2))) (zs (zq (za (ii 13)) (yaa (yal rfl rfl ⟨_, rfl, (hS.sel [] (by decide)), h⟩))))
  · replace h := h.2 hp; exact zf hp (zs (zq (zm (ii r2)) (zq (za (ii r2)) (yaa (yal rfl rfl ⟨_, rfl, (hS.sel [] (by decide)), h⟩)))))
def ydP (e2 : Int) (R : Int → Prop) : Prop :=
((e2 = 2 →
R 11) ∧
(¬ (e2 = 2) →
R e2))
theorem ygb {O : Nat → Prop} {w : World} {e2} {R : Int → Prop} (h : ydP e2 R) (hO : ∀ k, O k → k < w.heap.size) :
    Calls Tryz.prog 46 #[(ii e2)] w fun e w' => ∃ r, e = .returned (ii r) ∧ Sep w no O w' (rl []) ∧ R r := by
  unfold ydP at h; have hS : Sep w no O w (rl []) := Sep.start w hO; refine yar (l := [(ii e2)]) func46 rfl ntmps46 (Nat.le_of_ble_eq_true rfl) (zs (zq (za (ii 0)) (yaa (yac (zs (zq (zm (ii e2)) (zq zE (yaa ?_)))))))); by_cases hp : e2 = 2
  · replace h := h.1 hp; exact zc hp (zs (zq (za (ii 11)) (yaa (yal rfl rfl ⟨_, rfl, (hS.sel [] (by decide)), h⟩))))
  · replace h := h.2 hp; exact zd hp (yaf (zs (zq (zm (ii e2)) (zq (za (ii e2)) (yaa (yal rfl rfl ⟨_, rfl, (hS.sel [] (by decide)), h⟩))))))
def yeP (g : Int) (g2 : List E3) (R0 : Int → Prop) (R1 : Int → (List E3) → Int → (List (List Int × Int)) → Int → Prop) : Prop :=
ybZ g g2 (fun r r2 r3 =>
((r3 = 0 →
ycK r r2 (fun r4 r5 =>
R1 g g2 r4 ([]) r5)) ∧
(¬ (r3 = 0) →
R0 r3)))
theorem pok_rank_of {O : Nat → Prop} {w : World} {g g2 Ag lg cg} {R0 : Int → Prop} {R1 : Int → (List E3) → Int → (List (List Int × Int)) → Int → Prop} (h : yeP g g2 R0 R1) (hO : ∀ k, O k → k < w.heap.size) (hA0 : (FP.sl c3 Ag lg cg g2).P O w) :
    Calls Tryz.prog 82 #[(.agg #[(ii g), (.slice Ag lg cg)])] w fun e w' => (∃ r6, e = .returned (.tuple #[(.pointer none), (ii r6)]) ∧ Sep w no O w' (rl []) ∧ R0 r6) ∨ (∃ f f2 f3 m2 r7 gr Af lf cf gm, e = .returned (.tuple #[(.pointer (some (⟨gr, 0, none⟩ : Addr))), (ii r7)]) ∧ Sep w no O w' (rl [Res.box 162 gr [(ii f), (.slice Af lf cf), (ii f3), (Value.map (some gm))], Res.ro (FP.sl c3 Af lf cf f2), Res.obj gm (mapO (.int .i64) m2)]) ∧ R1 f f2 f3 m2 r7) := by
  unfold yeP at h; have hS : Sep w no O w (rl [Res.ro (FP.sl c3 Ag lg cg g2)]) := Sep.startl hO [(FP.sl c3 Ag lg cg g2)] ⟨hA0, trivial⟩; refine yar (l := [(.agg #[(ii g), (.slice Ag lg cg)])]) func82 rfl ntmps82 (Nat.le_of_ble_eq_true rfl) (zs (zn (ybq (v := (.agg #[(ii g), (.slice Ag lg cg)])) rfl ?_))); intro g3 w2 hN; replace hS : Sep w no O w2 (stl _ 1 (Res.box 24 g3 [(ii g), (.slice Ag lg cg)])) := hS.new 1 rfl hN; clear hN; refine zb (zq (za (.pointer none)) (zq (za (ii 0)) (yaa (zs (zq (yas (vs := [(ii g), (.slice Ag lg cg)]) rfl underlying24 rfl yaq ⟨Row.cell (hS.bx 1 rfl) (i := 0) rfl, Row.cell (hS.bx 1 rfl) (i := 1) rfl, trivial⟩) (zn (yan rfl (am1 rfl) enter_32 ((ygs h (yaF _) (hS.rdr 0 rfl)).mono ?_)))))))); rintro _ w3 ⟨r, r2, r3, Ar, lr, cr, rfl, hC, h⟩; replace hS := hS.call1 (hC.widen (ydi (ya1 (fP (fI .i64) (fP (fI .i64) (fI .i64))) _ _ _ _ _) yeb) hS.blt) 2 0 rfl; clear hC; refine ⟨_, rfl, ?_⟩; refine zb (zq (zm (.tuple #[(.agg #[(ii r), (.slice Ar lr cr)]), (ii r3)])) (zq (zx (.agg #[(ii r), (.slice Ar lr cr)])) (zq (zx (ii r3)) (zn (ya7 yaq ?_))))); intro g4 w4 hN; replace hS : Sep w no O w4 (stl _ 3 (Res.box 24 g4 [(ii 0), (.slice none 0 0)])) := hS.new 3 rfl hN; clear hN; refine zb (zo (ybF (b := g4) (o := 0) (cells := #[(ii r), (.slice Ar lr cr)]) rfl rfl yaq rfl rfl (ybc (hS.bx 3 rfl) (Nat.le_of_ble_eq_true rfl)) ?_)); intro w5 e1; replace hS := hS.bstn 3 rfl 0 [(ii r), (.slice Ar lr cr)] e1; clear e1; refine zb (zq (za (ii r3)) (yaa (yac (zs (zq (zm (ii r3)) (zq zN (yaa ?_))))))); by_cases hp : r3 = 0
  · replace h := h.1 hp; refine ze hp (yaf (zs (zq (yas (vs := [(ii r), (.slice Ar lr cr)]) rfl underlying24 rfl yaq ⟨Row.cell (hS.bx 3 rfl) (i := 0) rfl, Row.cell (hS.bx 3 rfl) (i := 1) rfl, trivial⟩) (zn (yan rfl (am1 rfl) enter_33 ((yir h (yaF _) (hS.rdo 2 rfl)).mono ?_)))))); rintro _ w6 ⟨r4, r5, rfl, hC, h⟩; replace hS := hS.pur hC.pure; clear hC; refine ⟨_, rfl, ?_⟩; refine zb (zq (zm (.tuple #[(ii r4), (ii r5)])) (zq (zx (ii r4)) (zq (zx (ii r5)) (zq (za (ii r4)) (zq (za (ii r5)) (yaa (zs (zq (yas (vs := [(ii g), (.slice Ag lg cg)]) rfl underlying24 rfl yaq ⟨Row.cell (hS.bx 1 rfl) (i := 0) rfl, Row.cell (hS.bx 1 rfl) (i := 1) rfl, trivial⟩) (zq (zm (ii r4)) (zn (n_mkmap (vE := (.int .i64)) rfl ?_))))))))))); intro g5 w7 e1 e2; replace hS : Sep w no O w7 (stl _ 4 (Res.obj g5 (mapO (.int .i64) ([])))) := hS.newm 4 rfl e1 e2; clear e1 e2; refine zb (zn (ybw (l := [(0, (.agg #[(ii g), (.slice Ag lg cg)])), (1, (ii r4)), (2, (Value.map (some g5)))]) (cells := [(ii g), (.slice Ag lg cg), (ii r4), (Value.map (some g5))]) (places := [(0, 2), (2, 1), (3, 1)]) (bp3 rfl rfl rfl) underlying162 info_162 (by kernel_rfl) rfl ?_)); refine zb (zn (ybq (v := (.agg #[(ii g), (.slice Ag lg cg), (ii r4), (Value.map (some g5))])) rfl ?_)); intro g6 w8 hN; replace hS : Sep w no O w8 (stl _ 5 (Res.box 162 g6 [(ii g), (.slice Ag lg cg), (ii r4), (Value.map (some g5))])) := hS.new 5 rfl hN; clear hN; exact zb (zq (zm (ii r5)) (zq (za (.pointer (some (⟨g6, 0, none⟩ : Addr)))) (zq (za (ii r5)) (yaa (yaR rfl rfl rfl (.inr ⟨_, _, _, _, _, _, _, _, _, _, rfl, (hS.sel [5, 0, 4] (by decide)), h⟩))))))
  · replace h := h.2 hp; exact zf hp (zs (zq (zm (ii r3)) (zq (za (.pointer none)) (zq (za (ii r3)) (yaa (yaR rfl rfl rfl (.inl ⟨_, rfl, (hS.sel [] (by decide)), h⟩)))))))
def yaW (Rec : Int → (List E3) → Int → (List (List Int × Int)) → (List Int) → (Int → Int → (List (List Int × Int)) → Prop) → Prop) (d : Int) (d2 : List E3) (d3 : Int) (d4 : List (List Int × Int)) (i : List Int) (R : Int → Int → (List (List Int × Int)) → Prop) : Prop :=
ybC i (fun r r2 =>
((r2 = 0 →
((r < 0 →
R (-1) 0 d4) ∧
(¬ (r < 0) →
(In64 (2 * d3) ∧
(In64 ((2 * d3) - 2) ∧
((((2 * d3) - 2) < r →
(In64 (r - d3) ∧
R (r - d3) 0 d4)) ∧
(¬ (((2 * d3) - 2) < r) →
yaU d d2 i (fun r3 r4 r5 r6 =>
((r6 = 0 →
((r3 = true →
(0 < r4.length ∧
(KOk 12 d4 ∧
yit 12 (cpy (List.replicate 12 (0 : Int)) r4) ∧
(((mget d4 (cpy (List.replicate 12 (0 : Int)) r4)).isSome = true →
R ((mget d4 (cpy (List.replicate 12 (0 : Int)) r4)).getD (0 : Int)) 0 d4) ∧
(¬ ((mget d4 (cpy (List.replicate 12 (0 : Int)) r4)).isSome = true) →
((((d4.length : Nat) : Int) = 16384 →
R 0 12 d4) ∧
(¬ (((d4.length : Nat) : Int) = 16384) →
(∃ I2 : Nat → Int → Int → (List (List Int × Int)) → (List Int) → Prop, (∃ m0, I2 m0 r 0 d4 r4) ∧ ∀ m2 v v2 d5 v3, I2 m2 v v2 d5 v3 → 
((v2 < ((r4.length : Nat) : Int) →
((0 ≤ v2 ∧ v2 < ((v3.length : Nat) : Int)) ∧
(In64 ((gi v3 v2.toNat) - 1) ∧
Rec d d2 d3 d5 (v3.set v2.toNat ((gi v3 v2.toNat) - 1)) (fun r7 r8 y =>
((0 ≤ v2 ∧ v2 < (((v3.set v2.toNat ((gi v3 v2.toNat) - 1)).length : Nat) : Int)) ∧
(In64 ((gi (v3.set v2.toNat ((gi v3 v2.toNat) - 1)) v2.toNat) + 1) ∧
((r8 = 0 →
(In64 (r7 + 1) ∧
(In64 (v2 + 1) ∧
∃ m3, m3 < m2 ∧ I2 m3 (mnF v (r7 + 1)) (v2 + 1) y ((v3.set v2.toNat ((gi v3 v2.toNat) - 1)).set v2.toNat ((gi (v3.set v2.toNat ((gi v3 v2.toNat) - 1)) v2.toNat) + 1))))) ∧
(¬ (r8 = 0) →
R 0 r8 y)))))))) ∧
(¬ (v2 < ((r4.length : Nat) : Int)) →
(KOk 12 d5 ∧
R v 0 (mput d5 (cpy (List.replicate 12 (0 : Int)) r4) v)))))))))))) ∧
(¬ (r3 = true) →
R (-1) 0 d4))) ∧
(¬ (r6 = 0) →
R 0 r6 d4)))))))))) ∧
(¬ (r2 = 0) →
R 0 r2 d4)))
def ya6 : Nat → Int → (List E3) → Int → (List (List Int × Int)) → (List Int) → (Int → Int → (List (List Int × Int)) → Prop) → Prop
  | 0 => fun _ _ _ _ _ _ => False
  | nf + 1 => fun d d2 d3 d4 i R => yaW (ya6 nf) d d2 d3 d4 i R
theorem yeY {Rec : Int → (List E3) → Int → (List (List Int × Int)) → (List Int) → (Int → Int → (List (List Int × Int)) → Prop) → Prop} (hrec : ∀ {S O : Nat → Prop} {w : World} {d d2 d3 d4 i gc Ad ld cd gm Ai li ci} {R : Int → Int → (List (List Int × Int)) → Prop} (h : Rec d d2 d3 d4 i R) (hS : Sep w S O w (rl [Res.box 162 gc [(Value.int .i64 d), (Value.slice Ad ld cd), (Value.int .i64 d3), (Value.map (some gm))], Res.ro (FP.sl c3 Ad ld cd d2), Res.obj gm (mapO (Value.int .i64) d4), Res.own cI 3 Ai li ci i])), Calls Tryz.prog 83 #[(Value.pointer (some (⟨gc, 0, none⟩ : Addr))), (Value.slice Ai li ci)] w fun e w' => ∃ r9 r10 z, e = .returned (Value.tuple #[(Value.int .i64 r9), (Value.int .i64 r10)]) ∧ Sep w S O w' (rl [Res.box 162 gc [(Value.int .i64 d), (Value.slice Ad ld cd), (Value.int .i64 d3), (Value.map (some gm))], Res.obj gm (mapO (Value.int .i64) z), Res.own cI 3 Ai li ci i]) ∧ R r9 r10 z) {S O : Nat → Prop} {w : World} {d d2 d3 d4 i gc Ad ld cd gm Ai li ci} {R : Int → Int → (List (List Int × Int)) → Prop} (h : yaW Rec d d2 d3 d4 i R) (hS : Sep w S O w (rl [Res.box 162 gc [(Value.int .i64 d), (Value.slice Ad ld cd), (Value.int .i64 d3), (Value.map (some gm))], Res.ro (FP.sl c3 Ad ld cd d2), Res.obj gm (mapO (Value.int .i64) d4), Res.own cI 3 Ai li ci i])) :
    Calls Tryz.prog 83 #[(.pointer (some (⟨gc, 0, none⟩ : Addr))), (.slice Ai li ci)] w fun e w' => ∃ r9 r10 z, e = .returned (.tuple #[(ii r9), (ii r10)]) ∧ Sep w S O w' (rl [Res.box 162 gc [(ii d), (.slice Ad ld cd), (ii d3), (Value.map (some gm))], Res.obj gm (mapO (.int .i64) z), Res.own cI 3 Ai li ci i]) ∧ R r9 r10 z := by
  unfold yaW at h; refine yar (l := [(.pointer (some (⟨gc, 0, none⟩ : Addr))), (.slice Ai li ci)]) func83 rfl ntmps83 (Nat.le_of_ble_eq_true rfl) (zs (zq (za (ii 0)) (zq (za (ii 0)) (yaa (zs (zq (zm (.slice Ai li ci)) (zn (yan rfl (am1 rfl) yib ((ydF h (yaF _) (hS.rdo 3 rfl)).mono ?_))))))))); rintro _ w2 ⟨r, r2, rfl, hC, h⟩; replace hS := hS.pur hC.pure; clear hC; refine ⟨_, rfl, ?_⟩; refine zb (zq (zm (.tuple #[(ii r), (ii r2)])) (zq (zx (ii r)) (zq (zx (ii r2)) (zq (za (ii r)) (zq (za (ii r2)) (yaa (yac (zs (zq (zm (ii r2)) (zq zN (yaa ?_))))))))))); by_cases hp : r2 = 0
  · replace h := h.1 hp; refine ze hp (yaf (yac (zs (zq (zm (ii r)) (zq zL (yaa ?_)))))); by_cases hp2 : r < 0
    · replace h := h.1 hp2; exact zc hp2 (zs (zq (za (ii (-1))) (zq (za (ii 0)) (yaa (yaR rfl rfl rfl ⟨_, _, _, rfl, (hS.sel [0, 2, 3] (by decide)), h⟩)))))
    · replace h := h.2 hp2; refine zd hp2 (yaf (yac (zs (zq (zm (ii r)) (zq (zm (.pointer (some (⟨gc, 0, none⟩ : Addr)))) (zq (ybI rfl) (zq (yam rfl underlying162 rfl yag) (zq (zl underlying3 (Row.cell (hS.bx 0 rfl) (i := 2) rfl)) ?_)))))))); obtain ⟨hi, h⟩ := h; refine zq (v_mul rfl rfl hi) ?_; obtain ⟨hi2, h⟩ := h; refine zq (zS hi2) (zq zG (yaa ?_)); by_cases hp3 : ((2 * d3) - 2) < r
      · replace h := h.1 hp3; refine zc hp3 (zs (zq (zm (ii r)) (zq (zm (.pointer (some (⟨gc, 0, none⟩ : Addr)))) (zq (ybI rfl) (zq (yam rfl underlying162 rfl yag) (zq (zl underlying3 (Row.cell (hS.bx 0 rfl) (i := 2) rfl)) ?_)))))); obtain ⟨hi3, h⟩ := h; exact zq (zS hi3) (zq (za (ii (r - d3))) (zq (za (ii 0)) (yaa (yaR rfl rfl rfl ⟨_, _, _, rfl, (hS.sel [0, 2, 3] (by decide)), h⟩))))
      · replace h := h.2 hp3; refine zd hp3 (yaf (zs (zq (zm (.pointer (some (⟨gc, 0, none⟩ : Addr)))) (zq (ybI rfl) (zq (yam rfl underlying162 rfl yaq) (zq (yas (vs := [(ii d), (.slice Ad ld cd)]) rfl underlying24 rfl yaq ⟨Row.cell (hS.bx 0 rfl) (i := 0) rfl, Row.cell (hS.bx 0 rfl) (i := 1) rfl, trivial⟩) (zq (zm (.slice Ai li ci)) (zn (yan rfl (am2 rfl rfl) yhP ((ybE h (yaF _) (hS.rdr 1 rfl) (hS.rdo 3 rfl)).mono ?_)))))))))); rintro _ w3 ⟨r3, r4, r5, r6, Ar, lr, cr, Ar2, lr2, cr2, rfl, hC, h⟩; replace hS := hS.call2 (hC.widen (ydi (ya1 (fI .i64) _ _ _ _ _) (ydi (ya1 (fI .i64) _ _ _ _ _) yeb)) hS.blt) 4 0 5 1 rfl rfl (by decide) (by decide); clear hC; refine ⟨_, rfl, ?_⟩; refine zb (zq (zm (.tuple #[(.bool (r3)), (.slice Ar lr cr), (.slice Ar2 lr2 cr2), (ii r6)])) (zq (zx (.bool (r3))) (zq (zx (.slice Ar lr cr)) (zq (zx (.slice Ar2 lr2 cr2)) (zq (zx (ii r6)) (zq (za (.bool (r3))) (zq (za (.slice Ar lr cr)) (zq (za (.slice Ar2 lr2 cr2)) (zq (za (ii r6)) (yaa (yac (zs (zq (zm (ii r6)) (zq zN (yaa ?_))))))))))))))); by_cases hp4 : r6 = 0
        · replace h := h.1 hp4; refine ze hp4 (yaf (yac (zs (zq (zm (.bool (r3))) (zq (ydA rfl) (yaa ?_)))))); by_cases hp5 : r3 = true
          · replace h := h.1 hp5; refine yay (congrArg Value.bool (congrArg Bool.not hp5)) (yaf (zs (zn (ya7 yfW ?_)))); intro g w4 hN; replace hS := hS.made (n := 12) 6 rfl cI (ii 0) (0 : Int) (fun _ _ => rfl) (hN : New _ _ _ (Array.replicate 12 (ii 0)) 163) (by decide); clear hN; refine zb (yaa (zs (zq (v_slice_a rfl underlying163 yag) (zq (zm (.slice Ar lr cr)) ?_)))); obtain ⟨hx, h⟩ := h; refine zn (n_cpy rfl rfl underlying25 yag hS 6 rfl (hS.rdo 4 rfl) hx ?_); clear hS; intro w5 hS; refine zb (yaa (yac (yac (ya3 [0, 1, 2, 3, 4, 5, 6, 7, 8, 9, 10] st0 ya8 (by kernel_rfl) (by kernel_rfl) ?_)))); replace hS := hS.drew; refine zp (zm (.pointer (some (⟨gc, 0, none⟩ : Addr)))) (zp (ybI rfl) (zp (yam rfl underlying162 rfl yf3) (zp (zl underlying160 (Row.cell (hS.bx 0 rfl) (i := 3) rfl)) (zp (yas (vs := (cpy (List.replicate 12 (0 : Int)) r4).map (.int .i64)) rfl underlying163 rfl (yhW yfW (hS.rdo 6 rfl)) (ygW (hS.rdo 6 rfl))) ?_)))); obtain ⟨hx2, h⟩ := h; obtain ⟨hx3, h⟩ := h; refine rp_n rfl rfl rfl rfl (n_val (v_mget (vE := (.int .i64)) (x0 := (0 : Int)) (yhI) hx2 hx3 rfl rfl underlying160 yag (hS.mp 2 rfl)) ?_); refine zb (zp (zm (.tuple #[(ii ((mget d4 (cpy (List.replicate 12 (0 : Int)) r4)).getD (0 : Int))), (.bool ((mget d4 (cpy (List.replicate 12 (0 : Int)) r4)).isSome))])) (zp (zx (ii ((mget d4 (cpy (List.replicate 12 (0 : Int)) r4)).getD (0 : Int)))) (zp (zx (.bool ((mget d4 (cpy (List.replicate 12 (0 : Int)) r4)).isSome))) (zp (za (ii ((mget d4 (cpy (List.replicate 12 (0 : Int)) r4)).getD (0 : Int)))) (zp (za (.bool ((mget d4 (cpy (List.replicate 12 (0 : Int)) r4)).isSome))) (ybl (zs (zq (zm (.bool ((mget d4 (cpy (List.replicate 12 (0 : Int)) r4)).isSome))) (yaa ?_))))))))); by_cases hp6 : (mget d4 (cpy (List.replicate 12 (0 : Int)) r4)).isSome = true
            · replace h := h.1 hp6; exact yau (congrArg Value.bool hp6) (zs (zq (zm (ii ((mget d4 (cpy (List.replicate 12 (0 : Int)) r4)).getD (0 : Int)))) (zq (za (ii ((mget d4 (cpy (List.replicate 12 (0 : Int)) r4)).getD (0 : Int)))) (zq (za (ii 0)) (yaa (yaR rfl rfl rfl ⟨_, _, _, rfl, (hS.sel [0, 2, 3] (by decide)), h⟩))))))
            · replace h := h.2 hp6; refine yay (congrArg Value.bool (Bool.eq_false_iff.2 hp6)) (yaf (yac (zs (zq (zm (.pointer (some (⟨gc, 0, none⟩ : Addr)))) (zq (ybI rfl) (zq (yam rfl underlying162 rfl yf3) (zq (zl underlying160 (Row.cell (hS.bx 0 rfl) (i := 3) rfl)) (zq (v_mlen rfl underlying160 (hS.mp 2 rfl)) (zq zE (yaa ?_)))))))))); by_cases hp7 : ((d4.length : Nat) : Int) = 16384
              · replace h := h.1 hp7; exact zc hp7 (zs (zq (za (ii 0)) (zq (za (ii 12)) (yaa (yaR rfl rfl rfl ⟨_, _, _, rfl, (hS.sel [0, 2, 3] (by decide)), h⟩)))))
              · replace h := h.2 hp7; refine zd hp7 (yaf (zs (zq (zm (ii r)) (zq (za (ii r)) (yaa (yac (zs (zq (zm (.slice Ar lr cr)) (zq (yaO (n := r4.length) rfl underlying26 (yaL (hS.rdo 4 rfl))) (zq (zm (ii 0)) (yaa (yak ?_)))))))))))); obtain ⟨I2, ⟨m0, h0⟩, hr⟩ := h; refine yaw (fun m E ds w' => ∃ v v2 d5 v3 Av lv cv, I2 m v v2 d5 v3 ∧ ds = [] ∧ E 0 = (Value.pointer (some (⟨gc, 0, none⟩ : Addr))) ∧ E 1 = (Value.slice Ai li ci) ∧ E 9 = (Value.slice Av lv cv) ∧ E 11 = (Value.pointer (some (⟨g, 0, none⟩ : Addr))) ∧ E 14 = (ii v) ∧ E 80 = (ii ((r4.length : Nat) : Int)) ∧ E 81 = (ii v2) ∧ Sep w S O w' (rl [Res.box 162 gc [(ii d), (.slice Ad ld cd), (ii d3), (Value.map (some gm))], Res.ro (FP.sl c3 Ad ld cd d2), Res.obj gm (mapO (.int .i64) d5), Res.own cI 3 Ai li ci i, Res.own cI 3 Av lv cv v3, Res.own cI 163 (some ⟨g, 0, none⟩) 12 12 (cpy (List.replicate 12 (0 : Int)) r4)])) m0 ⟨_, _, _, _, _, _, _, h0, rfl, rfl, rfl, rfl, rfl, rfl, rfl, rfl, (hS.sel [0, 1, 2, 3, 4, 6] (by decide))⟩ ?_; clear h0 hS; rintro m2 E ds w6 ⟨v, v2, d5, v3, Av, lv, cv, h, rfl, hE0, hE1, hE9, hE11, hE14, hE80, hE81, hS⟩ again; replace h := hr m2 v v2 d5 v3 h; clear hr; refine zs (zq (yaJ hE81 hE80) (yaa (yac ?_))); by_cases hp8 : v2 < ((r4.length : Nat) : Int)
                · replace h := h.1 hp8; refine zc hp8 (yaf (yac (yak (zs (zq (yab hE81) (zq (za (ii v2)) (yaa (zs (zq (yab hE9) (zq (zm (ii v2)) ?_)))))))))); obtain ⟨hx4, h⟩ := h; refine zq (zi underlying26 yag (yaG (hS.rdo 4 rfl) hx4)) (zq (yah (v := (ii (gi v3 v2.toNat))) rfl underlying3 rfl (rd_1 (hS.rdo 4 rfl) hx4 (fun q => yaI q) rfl)) ?_); obtain ⟨hi4, h⟩ := h; refine zq (zS hi4) (zq (zi underlying26 yag (yaG (hS.rdo 4 rfl) hx4)) (zo (zt (ii ((gi v3 v2.toNat) - 1)) yag (hS.wr 4 rfl rfl hx4) ?_))); intro w7 e1; replace hS := hS.st 4 rfl rfl hx4 (x := (gi v3 v2.toNat) - 1) rfl e1; clear e1; refine zb (yaa (zs (zq (yab (v := (.pointer (some (⟨gc, 0, none⟩ : Addr)))) hE0) (zq (yab hE9) ?_)))); have hB := hS.lend (asc [(0, 0), (2, 1), (4, 2)]) [0, 1, 2, 4] (by decide) ⟨.inl (yd2 rfl), .inr rfl, .inl (yd2 rfl), .inl (yd2 rfl), trivial⟩; refine zn (yhp (vs := #[(.pointer (some (⟨gc, 0, none⟩ : Addr))), (.slice Av lv cv)]) (us := #[]) rfl (am2 rfl rfl) enter_83 ((ydk (by simp) (hrec h hB)).mono ?_)); rintro _ w8 ⟨r7, r8, y, rfl, hC, h⟩; replace hS := hS.back (asc [(0, 0), (2, 1), (4, 2)]) (yg2 (by decide)) hC; clear hC hB; refine ⟨_, rfl, ?_⟩; refine zb (zq (zm (.tuple #[(ii r7), (ii r8)])) (zq (zx (ii r7)) (zq (zx (ii r8)) (zq (za (ii r7)) (zq (za (ii r8)) (yaa (zs (zq (yab hE9) (zq (zm (ii v2)) ?_))))))))); obtain ⟨hx5, h⟩ := h; refine zq (zi underlying26 yag (yaG (hS.rdo 4 rfl) hx5)) (zq (yah (v := (ii (gi (v3.set v2.toNat ((gi v3 v2.toNat) - 1)) v2.toNat))) rfl underlying3 rfl (rd_1 (hS.rdo 4 rfl) hx5 (fun q => yaI q) rfl)) ?_); obtain ⟨hi5, h⟩ := h; refine zq (zA hi5) (zq (zi underlying26 yag (yaG (hS.rdo 4 rfl) hx5)) (zo (zt (ii ((gi (v3.set v2.toNat ((gi v3 v2.toNat) - 1)) v2.toNat) + 1)) yag (hS.wr 4 rfl rfl hx5) ?_))); intro w9 e1; replace hS := hS.st 4 rfl rfl hx5 (x := (gi (v3.set v2.toNat ((gi v3 v2.toNat) - 1)) v2.toNat) + 1) rfl e1; clear e1; refine zb (yaa (yac (zs (zq (zm (ii r8)) (zq zN (yaa ?_)))))); by_cases hp9 : r8 = 0
                  · replace h := h.1 hp9; refine ze hp9 (yaf (zr (zq (yab hE14) (zq (zm (ii r7)) ?_)))); obtain ⟨hi6, h⟩ := h; refine zq (zA hi6) (zq (v_min2 rfl rfl) (zq (za (ii (mnF v (r7 + 1)))) (yaa (yai (zr ?_))))); obtain ⟨hi7, h⟩ := h; refine zq (yaC hE81 rfl hi7) (zq (zm (ii (v2 + 1))) (yaa ?_)); obtain ⟨mq, hlt, h⟩ := h; exact again mq _ _ _ ⟨_, _, _, _, _, _, _, h, rfl, hE0, hE1, hE9, hE11, rfl, hE80, rfl, (hS.sel [0, 1, 2, 3, 4, 5] (by decide))⟩ hlt
                  · replace h := h.2 hp9; exact zf hp9 (zs (zq (zm (ii r8)) (zq (za (ii 0)) (zq (za (ii r8)) (yaa (yaR rfl rfl rfl ⟨_, _, _, rfl, (hS.sel [0, 2, 3] (by decide)), h⟩))))))
                · replace h := h.2 hp8; refine zd hp8 (yav rfl (yac (ya3 [0, 1, 2, 3, 4, 5, 6] st0 ya8 (by kernel_rfl) (by kernel_rfl) ?_))); replace hS := hS.drew; refine zp (yab (v := (.pointer (some (⟨gc, 0, none⟩ : Addr)))) hE0) (zp (ybI rfl) (zp (yam rfl underlying162 rfl yf3) (zp (zl underlying160 (Row.cell (hS.bx 0 rfl) (i := 3) rfl)) (zp (yas (vs := (cpy (List.replicate 12 (0 : Int)) r4).map (.int .i64)) hE11 underlying163 rfl (yhW yfW (hS.rdo 5 rfl)) (ygW (hS.rdo 5 rfl))) (zp (yab hE14) ?_))))); obtain ⟨hx6, h⟩ := h; refine yg8 rfl rfl rfl (n_mput (vE := (.int .i64)) (yhI) hx6 hx3 (v := v) rfl rfl rfl underlying160 (hS.mp 2 rfl) ?_); intro w10 e1 e2; replace hS := hS.mst 2 rfl e1 e2; clear e1 e2; exact zb (ybl (zs (zq (yab hE14) (zq (za (ii v)) (zq (za (ii 0)) (yaa (yaR rfl rfl rfl ⟨_, _, _, rfl, (hS.sel [0, 2, 3] (by decide)), h⟩)))))))
          · replace h := h.2 hp5; exact yau (congrArg Value.bool (congrArg Bool.not (Bool.eq_false_iff.2 hp5))) (zs (zq (za (ii (-1))) (zq (za (ii 0)) (yaa (yaR rfl rfl rfl ⟨_, _, _, rfl, (hS.sel [0, 2, 3] (by decide)), h⟩)))))
        · replace h := h.2 hp4; exact zf hp4 (zs (zq (zm (ii r6)) (zq (za (ii 0)) (zq (za (ii r6)) (yaa (yaR rfl rfl rfl ⟨_, _, _, rfl, (hS.sel [0, 2, 3] (by decide)), h⟩))))))
  · replace h := h.2 hp; exact zf hp (zs (zq (zm (ii r2)) (zq (za (ii 0)) (zq (za (ii r2)) (yaa (yaR rfl rfl rfl ⟨_, _, _, rfl, (hS.sel [0, 2, 3] (by decide)), h⟩))))))
theorem ye9 {nf} : ∀ {S O : Nat → Prop} {w : World} {d d2 d3 d4 i gc Ad ld cd gm Ai li ci} {R : Int → Int → (List (List Int × Int)) → Prop} (h : ya6 nf d d2 d3 d4 i R) (hS : Sep w S O w (rl [Res.box 162 gc [(Value.int .i64 d), (Value.slice Ad ld cd), (Value.int .i64 d3), (Value.map (some gm))], Res.ro (FP.sl c3 Ad ld cd d2), Res.obj gm (mapO (Value.int .i64) d4), Res.own cI 3 Ai li ci i])), Calls Tryz.prog 83 #[(Value.pointer (some (⟨gc, 0, none⟩ : Addr))), (Value.slice Ai li ci)] w fun e w' => ∃ r9 r10 z, e = .returned (Value.tuple #[(Value.int .i64 r9), (Value.int .i64 r10)]) ∧ Sep w S O w' (rl [Res.box 162 gc [(Value.int .i64 d), (Value.slice Ad ld cd), (Value.int .i64 d3), (Value.map (some gm))], Res.obj gm (mapO (Value.int .i64) z), Res.own cI 3 Ai li ci i]) ∧ R r9 r10 z := by
  induction nf with
  | zero => intros; rename_i h _; exact h.elim
  | succ nf ih => intro S O w d d2 d3 d4 i gc Ad ld cd gm Ai li ci R h hS; exact yeY ih h hS
def ycG (Rec : Int → (List E3) → Int → (List (List Int × Int)) → (List Int) → (Int → Int → (List (List Int × Int)) → Prop) → Prop) (d : Int) (d2 : List E3) (d3 : Int) (d4 : List (List Int × Int)) (i : List Int) (R : Int → Int → (List (List Int × Int)) → Prop) : Prop :=
ybC i (fun r r2 =>
((r2 = 0 →
((r < 0 →
R (-1) 0 d4) ∧
(¬ (r < 0) →
(In64 (2 * d3) ∧
(In64 ((2 * d3) - 2) ∧
((((2 * d3) - 2) < r →
(In64 (r - d3) ∧
R (r - d3) 0 d4)) ∧
(¬ (((2 * d3) - 2) < r) →
yaU d d2 i (fun r3 r4 r5 r6 =>
((r6 = 0 →
((r3 = true →
(0 < r4.length ∧
(KOk 12 d4 ∧
yit 12 (cpy (List.replicate 12 (0 : Int)) r4) ∧
(((mget d4 (cpy (List.replicate 12 (0 : Int)) r4)).isSome = true →
R ((mget d4 (cpy (List.replicate 12 (0 : Int)) r4)).getD (0 : Int)) 0 d4) ∧
(¬ ((mget d4 (cpy (List.replicate 12 (0 : Int)) r4)).isSome = true) →
((((d4.length : Nat) : Int) = 16384 →
R 0 12 d4) ∧
(¬ (((d4.length : Nat) : Int) = 16384) →
(∃ I2 : Nat → Int → Int → (List (List Int × Int)) → (List Int) → Prop, (∃ m0, I2 m0 r 0 d4 r4) ∧ ∀ m2 v v2 d5 v3, I2 m2 v v2 d5 v3 → 
((v2 < ((r4.length : Nat) : Int) →
((0 ≤ v2 ∧ v2 < ((v3.length : Nat) : Int)) ∧
(In64 ((gi v3 v2.toNat) - 1) ∧
(∃ fu, ya6 fu d d2 d3 d5 (v3.set v2.toNat ((gi v3 v2.toNat) - 1)) (fun r7 r8 y =>
((0 ≤ v2 ∧ v2 < (((v3.set v2.toNat ((gi v3 v2.toNat) - 1)).length : Nat) : Int)) ∧
(In64 ((gi (v3.set v2.toNat ((gi v3 v2.toNat) - 1)) v2.toNat) + 1) ∧
((r8 = 0 →
(In64 (r7 + 1) ∧
(In64 (v2 + 1) ∧
∃ m3, m3 < m2 ∧ I2 m3 (mnF v (r7 + 1)) (v2 + 1) y ((v3.set v2.toNat ((gi v3 v2.toNat) - 1)).set v2.toNat ((gi (v3.set v2.toNat ((gi v3 v2.toNat) - 1)) v2.toNat) + 1))))) ∧
(¬ (r8 = 0) →
R 0 r8 y))))))))) ∧
(¬ (v2 < ((r4.length : Nat) : Int)) →
(KOk 12 d5 ∧
R v 0 (mput d5 (cpy (List.replicate 12 (0 : Int)) r4) v)))))))))))) ∧
(¬ (r3 = true) →
R (-1) 0 d4))) ∧
(¬ (r6 = 0) →
R 0 r6 d4)))))))))) ∧
(¬ (r2 = 0) →
R 0 r2 d4)))
def yb8 : Nat → Int → (List E3) → Int → (List (List Int × Int)) → (List Int) → (Int → Int → (List (List Int × Int)) → Prop) → Prop
  | 0 => fun _ _ _ _ _ _ => False
  | nf + 1 => fun d d2 d3 d4 i R => ycG (yb8 nf) d d2 d3 d4 i R
theorem yfS {Rec : Int → (List E3) → Int → (List (List Int × Int)) → (List Int) → (Int → Int → (List (List Int × Int)) → Prop) → Prop} (hrec : ∀ {S O : Nat → Prop} {w : World} {d d2 d3 d4 i gc Ad ld cd gm Ai li ci} {R : Int → Int → (List (List Int × Int)) → Prop} (h : Rec d d2 d3 d4 i R) (hS : Sep w S O w (rl [Res.box 162 gc [(Value.int .i64 d), (Value.slice Ad ld cd), (Value.int .i64 d3), (Value.map (some gm))], Res.ro (FP.sl c3 Ad ld cd d2), Res.obj gm (mapO (Value.int .i64) d4), Res.ro (FP.sl cI Ai li ci i)])), Calls Tryz.prog 83 #[(Value.pointer (some (⟨gc, 0, none⟩ : Addr))), (Value.slice Ai li ci)] w fun e w' => ∃ r9 r10 z, e = .returned (Value.tuple #[(Value.int .i64 r9), (Value.int .i64 r10)]) ∧ Sep w S O w' (rl [Res.box 162 gc [(Value.int .i64 d), (Value.slice Ad ld cd), (Value.int .i64 d3), (Value.map (some gm))], Res.obj gm (mapO (Value.int .i64) z)]) ∧ R r9 r10 z) {S O : Nat → Prop} {w : World} {d d2 d3 d4 i gc Ad ld cd gm Ai li ci} {R : Int → Int → (List (List Int × Int)) → Prop} (h : ycG Rec d d2 d3 d4 i R) (hS : Sep w S O w (rl [Res.box 162 gc [(Value.int .i64 d), (Value.slice Ad ld cd), (Value.int .i64 d3), (Value.map (some gm))], Res.ro (FP.sl c3 Ad ld cd d2), Res.obj gm (mapO (Value.int .i64) d4), Res.ro (FP.sl cI Ai li ci i)])) :
    Calls Tryz.prog 83 #[(.pointer (some (⟨gc, 0, none⟩ : Addr))), (.slice Ai li ci)] w fun e w' => ∃ r9 r10 z, e = .returned (.tuple #[(ii r9), (ii r10)]) ∧ Sep w S O w' (rl [Res.box 162 gc [(ii d), (.slice Ad ld cd), (ii d3), (Value.map (some gm))], Res.obj gm (mapO (.int .i64) z)]) ∧ R r9 r10 z := by
  unfold ycG at h; refine yar (l := [(.pointer (some (⟨gc, 0, none⟩ : Addr))), (.slice Ai li ci)]) func83 rfl ntmps83 (Nat.le_of_ble_eq_true rfl) (zs (zq (za (ii 0)) (zq (za (ii 0)) (yaa (zs (zq (zm (.slice Ai li ci)) (zn (yan rfl (am1 rfl) yib ((ydF h (yaF _) (hS.rdr 3 rfl)).mono ?_))))))))); rintro _ w2 ⟨r, r2, rfl, hC, h⟩; replace hS := hS.pur hC.pure; clear hC; refine ⟨_, rfl, ?_⟩; refine zb (zq (zm (.tuple #[(ii r), (ii r2)])) (zq (zx (ii r)) (zq (zx (ii r2)) (zq (za (ii r)) (zq (za (ii r2)) (yaa (yac (zs (zq (zm (ii r2)) (zq zN (yaa ?_))))))))))); by_cases hp : r2 = 0
  · replace h := h.1 hp; refine ze hp (yaf (yac (zs (zq (zm (ii r)) (zq zL (yaa ?_)))))); by_cases hp2 : r < 0
    · replace h := h.1 hp2; exact zc hp2 (zs (zq (za (ii (-1))) (zq (za (ii 0)) (yaa (yaR rfl rfl rfl ⟨_, _, _, rfl, (hS.sel [0, 2] (by decide)), h⟩)))))
    · replace h := h.2 hp2; refine zd hp2 (yaf (yac (zs (zq (zm (ii r)) (zq (zm (.pointer (some (⟨gc, 0, none⟩ : Addr)))) (zq (ybI rfl) (zq (yam rfl underlying162 rfl yag) (zq (zl underlying3 (Row.cell (hS.bx 0 rfl) (i := 2) rfl)) ?_)))))))); obtain ⟨hi, h⟩ := h; refine zq (v_mul rfl rfl hi) ?_; obtain ⟨hi2, h⟩ := h; refine zq (zS hi2) (zq zG (yaa ?_)); by_cases hp3 : ((2 * d3) - 2) < r
      · replace h := h.1 hp3; refine zc hp3 (zs (zq (zm (ii r)) (zq (zm (.pointer (some (⟨gc, 0, none⟩ : Addr)))) (zq (ybI rfl) (zq (yam rfl underlying162 rfl yag) (zq (zl underlying3 (Row.cell (hS.bx 0 rfl) (i := 2) rfl)) ?_)))))); obtain ⟨hi3, h⟩ := h; exact zq (zS hi3) (zq (za (ii (r - d3))) (zq (za (ii 0)) (yaa (yaR rfl rfl rfl ⟨_, _, _, rfl, (hS.sel [0, 2] (by decide)), h⟩))))
      · replace h := h.2 hp3; refine zd hp3 (yaf (zs (zq (zm (.pointer (some (⟨gc, 0, none⟩ : Addr)))) (zq (ybI rfl) (zq (yam rfl underlying162 rfl yaq) (zq (yas (vs := [(ii d), (.slice Ad ld cd)]) rfl underlying24 rfl yaq ⟨Row.cell (hS.bx 0 rfl) (i := 0) rfl, Row.cell (hS.bx 0 rfl) (i := 1) rfl, trivial⟩) (zq (zm (.slice Ai li ci)) (zn (yan rfl (am2 rfl rfl) yhP ((ybE h (yaF _) (hS.rdr 1 rfl) (hS.rdr 3 rfl)).mono ?_)))))))))); rintro _ w3 ⟨r3, r4, r5, r6, Ar, lr, cr, Ar2, lr2, cr2, rfl, hC, h⟩; replace hS := hS.call2 (hC.widen (ydi (ya1 (fI .i64) _ _ _ _ _) (ydi (ya1 (fI .i64) _ _ _ _ _) yeb)) hS.blt) 4 0 5 1 rfl rfl (by decide) (by decide); clear hC; refine ⟨_, rfl, ?_⟩; refine zb (zq (zm (.tuple #[(.bool (r3)), (.slice Ar lr cr), (.slice Ar2 lr2 cr2), (ii r6)])) (zq (zx (.bool (r3))) (zq (zx (.slice Ar lr cr)) (zq (zx (.slice Ar2 lr2 cr2)) (zq (zx (ii r6)) (zq (za (.bool (r3))) (zq (za (.slice Ar lr cr)) (zq (za (.slice Ar2 lr2 cr2)) (zq (za (ii r6)) (yaa (yac (zs (zq (zm (ii r6)) (zq zN (yaa ?_))))))))))))))); by_cases hp4 : r6 = 0
        · replace h := h.1 hp4; refine ze hp4 (yaf (yac (zs (zq (zm (.bool (r3))) (zq (ydA rfl) (yaa ?_)))))); by_cases hp5 : r3 = true
          · replace h := h.1 hp5; refine yay (congrArg Value.bool (congrArg Bool.not hp5)) (yaf (zs (zn (ya7 yfW ?_)))); intro g w4 hN; replace hS := hS.made (n := 12) 6 rfl cI (ii 0) (0 : Int) (fun _ _ => rfl) (hN : New _ _ _ (Array.replicate 12 (ii 0)) 163) (by decide); clear hN; refine zb (yaa (zs (zq (v_slice_a rfl underlying163 yag) (zq (zm (.slice Ar lr cr)) ?_)))); obtain ⟨hx, h⟩ := h; refine zn (n_cpy rfl rfl underlying25 yag hS 6 rfl (hS.rdo 4 rfl) hx ?_); clear hS; intro w5 hS; refine zb (yaa (yac (yac (ya3 [0, 1, 2, 3, 4, 5, 6, 7, 8, 9, 10] st0 ya8 (by kernel_rfl) (by kernel_rfl) ?_)))); replace hS := hS.drew; refine zp (zm (.pointer (some (⟨gc, 0, none⟩ : Addr)))) (zp (ybI rfl) (zp (yam rfl underlying162 rfl yf3) (zp (zl underlying160 (Row.cell (hS.bx 0 rfl) (i := 3) rfl)) (zp (yas (vs := (cpy (List.replicate 12 (0 : Int)) r4).map (.int .i64)) rfl underlying163 rfl (yhW yfW (hS.rdo 6 rfl)) (ygW (hS.rdo 6 rfl))) ?_)))); obtain ⟨hx2, h⟩ := h; obtain ⟨hx3, h⟩ := h; refine rp_n rfl rfl rfl rfl (n_val (v_mget (vE := (.int .i64)) (x0 := (0 : Int)) (yhI) hx2 hx3 rfl rfl underlying160 yag (hS.mp 2 rfl)) ?_); refine zb (zp (zm (.tuple #[(ii ((mget d4 (cpy (List.replicate 12 (0 : Int)) r4)).getD (0 : Int))), (.bool ((mget d4 (cpy (List.replicate 12 (0 : Int)) r4)).isSome))])) (zp (zx (ii ((mget d4 (cpy (List.replicate 12 (0 : Int)) r4)).getD (0 : Int)))) (zp (zx (.bool ((mget d4 (cpy (List.replicate 12 (0 : Int)) r4)).isSome))) (zp (za (ii ((mget d4 (cpy (List.replicate 12 (0 : Int)) r4)).getD (0 : Int)))) (zp (za (.bool ((mget d4 (cpy (List.replicate 12 (0 : Int)) r4)).isSome))) (ybl (zs (zq (zm (.bool ((mget d4 (cpy (List.replicate 12 (0 : Int)) r4)).isSome))) (yaa ?_))))))))); by_cases hp6 : (mget d4 (cpy (List.replicate 12 (0 : Int)) r4)).isSome = true
            · replace h := h.1 hp6; exact yau (congrArg Value.bool hp6) (zs (zq (zm (ii ((mget d4 (cpy (List.replicate 12 (0 : Int)) r4)).getD (0 : Int)))) (zq (za (ii ((mget d4 (cpy (List.replicate 12 (0 : Int)) r4)).getD (0 : Int)))) (zq (za (ii 0)) (yaa (yaR rfl rfl rfl ⟨_, _, _, rfl, (hS.sel [0, 2] (by decide)), h⟩))))))
            · replace h := h.2 hp6; refine yay (congrArg Value.bool (Bool.eq_false_iff.2 hp6)) (yaf (yac (zs (zq (zm (.pointer (some (⟨gc, 0, none⟩ : Addr)))) (zq (ybI rfl) (zq (yam rfl underlying162 rfl yf3) (zq (zl underlying160 (Row.cell (hS.bx 0 rfl) (i := 3) rfl)) (zq (v_mlen rfl underlying160 (hS.mp 2 rfl)) (zq zE (yaa ?_)))))))))); by_cases hp7 : ((d4.length : Nat) : Int) = 16384
              · replace h := h.1 hp7; exact zc hp7 (zs (zq (za (ii 0)) (zq (za (ii 12)) (yaa (yaR rfl rfl rfl ⟨_, _, _, rfl, (hS.sel [0, 2] (by decide)), h⟩)))))
              · replace h := h.2 hp7; refine zd hp7 (yaf (zs (zq (zm (ii r)) (zq (za (ii r)) (yaa (yac (zs (zq (zm (.slice Ar lr cr)) (zq (yaO (n := r4.length) rfl underlying26 (yaL (hS.rdo 4 rfl))) (zq (zm (ii 0)) (yaa (yak ?_)))))))))))); obtain ⟨I2, ⟨m0, h0⟩, hr⟩ := h; refine yaw (fun m E ds w' => ∃ v v2 d5 v3 Av lv cv, I2 m v v2 d5 v3 ∧ ds = [] ∧ E 0 = (Value.pointer (some (⟨gc, 0, none⟩ : Addr))) ∧ E 9 = (Value.slice Av lv cv) ∧ E 11 = (Value.pointer (some (⟨g, 0, none⟩ : Addr))) ∧ E 14 = (ii v) ∧ E 80 = (ii ((r4.length : Nat) : Int)) ∧ E 81 = (ii v2) ∧ Sep w S O w' (rl [Res.box 162 gc [(ii d), (.slice Ad ld cd), (ii d3), (Value.map (some gm))], Res.ro (FP.sl c3 Ad ld cd d2), Res.obj gm (mapO (.int .i64) d5), Res.own cI 3 Av lv cv v3, Res.own cI 163 (some ⟨g, 0, none⟩) 12 12 (cpy (List.replicate 12 (0 : Int)) r4)])) m0 ⟨_, _, _, _, _, _, _, h0, rfl, rfl, rfl, rfl, rfl, rfl, rfl, (hS.sel [0, 1, 2, 4, 6] (by decide))⟩ ?_; clear h0 hS; rintro m2 E ds w6 ⟨v, v2, d5, v3, Av, lv, cv, h, rfl, hE0, hE9, hE11, hE14, hE80, hE81, hS⟩ again; replace h := hr m2 v v2 d5 v3 h; clear hr; refine zs (zq (yaJ hE81 hE80) (yaa (yac ?_))); by_cases hp8 : v2 < ((r4.length : Nat) : Int)
                · replace h := h.1 hp8; refine zc hp8 (yaf (yac (yak (zs (zq (yab hE81) (zq (za (ii v2)) (yaa (zs (zq (yab hE9) (zq (zm (ii v2)) ?_)))))))))); obtain ⟨hx4, h⟩ := h; refine zq (zi underlying26 yag (yaG (hS.rdo 3 rfl) hx4)) (zq (yah (v := (ii (gi v3 v2.toNat))) rfl underlying3 rfl (rd_1 (hS.rdo 3 rfl) hx4 (fun q => yaI q) rfl)) ?_); obtain ⟨hi4, h⟩ := h; refine zq (zS hi4) (zq (zi underlying26 yag (yaG (hS.rdo 3 rfl) hx4)) (zo (zt (ii ((gi v3 v2.toNat) - 1)) yag (hS.wr 3 rfl rfl hx4) ?_))); intro w7 e1; replace hS := hS.st 3 rfl rfl hx4 (x := (gi v3 v2.toNat) - 1) rfl e1; clear e1; refine zb (yaa (zs (zq (yab (v := (.pointer (some (⟨gc, 0, none⟩ : Addr)))) hE0) (zq (yab hE9) ?_)))); obtain ⟨fu, h⟩ := h; have hB := hS.lend (asc [(0, 0), (2, 1), (3, 2)]) [0, 1, 2, 3] (by decide) ⟨.inl (yd2 rfl), .inr rfl, .inl (yd2 rfl), .inl (yd2 rfl), trivial⟩; refine zn (yhp (vs := #[(.pointer (some (⟨gc, 0, none⟩ : Addr))), (.slice Av lv cv)]) (us := #[]) rfl (am2 rfl rfl) enter_83 ((ydk (by simp) (ye9 h hB)).mono ?_)); rintro _ w8 ⟨r7, r8, y, rfl, hC, h⟩; replace hS := hS.back (asc [(0, 0), (2, 1), (3, 2)]) (yg2 (by decide)) hC; clear hC hB; refine ⟨_, rfl, ?_⟩; refine zb (zq (zm (.tuple #[(ii r7), (ii r8)])) (zq (zx (ii r7)) (zq (zx (ii r8)) (zq (za (ii r7)) (zq (za (ii r8)) (yaa (zs (zq (yab hE9) (zq (zm (ii v2)) ?_))))))))); obtain ⟨hx5, h⟩ := h; refine zq (zi underlying26 yag (yaG (hS.rdo 3 rfl) hx5)) (zq (yah (v := (ii (gi (v3.set v2.toNat ((gi v3 v2.toNat) - 1)) v2.toNat))) rfl underlying3 rfl (rd_1 (hS.rdo 3 rfl) hx5 (fun q => yaI q) rfl)) ?_); obtain ⟨hi5, h⟩ := h; refine zq (zA hi5) (zq (zi underlying26 yag (yaG (hS.rdo 3 rfl) hx5)) (zo (zt (ii ((gi (v3.set v2.toNat ((gi v3 v2.toNat) - 1)) v2.toNat) + 1)) yag (hS.wr 3 rfl rfl hx5) ?_))); intro w9 e1; replace hS := hS.st 3 rfl rfl hx5 (x := (gi (v3.set v2.toNat ((gi v3 v2.toNat) - 1)) v2.toNat) + 1) rfl e1; clear e1; refine zb (yaa (yac (zs (zq (zm (ii r8)) (zq zN (yaa ?_)))))); by_cases hp9 : r8 = 0
                  · replace h := h.1 hp9; refine ze hp9 (yaf (zr (zq (yab hE14) (zq (zm (ii r7)) ?_)))); obtain ⟨hi6, h⟩ := h; refine zq (zA hi6) (zq (v_min2 rfl rfl) (zq (za (ii (mnF v (r7 + 1)))) (yaa (yai (zr ?_))))); obtain ⟨hi7, h⟩ := h; refine zq (yaC hE81 rfl hi7) (zq (zm (ii (v2 + 1))) (yaa ?_)); obtain ⟨mq, hlt, h⟩ := h; exact again mq _ _ _ ⟨_, _, _, _, _, _, _, h, rfl, hE0, hE9, hE11, rfl, hE80, rfl, (hS.sel [0, 1, 2, 3, 4] (by decide))⟩ hlt
                  · replace h := h.2 hp9; exact zf hp9 (zs (zq (zm (ii r8)) (zq (za (ii 0)) (zq (za (ii r8)) (yaa (yaR rfl rfl rfl ⟨_, _, _, rfl, (hS.sel [0, 2] (by decide)), h⟩))))))
                · replace h := h.2 hp8; refine zd hp8 (yav rfl (yac (ya3 [0, 1, 2, 3, 4, 5, 6] st0 ya8 (by kernel_rfl) (by kernel_rfl) ?_))); replace hS := hS.drew; refine zp (yab (v := (.pointer (some (⟨gc, 0, none⟩ : Addr)))) hE0) (zp (ybI rfl) (zp (yam rfl underlying162 rfl yf3) (zp (zl underlying160 (Row.cell (hS.bx 0 rfl) (i := 3) rfl)) (zp (yas (vs := (cpy (List.replicate 12 (0 : Int)) r4).map (.int .i64)) hE11 underlying163 rfl (yhW yfW (hS.rdo 4 rfl)) (ygW (hS.rdo 4 rfl))) (zp (yab hE14) ?_))))); obtain ⟨hx6, h⟩ := h; refine yg8 rfl rfl rfl (n_mput (vE := (.int .i64)) (yhI) hx6 hx3 (v := v) rfl rfl rfl underlying160 (hS.mp 2 rfl) ?_); intro w10 e1 e2; replace hS := hS.mst 2 rfl e1 e2; clear e1 e2; exact zb (ybl (zs (zq (yab hE14) (zq (za (ii v)) (zq (za (ii 0)) (yaa (yaR rfl rfl rfl ⟨_, _, _, rfl, (hS.sel [0, 2] (by decide)), h⟩)))))))
          · replace h := h.2 hp5; exact yau (congrArg Value.bool (congrArg Bool.not (Bool.eq_false_iff.2 hp5))) (zs (zq (za (ii (-1))) (zq (za (ii 0)) (yaa (yaR rfl rfl rfl ⟨_, _, _, rfl, (hS.sel [0, 2] (by decide)), h⟩)))))
        · replace h := h.2 hp4; exact zf hp4 (zs (zq (zm (ii r6)) (zq (za (ii 0)) (zq (za (ii r6)) (yaa (yaR rfl rfl rfl ⟨_, _, _, rfl, (hS.sel [0, 2] (by decide)), h⟩))))))
  · replace h := h.2 hp; exact zf hp (zs (zq (zm (ii r2)) (zq (za (ii 0)) (zq (za (ii r2)) (yaa (yaR rfl rfl rfl ⟨_, _, _, rfl, (hS.sel [0, 2] (by decide)), h⟩))))))
theorem yf5 {nf} : ∀ {S O : Nat → Prop} {w : World} {d d2 d3 d4 i gc Ad ld cd gm Ai li ci} {R : Int → Int → (List (List Int × Int)) → Prop} (h : yb8 nf d d2 d3 d4 i R) (hS : Sep w S O w (rl [Res.box 162 gc [(Value.int .i64 d), (Value.slice Ad ld cd), (Value.int .i64 d3), (Value.map (some gm))], Res.ro (FP.sl c3 Ad ld cd d2), Res.obj gm (mapO (Value.int .i64) d4), Res.ro (FP.sl cI Ai li ci i)])), Calls Tryz.prog 83 #[(Value.pointer (some (⟨gc, 0, none⟩ : Addr))), (Value.slice Ai li ci)] w fun e w' => ∃ r9 r10 z, e = .returned (Value.tuple #[(Value.int .i64 r9), (Value.int .i64 r10)]) ∧ Sep w S O w' (rl [Res.box 162 gc [(Value.int .i64 d), (Value.slice Ad ld cd), (Value.int .i64 d3), (Value.map (some gm))], Res.obj gm (mapO (Value.int .i64) z)]) ∧ R r9 r10 z := by
  induction nf with
  | zero => intros; rename_i h _; exact h.elim
  | succ nf ih => intro S O w d d2 d3 d4 i gc Ad ld cd gm Ai li ci R h hS; exact yfS ih h hS
def ya5 (g : Int) (g2 : List E3) (d : List Int) (R : Int → Int → Prop) : Prop :=
yb6 g g2 ([d]) (fun r =>
((r = 0 →
yeP g g2 (fun r2 =>
((r2 = 0 →
False) ∧
(¬ (r2 = 0) →
R 0 r2)))
(fun f f2 f3 m2 r3 =>
((r3 = 0 →
(∃ fu, yb8 fu f f2 f3 m2 d (fun r4 r5 y =>
R r4 r5))) ∧
(¬ (r3 = 0) →
R 0 r3)))) ∧
(¬ (r = 0) →
R 0 r)))
theorem ye1 {O : Nat → Prop} {w : World} {g g2 d Ag lg cg Ad ld cd} {R : Int → Int → Prop} (h : ya5 g g2 d R) (hO : ∀ k, O k → k < w.heap.size) (hA0 : (FP.sl c3 Ag lg cg g2).P O w) (hA1 : (FP.sl cI Ad ld cd d).P O w) :
    Calls Tryz.prog 35 #[(.agg #[(ii g), (.slice Ag lg cg)]), (.slice Ad ld cd)] w fun e w' => ∃ r6 r7, e = .returned (.tuple #[(ii r6), (ii r7)]) ∧ Sep w no O w' (rl []) ∧ R r6 r7 := by
  unfold ya5 at h; have hS : Sep w no O w (rl [Res.ro (FP.sl c3 Ag lg cg g2), Res.ro (FP.sl cI Ad ld cd d)]) := Sep.startl hO [(FP.sl c3 Ag lg cg g2), (FP.sl cI Ad ld cd d)] ⟨hA0, hA1, trivial⟩; refine yar (l := [(.agg #[(ii g), (.slice Ag lg cg)]), (.slice Ad ld cd)]) func35 rfl ntmps35 (Nat.le_of_ble_eq_true rfl) (zs (zn (ybq (v := (.agg #[(ii g), (.slice Ag lg cg)])) rfl ?_))); intro g3 w2 hN; replace hS : Sep w no O w2 (stl _ 2 (Res.box 24 g3 [(ii g), (.slice Ag lg cg)])) := hS.new 2 rfl hN; clear hN; refine zb (zq (za (ii 0)) (zq (za (ii 0)) (yaa (yac (zs (zq (yas (vs := [(ii g), (.slice Ag lg cg)]) rfl underlying24 rfl yaq ⟨Row.cell (hS.bx 2 rfl) (i := 0) rfl, Row.cell (hS.bx 2 rfl) (i := 1) rfl, trivial⟩) (zq (zm (.slice Ad ld cd)) (zn (yaD (l := [(0, (.slice Ad ld cd))]) (cells := [(.slice Ad ld cd)]) (bp1 rfl) underlying67 ybu rfl rfl ?_))))))))); intro g4 w3 hN; replace hS := hS.lit (n := 1) (c := (cL cI)) 3 rfl hN ([d] : List (List Int)) rfl (by decide) ⟨[(.slice Ad ld cd)], _, rfl, (ro_R (hS.ro 1 rfl)), rfl⟩; clear hN; refine zb (zn (yan rfl (am2 rfl rfl) yjJ ((yex h (yaF _) (hS.rdr 0 rfl) (hS.rdo 3 rfl)).mono ?_))); rintro _ w4 ⟨r, rfl, hC, h⟩; replace hS := hS.pur hC.pure; clear hC; refine ⟨_, rfl, ?_⟩; refine zb (zq (za (ii r)) (yaa (zs (zq (zm (ii r)) (zq zN (yaa ?_)))))); by_cases hp : r = 0
  · replace h := h.1 hp; refine ze hp (yaf (zs (zq (yas (vs := [(ii g), (.slice Ag lg cg)]) rfl underlying24 rfl yaq ⟨Row.cell (hS.bx 2 rfl) (i := 0) rfl, Row.cell (hS.bx 2 rfl) (i := 1) rfl, trivial⟩) (zn (yan rfl (am1 rfl) enter_82 ((pok_rank_of h hS.blt (hS.ro 0 rfl)).mono ?_)))))); rintro _ w5 (⟨r2, rfl, hC, h⟩ | ⟨f, f2, f3, m2, r3, gr, Af, lf, cf, gm, rfl, hC, h⟩)
    · replace hS := hS.pur hC.pure; clear hC; refine ⟨_, rfl, ?_⟩; refine zb (zq (zm (.tuple #[(.pointer none), (ii r2)])) (zq (zx (.pointer none)) (zq (zx (ii r2)) (zq (za (.pointer none)) (zq (za (ii r2)) (yaa (yac (zs (zq (zm (ii r2)) (zq zN (yaa ?_))))))))))); by_cases hp2 : r2 = 0
      · replace h := h.1 hp2; exact ze hp2 (yaf (zs (zq (zm (.pointer none)) (zq (zm (.slice Ad ld cd)) h.elim))))
      · replace h := h.2 hp2; exact zf hp2 (zs (zq (zm (ii r2)) (zq (za (ii 0)) (zq (za (ii r2)) (yaa (yaR rfl rfl rfl ⟨_, _, rfl, (hS.sel [] (by decide)), h⟩))))))
    · replace hS := hS.call3 hC 4 5 6 rfl rfl rfl (by decide) (by decide) (by decide); clear hC; refine ⟨_, rfl, ?_⟩; refine zb (zq (zm (.tuple #[(.pointer (some (⟨gr, 0, none⟩ : Addr))), (ii r3)])) (zq (zx (.pointer (some (⟨gr, 0, none⟩ : Addr)))) (zq (zx (ii r3)) (zq (za (.pointer (some (⟨gr, 0, none⟩ : Addr)))) (zq (za (ii r3)) (yaa (yac (zs (zq (zm (ii r3)) (zq zN (yaa ?_))))))))))); by_cases hp3 : r3 = 0
      · replace h := h.1 hp3; refine ze hp3 (yaf (zs (zq (zm (.pointer (some (⟨gr, 0, none⟩ : Addr)))) (zq (zm (.slice Ad ld cd)) ?_)))); obtain ⟨fu, h⟩ := h; have hB := hS.lend (asc [(4, 0), (6, 1)]) [4, 5, 6, 1] (by decide) ⟨.inl (yd2 rfl), .inr rfl, .inl (yd2 rfl), .inr rfl, trivial⟩; refine zn (yhp (vs := #[(.pointer (some (⟨gr, 0, none⟩ : Addr))), (.slice Ad ld cd)]) (us := #[]) rfl (am2 rfl rfl) enter_83 ((ydk (by simp) (yf5 h hB)).mono ?_)); rintro _ w6 ⟨r4, r5, y, rfl, hC, h⟩; replace hS := hS.back (asc [(4, 0), (6, 1)]) (yg2 (by decide)) hC; clear hC hB; refine ⟨_, rfl, ?_⟩; exact zb (zq (zx (ii r4)) (zq (zx (ii r5)) (zq (za (ii r4)) (zq (za (ii r5)) (yaa (yaR rfl rfl rfl ⟨_, _, rfl, (hS.sel [] (by decide)), h⟩))))))
      · replace h := h.2 hp3; exact zf hp3 (zs (zq (zm (ii r3)) (zq (za (ii 0)) (zq (za (ii r3)) (yaa (yaR rfl rfl rfl ⟨_, _, rfl, (hS.sel [] (by decide)), h⟩))))))
  · replace h := h.2 hp; exact zf hp (zs (zq (zm (ii r)) (zq (za (ii 0)) (zq (za (ii r)) (yaa (yaR rfl rfl rfl ⟨_, _, rfl, (hS.sel [] (by decide)), h⟩))))))
def ycs (g : Int) (g2 : List E3) (d : List Int) (r : Int) (R : Bool → Int → Prop) : Prop :=
yb6 g g2 ([d]) (fun r2 =>
(∃ J2 : Prop, (J2 → ya5 g g2 d (fun r3 r4 =>
((r4 = 0 →
R (decide (r ≤ r3)) r4) ∧
(¬ (r4 = 0) →
R false r4)))) ∧
((r2 = 0 →
((r < 0 →
R (decide (r2 = 0)) r2) ∧
(¬ (r < 0) →
J2))) ∧
(¬ (r2 = 0) →
R (decide (r2 = 0)) r2))))
theorem yhw {O : Nat → Prop} {w : World} {g g2 d r Ag lg cg Ad ld cd} {R : Bool → Int → Prop} (h : ycs g g2 d r R) (hO : ∀ k, O k → k < w.heap.size) (hA0 : (FP.sl c3 Ag lg cg g2).P O w) (hA1 : (FP.sl cI Ad ld cd d).P O w) :
    Calls Tryz.prog 44 #[(.agg #[(ii g), (.slice Ag lg cg)]), (.slice Ad ld cd), (ii r)] w fun e w' => ∃ r5 r6, e = .returned (.tuple #[(.bool (r5)), (ii r6)]) ∧ Sep w no O w' (rl []) ∧ R r5 r6 := by
  unfold ycs at h; have hS : Sep w no O w (rl [Res.ro (FP.sl c3 Ag lg cg g2), Res.ro (FP.sl cI Ad ld cd d)]) := Sep.startl hO [(FP.sl c3 Ag lg cg g2), (FP.sl cI Ad ld cd d)] ⟨hA0, hA1, trivial⟩; refine yar (l := [(.agg #[(ii g), (.slice Ag lg cg)]), (.slice Ad ld cd), (ii r)]) func44 rfl ntmps44 (Nat.le_of_ble_eq_true rfl) (zs (zn (ybq (v := (.agg #[(ii g), (.slice Ag lg cg)])) rfl ?_))); intro g3 w2 hN; replace hS : Sep w no O w2 (stl _ 2 (Res.box 24 g3 [(ii g), (.slice Ag lg cg)])) := hS.new 2 rfl hN; clear hN; refine zb (zq (za (.bool (false))) (zq (za (ii 0)) (yaa (yac (zs (zq (yas (vs := [(ii g), (.slice Ag lg cg)]) rfl underlying24 rfl yaq ⟨Row.cell (hS.bx 2 rfl) (i := 0) rfl, Row.cell (hS.bx 2 rfl) (i := 1) rfl, trivial⟩) (zq (zm (.slice Ad ld cd)) (zn (yaD (l := [(0, (.slice Ad ld cd))]) (cells := [(.slice Ad ld cd)]) (bp1 rfl) underlying67 ybu rfl rfl ?_))))))))); intro g4 w3 hN; replace hS := hS.lit (n := 1) (c := (cL cI)) 3 rfl hN ([d] : List (List Int)) rfl (by decide) ⟨[(.slice Ad ld cd)], _, rfl, (ro_R (hS.ro 1 rfl)), rfl⟩; clear hN; refine zb (zn (yan rfl (am2 rfl rfl) yjJ ((yex h (yaF _) (hS.rdr 0 rfl) (hS.rdo 3 rfl)).mono ?_))); rintro _ w4 ⟨r2, rfl, hC, h⟩; replace hS := hS.pur hC.pure; clear hC; refine ⟨_, rfl, ?_⟩; refine zb (zq (za (ii r2)) (yaa (yac ?_))); obtain ⟨J2, hJ, h⟩ := h; refine ydO (fun E ds w' => J2 ∧ ds = [] ∧ E 1 = (Value.slice Ad ld cd) ∧ E 2 = (ii r) ∧ E 3 = (Value.pointer (some (⟨g3, 0, none⟩ : Addr))) ∧ Sep w no O w' (rl [Res.ro (FP.sl cI Ad ld cd d), Res.box 24 g3 [(ii g), (.slice Ag lg cg)], Res.ro (FP.sl c3 Ag lg cg g2)])) ?_ ?_
  · clear h hS; rintro E ds w5 ⟨h, rfl, hE1, hE2, hE3, hS⟩; replace h := hJ h; refine zs (zq (yas (vs := [(ii g), (.slice Ag lg cg)]) hE3 underlying24 rfl yaq ⟨Row.cell (hS.bx 1 rfl) (i := 0) rfl, Row.cell (hS.bx 1 rfl) (i := 1) rfl, trivial⟩) (zq (yab hE1) (zn (yan rfl (am2 rfl rfl) yjw ((ye1 h (yaF _) (hS.rdr 2 rfl) (hS.rdr 0 rfl)).mono ?_))))); rintro _ w6 ⟨r3, r4, rfl, hC, h⟩; replace hS := hS.pur hC.pure; clear hC; refine ⟨_, rfl, ?_⟩; refine zb (zq (zm (.tuple #[(ii r3), (ii r4)])) (zq (zx (ii r3)) (zq (zx (ii r4)) (zq (za (ii r3)) (zq (za (ii r4)) (yaa (zs (zq (zm (ii r4)) (zq zE (zq (zm (.bool (decide (r4 = 0)))) ?_)))))))))); by_cases hp : r4 = 0
    · replace h := h.1 hp; exact rl_q (yae rfl (yaj rfl (congrArg Value.bool (decide_eq_true hp)))) rfl rfl (zm (ii r3)) (rl_q (yae rfl (yaj rfl (congrArg Value.bool (decide_eq_true hp)))) rfl rfl (yab hE2) (rl_q (yae rfl (yaj rfl (congrArg Value.bool (decide_eq_true hp)))) rfl rfl (v_geq rfl rfl) (zq (yaB (v := (.bool (decide (r ≤ r3)))) (congrArg Value.bool (decide_eq_true hp)) rfl) (zq (zm (ii r4)) (zq (za (.bool (decide (r ≤ r3)))) (zq (za (ii r4)) (yaa (yaR rfl rfl rfl ⟨_, _, rfl, (hS.sel [] (by decide)), h⟩))))))))
    · replace h := h.2 hp; exact rl_p (yad rfl (yaj rfl (congrArg Value.bool (decide_eq_false hp))) rfl) rfl (rl_p (yad rfl (yaj rfl (congrArg Value.bool (decide_eq_false hp))) rfl) rfl (rl_p (yad rfl (yaj rfl (congrArg Value.bool (decide_eq_false hp))) rfl) rfl (zq (yaz (v := (.bool (false))) (congrArg Value.bool (decide_eq_false hp)) rfl) (zq (zm (ii r4)) (zq (za (.bool (false))) (zq (za (ii r4)) (yaa (yaR rfl rfl rfl ⟨_, _, rfl, (hS.sel [] (by decide)), h⟩))))))))
  clear hJ; intro j; refine zr (zq (zm (ii r2)) (zq zN (zq (zm (.bool (!(decide (r2 = 0))))) ?_))); by_cases hp2 : r2 = 0
  · replace h := h.1 hp2; refine rl_q (yae rfl (yaj rfl (congrArg Value.bool (congrArg Bool.not (decide_eq_true hp2))))) rfl rfl (zm (ii r)) (rl_q (yae rfl (yaj rfl (congrArg Value.bool (congrArg Bool.not (decide_eq_true hp2))))) rfl rfl zL (zq (yaz (v := (.bool (decide (r < 0)))) (congrArg Value.bool (congrArg Bool.not (decide_eq_true hp2))) rfl) (yaa ?_))); by_cases hp3 : r < 0
    · replace h := h.1 hp3; exact zc hp3 (zs (zq (zm (ii r2)) (zq zE (zq (zm (ii r2)) (zq (za (.bool (decide (r2 = 0)))) (zq (za (ii r2)) (yaa (yaR rfl rfl rfl ⟨_, _, rfl, (hS.sel [] (by decide)), h⟩))))))))
    · replace h := h.2 hp3; exact zd hp3 (yaf (j _ _ _ ⟨h, rfl, rfl, rfl, rfl, (hS.sel [1, 2, 0] (by decide))⟩))
  · replace h := h.2 hp2; exact rl_p (yad rfl (yaj rfl (congrArg Value.bool (congrArg Bool.not (decide_eq_false hp2)))) rfl) rfl (rl_p (yad rfl (yaj rfl (congrArg Value.bool (congrArg Bool.not (decide_eq_false hp2)))) rfl) rfl (zq (yaB (v := (.bool (true))) (congrArg Value.bool (congrArg Bool.not (decide_eq_false hp2))) rfl) (yaa (yau rfl (zs (zq (zm (ii r2)) (zq zE (zq (zm (ii r2)) (zq (za (.bool (decide (r2 = 0)))) (zq (za (ii r2)) (yaa (yaR rfl rfl rfl ⟨_, _, rfl, (hS.sel [] (by decide)), h⟩))))))))))))
def ydQ (d : List Int) (degree : Int) (R : Prop) : Prop :=
R
theorem ygf {O : Nat → Prop} {w : World} {d degree Ad ld cd} {R : Prop} (h : ydQ d degree R) (hO : ∀ k, O k → k < w.heap.size) (hA0 : (FP.sl cI Ad ld cd d).P O w) :
    Calls Tryz.prog 45 #[(.slice Ad ld cd), (ii degree)] w fun e w' => ∃ gr gr2, e = .returned (.func (Fn.func 88) #[] #[(.pointer (some (⟨gr, 0, none⟩ : Addr))), (.pointer (some (⟨gr2, 0, none⟩ : Addr)))]) ∧ Sep w no O w' (rl [Res.box 26 gr [(.slice Ad ld cd)], Res.box 3 gr2 [(ii degree)]]) ∧ R := by
  unfold ydQ at h; have hS : Sep w no O w (rl [Res.ro (FP.sl cI Ad ld cd d)]) := Sep.startl hO [(FP.sl cI Ad ld cd d)] ⟨hA0, trivial⟩; refine yar (l := [(.slice Ad ld cd), (ii degree)]) func45 rfl ntmps45 (Nat.le_of_ble_eq_true rfl) (zs (zn (ybq (v := (.slice Ad ld cd)) rfl ?_))); intro g w2 hN; replace hS : Sep w no O w2 (stl _ 1 (Res.box 26 g [(.slice Ad ld cd)])) := hS.new 1 rfl hN; clear hN; refine zb (zn (ybq (v := (ii degree)) rfl ?_)); intro g2 w3 hN; replace hS : Sep w no O w3 (stl _ 2 (Res.box 3 g2 [(ii degree)])) := hS.new 2 rfl hN; clear hN; exact zb (zq (za Value.nilFunc) (yaa (zs (zq (v_func (am0) (am2 rfl rfl)) (zq (za (.func (Fn.func 88) #[] #[(.pointer (some (⟨g, 0, none⟩ : Addr))), (.pointer (some (⟨g2, 0, none⟩ : Addr)))])) (yaa (yal rfl rfl ⟨_, _, rfl, (hS.sel [1, 2] (by decide)), h⟩)))))))
def ybX (cap : List Int) (cap2 : Int) (Pr R : List (List Int × List Int) → Prop) : Prop :=
((0 ≤ ((cap.length : Nat) : Int) ∧ ((cap.length : Nat) : Int) ≤ 1000000) ∧
(In64 (((cap.length : Nat) : Int) - 1) ∧
((0 ≤ (((cap.length : Nat) : Int) - 1) ∧ (((cap.length : Nat) : Int) - 1) < (((List.replicate ((cap.length : Nat) : Int).toNat (0 : Int)).length : Nat) : Int)) ∧
(∃ I2 : Nat → (List (List Int × List Int)) → (List Int) → Bool → Prop, (∃ m0, I2 m0 ([]) ((List.replicate ((cap.length : Nat) : Int).toNat (0 : Int)).set (((cap.length : Nat) : Int) - 1).toNat cap2) true) ∧ ∀ m2 pre2 e2 more, I2 m2 pre2 e2 more → 
((more = true →
(∃ I3 : Nat → (List (List Int × List Int)) → Int → (List Int) → Prop, (∃ m0, I3 m0 pre2 0 (List.replicate ((cap.length : Nat) : Int).toNat (0 : Int))) ∧ ∀ m3 pre3 v left, I3 m3 pre3 v left → 
((v < (((List.replicate ((cap.length : Nat) : Int).toNat (0 : Int)).length : Nat) : Int) →
((0 ≤ v ∧ v < ((cap.length : Nat) : Int)) ∧
((0 ≤ v ∧ v < ((e2.length : Nat) : Int)) ∧
(In64 ((gi cap v.toNat) - (gi e2 v.toNat)) ∧
((0 ≤ v ∧ v < ((left.length : Nat) : Int)) ∧
(In64 (v + 1) ∧
∃ m4, m4 < m3 ∧ I3 m4 pre3 (v + 1) (left.set v.toNat ((gi cap v.toNat) - (gi e2 v.toNat))))))))) ∧
(¬ (v < (((List.replicate ((cap.length : Nat) : Int).toNat (0 : Int)).length : Nat) : Int)) →
(Pr (pre3 ++ [(e2, left)]) ∧
(yc3 e2 (fun r r2 r3 =>
∃ m5, m5 < m2 ∧ I2 m5 (pre3 ++ [(e2, left)]) r r2) ∧
True)))))) ∧
(¬ (more = true) →
R pre2))))))
theorem yfj {w : World} {T0 G0 : BS} {cap cap2 gc Acap lcap ccap gc2} {Pr R : List (List Int × List Int) → Prop} (h : ybX cap cap2 Pr R) (hS0 : Sep w G0 T0 w (rl [Res.box 26 gc [(Value.slice Acap lcap ccap)], Res.ro (FP.sl cI Acap lcap ccap cap), Res.box 3 gc2 [(Value.int .i64 cap2)]])) :
    yhG Tryz.prog 88 #[(.pointer (some (⟨gc, 0, none⟩ : Addr))), (.pointer (some (⟨gc2, 0, none⟩ : Addr)))] (fun (x : List Int × List Int) (b : (Option Addr × Nat × Nat) × (Option Addr × Nat × Nat)) => #[(.slice b.1.1 b.1.2.1 b.1.2.2), (.slice b.2.1 b.2.2.1 b.2.2.2)]) (fun (x : List Int × List Int) (b : (Option Addr × Nat × Nat) × (Option Addr × Nat × Nat)) => (FP.and (FP.sl cI b.1.1 b.1.2.1 b.1.2.2 x.1) (FP.sl cI b.2.1 b.2.2.1 b.2.2.2 x.2))) Pr R T0 G0 w := by
  unfold ybX at h; intro l J Jx T1 w1 hs hJ hp hT; obtain ⟨G, hJ, hS⟩ := gen_startP hS0 hs hJ hp hT; clear hS0 hp hT; refine yh0 (l := [(.func (.yield l) #[] #[]), (.pointer (some (⟨gc, 0, none⟩ : Addr))), (.pointer (some (⟨gc2, 0, none⟩ : Addr)))]) func88 rfl ntmps88 (Nat.le_of_ble_eq_true rfl) rfl (zs (zq (zl underlying26 (Row.cell (hS.bx 0 rfl) (i := 0) rfl)) (zq (yaO (n := cap.length) rfl underlying26 (yaL (hS.rdr 1 rfl))) ?_))); obtain ⟨hx, h⟩ := h; refine zn (ygJ rfl rfl underlying26 yag (by decide) rfl hx ?_); intro g w2 hN; replace hS := hS.made 3 rfl cI (ii 0) (0 : Int) (fun _ _ => rfl) hN (by omega); clear hN; refine zb (zq (za (.slice (some ⟨g, 0, none⟩) (((cap.length : Nat) : Int).toNat) (((cap.length : Nat) : Int).toNat))) (yaa (zs (zq (zm (.slice (some ⟨g, 0, none⟩) (((cap.length : Nat) : Int).toNat) (((cap.length : Nat) : Int).toNat))) (zq (zl underlying26 (Row.cell (hS.bx 0 rfl) (i := 0) rfl)) (zq (yaO (n := cap.length) rfl underlying26 (yaL (hS.rdr 1 rfl))) ?_)))))); obtain ⟨hi, h⟩ := h; refine zq (zS hi) (zq (zl underlying3 (Row.cell (hS.bx 2 rfl) (i := 0) rfl)) ?_); obtain ⟨hx2, h⟩ := h; refine zq (zi underlying26 yag (yaG (hS.rdo 3 rfl) hx2)) (zo (zt (ii cap2) yag (hS.wr 3 rfl rfl hx2) ?_)); intro w3 e1; replace hS := hS.st 3 rfl rfl hx2 (x := cap2) rfl e1; clear e1; refine zb (yaa (zs (zq (za (.bool (true))) (yaa (yak ?_))))); obtain ⟨I2, ⟨m0, h0⟩, hr⟩ := h; refine yaw (fun m E ds w' => ∃ pre2 e2 more, ∃ T2 : BS, ∃ G2 : BS, ∃ wb2 : World, ∃ Ae le ce, I2 m pre2 e2 more ∧ ds = [] ∧ E 0 = (Value.func (.yield l) #[] #[]) ∧ E 1 = (Value.pointer (some (⟨gc, 0, none⟩ : Addr))) ∧ E 4 = (Value.slice Ae le ce) ∧ E 5 = (Value.bool (more)) ∧ J T2 G2 pre2 wb2 ∧ Sep wb2 G2 T2 w' (rl [Res.own cI 3 Ae le ce e2, Res.box 26 gc [(.slice Acap lcap ccap)], Res.ro (FP.sl cI Acap lcap ccap cap)])) m0 ⟨_, _, _, _, _, _, _, _, _, h0, rfl, rfl, rfl, rfl, rfl, hJ, (hS.sel [3, 0, 1] (by decide))⟩ ?_; clear h0 hS hJ; rintro m2 E ds w4 ⟨pre2, e2, more, T2, G2, wb2, Ae, le, ce, h, rfl, hE0, hE1, hE4, hE5, hJ, hS⟩ again; replace h := hr m2 pre2 e2 more h; clear hr; refine yac (zs (zq (yab hE5) (yaa ?_))); by_cases hp : more = true
  · replace h := h.1 hp; refine yau (congrArg Value.bool hp) (yaf (yak (zs (zq (yah hE1 underlying26 rfl (Row.cell (hS.bx 1 rfl) (i := 0) rfl)) (zq (yaO (n := cap.length) rfl underlying26 (yaL (hS.rdr 2 rfl))) (zn (ygJ rfl rfl underlying26 yag (by decide) rfl hx ?_))))))); intro g2 w5 hN; replace hS := hS.made 3 rfl cI (ii 0) (0 : Int) (fun _ _ => rfl) hN (by omega); clear hN; refine zb (zq (za (.slice (some ⟨g2, 0, none⟩) (((cap.length : Nat) : Int).toNat) (((cap.length : Nat) : Int).toNat))) (yaa (yac (zs (zq (zm (.slice (some ⟨g2, 0, none⟩) (((cap.length : Nat) : Int).toNat) (((cap.length : Nat) : Int).toNat))) (zq (yaO (n := (List.replicate ((cap.length : Nat) : Int).toNat (0 : Int)).length) rfl underlying26 (yaL (hS.rdo 3 rfl))) (zq (zm (ii 0)) (yaa (yak ?_))))))))); obtain ⟨I3, ⟨m0, h0⟩, hr⟩ := h; refine yaw (fun m E ds w' => ∃ pre3 v left, ∃ T3 : BS, ∃ G3 : BS, ∃ wb3 : World, ∃ Aleft lleft cleft, I3 m pre3 v left ∧ ds = [] ∧ E 0 = (Value.func (.yield l) #[] #[]) ∧ E 1 = (Value.pointer (some (⟨gc, 0, none⟩ : Addr))) ∧ E 4 = (Value.slice Ae le ce) ∧ E 6 = (Value.slice Aleft lleft cleft) ∧ E 22 = (ii (((List.replicate ((cap.length : Nat) : Int).toNat (0 : Int)).length : Nat) : Int)) ∧ E 23 = (ii v) ∧ J T3 G3 pre3 wb3 ∧ Sep wb3 G3 T3 w' (rl [Res.box 26 gc [(.slice Acap lcap ccap)], Res.ro (FP.sl cI Acap lcap ccap cap), Res.own cI 3 Ae le ce e2, Res.own cI 3 Aleft lleft cleft left])) m0 ⟨_, _, _, _, _, _, _, _, _, h0, rfl, hE0, hE1, hE4, rfl, rfl, rfl, hJ, (hS.sel [1, 2, 0, 3] (by decide))⟩ ?_; clear h0 hS hJ; rintro m3 E ds w6 ⟨pre3, v, left, T3, G3, wb3, Aleft, lleft, cleft, h, rfl, hE0, hE1, hE4, hE6, hE22, hE23, hJ, hS⟩ again2; replace h := hr m3 pre3 v left h; clear hr; refine zs (zq (yaJ hE23 hE22) (yaa (yac ?_))); by_cases hp2 : v < (((List.replicate ((cap.length : Nat) : Int).toNat (0 : Int)).length : Nat) : Int)
    · replace h := h.1 hp2; refine zc hp2 (yaf (yac (yak (zs (zq (yab hE23) (zq (za (ii v)) (yaa (ya3 [0, 1, 2, 3, 4, 5, 6, 7, 8, 9, 10, 11, 12] st0 ya8 (by kernel_rfl) (by kernel_rfl) ?_)))))))); replace hS := hS.drew; refine zp (yab hE6) (zp (zm (ii v)) (zp (yah hE1 underlying26 rfl (Row.cell (hS.bx 0 rfl) (i := 0) rfl)) (zp (zm (ii v)) ?_))); obtain ⟨hx3, h⟩ := h; refine zp (zi underlying26 yag (yaG (hS.rdr 1 rfl) hx3)) (zp (yah (v := (ii (gi cap v.toNat))) rfl underlying3 rfl (rd_1 (hS.rdr 1 rfl) hx3 (fun q => yaI q) rfl)) ?_); refine zp (yab hE4) (zp (zm (ii v)) ?_); obtain ⟨hx4, h⟩ := h; refine zp (zi underlying26 yag (yaG (hS.rdo 2 rfl) hx4)) (zp (yah (v := (ii (gi e2 v.toNat))) rfl underlying3 rfl (rd_1 (hS.rdo 2 rfl) hx4 (fun q => yaI q) rfl)) ?_); obtain ⟨hi2, h⟩ := h; refine zp (zS hi2) ?_; obtain ⟨hx5, h⟩ := h; refine zp (zi underlying26 yag (yaG (hS.rdo 3 rfl) hx5)) (yg8 rfl rfl rfl (zt (ii ((gi cap v.toNat) - (gi e2 v.toNat))) yag (hS.wr 3 rfl rfl hx5) ?_)); intro w7 e1; replace hS := hS.st 3 rfl rfl hx5 (x := (gi cap v.toNat) - (gi e2 v.toNat)) rfl e1; clear e1; refine zb (ybl (yai (zr ?_))); obtain ⟨hi3, h⟩ := h; refine zq (yaC hE23 rfl hi3) (zq (zm (ii (v + 1))) (yaa ?_)); obtain ⟨mq, hlt, h⟩ := h; exact again2 mq _ _ _ ⟨_, _, _, _, _, _, _, _, _, h, rfl, hE0, hE1, hE4, hE6, hE22, rfl, hJ, (hS.sel [0, 1, 2, 3] (by decide))⟩ hlt
    · replace h := h.2 hp2; refine zd hp2 (yav rfl (yac (zs (zq (yab hE0) (zq (yab hE4) (zq (yab hE6) ?_)))))); replace hS := hS.frz 2 rfl; replace hS := hS.frz 3 rfl; obtain ⟨hPr, hyes, hno⟩ := h; refine zn (n_yield (m := 1) rfl (am2 rfl rfl) (gen_yieldP (x := (e2, left)) (b := ((Ae, le, ce), (Aleft, lleft, cleft))) hs hJ hS hPr ⟨(hS.ro 2 rfl), (hS.ro 3 rfl)⟩ ?_ ?_))
      · clear hno hJ hS; have h := hyes; clear hyes; intro T4 w8 hJ hS; generalize OwnB _ = G4 at hJ hS; refine ⟨_, rfl, ?_⟩; refine zb (zq (ydA rfl) (yaa (yay (congrArg Value.bool (congrArg Bool.not rfl)) (yaf (zr (zq (yab hE4) (zn (yan rfl (am1 rfl) enter_89 ((pok_chips_Next h (yaF _) (hS.rdr 2 rfl)).mono ?_))))))))); rintro _ w9 ⟨r, r2, r3, Ar, lr, cr, rfl, hC, h⟩; replace hS := hS.call1 (hC.widen (ydi (ya1 (fI .i64) _ _ _ _ _) yeb) hS.blt) 4 0 rfl; clear hC; refine ⟨_, rfl, ?_⟩; refine zb (zq (zm (.tuple #[(.slice Ar lr cr), (.bool (r2)), (ii r3)])) (zq (zx (.slice Ar lr cr)) (zq (zx (.bool (r2))) (zq (zx (ii r3)) (zq (za (.slice Ar lr cr)) (zq (za (.bool (r2))) (yaa (yai ?_)))))))); obtain ⟨mq, hlt, h⟩ := h; exact again mq _ _ _ ⟨_, _, _, _, _, _, _, _, _, h, rfl, hE0, hE1, rfl, rfl, hJ, (hS.sel [4, 0, 1] (by decide))⟩ hlt
      · clear hyes hJ hS; have h := hno; clear hno; intro T5 w10 hJ hS; generalize OwnB _ = G5 at hJ hS; refine ⟨_, rfl, ?_⟩; exact zb (zq (ydA rfl) (yaa (yau (congrArg Value.bool (congrArg Bool.not rfl)) (wt_ret0 rfl ⟨⟨_, rfl⟩, gen_endxP hs hJ hS⟩))))
  · replace h := h.2 hp; exact yay (congrArg Value.bool (Bool.eq_false_iff.2 hp)) (yav rfl (yiA rfl ⟨⟨_, rfl⟩, gen_endP hs hJ hS h⟩))
def ybA (g : Int) (g2 : List E3) (d : List Int) (R : (List Int) → Int → Prop) : Prop :=
ya5 g g2 d (fun r r2 =>
((r2 = 0 →
(In64 (r + 1) ∧
ydQ d (r + 1) ((∃ Pr Rr : List (List Int × List Int) → Prop, ybX d (r + 1) Pr Rr ∧
(∃ I2 : List (List Int × List Int) → Int → Prop, I2 [] 0 ∧
(∀ pre y y2 n, I2 pre n → Pr (pre ++ [(y, y2)]) →
(In64 (n + 1) ∧
((16384 < (n + 1) →
R ([]) 12) ∧
(¬ (16384 < (n + 1)) →
yaU g g2 y2 (fun r5 r6 r7 r8 =>
((r8 = 0 →
((r5 = true →
I2 (pre ++ [(y, y2)]) (n + 1)) ∧
(¬ (r5 = true) →
R y 0))) ∧
(¬ (r8 = 0) →
ydP r8 (fun r11 =>
R ([]) r11)))))))) ∧
(∀ ys n, I2 ys n → Rr ys →
R ([]) 12)))))) ∧
(¬ (r2 = 0) →
R ([]) r2)))
theorem yfk {O : Nat → Prop} {w : World} {g g2 d Ag lg cg Ad ld cd} {R : (List Int) → Int → Prop} (h : ybA g g2 d R) (hO : ∀ k, O k → k < w.heap.size) (hA0 : (FP.sl c3 Ag lg cg g2).P O w) (hA1 : (FP.sl cI Ad ld cd d).P O w) :
    Calls Tryz.prog 36 #[(.agg #[(ii g), (.slice Ag lg cg)]), (.slice Ad ld cd)] w fun e w' => ∃ r16 r17 Ar7 lr7 cr7, e = .returned (.tuple #[(.slice Ar7 lr7 cr7), (ii r17)]) ∧ Sep w no O w' (rl [Res.ro (FP.sl cI Ar7 lr7 cr7 r16)]) ∧ R r16 r17 := by
  unfold ybA at h; have hS : Sep w no O w (rl [Res.ro (FP.sl c3 Ag lg cg g2), Res.ro (FP.sl cI Ad ld cd d)]) := Sep.startl hO [(FP.sl c3 Ag lg cg g2), (FP.sl cI Ad ld cd d)] ⟨hA0, hA1, trivial⟩; refine yfL (l := [(.agg #[(ii g), (.slice Ag lg cg)]), (.slice Ad ld cd)]) func36 rfl ntmps36 (Nat.le_of_ble_eq_true rfl) (zs (zn (ybq (v := (.agg #[(ii g), (.slice Ag lg cg)])) rfl ?_))); intro g3 w2 hN; replace hS : Sep w no O w2 (stl _ 2 (Res.box 24 g3 [(ii g), (.slice Ag lg cg)])) := hS.new 2 rfl hN; clear hN; refine zb (zn (ya7 ybu ?_)); intro g4 w3 hN; replace hS : Sep w no O w3 (stl _ 3 (Res.box 26 g4 [(.slice none 0 0)])) := hS.new 3 rfl hN; clear hN; refine zb (zn (ya7 ybV ?_)); intro g5 w4 hN; replace hS : Sep w no O w4 (stl _ 4 (Res.box 30 g5 [(ii 0)])) := hS.new 4 rfl hN; clear hN; refine zb (yaa (zs (zq (yas (vs := [(ii g), (.slice Ag lg cg)]) rfl underlying24 rfl yaq ⟨Row.cell (hS.bx 2 rfl) (i := 0) rfl, Row.cell (hS.bx 2 rfl) (i := 1) rfl, trivial⟩) (zq (zm (.slice Ad ld cd)) (zn (yan rfl (am2 rfl rfl) yjw ((ye1 h (yaF _) (hS.rdr 0 rfl) (hS.rdr 1 rfl)).mono ?_))))))); rintro _ w5 ⟨r, r2, rfl, hC, h⟩; replace hS := hS.pur hC.pure; clear hC; refine ⟨_, rfl, ?_⟩; refine zb (zq (zm (.tuple #[(ii r), (ii r2)])) (zq (zx (ii r)) (zq (zx (ii r2)) (zq (za (ii r)) (zq (za (ii r2)) (yaa (yac (zs (zq (zm (ii r2)) (zq zN (yaa ?_))))))))))); by_cases hp : r2 = 0
  · replace h := h.1 hp; refine ze hp (yaf (zs (zn (ya7 yag ?_)))); intro g6 w6 hN; replace hS : Sep w no O w6 (stl _ 5 (Res.box 3 g6 [(ii 0)])) := hS.new 5 rfl hN; clear hN; refine zb (zo (zt (ii 0) yag (hS.bwr 5 rfl (j := 0) rfl) ?_)); intro w7 e1; replace hS := hS.bst 5 rfl 0 (ii 0) e1; clear e1; refine zb (yaa (yac (zs (zq (zm (.slice Ad ld cd)) (zq (zm (ii r)) ?_))))); obtain ⟨hi, h⟩ := h; refine zq (zA hi) (zn (yan rfl (am2 rfl rfl) enter_45 ((ygf h hS.blt (hS.ro 1 rfl)).mono ?_))); rintro _ w8 ⟨gc, gc2, rfl, hC, h⟩; replace hS := hS.call2 hC 6 0 7 1 rfl rfl (by decide) (by decide); clear hC; refine ⟨_, rfl, ?_⟩; refine zb (yaa (yak ?_)); obtain ⟨Pr, Rr, hgp, I2, h0, hb, h⟩ := h; refine yj0 hS [2, 0, 3, 4, 5] [6, 1, 7] (by decide) (by decide) ⟨.inl (by decide), .inr rfl, .inl (by decide), trivial⟩ rfl enter_88 (val := (fun (x : List Int × List Int) (b : (Option Addr × Nat × Nat) × (Option Addr × Nat × Nat)) => #[(.slice b.1.1 b.1.2.1 b.1.2.2), (.slice b.2.1 b.2.2.1 b.2.2.2)])) (pass := (fun (x : List Int × List Int) (b : (Option Addr × Nat × Nat) × (Option Addr × Nat × Nat)) => (FP.and (FP.sl cI b.1.1 b.1.2.1 b.1.2.2 x.1) (FP.sl cI b.2.1 b.2.2.1 b.2.2.2 x.2)))) (Pr := Pr) (R := Rr) (fun _ _ => rfl) rfl (fun pr LL => ∃ n, I2 pr n ∧ LL = [Res.box 24 g3 [(ii g), (.slice Ag lg cg)], Res.ro (FP.sl c3 Ag lg cg g2), Res.box 26 g4 [(.slice none 0 0)], Res.box 30 g5 [(ii 0)], Res.box 3 g6 [(ii n)]]) (fun c ys LL => c = none ∧ ∃ r14 r15 Ar6 lr6 cr6, LL = [Res.box 26 g4 [(.slice Ar6 lr6 cr6)], Res.box 30 g5 [(ii r15)], Res.ro (FP.sl cI Ar6 lr6 cr6 r14)] ∧ R r14 r15) ⟨_, h0, rfl⟩ (fun T G hG => yfj hgp hG) ?_ ?_ ?_
    · clear h h0 hS hgp; rintro ll rdy busy S O2 pre ⟨y, y2⟩ ⟨⟨A, l, c⟩, ⟨A2, l2, c2⟩⟩ w9 _ ⟨n, hI, rfl⟩ hPr hpass hS; have h := hb pre y y2 n hI hPr; clear hb hI hPr; replace hS := hS.addro2 6 7 rfl rfl (by decide) _ _ hpass; clear hpass; refine yac (yaT (yaY ll) (zq (za (.slice A l c)) (yaa (yaT (yaY ll) (zq (za (.slice A2 l2 c2)) (yaa (yfH fun a ra => ⟨rfl, _, _, ra, hS, ⟨5, rfl⟩, ?_⟩))))))); intro w11 hw; replace hS := hS.flip 5 rfl busy hw; clear hw ra a; refine yak (yac (yac (yaT (yaY ll) (zq (zl underlying3 (Row.cell (hS.bx 4 rfl) (i := 0) rfl)) ?_)))); obtain ⟨hi2, h⟩ := h; refine zq (zA hi2) (zo (zt (ii (n + 1)) yag (hS.bwr 4 rfl (j := 0) rfl) ?_)); intro w12 e1; replace hS := hS.bst 4 rfl 0 (ii (n + 1)) e1; clear e1; refine zb (yaa (yac (yaT (yaY ll) (zq (zl underlying3 (Row.cell (hS.bx 4 rfl) (i := 0) rfl)) (zq zG (yaa ?_)))))); by_cases hp2 : 16384 < (n + 1)
      · replace h := h.1 hp2; refine zc hp2 (yac (yaT (yaY ll) (zo (zt (.slice none 0 0) ybu (hS.bwr 2 rfl (j := 0) rfl) ?_)))); intro w13 e1; replace hS := hS.bst 2 rfl 0 (.slice none 0 0) e1; clear e1; refine zb (zo (zt (ii 12) ybV (hS.bwr 3 rfl (j := 0) rfl) ?_)); intro w14 e1; replace hS := hS.bst 3 rfl 0 (ii 12) e1; clear e1; refine zb (yaa ?_); replace hS := hS.addro 8 rfl _ (nil_sl cI _ _); exact ycS fun a r => ⟨_, ⟨rfl, ([]), 12, none, 0, 0, rfl, h⟩, (hS.sel [2, 3, 8, 5] (by decide))⟩
      · replace h := h.2 hp2; refine zd hp2 (yaf (yac (yaT (yaY ll) (zq (yas (vs := [(ii g), (.slice Ag lg cg)]) rfl underlying24 rfl yaq ⟨Row.cell (hS.bx 0 rfl) (i := 0) rfl, Row.cell (hS.bx 0 rfl) (i := 1) rfl, trivial⟩) (zq (zm (.slice A2 l2 c2)) (zn (yan rfl (am2 rfl rfl) yhP ((ybE h (yaF _) (hS.rdr 1 rfl) (hS.rdr 7 rfl)).mono ?_)))))))); rintro _ w15 ⟨r5, r6, r7, r8, Ar2, lr2, cr2, Ar3, lr3, cr3, rfl, hC, h⟩; replace hS := hS.call2 (hC.widen (ydi (ya1 (fI .i64) _ _ _ _ _) (ydi (ya1 (fI .i64) _ _ _ _ _) yeb)) hS.blt) 8 0 9 1 rfl rfl (by decide) (by decide); clear hC; refine ⟨_, rfl, ?_⟩; refine zb (zq (zm (.tuple #[(.bool (r5)), (.slice Ar2 lr2 cr2), (.slice Ar3 lr3 cr3), (ii r8)])) (zq (zx (.bool (r5))) (zq (zx (.slice Ar2 lr2 cr2)) (zq (zx (.slice Ar3 lr3 cr3)) (zq (zx (ii r8)) (zq (za (.bool (r5))) (zq (za (.slice Ar2 lr2 cr2)) (zq (za (.slice Ar3 lr3 cr3)) (zq (za (ii r8)) (yaa (yac (yac (yaT (yaY ll) (zq (zm (ii r8)) (zq zN (yaa ?_)))))))))))))))); by_cases hp3 : r8 = 0
        · replace h := h.1 hp3; refine ze hp3 (yaf (yac (yaT (yaY ll) (zq (zm (.bool (r5))) (zq (ydA rfl) (yaa ?_)))))); by_cases hp4 : r5 = true
          · replace h := h.1 hp4; exact yay (congrArg Value.bool (congrArg Bool.not hp4)) (yaf (yai (yfH fun a r => ⟨_, ⟨_, h, rfl⟩, (hS.sel [0, 1, 2, 3, 4, 5] (by decide))⟩)))
          · replace h := h.2 hp4; refine yau (congrArg Value.bool (congrArg Bool.not (Bool.eq_false_iff.2 hp4))) (yac (yaT (yaY ll) (zq (zm (.slice A l c)) (zo (zt (.slice A l c) ybu (hS.bwr 2 rfl (j := 0) rfl) ?_))))); intro w16 e1; replace hS := hS.bst 2 rfl 0 (.slice A l c) e1; clear e1; refine zb (zo (zt (ii 0) ybV (hS.bwr 3 rfl (j := 0) rfl) ?_)); intro w17 e1; replace hS := hS.bst 3 rfl 0 (ii 0) e1; clear e1; exact zb (yaa (ycS fun a r => ⟨_, ⟨rfl, y, 0, A, l, c, rfl, h⟩, (hS.sel [2, 3, 6, 5] (by decide))⟩))
        · replace h := h.2 hp3; refine zf hp3 (yac (yaT (yaY ll) (zq (zm (ii r8)) (zn (yan rfl (am1 rfl) enter_46 ((ygb h (yaF _)).mono ?_)))))); rintro _ w18 ⟨r11, rfl, hC, h⟩; replace hS := hS.pur hC.pure; clear hC; refine ⟨_, rfl, ?_⟩; refine zb (zo (zt (.slice none 0 0) ybu (hS.bwr 2 rfl (j := 0) rfl) ?_)); intro w19 e1; replace hS := hS.bst 2 rfl 0 (.slice none 0 0) e1; clear e1; refine zb (zo (zt (ii r11) ybV (hS.bwr 3 rfl (j := 0) rfl) ?_)); intro w20 e1; replace hS := hS.bst 3 rfl 0 (ii r11) e1; clear e1; refine zb (yaa ?_); replace hS := hS.addro 10 rfl _ (nil_sl cI _ _); exact ycS fun a r => ⟨_, ⟨rfl, ([]), r11, none, 0, 0, rfl, h⟩, (hS.sel [2, 3, 10, 5] (by decide))⟩
    · clear hb h0 hS hgp; rintro D ys w10 _ hRr ⟨n, hI, rfl⟩ hS; replace h := h ys n hI hRr; clear hI hRr; refine yai (zs (zo (zt (.slice none 0 0) ybu (hS.bwr 2 rfl (j := 0) rfl) ?_))); intro w21 e1; replace hS := hS.bst 2 rfl 0 (.slice none 0 0) e1; clear e1; refine zb (zo (zt (ii 12) ybV (hS.bwr 3 rfl (j := 0) rfl) ?_)); intro w22 e1; replace hS := hS.bst 3 rfl 0 (ii 12) e1; clear e1; refine zb (yaa ?_); replace hS := hS.addro 6 rfl _ (nil_sl cI _ _); exact ycS (yfh (rs := [D]) hS 2 3 rfl rfl [5] (yfi 5 rfl) (by decide) (by decide) (by simp) (hS.marked 5 rfl) rfl rfl rfl underlying26 rfl underlying30 rfl (fun w9 hk => ⟨_, _, _, _, _, rfl, (hS.unmark [5] [6] (by decide) (by decide) (yfi 5 rfl) hk), h⟩))
    · clear h hb h0 hS hgp; rintro D2 c ys W9 _ ⟨rfl, r14, r15, Ar6, lr6, cr6, rfl, h⟩ hS; exact yfh (rs := [D2]) hS 0 1 rfl rfl [3] (yfi 3 rfl) (by decide) (by decide) (by simp) (hS.marked 3 rfl) rfl rfl rfl underlying26 rfl underlying30 rfl (fun w9 hk => ⟨_, _, _, _, _, rfl, (hS.unmark [3] [2] (by decide) (by decide) (yfi 3 rfl) hk), h⟩)
  · replace h := h.2 hp; refine zf hp (zs (zq (zm (ii r2)) (zo (zt (.slice none 0 0) ybu (hS.bwr 3 rfl (j := 0) rfl) ?_)))); intro w23 e1; replace hS := hS.bst 3 rfl 0 (.slice none 0 0) e1; clear e1; refine zb (zo (zt (ii r2) ybV (hS.bwr 4 rfl (j := 0) rfl) ?_)); intro w24 e1; replace hS := hS.bst 4 rfl 0 (ii r2) e1; clear e1; refine zb (yaa ?_); replace hS := hS.addro 5 rfl _ (nil_sl cI _ _); exact ycS (yfh (rs := []) hS 3 4 rfl rfl [] (by simp) (by decide) (by decide) (by simp) (by simp) rfl rfl rfl underlying26 rfl underlying30 rfl (fun w9 hk => ⟨_, _, _, _, _, rfl, (hS.unmark [] [5] (by decide) (by decide) (by simp) hk), h⟩))
def ybD (g : Int) (g2 : List E3) (d : List Int) (r : Int) (R : (List (List Int)) → Int → Prop) : Prop :=
yb6 g g2 ([d]) (fun r2 =>
((r2 = 0 →
((r < 0 →
R ([]) 2) ∧
(¬ (r < 0) →
ycs g g2 d r (fun r3 r4 =>
((r4 = 0 →
((r3 = true →
ydQ d r ((∃ Pr Rr : List (List Int × List Int) → Prop, ybX d r Pr Rr ∧
(∃ I2 : List (List Int × List Int) → (List (List Int)) → Prop, I2 [] ([]) ∧
(∀ pre y y2 out, I2 pre out → Pr (pre ++ [(y, y2)]) →
((((out.length : Nat) : Int) = 16384 →
R ([]) 12) ∧
(¬ (((out.length : Nat) : Int) = 16384) →
yaU g g2 y2 (fun r7 r8 r9 r10 =>
((r10 = 0 →
(out.length + 1 ≤ 1000000000 ∧
I2 (pre ++ [(y, y2)]) (out ++ [r9]))) ∧
(¬ (r10 = 0) →
ydP r10 (fun r11 =>
R ([]) r11))))))) ∧
(∀ ys out, I2 ys out → Rr ys →
R out 0))))) ∧
(¬ (r3 = true) →
R ([]) 15))) ∧
(¬ (r4 = 0) →
R ([]) r4)))))) ∧
(¬ (r2 = 0) →
R ([]) r2)))
theorem yf6 {O : Nat → Prop} {w : World} {g g2 d r Ag lg cg Ad ld cd} {R : (List (List Int)) → Int → Prop} (h : ybD g g2 d r R) (hO : ∀ k, O k → k < w.heap.size) (hA0 : (FP.sl c3 Ag lg cg g2).P O w) (hA1 : (FP.sl cI Ad ld cd d).P O w) :
    Calls Tryz.prog 9 #[(.agg #[(ii g), (.slice Ag lg cg)]), (.slice Ad ld cd), (ii r)] w fun e w' => ∃ r16 r17 Ar6 lr6 cr6, e = .returned (.tuple #[(.slice Ar6 lr6 cr6), (ii r17)]) ∧ Sep w no O w' (rl [Res.own (cL cI) 37 Ar6 lr6 cr6 r16]) ∧ R r16 r17 := by
  unfold ybD at h; have hS : Sep w no O w (rl [Res.ro (FP.sl c3 Ag lg cg g2), Res.ro (FP.sl cI Ad ld cd d)]) := Sep.startl hO [(FP.sl c3 Ag lg cg g2), (FP.sl cI Ad ld cd d)] ⟨hA0, hA1, trivial⟩; refine yfL (l := [(.agg #[(ii g), (.slice Ag lg cg)]), (.slice Ad ld cd), (ii r)]) func9 rfl ntmps9 (Nat.le_of_ble_eq_true rfl) (zs (zn (ybq (v := (.agg #[(ii g), (.slice Ag lg cg)])) rfl ?_))); intro g3 w2 hN; replace hS : Sep w no O w2 (stl _ 2 (Res.box 24 g3 [(ii g), (.slice Ag lg cg)])) := hS.new 2 rfl hN; clear hN; refine zb (zn (ya7 yew ?_)); intro g4 w3 hN; replace hS : Sep w no O w3 (stl _ 3 (Res.box 29 g4 [(.slice none 0 0)])) := hS.new 3 rfl hN; clear hN; refine zb (zn (ya7 ybV ?_)); intro g5 w4 hN; replace hS : Sep w no O w4 (stl _ 4 (Res.box 30 g5 [(ii 0)])) := hS.new 4 rfl hN; clear hN; refine zb (yaa (yac (zs (zq (yas (vs := [(ii g), (.slice Ag lg cg)]) rfl underlying24 rfl yaq ⟨Row.cell (hS.bx 2 rfl) (i := 0) rfl, Row.cell (hS.bx 2 rfl) (i := 1) rfl, trivial⟩) (zq (zm (.slice Ad ld cd)) (zn (yaD (l := [(0, (.slice Ad ld cd))]) (cells := [(.slice Ad ld cd)]) (bp1 rfl) underlying67 ybu rfl rfl ?_))))))); intro g6 w5 hN; replace hS := hS.lit (n := 1) (c := (cL cI)) 5 rfl hN ([d] : List (List Int)) rfl (by decide) ⟨[(.slice Ad ld cd)], _, rfl, (ro_R (hS.ro 1 rfl)), rfl⟩; clear hN; refine zb (zn (yan rfl (am2 rfl rfl) yjJ ((yex h (yaF _) (hS.rdr 0 rfl) (hS.rdo 5 rfl)).mono ?_))); rintro _ w6 ⟨r2, rfl, hC, h⟩; replace hS := hS.pur hC.pure; clear hC; refine ⟨_, rfl, ?_⟩; refine zb (zq (za (ii r2)) (yaa (zs (zq (zm (ii r2)) (zq zN (yaa ?_)))))); by_cases hp : r2 = 0
  · replace h := h.1 hp; refine ze hp (yaf (yac (zs (zq (zm (ii r)) (zq zL (yaa ?_)))))); by_cases hp2 : r < 0
    · replace h := h.1 hp2; refine zc hp2 (zs (zo (zt (.slice none 0 0) yew (hS.bwr 3 rfl (j := 0) rfl) ?_))); intro w7 e1; replace hS := hS.bst 3 rfl 0 (.slice none 0 0) e1; clear e1; refine zb (zo (zt (ii 2) ybV (hS.bwr 4 rfl (j := 0) rfl) ?_)); intro w8 e1; replace hS := hS.bst 4 rfl 0 (ii 2) e1; clear e1; refine zb (yaa ?_); replace hS := hS.nil 6 rfl (cL cI) 37; exact ycS (yfh (rs := []) hS 3 4 rfl rfl [] (by simp) (by decide) (by decide) (by simp) (by simp) rfl rfl rfl underlying29 rfl underlying30 rfl (fun w9 hk => ⟨_, _, _, _, _, rfl, (hS.unmark [] [6] (by decide) (by decide) (by simp) hk), h⟩))
    · replace h := h.2 hp2; refine zd hp2 (yaf (zs (zq (yas (vs := [(ii g), (.slice Ag lg cg)]) rfl underlying24 rfl yaq ⟨Row.cell (hS.bx 2 rfl) (i := 0) rfl, Row.cell (hS.bx 2 rfl) (i := 1) rfl, trivial⟩) (zq (zm (.slice Ad ld cd)) (zq (zm (ii r)) (zn (yan rfl (am3 rfl rfl rfl) enter_44 ((yhw h (yaF _) (hS.rdr 0 rfl) (hS.rdr 1 rfl)).mono ?_)))))))); rintro _ w9 ⟨r3, r4, rfl, hC, h⟩; replace hS := hS.pur hC.pure; clear hC; refine ⟨_, rfl, ?_⟩; refine zb (zq (zm (.tuple #[(.bool (r3)), (ii r4)])) (zq (zx (.bool (r3))) (zq (zx (ii r4)) (zq (za (.bool (r3))) (zq (za (ii r4)) (yaa (yac (zs (zq (zm (ii r4)) (zq zN (yaa ?_))))))))))); by_cases hp3 : r4 = 0
      · replace h := h.1 hp3; refine ze hp3 (yaf (yac (zs (zq (zm (.bool (r3))) (zq (ydA rfl) (yaa ?_)))))); by_cases hp4 : r3 = true
        · replace h := h.1 hp4; refine yay (congrArg Value.bool (congrArg Bool.not hp4)) (yaf (zs (zn (ya7 yew ?_)))); intro g7 w10 hN; replace hS : Sep w no O w10 (stl _ 6 (Res.box 29 g7 [(.slice none 0 0)])) := hS.new 6 rfl hN; clear hN; refine zb (yaa (yac (zs (zq (zm (.slice Ad ld cd)) (zq (zm (ii r)) (zn (yan rfl (am2 rfl rfl) enter_45 ((ygf h hS.blt (hS.ro 1 rfl)).mono ?_)))))))); rintro _ w11 ⟨gc, gc2, rfl, hC, h⟩; replace hS := hS.call2 hC 7 0 8 1 rfl rfl (by decide) (by decide); clear hC; refine ⟨_, rfl, ?_⟩; refine zb (yaa (yak ?_)); replace hS := hS.nil 9 rfl (cL cI) 37; obtain ⟨Pr, Rr, hgp, I2, h0, hb, h⟩ := h; refine yj0 hS [2, 0, 3, 4, 6, 9] [7, 1, 8] (by decide) (by decide) ⟨.inl (by decide), .inr rfl, .inl (by decide), trivial⟩ rfl enter_88 (val := (fun (x : List Int × List Int) (b : (Option Addr × Nat × Nat) × (Option Addr × Nat × Nat)) => #[(.slice b.1.1 b.1.2.1 b.1.2.2), (.slice b.2.1 b.2.2.1 b.2.2.2)])) (pass := (fun (x : List Int × List Int) (b : (Option Addr × Nat × Nat) × (Option Addr × Nat × Nat)) => (FP.and (FP.sl cI b.1.1 b.1.2.1 b.1.2.2 x.1) (FP.sl cI b.2.1 b.2.2.1 b.2.2.2 x.2)))) (Pr := Pr) (R := Rr) (fun _ _ => rfl) rfl (fun pr LL => ∃ out Aout lout cout, I2 pr out ∧ LL = [Res.box 24 g3 [(ii g), (.slice Ag lg cg)], Res.ro (FP.sl c3 Ag lg cg g2), Res.box 29 g4 [(.slice none 0 0)], Res.box 30 g5 [(ii 0)], Res.box 29 g7 [(.slice Aout lout cout)], Res.own (cL cI) 37 Aout lout cout out]) (fun c ys LL => c = none ∧ ∃ r14 r15 Ar5 lr5 cr5, LL = [Res.box 29 g4 [(.slice Ar5 lr5 cr5)], Res.box 30 g5 [(ii r15)], Res.own (cL cI) 37 Ar5 lr5 cr5 r14] ∧ R r14 r15) ⟨_, _, _, _, h0, rfl⟩ (fun T G hG => yfj hgp hG) ?_ ?_ ?_
          · clear h h0 hS hgp; rintro ll rdy busy S O2 pre ⟨y, y2⟩ ⟨⟨A, l, c⟩, ⟨A2, l2, c2⟩⟩ w12 _ ⟨out, Aout, lout, cout, hI, rfl⟩ hPr hpass hS; have h := hb pre y y2 out hI hPr; clear hb hI hPr; replace hS := hS.addro2 7 8 rfl rfl (by decide) _ _ hpass; clear hpass; refine yaT (yaY ll) (zq (za (.slice A2 l2 c2)) (yaa (yfH fun a ra => ⟨rfl, _, _, ra, hS, ⟨6, rfl⟩, ?_⟩))); intro w14 hw; replace hS := hS.flip 6 rfl busy hw; clear hw ra a; refine yak (yac (yac (yaT (yaY ll) (zq (zl underlying29 (Row.cell (hS.bx 4 rfl) (i := 0) rfl)) (zq (yaO (n := out.length) rfl underlying29 (yaL (hS.rdo 5 rfl))) (zq zE (yaa ?_))))))); by_cases hp5 : ((out.length : Nat) : Int) = 16384
            · replace h := h.1 hp5; refine zc hp5 (yac (yaT (yaY ll) (zo (zt (.slice none 0 0) yew (hS.bwr 2 rfl (j := 0) rfl) ?_)))); intro w15 e1; replace hS := hS.bst 2 rfl 0 (.slice none 0 0) e1; clear e1; refine zb (zo (zt (ii 12) ybV (hS.bwr 3 rfl (j := 0) rfl) ?_)); intro w16 e1; replace hS := hS.bst 3 rfl 0 (ii 12) e1; clear e1; refine zb (yaa ?_); replace hS := hS.nil 9 rfl (cL cI) 37; exact ycS fun a r => ⟨_, ⟨rfl, ([]), 12, none, 0, 0, rfl, h⟩, (hS.sel [2, 3, 9, 6] (by decide))⟩
            · replace h := h.2 hp5; refine zd hp5 (yaf (yac (yaT (yaY ll) (zq (yas (vs := [(ii g), (.slice Ag lg cg)]) rfl underlying24 rfl yaq ⟨Row.cell (hS.bx 0 rfl) (i := 0) rfl, Row.cell (hS.bx 0 rfl) (i := 1) rfl, trivial⟩) (zq (zm (.slice A2 l2 c2)) (zn (yan rfl (am2 rfl rfl) yhP ((ybE h (yaF _) (hS.rdr 1 rfl) (hS.rdr 8 rfl)).mono ?_)))))))); rintro _ w17 ⟨r7, r8, r9, r10, Ar2, lr2, cr2, Ar3, lr3, cr3, rfl, hC, h⟩; replace hS := hS.call2 (hC.widen (ydi (ya1 (fI .i64) _ _ _ _ _) (ydi (ya1 (fI .i64) _ _ _ _ _) yeb)) hS.blt) 9 0 10 1 rfl rfl (by decide) (by decide); clear hC; refine ⟨_, rfl, ?_⟩; refine zb (zq (zm (.tuple #[(.bool (r7)), (.slice Ar2 lr2 cr2), (.slice Ar3 lr3 cr3), (ii r10)])) (zq (zx (.bool (r7))) (zq (zx (.slice Ar2 lr2 cr2)) (zq (zx (.slice Ar3 lr3 cr3)) (zq (zx (ii r10)) (zq (za (.bool (r7))) (zq (za (.slice Ar2 lr2 cr2)) (zq (za (.slice Ar3 lr3 cr3)) (zq (za (ii r10)) (yaa (yac (yac (yaT (yaY ll) (zq (zm (ii r10)) (zq zN (yaa ?_)))))))))))))))); by_cases hp6 : r10 = 0
              · replace h := h.1 hp6; refine ze hp6 (yaf (yaT (yaY ll) (zq (zl underlying29 (Row.cell (hS.bx 4 rfl) (i := 0) rfl)) (zq (zm (.slice Ar3 lr3 cr3)) ?_)))); replace hS := hS.frz 10 rfl; refine zn (yaD (l := [(0, (.slice Ar3 lr3 cr3))]) (cells := [(.slice Ar3 lr3 cr3)]) (bp1 rfl) underlying29 yd9 rfl rfl ?_); intro g8 w18 hN; replace hS := hS.lit (n := 1) (c := (cL cI)) 11 rfl hN ([r9] : List (List Int)) rfl (by decide) ⟨[(.slice Ar3 lr3 cr3)], _, rfl, (ro_R (hS.ro 10 rfl)), rfl⟩; clear hN; refine zb ?_; obtain ⟨hx, h⟩ := h; refine zn (yee (c := (cL cI)) rfl rfl underlying29 underlying29 yd9 rfl rfl (by decide) hS 5 rfl (hS.yo 11 rfl) hx ?_); clear hS; intro A3 c3 w19 hS; refine zb (zo (zt (.slice A3 (lout + 1) c3) yew (hS.bwr 4 rfl (j := 0) rfl) ?_)); intro w20 e1; replace hS := hS.bst 4 rfl 0 (.slice A3 (lout + 1) c3) e1; clear e1; exact zb (yaa (yai (yfH fun a r => ⟨_, ⟨_, _, _, _, h, rfl⟩, (hS.sel [0, 1, 2, 3, 4, 5, 6] (by decide))⟩)))
              · replace h := h.2 hp6; refine zf hp6 (yac (yaT (yaY ll) (zq (zm (ii r10)) (zn (yan rfl (am1 rfl) enter_46 ((ygb h (yaF _)).mono ?_)))))); rintro _ w21 ⟨r11, rfl, hC, h⟩; replace hS := hS.pur hC.pure; clear hC; refine ⟨_, rfl, ?_⟩; refine zb (zo (zt (.slice none 0 0) yew (hS.bwr 2 rfl (j := 0) rfl) ?_)); intro w22 e1; replace hS := hS.bst 2 rfl 0 (.slice none 0 0) e1; clear e1; refine zb (zo (zt (ii r11) ybV (hS.bwr 3 rfl (j := 0) rfl) ?_)); intro w23 e1; replace hS := hS.bst 3 rfl 0 (ii r11) e1; clear e1; refine zb (yaa ?_); replace hS := hS.nil 11 rfl (cL cI) 37; exact ycS fun a r => ⟨_, ⟨rfl, ([]), r11, none, 0, 0, rfl, h⟩, (hS.sel [2, 3, 11, 6] (by decide))⟩
          · clear hb h0 hS hgp; rintro D ys w13 _ hRr ⟨out, Aout, lout, cout, hI, rfl⟩ hS; replace h := h ys out hI hRr; clear hI hRr; refine yai (zs (zq (zl underlying29 (Row.cell (hS.bx 4 rfl) (i := 0) rfl)) (zo (zt (.slice Aout lout cout) yew (hS.bwr 2 rfl (j := 0) rfl) ?_)))); intro w24 e1; replace hS := hS.bst 2 rfl 0 (.slice Aout lout cout) e1; clear e1; refine zb (zo (zt (ii 0) ybV (hS.bwr 3 rfl (j := 0) rfl) ?_)); intro w25 e1; replace hS := hS.bst 3 rfl 0 (ii 0) e1; clear e1; exact zb (yaa (ycS (yfh (rs := [D]) hS 2 3 rfl rfl [6] (yfi 6 rfl) (by decide) (by decide) (by simp) (hS.marked 6 rfl) rfl rfl rfl underlying29 rfl underlying30 rfl (fun w9 hk => ⟨_, _, _, _, _, rfl, (hS.unmark [6] [5] (by decide) (by decide) (yfi 6 rfl) hk), h⟩))))
          · clear h hb h0 hS hgp; rintro D2 c ys W9 _ ⟨rfl, r14, r15, Ar5, lr5, cr5, rfl, h⟩ hS; exact yfh (rs := [D2]) hS 0 1 rfl rfl [3] (yfi 3 rfl) (by decide) (by decide) (by simp) (hS.marked 3 rfl) rfl rfl rfl underlying29 rfl underlying30 rfl (fun w9 hk => ⟨_, _, _, _, _, rfl, (hS.unmark [3] [2] (by decide) (by decide) (yfi 3 rfl) hk), h⟩)
        · replace h := h.2 hp4; refine yau (congrArg Value.bool (congrArg Bool.not (Bool.eq_false_iff.2 hp4))) (zs (zo (zt (.slice none 0 0) yew (hS.bwr 3 rfl (j := 0) rfl) ?_))); intro w26 e1; replace hS := hS.bst 3 rfl 0 (.slice none 0 0) e1; clear e1; refine zb (zo (zt (ii 15) ybV (hS.bwr 4 rfl (j := 0) rfl) ?_)); intro w27 e1; replace hS := hS.bst 4 rfl 0 (ii 15) e1; clear e1; refine zb (yaa ?_); replace hS := hS.nil 6 rfl (cL cI) 37; exact ycS (yfh (rs := []) hS 3 4 rfl rfl [] (by simp) (by decide) (by decide) (by simp) (by simp) rfl rfl rfl underlying29 rfl underlying30 rfl (fun w9 hk => ⟨_, _, _, _, _, rfl, (hS.unmark [] [6] (by decide) (by decide) (by simp) hk), h⟩))
      · replace h := h.2 hp3; refine zf hp3 (zs (zq (zm (ii r4)) (zo (zt (.slice none 0 0) yew (hS.bwr 3 rfl (j := 0) rfl) ?_)))); intro w28 e1; replace hS := hS.bst 3 rfl 0 (.slice none 0 0) e1; clear e1; refine zb (zo (zt (ii r4) ybV (hS.bwr 4 rfl (j := 0) rfl) ?_)); intro w29 e1; replace hS := hS.bst 4 rfl 0 (ii r4) e1; clear e1; refine zb (yaa ?_); replace hS := hS.nil 6 rfl (cL cI) 37; exact ycS (yfh (rs := []) hS 3 4 rfl rfl [] (by simp) (by decide) (by decide) (by simp) (by simp) rfl rfl rfl underlying29 rfl underlying30 rfl (fun w9 hk => ⟨_, _, _, _, _, rfl, (hS.unmark [] [6] (by decide) (by decide) (by simp) hk), h⟩))
  · replace h := h.2 hp; refine zf hp (zs (zq (zm (ii r2)) (zo (zt (.slice none 0 0) yew (hS.bwr 3 rfl (j := 0) rfl) ?_)))); intro w30 e1; replace hS := hS.bst 3 rfl 0 (.slice none 0 0) e1; clear e1; refine zb (zo (zt (ii r2) ybV (hS.bwr 4 rfl (j := 0) rfl) ?_)); intro w31 e1; replace hS := hS.bst 4 rfl 0 (ii r2) e1; clear e1; refine zb (yaa ?_); replace hS := hS.nil 6 rfl (cL cI) 37; exact ycS (yfh (rs := []) hS 3 4 rfl rfl [] (by simp) (by decide) (by decide) (by simp) (by simp) rfl rfl rfl underlying29 rfl underlying30 rfl (fun w9 hk => ⟨_, _, _, _, _, rfl, (hS.unmark [] [6] (by decide) (by decide) (by simp) hk), h⟩))
def ybS (Rec : Int → Int → ((List (List Int)) → Prop) → Prop) (n : Int) (degree : Int) (R : (List (List Int)) → Prop) : Prop :=
((degree < 0 →
R ([])) ∧
(¬ (degree < 0) →
((n = 1 →
R ([[degree]])) ∧
(¬ (n = 1) →
(∃ I2 : Nat → (List (List Int)) → Int → Prop, (∃ m0, I2 m0 ([]) 0) ∧ ∀ m2 out k, I2 m2 out k → 
((k ≤ degree →
(In64 (n - 1) ∧
(In64 (degree - k) ∧
Rec (n - 1) (degree - k) (fun r =>
(∃ I3 : Nat → (List (List Int)) → Int → Prop, (∃ m0, I3 m0 out 0) ∧ ∀ m3 out2 i, I3 m3 out2 i → 
((i < ((r.length : Nat) : Int) →
((0 ≤ i ∧ i < ((r.length : Nat) : Int)) ∧
(([k]).length + (gx r i.toNat).length ≤ 1000000000 ∧
(out2.length + 1 ≤ 1000000000 ∧
(In64 (i + 1) ∧
∃ m4, m4 < m3 ∧ I3 m4 (out2 ++ [([k] ++ (gx r i.toNat))]) (i + 1)))))) ∧
(¬ (i < ((r.length : Nat) : Int)) →
(In64 (k + 1) ∧
∃ m5, m5 < m2 ∧ I2 m5 out2 (k + 1))))))))) ∧
(¬ (k ≤ degree) →
R out)))))))
def yb9 : Nat → Int → Int → ((List (List Int)) → Prop) → Prop
  | 0 => fun _ _ _ => False
  | nf + 1 => fun n degree R => ybS (yb9 nf) n degree R
theorem yic {Rec : Int → Int → ((List (List Int)) → Prop) → Prop} (hrec : ∀ {O : Nat → Prop} {w : World} {n degree} {R : (List (List Int)) → Prop} (h : Rec n degree R) (hO : ∀ k, O k → k < w.heap.size), Calls Tryz.prog 48 #[(Value.int .i64 n), (Value.int .i64 degree)] w fun e w' => ∃ r2 Ar2 lr2 cr2, e = .returned (Value.slice Ar2 lr2 cr2) ∧ Sep w no O w' (rl [Res.own (cL cI) 25 Ar2 lr2 cr2 r2]) ∧ R r2) {O : Nat → Prop} {w : World} {n degree} {R : (List (List Int)) → Prop} (h : ybS Rec n degree R) (hO : ∀ k, O k → k < w.heap.size) :
    Calls Tryz.prog 48 #[(ii n), (ii degree)] w fun e w' => ∃ r2 Ar2 lr2 cr2, e = .returned (.slice Ar2 lr2 cr2) ∧ Sep w no O w' (rl [Res.own (cL cI) 25 Ar2 lr2 cr2 r2]) ∧ R r2 := by
  unfold ybS at h; have hS : Sep w no O w (rl []) := Sep.start w hO; refine yar (l := [(ii n), (ii degree)]) func48 rfl ntmps48 (Nat.le_of_ble_eq_true rfl) (zs (zq (za (.slice none 0 0)) (yaa (yac (zs (zq (zm (ii degree)) (zq zL (yaa ?_)))))))); by_cases hp : degree < 0
  · replace h := h.1 hp; refine zc hp (zs (zq (za (.slice none 0 0)) (yaa ?_))); replace hS := hS.nil 0 rfl (cL cI) 25; exact yal rfl rfl ⟨_, _, _, _, rfl, (hS.sel [0] (by decide)), h⟩
  · replace h := h.2 hp; refine zd hp (yaf (yac (zs (zq (zm (ii n)) (zq zE (yaa ?_)))))); by_cases hp2 : n = 1
    · replace h := h.1 hp2; refine zc hp2 (zs (zq (zm (ii degree)) (zn (yaD (l := [(0, (ii degree))]) (cells := [(ii degree)]) (bp1 rfl) underlying25 yag rfl rfl ?_)))); intro g w2 hN; replace hS := hS.litf (n := 1) 0 rfl (fI .i64) hN ([degree] : List Int) rfl (by decide) rfl; clear hN; refine zb ?_; replace hS := hS.frz 0 rfl; refine zn (yaD (l := [(0, (.slice (some ⟨g, 0, none⟩) 1 1))]) (cells := [(.slice (some ⟨g, 0, none⟩) 1 1)]) (bp1 rfl) underlying33 yaZ rfl rfl ?_); intro g2 w3 hN; replace hS := hS.lit (n := 1) (c := (cL cI)) 1 rfl hN ([[degree]] : List (List Int)) rfl (by decide) ⟨[(.slice (some ⟨g, 0, none⟩) 1 1)], _, rfl, (ro_R (hS.ro 0 rfl)), rfl⟩; clear hN; exact zb (zq (za (.slice (some ⟨g2, 0, none⟩) 1 1)) (yaa (yal rfl rfl ⟨_, _, _, _, rfl, (hS.sel [1] (by decide)), h⟩)))
    · replace h := h.2 hp2; refine zd hp2 (yaf (zs (zq (za (.slice none 0 0)) (yaa (yac (zs (zq (za (ii 0)) (yaa (yak ?_))))))))); replace hS := hS.nil 0 rfl (cL cI) 25; obtain ⟨I2, ⟨m0, h0⟩, hr⟩ := h; refine yaw (fun m E ds w' => ∃ out k Aout lout cout, I2 m out k ∧ ds = [] ∧ E 0 = (ii n) ∧ E 1 = (ii degree) ∧ E 5 = (Value.slice Aout lout cout) ∧ E 6 = (ii k) ∧ Sep w no O w' (rl [Res.own (cL cI) 25 Aout lout cout out])) m0 ⟨_, _, _, _, _, h0, rfl, rfl, rfl, rfl, rfl, (hS.sel [0] (by decide))⟩ ?_; clear h0 hS; rintro m2 E ds w4 ⟨out, k, Aout, lout, cout, h, rfl, hE0, hE1, hE5, hE6, hS⟩ again; replace h := hr m2 out k h; clear hr; refine yac (zs (zq (yab hE6) (zq (yab hE1) (zq (v_leq rfl rfl) (yaa ?_))))); by_cases hp3 : k ≤ degree
      · replace h := h.1 hp3; refine zc hp3 (yaf (yac (yak (zs (zq (yab hE0) ?_))))); obtain ⟨hi, h⟩ := h; refine zq (zS hi) (zq (yab hE1) (zq (yab hE6) ?_)); obtain ⟨hi2, h⟩ := h; refine zq (zS hi2) (zn (yan rfl (am2 rfl rfl) enter_48 ((hrec h hS.blt).mono ?_))); rintro _ w5 ⟨r, Ar, lr, cr, rfl, hC, h⟩; replace hS := hS.call1 hC 1 0 rfl; clear hC; refine ⟨_, rfl, ?_⟩; refine zb (zq (za (.slice Ar lr cr)) (yaa (zs (zq (za (ii 0)) (yaa (yak ?_)))))); obtain ⟨I3, ⟨m0, h0⟩, hr⟩ := h; refine yaw (fun m E ds w' => ∃ out2 i Aout2 lout2 cout2, I3 m out2 i ∧ ds = [] ∧ E 0 = (ii n) ∧ E 1 = (ii degree) ∧ E 5 = (Value.slice Aout2 lout2 cout2) ∧ E 6 = (ii k) ∧ E 7 = (Value.slice Ar lr cr) ∧ E 8 = (ii i) ∧ Sep w no O w' (rl [Res.own (cL cI) 25 Aout2 lout2 cout2 out2, Res.own (cL cI) 25 Ar lr cr r])) m0 ⟨_, _, _, _, _, h0, rfl, hE0, hE1, hE5, hE6, rfl, rfl, (hS.sel [0, 1] (by decide))⟩ ?_; clear h0 hS; rintro m3 E ds w6 ⟨out2, i, Aout2, lout2, cout2, h, rfl, hE0, hE1, hE5, hE6, hE7, hE8, hS⟩ again2; replace h := hr m3 out2 i h; clear hr; refine yac (zs (zq (yab hE8) (zq (yab hE7) (zq (yaO (n := r.length) rfl underlying33 (yaL (hS.rdo 1 rfl))) (zq zL (yaa ?_)))))); by_cases hp4 : i < ((r.length : Nat) : Int)
        · replace h := h.1 hp4; refine zc hp4 (yaf (yac (yak (zr (zq (yab hE5) (zq (yab hE6) (zn (yaD (l := [(0, (ii k))]) (cells := [(ii k)]) (bp1 rfl) underlying25 yag rfl rfl ?_)))))))); intro g3 w7 hN; replace hS := hS.litf (n := 1) 2 rfl (fI .i64) hN ([k] : List Int) rfl (by decide) rfl; clear hN; refine zb (zq (yab hE7) (zq (yab hE8) ?_)); obtain ⟨hx, h⟩ := h; refine zq (zi underlying33 yaZ (yaG (hS.rdo 1 rfl) hx)) ?_; obtain ⟨A, l, c, hc, hq⟩ := hS.elo 1 rfl hx 3 rfl; replace hS := hq; clear hq; refine zq (yah (v := (.slice A l c)) rfl underlying25 rfl hc) ?_; obtain ⟨hx2, h⟩ := h; refine zn (yee (c := cI) rfl rfl underlying25 underlying25 yag rfl rfl (by decide) hS 2 rfl (hS.yr 3 rfl) hx2 ?_); clear hS; intro A2 c2 w8 hS; refine zb ?_; replace hS := hS.frz 2 rfl; refine zn (yaD (l := [(0, (.slice A2 (1 + l) c2))]) (cells := [(.slice A2 (1 + l) c2)]) (bp1 rfl) underlying33 yaZ rfl rfl ?_); intro g4 w9 hN; replace hS := hS.lit (n := 1) (c := (cL cI)) 4 rfl hN ([([k] ++ (gx r i.toNat))] : List (List Int)) rfl (by decide) ⟨[(.slice A2 (1 + l) c2)], _, rfl, (ro_R (hS.ro 2 rfl)), rfl⟩; clear hN; refine zb ?_; obtain ⟨hx3, h⟩ := h; refine zn (yee (c := (cL cI)) rfl rfl underlying33 underlying33 yaZ rfl rfl (by decide) hS 0 rfl (hS.yo 4 rfl) hx3 ?_); clear hS; intro A3 c3 w10 hS; refine zb (zq (za (.slice A3 (lout2 + 1) c3)) (yaa (yai (zr (zq (yab hE8) ?_))))); obtain ⟨hi3, h⟩ := h; refine zq (zA hi3) (zq (za (ii (i + 1))) (yaa ?_)); obtain ⟨mq, hlt, h⟩ := h; exact again2 mq _ _ _ ⟨_, _, _, _, _, h, rfl, hE0, hE1, rfl, hE6, hE7, rfl, (hS.sel [0, 1] (by decide))⟩ hlt
        · replace h := h.2 hp4; refine zd hp4 (yav rfl (yai (zr (zq (yab hE6) ?_)))); obtain ⟨hi4, h⟩ := h; refine zq (zA hi4) (zq (za (ii (k + 1))) (yaa ?_)); obtain ⟨mq, hlt, h⟩ := h; exact again mq _ _ _ ⟨_, _, _, _, _, h, rfl, hE0, hE1, hE5, rfl, (hS.sel [0] (by decide))⟩ hlt
      · replace h := h.2 hp3; exact zd hp3 (yav rfl (zs (zq (yab hE5) (zq (za (.slice Aout lout cout)) (yaa (yal rfl rfl ⟨_, _, _, _, rfl, (hS.sel [0] (by decide)), h⟩))))))
theorem ygd {nf} : ∀ {O : Nat → Prop} {w : World} {n degree} {R : (List (List Int)) → Prop} (h : yb9 nf n degree R) (hO : ∀ k, O k → k < w.heap.size), Calls Tryz.prog 48 #[(Value.int .i64 n), (Value.int .i64 degree)] w fun e w' => ∃ r2 Ar2 lr2 cr2, e = .returned (Value.slice Ar2 lr2 cr2) ∧ Sep w no O w' (rl [Res.own (cL cI) 25 Ar2 lr2 cr2 r2]) ∧ R r2 := by
  induction nf with
  | zero => intros; rename_i h _; first | exact h.elim | (rename_i h _ _; exact h.elim) | contradiction
  | succ nf ih => intro O w n degree R h hO; exact yic ih h hO
def ydx (g : Int) (g2 : List E3) (d : List Int) (degree : Int) (R : (List Int) → Bool → Prop) : Prop :=
(∃ fu, yb9 fu g degree (fun r =>
(∃ I2 : Nat → Int → Prop, (∃ m0, I2 m0 0) ∧ ∀ m2 i, I2 m2 i → 
((i < ((r.length : Nat) : Int) →
((0 ≤ i ∧ i < ((r.length : Nat) : Int)) ∧
ycm d (gx r i.toNat) (-1) (fun r2 =>
yd0 g g2 r2 (fun r3 =>
((r3 = true →
(In64 (i + 1) ∧
∃ m3, m3 < m2 ∧ I2 m3 (i + 1))) ∧
(¬ (r3 = true) →
R (gx r i.toNat) true)))))) ∧
(¬ (i < ((r.length : Nat) : Int)) →
R ([]) false)))))
theorem pok_r38_Fails {O : Nat → Prop} {w : World} {g g2 d degree Ag lg cg Ad ld cd} {R : (List Int) → Bool → Prop} (h : ydx g g2 d degree R) (hO : ∀ k, O k → k < w.heap.size) (hA0 : (FP.sl c3 Ag lg cg g2).P O w) (hA1 : (FP.sl cI Ad ld cd d).P O w) :
    Calls Tryz.prog 90 #[(.agg #[(ii g), (.slice Ag lg cg)]), (.slice Ad ld cd), (ii degree)] w fun e w' => ∃ r4 r5 Ar3 lr3 cr3, e = .returned (.tuple #[(.slice Ar3 lr3 cr3), (.bool (r5))]) ∧ Sep w no O w' (rl [Res.ro (FP.sl cI Ar3 lr3 cr3 r4)]) ∧ R r4 r5 := by
  unfold ydx at h; have hS : Sep w no O w (rl [Res.ro (FP.sl c3 Ag lg cg g2), Res.ro (FP.sl cI Ad ld cd d)]) := Sep.startl hO [(FP.sl c3 Ag lg cg g2), (FP.sl cI Ad ld cd d)] ⟨hA0, hA1, trivial⟩; refine yar (l := [(.agg #[(ii g), (.slice Ag lg cg)]), (.slice Ad ld cd), (ii degree)]) func90 rfl ntmps90 (Nat.le_of_ble_eq_true rfl) (zs (zn (ybq (v := (.agg #[(ii g), (.slice Ag lg cg)])) rfl ?_))); intro g3 w2 hN; replace hS : Sep w no O w2 (stl _ 2 (Res.box 24 g3 [(ii g), (.slice Ag lg cg)])) := hS.new 2 rfl hN; clear hN; refine zb (zq (za (.slice none 0 0)) (zq (za (.bool (false))) (yaa (zs (zq (yam rfl underlying24 rfl yag) (zq (zl underlying3 (Row.cell (hS.bx 2 rfl) (i := 0) rfl)) (zq (zm (ii degree)) ?_))))))); obtain ⟨fu, h⟩ := h; refine zn (yan rfl (am2 rfl rfl) enter_48 ((ygd h hS.blt).mono ?_)); rintro _ w3 ⟨r, Ar, lr, cr, rfl, hC, h⟩; replace hS := hS.call1 hC 3 0 rfl; clear hC; refine ⟨_, rfl, ?_⟩; refine zb (zq (za (.slice Ar lr cr)) (yaa (yac (zs (zq (za (ii 0)) (yaa (yak ?_))))))); obtain ⟨I2, ⟨m0, h0⟩, hr⟩ := h; refine yaw (fun m E ds w' => ∃ i, I2 m i ∧ ds = [] ∧ E 1 = (Value.slice Ad ld cd) ∧ E 3 = (Value.pointer (some (⟨g3, 0, none⟩ : Addr))) ∧ E 8 = (Value.slice Ar lr cr) ∧ E 9 = (ii i) ∧ Sep w no O w' (rl [Res.ro (FP.sl cI Ad ld cd d), Res.box 24 g3 [(ii g), (.slice Ag lg cg)], Res.ro (FP.sl c3 Ag lg cg g2), Res.own (cL cI) 25 Ar lr cr r])) m0 ⟨_, h0, rfl, rfl, rfl, rfl, rfl, (hS.sel [1, 2, 0, 3] (by decide))⟩ ?_; clear h0 hS; rintro m2 E ds w4 ⟨i, h, rfl, hE1, hE3, hE8, hE9, hS⟩ again; replace h := hr m2 i h; clear hr; refine yac (zs (zq (yab hE9) (zq (yab hE8) (zq (yaO (n := r.length) rfl underlying33 (yaL (hS.rdo 3 rfl))) (zq zL (yaa ?_)))))); by_cases hp : i < ((r.length : Nat) : Int)
  · replace h := h.1 hp; refine zc hp (yaf (yac (yak (yac (ya3 [0, 1, 2, 3, 4, 5, 6, 7, 8] (fun i => match i with | 6 => [0] | _ => []) ya8 (by kernel_rfl) (by kernel_rfl) ?_))))); replace hS := hS.drew; refine zp (yas (vs := [(ii g), (.slice Ag lg cg)]) hE3 underlying24 rfl yaq ⟨Row.cell (hS.bx 1 rfl) (i := 0) rfl, Row.cell (hS.bx 1 rfl) (i := 1) rfl, trivial⟩) (zp (yab hE1) (zp (yab hE8) (zp (yab hE9) ?_))); obtain ⟨hx, h⟩ := h; refine zp (zi underlying33 yaZ (yaG (hS.rdo 3 rfl) hx)) ?_; obtain ⟨A, l, c, hc, hq⟩ := hS.elo 3 rfl hx 4 rfl; replace hS := hq; clear hq; refine zp (yah (v := (.slice A l c)) rfl underlying25 rfl hc) (rp_n rfl rfl rfl rfl (yan rfl (am3 rfl rfl rfl) yhS ((yek h (yaF _) (hS.rdr 0 rfl) (hS.rdr 4 rfl)).mono ?_))); rintro _ w5 ⟨r2, Ar2, lr2, cr2, rfl, hC, h⟩; replace hS := hS.call1 (hC.widen (ydi (ya1 (fI .i64) _ _ _ _ _) yeb) hS.blt) 5 0 rfl; clear hC; refine ⟨_, rfl, ?_⟩; refine ⟨⟨fun hh => Bool.noConfusion (show false = true from hh), ⟨fun hh => Bool.noConfusion (show false = true from hh), ⟨fun hh => Bool.noConfusion (show false = true from hh), ⟨fun hh => Bool.noConfusion (show false = true from hh), ⟨fun hh => Bool.noConfusion (show false = true from hh), ⟨fun _ => (yas (vs := [(ii g), (.slice Ag lg cg)]) hE3 underlying24 rfl yaq ⟨Row.cell (hS.bx 1 rfl) (i := 0) rfl, Row.cell (hS.bx 1 rfl) (i := 1) rfl, trivial⟩), trivial⟩⟩⟩⟩⟩⟩, ?_⟩; refine rp_n rfl rfl rfl rfl (yan rfl (am2 rfl rfl) enter_131 ((pok_r36_Wins h (yaF _) (hS.rdr 2 rfl) (hS.rdo 5 rfl)).mono ?_)); rintro _ w6 ⟨r3, rfl, hC, h⟩; replace hS := hS.pur hC.pure; clear hC; refine ⟨_, rfl, ?_⟩; refine zb (zp (ydA rfl) (ybl ?_)); by_cases hp2 : r3 = true
    · replace h := h.1 hp2; refine yay (congrArg Value.bool (congrArg Bool.not hp2)) (yaf (yai (zr (zq (yab hE9) ?_)))); obtain ⟨hi, h⟩ := h; refine zq (zA hi) (zq (za (ii (i + 1))) (yaa ?_)); obtain ⟨mq, hlt, h⟩ := h; exact again mq _ _ _ ⟨_, h, rfl, hE1, hE3, hE8, rfl, (hS.sel [0, 1, 2, 3] (by decide))⟩ hlt
    · replace h := h.2 hp2; refine yau (congrArg Value.bool (congrArg Bool.not (Bool.eq_false_iff.2 hp2))) (zs (zq (yab hE8) (zq (yab hE9) (zq (zi underlying33 yaZ (yaG (hS.rdo 3 rfl) hx)) ?_)))); obtain ⟨A2, l2, c2, hc2, hq⟩ := hS.elo 3 rfl hx 6 rfl; replace hS := hq; clear hq; exact zq (yah (v := (.slice A2 l2 c2)) rfl underlying25 rfl hc2) (zq (za (.slice A2 l2 c2)) (zq (za (.bool (true))) (yaa (yaR rfl rfl rfl ⟨_, _, _, _, _, rfl, (hS.sel [6] (by decide)), h⟩))))
  · replace h := h.2 hp; refine zd hp (yav rfl (zs (zq (za (.slice none 0 0)) (zq (za (.bool (false))) (yaa ?_))))); replace hS := hS.addro 4 rfl _ (nil_sl cI _ _); exact yaR rfl rfl rfl ⟨_, _, _, _, _, rfl, (hS.sel [4] (by decide)), h⟩
def yfQ (g : Int) (g2 : List E3) (d : List Int) (R : Int → Prop) : Prop :=
(∃ I2 : Nat → Int → Prop, (∃ m0, I2 m0 (-1)) ∧ ∀ m2 r, I2 m2 r → 
ybs d (fun r2 =>
((r < r2 →
(In64 (r + 1) ∧
ydx g g2 d (r + 1) (fun r3 r4 =>
((r4 = true →
R r) ∧
(¬ (r4 = true) →
∃ m3, m3 < m2 ∧ I2 m3 (r + 1)))))) ∧
(¬ (r < r2) →
R r))))
theorem pok_r38_Of {O : Nat → Prop} {w : World} {g g2 d Ag lg cg Ad ld cd} {R : Int → Prop} (h : yfQ g g2 d R) (hO : ∀ k, O k → k < w.heap.size) (hA0 : (FP.sl c3 Ag lg cg g2).P O w) (hA1 : (FP.sl cI Ad ld cd d).P O w) :
    Calls Tryz.prog 47 #[(.agg #[(ii g), (.slice Ag lg cg)]), (.slice Ad ld cd)] w fun e w' => ∃ r5, e = .returned (ii r5) ∧ Sep w no O w' (rl []) ∧ R r5 := by
  unfold yfQ at h; have hS : Sep w no O w (rl [Res.ro (FP.sl c3 Ag lg cg g2), Res.ro (FP.sl cI Ad ld cd d)]) := Sep.startl hO [(FP.sl c3 Ag lg cg g2), (FP.sl cI Ad ld cd d)] ⟨hA0, hA1, trivial⟩; refine yar (l := [(.agg #[(ii g), (.slice Ag lg cg)]), (.slice Ad ld cd)]) func47 rfl ntmps47 (Nat.le_of_ble_eq_true rfl) (zs (zn (ybq (v := (.agg #[(ii g), (.slice Ag lg cg)])) rfl ?_))); intro g3 w2 hN; replace hS : Sep w no O w2 (stl _ 2 (Res.box 24 g3 [(ii g), (.slice Ag lg cg)])) := hS.new 2 rfl hN; clear hN; refine zb (zq (za (ii 0)) (yaa (zs (zq (za (ii (-1))) (yaa (yac (yak ?_))))))); obtain ⟨I2, ⟨m0, h0⟩, hr⟩ := h; refine yaw (fun m E ds w' => ∃ r, I2 m r ∧ ds = [] ∧ E 1 = (Value.slice Ad ld cd) ∧ E 2 = (Value.pointer (some (⟨g3, 0, none⟩ : Addr))) ∧ E 5 = (ii r) ∧ Sep w no O w' (rl [Res.ro (FP.sl cI Ad ld cd d), Res.box 24 g3 [(ii g), (.slice Ag lg cg)], Res.ro (FP.sl c3 Ag lg cg g2)])) m0 ⟨_, h0, rfl, rfl, rfl, rfl, (hS.sel [1, 2, 0] (by decide))⟩ ?_; clear h0 hS; rintro m2 E ds w3 ⟨r, h, rfl, hE1, hE2, hE5, hS⟩ again; replace h := hr m2 r h; clear hr; refine yac (zs (zq (yab hE5) (zq (yab hE1) (zn (yan rfl (am1 rfl) ye6 ((yb3 h (yaF _) (hS.rdr 0 rfl)).mono ?_)))))); rintro _ w4 ⟨r2, rfl, hC, h⟩; replace hS := hS.pur hC.pure; clear hC; refine ⟨_, rfl, ?_⟩; refine zb (zq zL (yaa ?_)); by_cases hp : r < r2
  · replace h := h.1 hp; refine zc hp (yaf (yak (yac (zs (zq (yas (vs := [(ii g), (.slice Ag lg cg)]) hE2 underlying24 rfl yaq ⟨Row.cell (hS.bx 1 rfl) (i := 0) rfl, Row.cell (hS.bx 1 rfl) (i := 1) rfl, trivial⟩) (zq (yab hE1) (zq (yab hE5) ?_))))))); obtain ⟨hi, h⟩ := h; refine zq (zA hi) (zn (yan rfl (am3 rfl rfl rfl) enter_90 ((pok_r38_Fails h hS.blt (hS.ro 2 rfl) (hS.ro 0 rfl)).mono ?_))); rintro _ w5 ⟨r3, r4, Ar, lr, cr, rfl, hC, h⟩; replace hS := hS.call1 hC 3 0 rfl; clear hC; refine ⟨_, rfl, ?_⟩; refine zb (zq (zm (.tuple #[(.slice Ar lr cr), (.bool (r4))])) (zq (zx (.slice Ar lr cr)) (zq (zx (.bool (r4))) (zq (za (.slice Ar lr cr)) (zq (za (.bool (r4))) (yaa (zs (zq (zm (.bool (r4))) (yaa ?_))))))))); by_cases hp2 : r4 = true
    · replace h := h.1 hp2; exact yau (congrArg Value.bool hp2) (zs (zq (yab hE5) (zq (za (ii r)) (yaa (yal rfl rfl ⟨_, rfl, (hS.sel [] (by decide)), h⟩)))))
    · replace h := h.2 hp2; refine yay (congrArg Value.bool (Bool.eq_false_iff.2 hp2)) (yaf (zr (zq (yab hE5) (zq (zA hi) (zq (za (ii (r + 1))) (yaa (yai ?_))))))); obtain ⟨mq, hlt, h⟩ := h; exact again mq _ _ _ ⟨_, h, rfl, hE1, hE2, rfl, (hS.sel [0, 1, 2] (by decide))⟩ hlt
  · replace h := h.2 hp; exact zd hp (yav rfl (zs (zq (yab hE5) (zq (za (ii r)) (yaa (yal rfl rfl ⟨_, rfl, (hS.sel [] (by decide)), h⟩))))))
def ybL (g : Int) (g2 : List E3) (d : List Int) (r : Int) (R : (List (List Int)) → Int → Prop) : Prop :=
ycW g g2 d (fun r2 =>
((r2 = 0 →
((r < 0 →
R ([]) 2) ∧
(¬ (r < 0) →
yfQ g g2 d (fun r3 =>
((r3 < r →
R ([]) 15) ∧
(¬ (r3 < r) →
(∃ fu, yb9 fu g r (fun r4 =>
(∃ I2 : Nat → (List (List Int)) → Int → Prop, (∃ m0, I2 m0 ([]) 0) ∧ ∀ m2 out i, I2 m2 out i → 
((i < ((r4.length : Nat) : Int) →
((0 ≤ i ∧ i < ((r4.length : Nat) : Int)) ∧
ycm d (gx r4 i.toNat) (-1) (fun r5 =>
ydY g g2 0 r5 (fun r6 =>
yeS g g2 0 r5 r6 (fun r7 =>
(out.length + 1 ≤ 1000000000 ∧
(In64 (i + 1) ∧
∃ m3, m3 < m2 ∧ I2 m3 (out ++ [r7]) (i + 1)))))))) ∧
(¬ (i < ((r4.length : Nat) : Int)) →
R out 0))))))))))) ∧
(¬ (r2 = 0) →
R ([]) r2)))
theorem ygi {O : Nat → Prop} {w : World} {g g2 d r Ag lg cg Ad ld cd} {R : (List (List Int)) → Int → Prop} (h : ybL g g2 d r R) (hO : ∀ k, O k → k < w.heap.size) (hA0 : (FP.sl c3 Ag lg cg g2).P O w) (hA1 : (FP.sl cI Ad ld cd d).P O w) :
    Calls Tryz.prog 10 #[(.agg #[(ii g), (.slice Ag lg cg)]), (.slice Ad ld cd), (ii r)] w fun e w' => ∃ r8 r9 Ar5 lr5 cr5, e = .returned (.tuple #[(.slice Ar5 lr5 cr5), (ii r9)]) ∧ Sep w no O w' (rl [Res.own (cL cI) 25 Ar5 lr5 cr5 r8]) ∧ R r8 r9 := by
  unfold ybL at h; have hS : Sep w no O w (rl [Res.ro (FP.sl c3 Ag lg cg g2), Res.ro (FP.sl cI Ad ld cd d)]) := Sep.startl hO [(FP.sl c3 Ag lg cg g2), (FP.sl cI Ad ld cd d)] ⟨hA0, hA1, trivial⟩; refine yar (l := [(.agg #[(ii g), (.slice Ag lg cg)]), (.slice Ad ld cd), (ii r)]) func10 rfl ntmps10 (Nat.le_of_ble_eq_true rfl) (zs (zn (ybq (v := (.agg #[(ii g), (.slice Ag lg cg)])) rfl ?_))); intro g3 w2 hN; replace hS : Sep w no O w2 (stl _ 2 (Res.box 24 g3 [(ii g), (.slice Ag lg cg)])) := hS.new 2 rfl hN; clear hN; refine zb (zq (za (.slice none 0 0)) (zq (za (ii 0)) (yaa (yac (zs (zq (yas (vs := [(ii g), (.slice Ag lg cg)]) rfl underlying24 rfl yaq ⟨Row.cell (hS.bx 2 rfl) (i := 0) rfl, Row.cell (hS.bx 2 rfl) (i := 1) rfl, trivial⟩) (zq (zm (.slice Ad ld cd)) (zn (yan rfl (am2 rfl rfl) enter_40 ((ygx h (yaF _) (hS.rdr 0 rfl) (hS.rdr 1 rfl)).mono ?_)))))))))); rintro _ w3 ⟨r2, rfl, hC, h⟩; replace hS := hS.pur hC.pure; clear hC; refine ⟨_, rfl, ?_⟩; refine zb (zq (za (ii r2)) (yaa (zs (zq (zm (ii r2)) (zq zN (yaa ?_)))))); by_cases hp : r2 = 0
  · replace h := h.1 hp; refine ze hp (yaf (yac (zs (zq (zm (ii r)) (zq zL (yaa ?_)))))); by_cases hp2 : r < 0
    · replace h := h.1 hp2; refine zc hp2 (zs (zq (za (.slice none 0 0)) (zq (za (ii 2)) (yaa ?_)))); replace hS := hS.nil 3 rfl (cL cI) 25; exact yaR rfl rfl rfl ⟨_, _, _, _, _, rfl, (hS.sel [3] (by decide)), h⟩
    · replace h := h.2 hp2; refine zd hp2 (yaf (yac (zs (zq (yas (vs := [(ii g), (.slice Ag lg cg)]) rfl underlying24 rfl yaq ⟨Row.cell (hS.bx 2 rfl) (i := 0) rfl, Row.cell (hS.bx 2 rfl) (i := 1) rfl, trivial⟩) (zq (zm (.slice Ad ld cd)) (zn (yan rfl (am2 rfl rfl) enter_47 ((pok_r38_Of h (yaF _) (hS.rdr 0 rfl) (hS.rdr 1 rfl)).mono ?_)))))))); rintro _ w4 ⟨r3, rfl, hC, h⟩; replace hS := hS.pur hC.pure; clear hC; refine ⟨_, rfl, ?_⟩; refine zb (zq (zm (ii r)) (zq zL (yaa ?_))); by_cases hp3 : r3 < r
      · replace h := h.1 hp3; refine zc hp3 (zs (zq (za (.slice none 0 0)) (zq (za (ii 15)) (yaa ?_)))); replace hS := hS.nil 3 rfl (cL cI) 25; exact yaR rfl rfl rfl ⟨_, _, _, _, _, rfl, (hS.sel [3] (by decide)), h⟩
      · replace h := h.2 hp3; refine zd hp3 (yaf (zs (zq (za (.slice none 0 0)) (yaa (zs (zq (yam rfl underlying24 rfl yag) (zq (zl underlying3 (Row.cell (hS.bx 2 rfl) (i := 0) rfl)) (zq (zm (ii r)) ?_)))))))); obtain ⟨fu, h⟩ := h; refine zn (yan rfl (am2 rfl rfl) enter_48 ((ygd h hS.blt).mono ?_)); rintro _ w5 ⟨r4, Ar, lr, cr, rfl, hC, h⟩; replace hS := hS.call1 hC 3 0 rfl; clear hC; refine ⟨_, rfl, ?_⟩; refine zb (zq (za (.slice Ar lr cr)) (yaa (yac (zs (zq (za (ii 0)) (yaa (yak ?_))))))); replace hS := hS.nil 4 rfl (cL cI) 25; obtain ⟨I2, ⟨m0, h0⟩, hr⟩ := h; refine yaw (fun m E ds w' => ∃ out i Aout lout cout, I2 m out i ∧ ds = [] ∧ E 1 = (Value.slice Ad ld cd) ∧ E 3 = (Value.pointer (some (⟨g3, 0, none⟩ : Addr))) ∧ E 9 = (Value.slice Aout lout cout) ∧ E 10 = (Value.slice Ar lr cr) ∧ E 11 = (ii i) ∧ Sep w no O w' (rl [Res.own (cL cI) 25 Aout lout cout out, Res.ro (FP.sl cI Ad ld cd d), Res.box 24 g3 [(ii g), (.slice Ag lg cg)], Res.ro (FP.sl c3 Ag lg cg g2), Res.own (cL cI) 25 Ar lr cr r4])) m0 ⟨_, _, _, _, _, h0, rfl, rfl, rfl, rfl, rfl, rfl, (hS.sel [4, 1, 2, 0, 3] (by decide))⟩ ?_; clear h0 hS; rintro m2 E ds w6 ⟨out, i, Aout, lout, cout, h, rfl, hE1, hE3, hE9, hE10, hE11, hS⟩ again; replace h := hr m2 out i h; clear hr; refine yac (zs (zq (yab hE11) (zq (yab hE10) (zq (yaO (n := r4.length) rfl underlying33 (yaL (hS.rdo 4 rfl))) (zq zL (yaa ?_)))))); by_cases hp4 : i < ((r4.length : Nat) : Int)
        · replace h := h.1 hp4; refine zc hp4 (yaf (yac (yak (zs (zq (yab hE1) (zq (yab hE10) (zq (yab hE11) ?_))))))); obtain ⟨hx, h⟩ := h; refine zq (zi underlying33 yaZ (yaG (hS.rdo 4 rfl) hx)) ?_; obtain ⟨A, l, c, hc, hq⟩ := hS.elo 4 rfl hx 5 rfl; replace hS := hq; clear hq; refine zq (yah (v := (.slice A l c)) rfl underlying25 rfl hc) (zn (yan rfl (am3 rfl rfl rfl) yhS ((yek h (yaF _) (hS.rdr 1 rfl) (hS.rdr 5 rfl)).mono ?_))); rintro _ w7 ⟨r5, Ar2, lr2, cr2, rfl, hC, h⟩; replace hS := hS.call1 (hC.widen (ydi (ya1 (fI .i64) _ _ _ _ _) yeb) hS.blt) 6 0 rfl; clear hC; refine ⟨_, rfl, ?_⟩; refine zb (zq (za (.slice Ar2 lr2 cr2)) (yaa (ya3 [0, 1, 2, 3, 4, 5, 6, 7, 8, 9] (fun i => match i with | 5 => [0, 1, 2] | 6 => [0] | 7 => [0] | _ => []) ya8 (by kernel_rfl) (by kernel_rfl) ?_))); replace hS := hS.drew; refine zp (yab hE9) (zp (yas (vs := [(ii g), (.slice Ag lg cg)]) hE3 underlying24 rfl yaq ⟨Row.cell (hS.bx 2 rfl) (i := 0) rfl, Row.cell (hS.bx 2 rfl) (i := 1) rfl, trivial⟩) (zp (zm (.slice Ar2 lr2 cr2)) (zp (yas (vs := [(ii g), (.slice Ag lg cg)]) hE3 underlying24 rfl yaq ⟨Row.cell (hS.bx 2 rfl) (i := 0) rfl, Row.cell (hS.bx 2 rfl) (i := 1) rfl, trivial⟩) (zp (zm (.slice Ar2 lr2 cr2)) (rp_n rfl rfl rfl rfl (yan rfl (am3 rfl rfl rfl) enter_51 ((pok_r34_Form h (yaF _) (hS.rdr 3 rfl) (hS.rdo 6 rfl)).mono ?_))))))); rintro _ w8 ⟨r6, Ar3, lr3, cr3, rfl, hC, h⟩; replace hS := hS.call1 (hC.widen (ydi (ya1 (fI .i64) _ _ _ _ _) yeb) hS.blt) 7 0 rfl; clear hC; refine ⟨_, rfl, ?_⟩; refine ⟨⟨fun hh => Bool.noConfusion (show false = true from hh), ⟨fun hh => Bool.noConfusion (show false = true from hh), ⟨fun _ => (zm (.slice Ar2 lr2 cr2)), ⟨fun _ => (yas (vs := [(ii g), (.slice Ag lg cg)]) hE3 underlying24 rfl yaq ⟨Row.cell (hS.bx 2 rfl) (i := 0) rfl, Row.cell (hS.bx 2 rfl) (i := 1) rfl, trivial⟩), ⟨fun _ => (yab hE9), trivial⟩⟩⟩⟩⟩, ?_⟩; refine rp_n rfl rfl rfl rfl (yan rfl (am4 rfl rfl rfl rfl) enter_50 ((pok_r34_Way h (yaF _) (hS.rdr 3 rfl) (hS.rdo 6 rfl) (hS.rdo 7 rfl)).mono ?_)); rintro _ w9 ⟨r7, Ar4, lr4, cr4, rfl, hC, h⟩; replace hS := hS.call1 (hC.widen (ydi (ya1 (fI .i64) _ _ _ _ _) yeb) hS.blt) 8 0 rfl; clear hC; refine ⟨_, rfl, ?_⟩; refine ⟨⟨fun hh => Bool.noConfusion (show false = true from hh), ⟨fun hh => Bool.noConfusion (show false = true from hh), ⟨fun hh => Bool.noConfusion (show false = true from hh), ⟨fun hh => Bool.noConfusion (show false = true from hh), ⟨fun _ => (yab hE9), trivial⟩⟩⟩⟩⟩, ?_⟩; replace hS := hS.frz 8 rfl; refine rp_n rfl rfl rfl rfl (yaD (l := [(0, (.slice Ar4 lr4 cr4))]) (cells := [(.slice Ar4 lr4 cr4)]) (bp1 rfl) underlying33 yaZ rfl rfl ?_); intro g4 w10 hN; replace hS := hS.lit (n := 1) (c := (cL cI)) 9 rfl hN ([r7] : List (List Int)) rfl (by decide) ⟨[(.slice Ar4 lr4 cr4)], _, rfl, (ro_R (hS.ro 8 rfl)), rfl⟩; clear hN; refine ⟨⟨fun hh => Bool.noConfusion (show false = true from hh), ⟨fun hh => Bool.noConfusion (show false = true from hh), ⟨fun hh => Bool.noConfusion (show false = true from hh), ⟨fun hh => Bool.noConfusion (show false = true from hh), ⟨fun _ => (yab hE9), trivial⟩⟩⟩⟩⟩, ?_⟩; obtain ⟨hx2, h⟩ := h; refine rp_n rfl rfl rfl rfl (yee (c := (cL cI)) rfl rfl underlying33 underlying33 yaZ rfl rfl (by decide) hS 0 rfl (hS.yo 9 rfl) hx2 ?_); clear hS; intro A2 c2 w11 hS; refine zb (zp (za (.slice A2 (lout + 1) c2)) (ybl (yai (zr (zq (yab hE11) ?_))))); obtain ⟨hi, h⟩ := h; refine zq (zA hi) (zq (za (ii (i + 1))) (yaa ?_)); obtain ⟨mq, hlt, h⟩ := h; exact again mq _ _ _ ⟨_, _, _, _, _, h, rfl, hE1, hE3, rfl, hE10, rfl, (hS.sel [0, 1, 2, 3, 4] (by decide))⟩ hlt
        · replace h := h.2 hp4; exact zd hp4 (yav rfl (zs (zq (yab hE9) (zq (za (.slice Aout lout cout)) (zq (za (ii 0)) (yaa (yaR rfl rfl rfl ⟨_, _, _, _, _, rfl, (hS.sel [0] (by decide)), h⟩)))))))
  · replace h := h.2 hp; refine zf hp (zs (zq (zm (ii r2)) (zq (za (.slice none 0 0)) (zq (za (ii r2)) (yaa ?_))))); replace hS := hS.nil 3 rfl (cL cI) 25; exact yaR rfl rfl rfl ⟨_, _, _, _, _, rfl, (hS.sel [3] (by decide)), h⟩
def yeF (g : Int) (g2 : List E3) (d : List Int) (most : Int) (R : Bool → Prop) : Prop :=
(∃ J2 : Prop, (J2 → ycW g g2 d (fun r =>
((r = 0 →
yeE g g2 d (fun r2 =>
((r2 = true →
ybs d (fun r3 =>
R (decide (r3 ≤ most)))) ∧
(¬ (r2 = true) →
R false)))) ∧
(¬ (r = 0) →
R true)))) ∧
yea g g2 (fun r4 =>
((r4 = true →
((100 < ((d.length : Nat) : Int) →
R false) ∧
(¬ (100 < ((d.length : Nat) : Int)) →
J2))) ∧
(¬ (r4 = true) →
R false))))
theorem yj8 {O : Nat → Prop} {w : World} {g g2 d most Ag lg cg Ad ld cd} {R : Bool → Prop} (h : yeF g g2 d most R) (hO : ∀ k, O k → k < w.heap.size) (hA0 : (FP.sl c3 Ag lg cg g2).P O w) (hA1 : (FP.sl cI Ad ld cd d).P O w) :
    Calls Tryz.prog 7 #[(.agg #[(ii g), (.slice Ag lg cg)]), (.slice Ad ld cd), (ii most)] w fun e w' => ∃ r5, e = .returned (.bool (r5)) ∧ Sep w no O w' (rl []) ∧ R r5 := by
  unfold yeF at h; have hS : Sep w no O w (rl [Res.ro (FP.sl c3 Ag lg cg g2), Res.ro (FP.sl cI Ad ld cd d)]) := Sep.startl hO [(FP.sl c3 Ag lg cg g2), (FP.sl cI Ad ld cd d)] ⟨hA0, hA1, trivial⟩; refine yar (l := [(.agg #[(ii g), (.slice Ag lg cg)]), (.slice Ad ld cd), (ii most)]) func7 rfl ntmps7 (Nat.le_of_ble_eq_true rfl) (zs (zn (ybq (v := (.agg #[(ii g), (.slice Ag lg cg)])) rfl ?_))); intro g3 w2 hN; replace hS : Sep w no O w2 (stl _ 2 (Res.box 24 g3 [(ii g), (.slice Ag lg cg)])) := hS.new 2 rfl hN; clear hN; refine zb (zq (za (.bool (false))) (yaa (yac (yac ?_)))); obtain ⟨J2, hJ, h⟩ := h; refine ydO (fun E ds w' => J2 ∧ ds = [] ∧ E 1 = (Value.slice Ad ld cd) ∧ E 2 = (ii most) ∧ E 3 = (Value.pointer (some (⟨g3, 0, none⟩ : Addr))) ∧ Sep w no O w' (rl [Res.ro (FP.sl cI Ad ld cd d), Res.box 24 g3 [(ii g), (.slice Ag lg cg)], Res.ro (FP.sl c3 Ag lg cg g2)])) ?_ ?_
  · clear h hS; rintro E ds w3 ⟨h, rfl, hE1, hE2, hE3, hS⟩; replace h := hJ h; refine zs (zq (yas (vs := [(ii g), (.slice Ag lg cg)]) hE3 underlying24 rfl yaq ⟨Row.cell (hS.bx 1 rfl) (i := 0) rfl, Row.cell (hS.bx 1 rfl) (i := 1) rfl, trivial⟩) (zq (yab hE1) (zn (yan rfl (am2 rfl rfl) enter_40 ((ygx h (yaF _) (hS.rdr 2 rfl) (hS.rdr 0 rfl)).mono ?_))))); rintro _ w4 ⟨r, rfl, hC, h⟩; replace hS := hS.pur hC.pure; clear hC; refine ⟨_, rfl, ?_⟩; refine zb (zq zN (zq (zm (.bool (!(decide (r = 0))))) ?_)); by_cases hp : r = 0
    · replace h := h.1 hp; refine rl_q (yae rfl (yaj rfl (congrArg Value.bool (congrArg Bool.not (decide_eq_true hp))))) rfl rfl (yas (vs := [(ii g), (.slice Ag lg cg)]) hE3 underlying24 rfl yaq ⟨Row.cell (hS.bx 1 rfl) (i := 0) rfl, Row.cell (hS.bx 1 rfl) (i := 1) rfl, trivial⟩) (rl_q (yae rfl (yaj rfl (congrArg Value.bool (congrArg Bool.not (decide_eq_true hp))))) rfl rfl (yab hE1) (rl_n (yae rfl (yaj rfl (congrArg Value.bool (congrArg Bool.not (decide_eq_true hp))))) rfl rfl rfl (yan rfl (am2 rfl rfl) enter_41 ((pok_r34_Low h (yaF _) (hS.rdr 2 rfl) (hS.rdr 0 rfl)).mono ?_)))); rintro _ w5 ⟨r2, rfl, hC, h⟩; replace hS := hS.pur hC.pure; clear hC; refine ⟨_, rfl, ?_⟩; refine zb (rl_q (yae rfl (yaj rfl (congrArg Value.bool (congrArg Bool.not (decide_eq_true hp))))) rfl rfl (zm (.bool (r2))) ?_); by_cases hp2 : r2 = true
      · replace h := h.1 hp2; refine rl_q (yae rfl (yaj rfl (congrArg Value.bool hp2))) rfl rfl (yab hE1) (rl_n (yae rfl (yaj rfl (congrArg Value.bool hp2))) rfl rfl rfl (yan rfl (am1 rfl) ye6 ((yb3 h (yaF _) (hS.rdr 0 rfl)).mono ?_))); rintro _ w6 ⟨r3, rfl, hC, h⟩; replace hS := hS.pur hC.pure; clear hC; refine ⟨_, rfl, ?_⟩; exact zb (rl_q (yae rfl (yaj rfl (congrArg Value.bool hp2))) rfl rfl (yab hE2) (rl_q (yae rfl (yaj rfl (congrArg Value.bool hp2))) rfl rfl (v_leq rfl rfl) (rl_q (yae rfl (yaj rfl (congrArg Value.bool (congrArg Bool.not (decide_eq_true hp))))) rfl rfl (yaB (v := (.bool (decide (r3 ≤ most)))) (congrArg Value.bool hp2) rfl) (zq (yaz (v := (.bool (decide (r3 ≤ most)))) (congrArg Value.bool (congrArg Bool.not (decide_eq_true hp))) rfl) (zq (za (.bool (decide (r3 ≤ most)))) (yaa (yal rfl rfl ⟨_, rfl, (hS.sel [] (by decide)), h⟩)))))))
      · replace h := h.2 hp2; exact rl_p (yad rfl (yaj rfl (congrArg Value.bool (Bool.eq_false_iff.2 hp2))) rfl) rfl (rl_p (yad rfl (yaj rfl (congrArg Value.bool (Bool.eq_false_iff.2 hp2))) rfl) rfl (rl_p (yad rfl (yaj rfl (congrArg Value.bool (Bool.eq_false_iff.2 hp2))) rfl) rfl (rl_p (yad rfl (yaj rfl (congrArg Value.bool (Bool.eq_false_iff.2 hp2))) rfl) rfl (rl_q (yae rfl (yaj rfl (congrArg Value.bool (congrArg Bool.not (decide_eq_true hp))))) rfl rfl (yaz (v := (.bool (false))) (congrArg Value.bool (Bool.eq_false_iff.2 hp2)) rfl) (zq (yaz (v := (.bool (false))) (congrArg Value.bool (congrArg Bool.not (decide_eq_true hp))) rfl) (zq (za (.bool (false))) (yaa (yal rfl rfl ⟨_, rfl, (hS.sel [] (by decide)), h⟩))))))))
    · replace h := h.2 hp; exact rl_p (yad rfl (yaj rfl (congrArg Value.bool (congrArg Bool.not (decide_eq_false hp)))) rfl) rfl (rl_p (yad rfl (yaj rfl (congrArg Value.bool (congrArg Bool.not (decide_eq_false hp)))) rfl) rfl (rl_p (yad rfl (yaj rfl (congrArg Value.bool (congrArg Bool.not (decide_eq_false hp)))) rfl) rfl (rl_p (yad rfl (yaj rfl (congrArg Value.bool (congrArg Bool.not (decide_eq_false hp)))) rfl) rfl (rl_p (ycl rfl rfl) rfl (rl_p (ycl rfl rfl) rfl (rl_p (ycl rfl rfl) rfl (rl_p (ycl rfl rfl) rfl (rl_p (yad rfl (yaj rfl (congrArg Value.bool (congrArg Bool.not (decide_eq_false hp)))) rfl) rfl (zq (yaB (v := (.bool (true))) (congrArg Value.bool (congrArg Bool.not (decide_eq_false hp))) rfl) (zq (za (.bool (true))) (yaa (yal rfl rfl ⟨_, rfl, (hS.sel [] (by decide)), h⟩))))))))))))
  clear hJ; intro j; refine zr (zq (yas (vs := [(ii g), (.slice Ag lg cg)]) rfl underlying24 rfl yaq ⟨Row.cell (hS.bx 2 rfl) (i := 0) rfl, Row.cell (hS.bx 2 rfl) (i := 1) rfl, trivial⟩) (zn (yan rfl (am1 rfl) enter_14 ((yhE h (yaF _) (hS.rdr 0 rfl)).mono ?_)))); rintro _ w7 ⟨r4, rfl, hC, h⟩; replace hS := hS.pur hC.pure; clear hC; refine ⟨_, rfl, ?_⟩; refine zb (zq (ydA rfl) (zq (zm (.bool (!(r4)))) ?_)); by_cases hp3 : r4 = true
  · replace h := h.1 hp3; refine rl_q (yae rfl (yaj rfl (congrArg Value.bool (congrArg Bool.not hp3)))) rfl rfl (zm (.slice Ad ld cd)) (rl_q (yae rfl (yaj rfl (congrArg Value.bool (congrArg Bool.not hp3)))) rfl rfl (yaO (n := d.length) rfl underlying25 (yaL (hS.rdr 1 rfl))) (rl_q (yae rfl (yaj rfl (congrArg Value.bool (congrArg Bool.not hp3)))) rfl rfl zG (zq (yaz (v := (.bool (decide (100 < ((d.length : Nat) : Int))))) (congrArg Value.bool (congrArg Bool.not hp3)) rfl) (yaa ?_)))); by_cases hp4 : 100 < ((d.length : Nat) : Int)
    · replace h := h.1 hp4; exact zc hp4 (zs (zq (za (.bool (false))) (yaa (yal rfl rfl ⟨_, rfl, (hS.sel [] (by decide)), h⟩))))
    · replace h := h.2 hp4; exact zd hp4 (yaf (j _ _ _ ⟨h, rfl, rfl, rfl, rfl, (hS.sel [1, 2, 0] (by decide))⟩))
  · replace h := h.2 hp3; exact rl_p (yad rfl (yaj rfl (congrArg Value.bool (congrArg Bool.not (Bool.eq_false_iff.2 hp3)))) rfl) rfl (rl_p (yad rfl (yaj rfl (congrArg Value.bool (congrArg Bool.not (Bool.eq_false_iff.2 hp3)))) rfl) rfl (rl_p (yad rfl (yaj rfl (congrArg Value.bool (congrArg Bool.not (Bool.eq_false_iff.2 hp3)))) rfl) rfl (zq (yaB (v := (.bool (true))) (congrArg Value.bool (congrArg Bool.not (Bool.eq_false_iff.2 hp3))) rfl) (yaa (yau rfl (zs (zq (za (.bool (false))) (yaa (yal rfl rfl ⟨_, rfl, (hS.sel [] (by decide)), h⟩)))))))))
end Go.Proofs.YtmeoemmemjipdaaGreat

/- Borrowing: a vertex in debt borrows from its neighbours, until there is no debt, or each vertex has borrowed. No program in sight. -/
namespace Go.Proofs.YtmeoemmemjipdaaGreat
open Go Go.Proofs.Tryz
set_option linter.unusedVariables false
set_option linter.unusedSectionVars false
set_option linter.unusedSimpArgs false
def Win (n : Nat) (es : List E3) (d : List Int) : Prop := ∃ s : Nat → Int, ∀ v, v < n → 0 ≤ gi d v - Lp n es s v
theorem Lp_unit {n : Nat} {es : List E3} {v : Nat} (hv : v < n) (i : Nat) : Lp n es (fun j => if j = v then 1 else 0) i = if i = v then deg n es v else - W es i v := by
  rw [Lp_ind]
  have h1 : sm n (fun u => (if u = v then (1 : Int) else 0) * W es u i) = W es v i := by
    rw [← yc2 (W es v i) hv]
    refine yap fun u hu => ?_
    show (if u = v then (1 : Int) else 0) * W es u i = if u = v then W es v i else 0
    split
    · rename_i e; rw [e]; omega
    · omega
  rw [h1]
  by_cases e : i = v
  · subst e; rw [if_pos rfl, if_pos rfl, yfK]; omega
  · rw [if_neg e, if_neg e, ydG]; omega
structure Bor (n : Nat) (es : List E3) (d : List Int) (c : Nat → Int) (x : List Int) (b : List Bool) : Prop where
  xl : x.length = n
  bl : b.length = n
  val : ∀ v, v < n → gi x v = gi d v + Lp n es c v
  c0 : ∀ v, v < n → 0 ≤ c v
  bo : ∀ v, v < n → (gb b v = true ↔ 0 < c v)
  up : ∀ v, v < n → gi x v ≤ 1000
  least : ∀ t : Nat → Int, (∀ v, v < n → 0 ≤ t v) → (∀ v, v < n → 0 ≤ gi d v + Lp n es t v) → ∀ v, v < n → c v ≤ t v
section
variable {n : Nat} {es : List E3} {d : List Int}
theorem bor_start (hd : d.length = n) (hb : ∀ v, v < n → gi d v ≤ 1000) : Bor n es d (fun _ => 0) d (List.replicate n false) :=
  ⟨hd, by simp, fun v hv => by rw [yeh]; omega, fun v hv => Int.le_refl _, fun v hv => by rw [gb_rep]; simp, hb, fun t ht _ v hv => ht v hv⟩
theorem deg_le {m : Int} (hg : yat m es = 0) (hn : n ≤ 12) (v : Nat) : 0 ≤ deg n es v ∧ deg n es v ≤ 600 := by
  have := yfU hg n v
  unfold deg
  omega
theorem bor_step {m : Int} (hg : yat m es = 0) (hE : EOk n es) (hn : n ≤ 12) {c : Nat → Int} {x : List Int} {b : List Bool} (h : Bor n es d c x b) {v : Nat} (hv : v < n) (hneg : gi x v < 0) {y : List Int} (hyl : y.length = n)
    (hy : ∀ i, i < n → gi y i = if i = v then gi x v + deg n es v else gi x i - W es i v) : Bor n es d (fun j => c j + if j = v then 1 else 0) y (b.set v true) := by
  refine ⟨hyl, by rw [List.length_set, h.bl], fun i hi => ?_, fun i hi => ?_, fun i hi => ?_, fun i hi => ?_, fun t ht0 ht i hi => ?_⟩
  · rw [hy i hi, yfC c (fun j => if j = v then 1 else 0), Lp_unit hv, h.val i hi]
    by_cases e : i = v
    · subst e; rw [if_pos rfl, if_pos rfl, h.val i hi]; omega
    · rw [if_neg e, if_neg e]; omega
  · have := h.c0 i hi
    show 0 ≤ c i + if i = v then 1 else 0
    split <;> omega
  · rw [ydI (by rw [h.bl]; exact hv)]
    have := h.c0 i hi
    show _ ↔ 0 < c i + if i = v then 1 else 0
    by_cases e : i = v
    · rw [if_pos e, if_pos e]; simp; omega
    · rw [if_neg e, if_neg e, h.bo i hi]; simp
  · rw [hy i hi]
    have h1 := deg_le hg hn (n := n) v
    have h2 := h.up i hi
    have h3 := ya4 hE i v
    split <;> omega
  · have h1 := h.least t ht0 ht i hi
    show c i + (if i = v then 1 else 0) ≤ t i
    by_cases e : i = v
    · subst e
      rw [if_pos rfl]
      apply Int.not_lt.1
      intro hlt
      have e2 : t i = c i := by omega
      have h3 : Lp n es t i ≤ Lp n es c i := by
        unfold Lp
        refine ydc fun u hu => ?_
        show W es i u * (t i - t u) ≤ W es i u * (c i - c u)
        exact Int.mul_le_mul_of_nonneg_left (by have := h.least t ht0 ht u hu; omega) (ya4 hE i u)
      have := ht i hi
      have := h.val i hi
      omega
    · rw [if_neg e]; omega
theorem bor_few (hE : EOk n es) (hC : ∀ q, q < n → Conn n es q) (hn : n ≤ 12) (hdb : ∀ v, v < n → -1000 ≤ gi d v) {c : Nat → Int} {x : List Int} {b : List Bool} (h : Bor n es d c x b) {w : Nat} (hw : w < n) (h0 : gb b w ≠ true) : ∀ v, v < n → c v ≤ 288000 := by
  have cw : c w = 0 := by
    have h1 := h.c0 w hw
    have h2 := (h.bo w hw)
    have : ¬ 0 < c w := fun h3 => h0 (h2.2 h3)
    omega
  intro v hv
  have h1 := climb hE (hC w hw) hw (f := c) (G := 24000) (by omega) (fun S hS => ?_) v hv
  · have h2 := low_le (f := c) hv
    have h3 : low n c (c v) * 24000 ≤ 12 * 24000 := Int.mul_le_mul_of_nonneg_right (by omega) (by omega)
    omega
  · have h4 : sm n (fun v => if S v = true then Lp n es c v else 0) ≤ sm n (fun _ => 2000) := ydc fun u hu => by
      show (if S u = true then Lp n es c u else 0) ≤ 2000
      have h5 := h.val u hu
      have h6 := h.up u hu
      have h7 := hdb u hu
      split <;> omega
    rw [ydp] at h4
    omega
theorem bor_total (hn : n ≤ 12) {c : Nat → Int} (hc : ∀ v, v < n → c v ≤ 288000) : sm n c ≤ 3456000 := by
  have h := ydc (f := c) (g := fun _ => 288000) (n := n) hc
  rw [ydp] at h
  omega
theorem bor_count {c : Nat → Int} {v : Nat} (hv : v < n) : sm n (fun j => c j + if j = v then 1 else 0) = sm n c + 1 := by
  rw [ybB c (fun j => if j = v then 1 else 0), yc2 1 hv]
theorem bor_win {c : Nat → Int} {x : List Int} {b : List Bool} (h : Bor n es d c x b) (hx : ∀ v, v < n → 0 ≤ gi x v) : Win n es d := by
  refine ⟨fun i => (-1) * c i, fun v hv => ?_⟩
  rw [ygu]
  have := hx v hv
  rw [h.val v hv] at this
  omega
theorem max_at (s : Nat → Int) : ∀ n : Nat, 1 ≤ n → ∃ w, w < n ∧ ∀ v, v < n → s v ≤ s w
  | 0, h => absurd h (by omega)
  | 1, _ => ⟨0, by omega, fun v hv => by rw [show v = 0 by omega]; omega⟩
  | n + 2, _ => by
    obtain ⟨w, hw, h⟩ := max_at s (n + 1) (by omega)
    by_cases c : s (n + 1) ≤ s w
    · refine ⟨w, by omega, fun v hv => ?_⟩
      by_cases e : v = n + 1
      · rw [e]; exact c
      · exact h v (by omega)
    · refine ⟨n + 1, by omega, fun v hv => ?_⟩
      by_cases e : v = n + 1
      · rw [e]; omega
      · have := h v (by omega); omega
theorem bor_loss (hn : 1 ≤ n) {c : Nat → Int} {x : List Int} {b : List Bool} (h : Bor n es d c x b) (hall : ∀ v, v < n → gb b v = true) : ¬ Win n es d := by
  rintro ⟨s, hs⟩
  obtain ⟨w, hw, hmax⟩ := max_at s n hn
  have h1 := h.least (fun i => s w + (-1) * s i) (fun v hv => by have := hmax v hv; show 0 ≤ s w + -1 * s v; omega) (fun v hv => by
    rw [yfC (fun _ => s w) (fun i => (-1) * s i), yeh, ygu]
    have := hs v hv
    omega) w hw
  have h2 := (h.bo w hw).1 (hall w hw)
  have h3 : c w ≤ s w + -1 * s w := h1
  omega
theorem yj7 {q : Nat} {r : List Int} {s : Nat → Int} (hE : EOk n es) (hq : q < n) (hr : Red n es q r) (hl : ∀ v, v < n → gi r v = gi d v - Lp n es s v) : Win n es d ↔ 0 ≤ gi r q := by
  constructor
  · rintro ⟨t, ht⟩
    -- the end of t is the form behind a firing
    have h1 := yg0 hE hq hr (d' := tab (fun v => gi d v - Lp n es t v) n) (fun v hv _ => by rw [yde _ hv]; exact ht v hv) (f := fun i => t i + (-1) * s i) fun v hv => by
      rw [yde _ hv, yfC t (fun i => (-1) * s i), ygu, hl v hv]; omega
    have h2 : 0 ≤ Lp n es (fun i => t i + (-1) * s i) q := by
      unfold Lp
      refine yaX fun u hu => ?_
      exact Int.mul_nonneg (ya4 hE q u) (by have := h1 u hu; show 0 ≤ t q + -1 * s q - (t u + -1 * s u); omega)
    have h3 := ht q hq
    rw [yfC t (fun i => (-1) * s i), ygu] at h2
    rw [hl q hq]; omega
  · intro h0
    refine ⟨s, fun v hv => ?_⟩
    rw [← hl v hv]
    by_cases e : v = q
    · rw [e]; exact h0
    · exact hr.pos v hv e
end
end Go.Proofs.YtmeoemmemjipdaaGreat

/- The genus: how many single edges there are, and how many chips a reduced divisor has. No program in sight. -/
namespace Go.Proofs.YtmeoemmemjipdaaGreat
open Go Go.Proofs.Tryz
set_option linter.unusedVariables false
set_option linter.unusedSimpArgs false
def ycE (es : List E3) : Int := (es.map fun x => if x.1 = x.2.1 then 0 else x.2.2).sum
theorem ygF {n : Nat} : ∀ {es : List E3}, EOk n es → tot n es = 2 * ycE es
  | [], _ => by
    unfold tot ycE
    rw [yap (g := fun _ => 0) (fun v _ => by rw [yap (g := fun _ => 0) (fun u _ => W_nil v u), ybr]), ybr]
    simp
  | x :: es, hE => by
    have ih := ygF (es := es) (fun y hy => hE y (by simp [hy]))
    have hx := hE x (by simp)
    have h1 : tot n (x :: es) = sm n (fun v => sm n (fun u => w1 x v u)) + tot n es := by
      unfold tot
      rw [← ybB]
      refine yap fun v _ => ?_
      rw [← ybB]
      exact yap fun u _ => yeR x es v u
    have hp : ycE (x :: es) = (if x.1 = x.2.1 then 0 else x.2.2) + ycE es := by simp [ycE]
    rw [h1, hp, ih]
    by_cases e : x.1 = x.2.1
    · rw [if_pos e]
      have h2 : sm n (fun v => sm n (fun u => w1 x v u)) = 0 := by
        rw [yap (g := fun _ => 0) (fun v _ => by rw [yap (g := fun _ => 0) (fun u _ => by unfold w1; rw [if_neg (fun h => h.1 e)]), ybr]), ybr]
      omega
    · rw [if_neg e]
      have h2 : sm n (fun v => sm n (fun u => w1 x v u)) = sm n (fun v => sm n (fun u => (if v = x.1.toNat then (if u = x.2.1.toNat then x.2.2 else 0) else 0) + (if v = x.2.1.toNat then (if u = x.1.toNat then x.2.2 else 0) else 0))) :=
        yap fun v _ => yap fun u _ => by
          show w1 x v u = ite _ _ _ + ite _ _ _
          unfold w1
          by_cases a1 : v = x.1.toNat
          · by_cases a2 : u = x.2.1.toNat
            · rw [if_pos ⟨e, .inl ⟨by omega, by omega⟩⟩, if_pos a1, if_pos a2, if_neg (by omega)]; omega
            · rw [if_neg (fun h => by omega), if_pos a1, if_neg a2, if_neg (by omega)]; omega
          · rw [if_neg a1]
            by_cases b1 : v = x.2.1.toNat
            · rw [if_pos b1]
              by_cases b2 : u = x.1.toNat
              · rw [if_pos ⟨e, .inr ⟨by omega, by omega⟩⟩, if_pos b2]; omega
              · rw [if_neg (fun h => by omega), if_neg b2]; omega
            · rw [if_neg (fun h => by omega), if_neg b1]; omega
      have h3 : ∀ a b : Nat, a < n → b < n → sm n (fun v => sm n (fun u => if v = a then (if u = b then x.2.2 else 0) else 0)) = x.2.2 := fun a b ha hb => by
        rw [yap (g := fun v => if v = a then x.2.2 else 0) (fun v _ => by
          by_cases e : v = a
          · simp only [if_pos e]; exact yc2 _ hb
          · simp only [if_neg e]; exact ybr n)]
        exact yc2 _ ha
      have h4 : sm n (fun v => sm n (fun u => (if v = x.1.toNat then (if u = x.2.1.toNat then x.2.2 else 0) else 0) + (if v = x.2.1.toNat then (if u = x.1.toNat then x.2.2 else 0) else 0))) = x.2.2 + x.2.2 := by
        have e : ∀ A B : Nat → Nat → Int, sm n (fun v => sm n (fun u => A v u + B v u)) = sm n (fun v => sm n (A v)) + sm n (fun v => sm n (B v)) := fun A B => by
          rw [← ybB]
          exact yap fun v _ => by rw [← ybB]
        refine (e (fun v u => if v = x.1.toNat then (if u = x.2.1.toNat then x.2.2 else 0) else 0) (fun v u => if v = x.2.1.toNat then (if u = x.1.toNat then x.2.2 else 0) else 0)).trans ?_
        rw [h3 x.1.toNat x.2.1.toNat (by omega) (by omega), h3 x.2.1.toNat x.1.toNat (by omega) (by omega)]
      omega
end Go.Proofs.YtmeoemmemjipdaaGreat

/- What the library's pure forms come to: search, minimum, order. -/
namespace Go.Proofs.YtmeoemmemjipdaaGreat
open Go Go.Proofs.Tryz
set_option linter.unusedVariables false
set_option linter.unusedSimpArgs false
theorem yju {x : List Int} {R : Int → Prop} (hl : x.length ≤ 1000000000) (h0 : 0 < x.length) (h : ∀ m, (∃ k, k < x.length ∧ gi x k = m) → (∀ k, k < x.length → m ≤ gi x k) → R m) : ybn x R := by
  unfold ybn
  refine ⟨True, fun _ => ⟨by omega, ?_⟩, fun q => by omega, fun _ => trivial⟩
  refine ⟨fun c m i => Cnt x.length (fun k => 1 ≤ k ∧ (∃ j, j < k ∧ gi x j = m) ∧ ∀ j, j < k → m ≤ gi x j) c i, ⟨x.length - 1, 1, rfl, rfl, h0, by omega, ⟨0, by omega, rfl⟩, fun j hj => by rw [show j = 0 by omega]; exact Int.le_refl _⟩, ?_⟩
  rintro c m _ ⟨k, rfl, rfl, hk, h1, ⟨j0, hj0, rfl⟩, hm⟩
  simp only [Int.toNat_natCast]
  refine ⟨fun hlt => ⟨by omega, Cnt.next (by omega) (by omega) ⟨by omega, ?_, fun j hj => ?_⟩⟩, fun hge => ?_⟩
  · by_cases q : gi x k < gi x j0
    · exact ⟨k, by omega, by unfold mnF; rw [if_pos q]⟩
    · exact ⟨j0, by omega, by unfold mnF; rw [if_neg q]⟩
  · rw [mnF_eq]
    by_cases e : j = k
    · subst e; omega
    · have := hm j (by omega); omega
  · have : k = x.length := by omega
    subst this
    exact h _ ⟨j0, hj0, rfl⟩ hm
end Go.Proofs.YtmeoemmemjipdaaGreat
