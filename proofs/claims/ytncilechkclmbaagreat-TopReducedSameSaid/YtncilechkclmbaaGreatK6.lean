/- Texts laid together: PEb, SpF, L36, SpN, RkM, Sys, Cmp, Pd, PRa, PRb, RkF, RkG, RkW, Lw36, PSr, SpD, RkR, L38, Big. -/
import Derived.Test.YtncilechkclmbaaGreatK5
/- Pure forms of functions, made by program (pf.py), each with the proof that the code does so. -/
namespace Go.Proofs.YtncilechkclmbaaGreat
open Go Go.RowKit Go.Shelf Go.Proofs.Tryz
set_option linter.unusedVariables false
set_option maxRecDepth 100000
set_option maxHeartbeats 1000000
def yaX (s : List (List Int)) (Ff : (List Int) → (Bool → Prop) → Prop) (R : Int → Prop) : Prop :=
(∃ I2 : Nat → Int → Prop, (∃ m0, I2 m0 0) ∧ ∀ m2 v, I2 m2 v → 
((v < ((s.length : Nat) : Int) →
((0 ≤ v ∧ v < ((s.length : Nat) : Int)) ∧
Ff (gx s v.toNat) (fun (r : Bool) =>
((r = true →
R v) ∧
(¬ (r = true) →
(In64 (v + 1) ∧
∃ m3, m3 < m2 ∧ I2 m3 (v + 1))))))) ∧
(¬ (v < ((s.length : Nat) : Int)) →
R (-1))))
theorem ydg {O : Nat → Prop} {w : World} {s : List (List Int)} {Ff : (List Int) → (Bool → Prop) → Prop} {As : Option Addr} {ls : Nat} {cs : Nat} {f : Value} {R : Int → Prop} (h : yaX s Ff R) (hO : ∀ k, O k → k < w.heap.size) (hA0 : (FP.sl (cL cI) As ls cs s).P O w) (hA1 : (FP.st fun w' => ∃ (fid : Nat) (us : Array Value), f = Value.func (.func fid) #[] us ∧ Enters Tryz.prog fid ∧ ∀ (x0 : List Int) (Ax0 : Option Addr) (lx0 : Nat) (cx0 : Nat) (R : Bool → Prop), Ff x0 R → (FP.sl cI Ax0 lx0 cx0 x0).P no w' → Calls Tryz.prog fid (#[(Value.slice Ax0 lx0 cx0)] ++ us) w' fun e w'' => ∃ r0 : Bool, e = .returned (Value.bool (r0)) ∧ Sep w' no no w'' (rl []) ∧ R r0).P O w) :
    Calls Tryz.prog 83 #[(.slice As ls cs), f] w fun e w' => ∃ r2, e = .returned (ii r2) ∧ Sep w no O w' (rl []) ∧ R r2 := by
  unfold yaX at h; have hS : Sep w no O w (rl [Res.ro (FP.sl (cL cI) As ls cs s), Res.ro (FP.st fun w' => ∃ (fid : Nat) (us : Array Value), f = Value.func (.func fid) #[] us ∧ Enters Tryz.prog fid ∧ ∀ (x0 : List Int) (Ax0 : Option Addr) (lx0 : Nat) (cx0 : Nat) (R : Bool → Prop), Ff x0 R → (FP.sl cI Ax0 lx0 cx0 x0).P no w' → Calls Tryz.prog fid (#[(Value.slice Ax0 lx0 cx0)] ++ us) w' fun e w'' => ∃ r0 : Bool, e = .returned (Value.bool (r0)) ∧ Sep w' no no w'' (rl []) ∧ R r0)]) := Sep.startl hO [(FP.sl (cL cI) As ls cs s), (FP.st fun w' => ∃ (fid : Nat) (us : Array Value), f = Value.func (.func fid) #[] us ∧ Enters Tryz.prog fid ∧ ∀ (x0 : List Int) (Ax0 : Option Addr) (lx0 : Nat) (cx0 : Nat) (R : Bool → Prop), Ff x0 R → (FP.sl cI Ax0 lx0 cx0 x0).P no w' → Calls Tryz.prog fid (#[(Value.slice Ax0 lx0 cx0)] ++ us) w' fun e w'' => ∃ r0 : Bool, e = .returned (Value.bool (r0)) ∧ Sep w' no no w'' (rl []) ∧ R r0)] ⟨hA0, hA1, trivial⟩; refine yan (l := [(Value.slice As ls cs), f]) func83 rfl ntmps83 (Nat.le_of_ble_eq_true rfl) ?_; refine yaf ?_; refine ya5 yaQ ?_; refine rl_q rfl rfl rfl (ydi (v := (.int .i64 0)) rfl) ?_; refine yaa ?_; refine yaf ?_; refine yaf ?_; refine ya5 yaQ ?_; refine rl_q rfl rfl rfl (yae (v := (.slice As ls cs)) rfl) ?_; refine rl_q rfl rfl rfl (ybc (n := s.length) rfl underlying44 (ya2 (hS.rdr 0 rfl))) ?_; refine rl_q rfl rfl rfl (yae (v := (.int .i64 0)) rfl) ?_; refine yaa ?_; refine yak ?_; obtain ⟨I2, ⟨m0, h0⟩, hr⟩ := h; refine yaO (fun m E ds w' => ∃ v : Int, I2 m v ∧ ds = [] ∧ E 0 = (Value.slice As ls cs) ∧ E 1 = f ∧ E 7 = (Value.int .i64 ((s.length : Nat) : Int)) ∧ E 8 = (Value.int .i64 v) ∧ Sep w no O w' (rl [Res.ro (FP.sl (cL cI) As ls cs s), Res.ro (FP.st fun w' => ∃ (fid : Nat) (us : Array Value), f = Value.func (.func fid) #[] us ∧ Enters Tryz.prog fid ∧ ∀ (x0 : List Int) (Ax0 : Option Addr) (lx0 : Nat) (cx0 : Nat) (R : Bool → Prop), Ff x0 R → (FP.sl cI Ax0 lx0 cx0 x0).P no w' → Calls Tryz.prog fid (#[(Value.slice Ax0 lx0 cx0)] ++ us) w' fun e w'' => ∃ r0 : Bool, e = .returned (Value.bool (r0)) ∧ Sep w' no no w'' (rl []) ∧ R r0)])) m0 ⟨_, h0, rfl, rfl, rfl, rfl, rfl, (hS.sel [0, 1] (by decide))⟩ ?_; clear h0 hS; rintro m2 E ds w2 ⟨v, h, rfl, hE0, hE1, hE7, hE8, hS⟩ again; replace h := hr m2 v h; clear hr; refine yaf ?_; refine ya5 yaQ ?_; refine rl_q rfl rfl rfl (yd4 hE8 hE7) ?_; refine yaa ?_; refine yaf ?_; by_cases hp : v < ((s.length : Nat) : Int)
  · replace h := h.1 hp; refine zc hp (yag (yaf (yak (zs (zq (yae hE8) (zq (za (ii v)) (yaa (zs (zq (yae hE1) (zq (yae hE0) (zq (zm (ii v)) ?_))))))))))); obtain ⟨hx, h⟩ := h; refine zq (zi underlying44 ya0 (ybh (hS.rdr 0 rfl) hx)) ?_; obtain ⟨A, l, c, hc, hq⟩ := hS.el 0 rfl hx 2 3 rfl rfl (by decide); replace hS := hq; clear hq; refine zq (yaA (v := (.slice A l c)) rfl underlying26 rfl (hS.clr 3 rfl)) ?_; obtain ⟨fid, us, hf, he, hcl⟩ := hS.ro 1 rfl _ (Keeps.refl _ _); replace h := hcl _ _ _ _ _ h (hS.rdr 2 rfl); clear hcl; refine zn (yeH (hf) (am1 rfl) he (h.mono ?_)); clear hf he; rintro _ w3 ⟨r, rfl, hC, h⟩; replace hS := hS.pur hC.pure; clear hC; refine ⟨_, rfl, ?_⟩; refine zb (yaa ?_); by_cases hp2 : r = true
    · replace h := h.1 hp2; exact yaq (congrArg Value.bool hp2) (zs (zq (zm (ii v)) (zq (za (ii v)) (yaa (yah rfl rfl ⟨_, rfl, (hS.sel [] (by decide)), h⟩)))))
    · replace h := h.2 hp2; refine yax (congrArg Value.bool (Bool.eq_false_iff.2 hp2)) (yag (yai (zr ?_))); obtain ⟨hi, h⟩ := h; refine zq (ycv hE8 rfl hi) (zq (zm (ii (v + 1))) (yaa ?_)); obtain ⟨mq, hlt, h⟩ := h; exact again mq _ _ _ ⟨_, h, rfl, hE0, hE1, hE7, rfl, (hS.sel [0, 1] (by decide))⟩ hlt
  · replace h := h.2 hp; exact zd hp (yaH rfl (zs (zq (za (ii (-1))) (yaa (yah rfl rfl ⟨_, rfl, (hS.sel [] (by decide)), h⟩)))))
def yaw (s : List (List Int)) (Ff : (List Int) → (Bool → Prop) → Prop) (R : Bool → Prop) : Prop :=
yaX s Ff (fun r =>
R (decide (0 ≤ r)))
theorem ya4 {O : Nat → Prop} {w : World} {s : List (List Int)} {Ff : (List Int) → (Bool → Prop) → Prop} {As : Option Addr} {ls : Nat} {cs : Nat} {f : Value} {R : Bool → Prop} (h : yaw s Ff R) (hO : ∀ k, O k → k < w.heap.size) (hA0 : (FP.sl (cL cI) As ls cs s).P O w) (hA1 : (FP.st fun w' => ∃ (fid : Nat) (us : Array Value), f = Value.func (.func fid) #[] us ∧ Enters Tryz.prog fid ∧ ∀ (x0 : List Int) (Ax0 : Option Addr) (lx0 : Nat) (cx0 : Nat) (R : Bool → Prop), Ff x0 R → (FP.sl cI Ax0 lx0 cx0 x0).P no w' → Calls Tryz.prog fid (#[(Value.slice Ax0 lx0 cx0)] ++ us) w' fun e w'' => ∃ r0 : Bool, e = .returned (Value.bool (r0)) ∧ Sep w' no no w'' (rl []) ∧ R r0).P O w) :
    Calls Tryz.prog 25 #[(.slice As ls cs), f] w fun e w' => ∃ r2, e = .returned (.bool (r2)) ∧ Sep w no O w' (rl []) ∧ R r2 := by
  unfold yaw at h; have hS : Sep w no O w (rl [Res.ro (FP.sl (cL cI) As ls cs s), Res.ro (FP.st fun w' => ∃ (fid : Nat) (us : Array Value), f = Value.func (.func fid) #[] us ∧ Enters Tryz.prog fid ∧ ∀ (x0 : List Int) (Ax0 : Option Addr) (lx0 : Nat) (cx0 : Nat) (R : Bool → Prop), Ff x0 R → (FP.sl cI Ax0 lx0 cx0 x0).P no w' → Calls Tryz.prog fid (#[(Value.slice Ax0 lx0 cx0)] ++ us) w' fun e w'' => ∃ r0 : Bool, e = .returned (Value.bool (r0)) ∧ Sep w' no no w'' (rl []) ∧ R r0)]) := Sep.startl hO [(FP.sl (cL cI) As ls cs s), (FP.st fun w' => ∃ (fid : Nat) (us : Array Value), f = Value.func (.func fid) #[] us ∧ Enters Tryz.prog fid ∧ ∀ (x0 : List Int) (Ax0 : Option Addr) (lx0 : Nat) (cx0 : Nat) (R : Bool → Prop), Ff x0 R → (FP.sl cI Ax0 lx0 cx0 x0).P no w' → Calls Tryz.prog fid (#[(Value.slice Ax0 lx0 cx0)] ++ us) w' fun e w'' => ∃ r0 : Bool, e = .returned (Value.bool (r0)) ∧ Sep w' no no w'' (rl []) ∧ R r0)] ⟨hA0, hA1, trivial⟩; refine yan (l := [(Value.slice As ls cs), f]) func25 rfl ntmps25 (Nat.le_of_ble_eq_true rfl) ?_; refine yaf ?_; refine ya5 yaQ ?_; refine rl_q rfl rfl rfl (ydi (v := (.bool (false))) rfl) ?_; refine yaa ?_; refine yaf ?_; refine ya5 yaQ ?_; refine rl_q rfl rfl rfl (yae (v := (.slice As ls cs)) rfl) ?_; refine rl_q rfl rfl rfl (yae (v := f) rfl) ?_; refine rl_n rfl rfl rfl rfl (yal rfl (am2 rfl rfl) enter_83 ((ydg h (yaN _) (hS.rdr 0 rfl) (FP.sub _ (hS.ro 1 rfl) (fun _ _ h => h.elim) : FP.P _ no _)).mono ?_)); rintro _ w2 ⟨r, rfl, hC, h⟩; replace hS := hS.pur hC.pure; clear hC; refine ⟨_, rfl, ?_⟩; refine ⟨Stb.none _, ?_⟩; refine rl_q rfl rfl rfl (yiO rfl rfl) ?_; refine rl_q rfl rfl rfl (ydi (v := (.bool (decide (0 ≤ r)))) rfl) ?_; refine yaa ?_; exact yah rfl rfl ⟨_, rfl, (hS.sel [] (by decide)), h⟩
def yhP (x : List Int) (R : Int → Prop) : Prop :=
(∃ J2 : Prop, (J2 → ((0 ≤ (0 : Int) ∧ (0 : Int) < ((x.length : Nat) : Int)) ∧
(∃ I2 : Nat → Int → Int → Prop, (∃ m0, I2 m0 (gi x (0 : Int).toNat) 1) ∧ ∀ m2 m3 i, I2 m2 m3 i → 
((i < ((x.length : Nat) : Int) →
((0 ≤ i ∧ i < ((x.length : Nat) : Int)) ∧
(In64 (i + 1) ∧
∃ m4, m4 < m2 ∧ I2 m4 (mnF m3 (gi x i.toNat)) (i + 1)))) ∧
(¬ (i < ((x.length : Nat) : Int)) →
R m3))))) ∧
((((x.length : Nat) : Int) < 1 →
False) ∧
(¬ (((x.length : Nat) : Int) < 1) →
J2)))
theorem yix {O : Nat → Prop} {w : World} {x Ax lx cx} {R : Int → Prop} (h : yhP x R) (hO : ∀ k, O k → k < w.heap.size) (hA0 : (FP.sl cI Ax lx cx x).P O w) :
    Calls Tryz.prog 154 #[(.slice Ax lx cx)] w fun e w' => ∃ r, e = .returned (ii r) ∧ Sep w no O w' (rl []) ∧ R r := by
  unfold yhP at h; have hS : Sep w no O w (rl [Res.ro (FP.sl cI Ax lx cx x)]) := Sep.startl hO [(FP.sl cI Ax lx cx x)] ⟨hA0, trivial⟩; refine yan (l := [(.slice Ax lx cx)]) func154 rfl ntmps154 (Nat.le_of_ble_eq_true rfl) (zs (zq (za (ii 0)) (yaa (yaf (zs (zq (zm (.slice Ax lx cx)) (zq (ybc (n := x.length) rfl underlying36 (ya2 (hS.rdr 0 rfl))) (zq zL (yaa ?_))))))))); obtain ⟨J2, hJ, h⟩ := h; refine yiR (fun E ds w' => J2 ∧ ds = [] ∧ E 0 = (Value.slice Ax lx cx) ∧ Sep w no O w' (rl [Res.ro (FP.sl cI Ax lx cx x)])) ?_ ?_
  · clear h hS; rintro E ds w2 ⟨h, rfl, hE0, hS⟩; replace h := hJ h; refine zs (zq (yae hE0) ?_); obtain ⟨hx, h⟩ := h; refine zq (zi underlying36 yaj (ybh (hS.rdr 0 rfl) hx)) (zq (yaA (v := (ii (gi x (0 : Int).toNat))) rfl underlying3 rfl (rd_1 (hS.rdr 0 rfl) hx (fun q => ybs q) rfl)) ?_); refine zq (za (ii (gi x (0 : Int).toNat))) (yaa (yaf (zs (zq (za (ii 1)) (yaa (yak ?_)))))); obtain ⟨I2, ⟨m0, h0⟩, hr⟩ := h; refine yaO (fun m E ds w' => ∃ m3 i, I2 m m3 i ∧ ds = [] ∧ E 0 = (Value.slice Ax lx cx) ∧ E 3 = (ii m3) ∧ E 4 = (ii i) ∧ Sep w no O w' (rl [Res.ro (FP.sl cI Ax lx cx x)])) m0 ⟨_, _, h0, rfl, hE0, rfl, rfl, (hS.sel [0] (by decide))⟩ ?_; clear h0 hS; rintro m2 E ds w3 ⟨m3, i, h, rfl, hE0, hE3, hE4, hS⟩ again; replace h := hr m2 m3 i h; clear hr; refine yaf (zs (zq (yae hE4) (zq (yae hE0) (zq (ybc (n := x.length) rfl underlying36 (ya2 (hS.rdr 0 rfl))) (zq zL (yaa ?_)))))); by_cases hp : i < ((x.length : Nat) : Int)
    · replace h := h.1 hp; refine zc hp (yag (yaf (yak (zr (zq (yae hE3) (zq (yae hE0) (zq (yae hE4) ?_))))))); obtain ⟨hx2, h⟩ := h; refine zq (zi underlying36 yaj (ybh (hS.rdr 0 rfl) hx2)) (zq (yaA (v := (ii (gi x i.toNat))) rfl underlying3 rfl (rd_1 (hS.rdr 0 rfl) hx2 (fun q => ybs q) rfl)) ?_); refine zq (v_min2 rfl rfl) (zq (za (ii (mnF m3 (gi x i.toNat)))) (yaa (yai (zr (zq (yae hE4) ?_))))); obtain ⟨hi, h⟩ := h; refine zq (zA hi) (zq (za (ii (i + 1))) (yaa ?_)); obtain ⟨mq, hlt, h⟩ := h; exact again mq _ _ _ ⟨_, _, h, rfl, hE0, rfl, rfl, (hS.sel [0] (by decide))⟩ hlt
    · replace h := h.2 hp; exact zd hp (yaH rfl (zs (zq (yae hE3) (zq (za (ii m3)) (yaa (yah rfl rfl ⟨_, rfl, (hS.sel [] (by decide)), h⟩))))))
  clear hJ; intro j; by_cases hp2 : ((x.length : Nat) : Int) < 1
  · replace h := h.1 hp2; exact zc hp2 (zr h.elim)
  · replace h := h.2 hp2; exact zd hp2 (yag (j _ _ _ ⟨h, rfl, rfl, (hS.sel [0] (by decide))⟩))
def yhO (g : Int) (g2 : List E3) (l : List (List Int)) (R : Int → Prop) : Prop :=
yco g g2 (fun r r2 =>
((r2 = 0 →
((r = true →
(∃ I2 : Nat → Int → Prop, (∃ m0, I2 m0 0) ∧ ∀ m2 v, I2 m2 v → 
((v < ((l.length : Nat) : Int) →
((0 ≤ v ∧ v < ((l.length : Nat) : Int)) ∧
ybZ (gx l v.toNat) g (fun r3 =>
((r3 = 0 →
(In64 (v + 1) ∧
∃ m3, m3 < m2 ∧ I2 m3 (v + 1))) ∧
(¬ (r3 = 0) →
R r3))))) ∧
(¬ (v < ((l.length : Nat) : Int)) →
R 0)))) ∧
(¬ (r = true) →
R 13))) ∧
(¬ (r2 = 0) →
R r2)))
theorem yiz {O : Nat → Prop} {w : World} {g g2 l Ag lg cg Al ll cl} {R : Int → Prop} (h : yhO g g2 l R) (hO : ∀ k, O k → k < w.heap.size) (hA0 : (FP.sl c3 Ag lg cg g2).P O w) (hA1 : (FP.sl (cL cI) Al ll cl l).P O w) :
    Calls Tryz.prog 90 #[(.agg #[(ii g), (.slice Ag lg cg)]), (.slice Al ll cl)] w fun e w' => ∃ r4, e = .returned (ii r4) ∧ Sep w no O w' (rl []) ∧ R r4 := by
  unfold yhO at h; have hS : Sep w no O w (rl [Res.ro (FP.sl c3 Ag lg cg g2), Res.ro (FP.sl (cL cI) Al ll cl l)]) := Sep.startl hO [(FP.sl c3 Ag lg cg g2), (FP.sl (cL cI) Al ll cl l)] ⟨hA0, hA1, trivial⟩; refine yan (l := [(.agg #[(ii g), (.slice Ag lg cg)]), (.slice Al ll cl)]) func90 rfl ntmps90 (Nat.le_of_ble_eq_true rfl) (zs (zn (yb6 (v := (.agg #[(ii g), (.slice Ag lg cg)])) rfl ?_))); intro g3 w2 hN; replace hS : Sep w no O w2 (stl _ 2 (Res.box 24 g3 [(ii g), (.slice Ag lg cg)])) := hS.new 2 rfl hN; clear hN; refine zb (zq (za (ii 0)) (yaa (zs (zq (yav (vs := [(ii g), (.slice Ag lg cg)]) rfl underlying24 rfl yas ⟨Row.cell (hS.bx 2 rfl) (i := 0) rfl, Row.cell (hS.bx 2 rfl) (i := 1) rfl, trivial⟩) (zn (yal rfl (am1 rfl) yiW ((yc5 h (yaN _) (hS.rdr 0 rfl)).mono ?_))))))); rintro _ w3 ⟨r, r2, rfl, hC, h⟩; replace hS := hS.pur hC.pure; clear hC; refine ⟨_, rfl, ?_⟩; refine zb (zq (zm (.tuple #[(.bool (r)), (ii r2)])) (zq (zx (.bool (r))) (zq (zx (ii r2)) (zq (za (.bool (r))) (zq (za (ii r2)) (yaa (yaf (zs (zq (zm (ii r2)) (zq zN (yaa ?_))))))))))); by_cases hp : r2 = 0
  · replace h := h.1 hp; refine ze hp (yag (yaf (zs (zq (zm (.bool (r))) (zq (ydn rfl) (yaa ?_)))))); by_cases hp2 : r = true
    · replace h := h.1 hp2; refine yax (congrArg Value.bool (congrArg Bool.not hp2)) (yag (yaf (zs (zq (zm (.slice Al ll cl)) (zq (ybc (n := l.length) rfl underlying44 (ya2 (hS.rdr 1 rfl))) (zq (zm (ii 0)) (yaa (yak ?_)))))))); obtain ⟨I2, ⟨m0, h0⟩, hr⟩ := h; refine yaO (fun m E ds w' => ∃ v, I2 m v ∧ ds = [] ∧ E 2 = (Value.pointer (some (⟨g3, 0, none⟩ : Addr))) ∧ E 20 = (Value.slice Al ll cl) ∧ E 21 = (ii ((l.length : Nat) : Int)) ∧ E 22 = (ii v) ∧ Sep w no O w' (rl [Res.box 24 g3 [(ii g), (.slice Ag lg cg)], Res.ro (FP.sl c3 Ag lg cg g2), Res.ro (FP.sl (cL cI) Al ll cl l)])) m0 ⟨_, h0, rfl, rfl, rfl, rfl, rfl, (hS.sel [2, 0, 1] (by decide))⟩ ?_; clear h0 hS; rintro m2 E ds w4 ⟨v, h, rfl, hE2, hE20, hE21, hE22, hS⟩ again; replace h := hr m2 v h; clear hr; refine zs (zq (yd4 hE22 hE21) (yaa (yaf ?_))); by_cases hp3 : v < ((l.length : Nat) : Int)
      · replace h := h.1 hp3; refine zc hp3 (yag (yaf (yak (zs ?_)))); obtain ⟨hx, h⟩ := h; refine zq (yeK hE20 hE22 underlying44 ya0 (ybh (hS.rdr 2 rfl) hx)) ?_; obtain ⟨A, l2, c, hc, hq⟩ := hS.el 2 rfl hx 3 4 rfl rfl (by decide); replace hS := hq; clear hq; refine zq (yaA (v := (.slice A l2 c)) rfl underlying26 rfl (hS.clr 4 rfl)) (zq (za (.slice A l2 c)) (yaa (zs (zq (zm (.slice A l2 c)) (zq (yam hE2 underlying24 rfl yaj) (zq (zl underlying3 (Row.cell (hS.bx 0 rfl) (i := 0) rfl)) (zn (yal rfl (am2 rfl rfl) yfB ((yeP h (yaN _) (hS.rdr 3 rfl)).mono ?_))))))))); rintro _ w5 ⟨r3, rfl, hC, h⟩; replace hS := hS.pur hC.pure; clear hC; refine ⟨_, rfl, ?_⟩; refine zb (zq (za (ii r3)) (yaa (zs (zq (zm (ii r3)) (zq zN (yaa ?_)))))); by_cases hp4 : r3 = 0
        · replace h := h.1 hp4; refine ze hp4 (yag (yai (zr ?_))); obtain ⟨hi, h⟩ := h; refine zq (ycv hE22 rfl hi) (zq (zm (ii (v + 1))) (yaa ?_)); obtain ⟨mq, hlt, h⟩ := h; exact again mq _ _ _ ⟨_, h, rfl, hE2, hE20, hE21, rfl, (hS.sel [0, 1, 2] (by decide))⟩ hlt
        · replace h := h.2 hp4; exact zf hp4 (zs (zq (zm (ii r3)) (zq (za (ii r3)) (yaa (yah rfl rfl ⟨_, rfl, (hS.sel [] (by decide)), h⟩)))))
      · replace h := h.2 hp3; exact zd hp3 (yaH rfl (zs (zq (za (ii 0)) (yaa (yah rfl rfl ⟨_, rfl, (hS.sel [] (by decide)), h⟩)))))
    · replace h := h.2 hp2; exact yaq (congrArg Value.bool (congrArg Bool.not (Bool.eq_false_iff.2 hp2))) (zs (zq (za (ii 13)) (yaa (yah rfl rfl ⟨_, rfl, (hS.sel [] (by decide)), h⟩))))
  · replace h := h.2 hp; exact zf hp (zs (zq (zm (ii r2)) (zq (za (ii r2)) (yaa (yah rfl rfl ⟨_, rfl, (hS.sel [] (by decide)), h⟩)))))
def yhE (a : List Int) (b : List Int) (Ff : Int → Int → (Int → Prop) → Prop) (R : (List Int) → Prop) : Prop :=
((0 ≤ ((a.length : Nat) : Int) ∧ ((a.length : Nat) : Int) ≤ 1000000) ∧
(∃ I2 : Nat → Int → (List Int) → Prop, (∃ m0, I2 m0 0 (List.replicate ((a.length : Nat) : Int).toNat (0 : Int))) ∧ ∀ m2 v out, I2 m2 v out → 
((v < (((List.replicate ((a.length : Nat) : Int).toNat (0 : Int)).length : Nat) : Int) →
((0 ≤ v ∧ v < ((a.length : Nat) : Int)) ∧
((0 ≤ v ∧ v < ((b.length : Nat) : Int)) ∧
Ff (gi a v.toNat) (gi b v.toNat) (fun (r : Int) =>
((0 ≤ v ∧ v < ((out.length : Nat) : Int)) ∧
(In64 (v + 1) ∧
∃ m3, m3 < m2 ∧ I2 m3 (v + 1) (out.set v.toNat r))))))) ∧
(¬ (v < (((List.replicate ((a.length : Nat) : Int).toNat (0 : Int)).length : Nat) : Int)) →
R out))))
theorem yh2 {O : Nat → Prop} {w : World} {a : List Int} {b : List Int} {Ff : Int → Int → (Int → Prop) → Prop} {Aa : Option Addr} {la : Nat} {ca : Nat} {Ab : Option Addr} {lb : Nat} {cb : Nat} {f : Value} {R : (List Int) → Prop} (h : yhE a b Ff R) (hO : ∀ k, O k → k < w.heap.size) (hA0 : (FP.sl cI Aa la ca a).P O w) (hA1 : (FP.sl cI Ab lb cb b).P O w) (hA2 : (FP.st fun w' => ∃ (fid : Nat) (us : Array Value), f = Value.func (.func fid) #[] us ∧ Enters Tryz.prog fid ∧ ∀ (x0 : Int) (x1 : Int) (R : Int → Prop), Ff x0 x1 R → Calls Tryz.prog fid (#[(Value.int .i64 x0), (Value.int .i64 x1)] ++ us) w' fun e w'' => ∃ r0 : Int, e = .returned (Value.int .i64 r0) ∧ Sep w' no no w'' (rl []) ∧ R r0).P O w) :
    Calls Tryz.prog 92 #[(.slice Aa la ca), (.slice Ab lb cb), f] w fun e w' => ∃ r2 Ar lr cr, e = .returned (.slice Ar lr cr) ∧ Sep w no O w' (rl [Res.own cI 3 Ar lr cr r2]) ∧ R r2 := by
  unfold yhE at h; have hS : Sep w no O w (rl [Res.ro (FP.sl cI Aa la ca a), Res.ro (FP.sl cI Ab lb cb b), Res.ro (FP.st fun w' => ∃ (fid : Nat) (us : Array Value), f = Value.func (.func fid) #[] us ∧ Enters Tryz.prog fid ∧ ∀ (x0 : Int) (x1 : Int) (R : Int → Prop), Ff x0 x1 R → Calls Tryz.prog fid (#[(Value.int .i64 x0), (Value.int .i64 x1)] ++ us) w' fun e w'' => ∃ r0 : Int, e = .returned (Value.int .i64 r0) ∧ Sep w' no no w'' (rl []) ∧ R r0)]) := Sep.startl hO [(FP.sl cI Aa la ca a), (FP.sl cI Ab lb cb b), (FP.st fun w' => ∃ (fid : Nat) (us : Array Value), f = Value.func (.func fid) #[] us ∧ Enters Tryz.prog fid ∧ ∀ (x0 : Int) (x1 : Int) (R : Int → Prop), Ff x0 x1 R → Calls Tryz.prog fid (#[(Value.int .i64 x0), (Value.int .i64 x1)] ++ us) w' fun e w'' => ∃ r0 : Int, e = .returned (Value.int .i64 r0) ∧ Sep w' no no w'' (rl []) ∧ R r0)] ⟨hA0, hA1, hA2, trivial⟩; refine yan (l := [(Value.slice Aa la ca), (Value.slice Ab lb cb), f]) func92 rfl ntmps92 (Nat.le_of_ble_eq_true rfl) ?_; refine yaf ?_; refine ya5 yaQ ?_; refine rl_q rfl rfl rfl (ydi (v := (.slice none 0 0)) rfl) ?_; refine yaa ?_; refine yaf ?_; refine ya5 yaQ ?_; refine rl_q rfl rfl rfl (yae (v := (.slice Aa la ca)) rfl) ?_; refine rl_q rfl rfl rfl (ybc (n := a.length) rfl underlying36 (ya2 (hS.rdr 0 rfl))) ?_; obtain ⟨hx, h⟩ := h; refine rl_n rfl rfl rfl rfl (yky rfl rfl underlying36 yaj (by decide) rfl hx ?_); intro g w2 hN; replace hS := hS.made 3 rfl cI (Value.int .i64 0) (0 : Int) (fun _ _ => rfl) hN (by omega); clear hN; refine ⟨Stb.none _, ?_⟩; refine rl_q rfl rfl rfl (ydi (v := (.slice (some ⟨g, 0, none⟩) (((a.length : Nat) : Int).toNat) (((a.length : Nat) : Int).toNat))) rfl) ?_; refine yaa ?_; refine yaf ?_; refine yaf ?_; refine ya5 yaQ ?_; refine rl_q rfl rfl rfl (yae (v := (.slice (some ⟨g, 0, none⟩) (((a.length : Nat) : Int).toNat) (((a.length : Nat) : Int).toNat))) rfl) ?_; refine rl_q rfl rfl rfl (ybc (n := (List.replicate ((a.length : Nat) : Int).toNat (0 : Int)).length) rfl underlying36 (ya2 (hS.rdo 3 rfl))) ?_; refine rl_q rfl rfl rfl (yae (v := (.int .i64 0)) rfl) ?_; refine yaa ?_; refine yak ?_; obtain ⟨I2, ⟨m0, h0⟩, hr⟩ := h; refine yaO (fun m E ds w' => ∃ v : Int, ∃ out : List Int, ∃ Aout : Option Addr, ∃ lout : Nat, ∃ cout : Nat, I2 m v out ∧ ds = [] ∧ E 0 = (Value.slice Aa la ca) ∧ E 1 = (Value.slice Ab lb cb) ∧ E 2 = f ∧ E 7 = (Value.slice Aout lout cout) ∧ E 13 = (Value.int .i64 (((List.replicate ((a.length : Nat) : Int).toNat (0 : Int)).length : Nat) : Int)) ∧ E 14 = (Value.int .i64 v) ∧ Sep w no O w' (rl [Res.ro (FP.sl cI Aa la ca a), Res.ro (FP.sl cI Ab lb cb b), Res.ro (FP.st fun w' => ∃ (fid : Nat) (us : Array Value), f = Value.func (.func fid) #[] us ∧ Enters Tryz.prog fid ∧ ∀ (x0 : Int) (x1 : Int) (R : Int → Prop), Ff x0 x1 R → Calls Tryz.prog fid (#[(Value.int .i64 x0), (Value.int .i64 x1)] ++ us) w' fun e w'' => ∃ r0 : Int, e = .returned (Value.int .i64 r0) ∧ Sep w' no no w'' (rl []) ∧ R r0), Res.own cI 3 Aout lout cout out])) m0 ⟨_, _, _, _, _, h0, rfl, rfl, rfl, rfl, rfl, rfl, rfl, (hS.sel [0, 1, 2, 3] (by decide))⟩ ?_; clear h0 hS; rintro m2 E ds w3 ⟨v, out, Aout, lout, cout, h, rfl, hE0, hE1, hE2, hE7, hE13, hE14, hS⟩ again; replace h := hr m2 v out h; clear hr; refine yaf ?_; refine ya5 yaQ ?_; refine rl_q rfl rfl rfl (yd4 hE14 hE13) ?_; refine yaa ?_; refine yaf ?_; by_cases hp : v < (((List.replicate ((a.length : Nat) : Int).toNat (0 : Int)).length : Nat) : Int)
  · replace h := h.1 hp; refine zc hp (yag (yaf (yak (zs (zq (yae hE14) (zq (za (ii v)) (yaa (ybt [0, 1, 2, 3, 4, 5, 6, 7, 8, 9, 10, 11, 12, 13] (fun i => match i with | 11 => [0, 1] | _ => []) yaQ (by kernel_rfl) (by kernel_rfl) ?_)))))))); replace hS := hS.drew; refine zp (yae hE7) (zp (zm (ii v)) (zp (yae hE2) (zp (yae hE0) (zp (zm (ii v)) ?_)))); obtain ⟨hx2, h⟩ := h; refine zp (zi underlying36 yaj (ybh (hS.rdr 0 rfl) hx2)) (zp (yaA (v := (ii (gi a v.toNat))) rfl underlying3 rfl (rd_1 (hS.rdr 0 rfl) hx2 (fun q => ybs q) rfl)) ?_); refine zp (yae hE1) (zp (zm (ii v)) ?_); obtain ⟨hx3, h⟩ := h; refine zp (zi underlying36 yaj (ybh (hS.rdr 1 rfl) hx3)) (zp (yaA (v := (ii (gi b v.toNat))) rfl underlying3 rfl (rd_1 (hS.rdr 1 rfl) hx3 (fun q => ybs q) rfl)) ?_); obtain ⟨fid, us, hf, he, hcl⟩ := hS.ro 2 rfl _ (Keeps.refl _ _); replace h := hcl _ _ _ h; clear hcl; refine rp_n rfl rfl rfl rfl (yeH (hf) (am2 rfl rfl) he (h.mono ?_)); clear hf he; rintro _ w4 ⟨r, rfl, hC, h⟩; replace hS := hS.pur hC.pure; clear hC; refine ⟨_, rfl, ?_⟩; refine ⟨⟨fun hh => Bool.noConfusion (show false = true from hh), ⟨fun hh => Bool.noConfusion (show false = true from hh), ⟨fun hh => Bool.noConfusion (show false = true from hh), ⟨fun hh => Bool.noConfusion (show false = true from hh), ⟨fun hh => Bool.noConfusion (show false = true from hh), ⟨fun hh => Bool.noConfusion (show false = true from hh), ⟨fun hh => Bool.noConfusion (show false = true from hh), ⟨fun hh => Bool.noConfusion (show false = true from hh), ⟨fun hh => Bool.noConfusion (show false = true from hh), ⟨fun _ => (zm (ii v)), ⟨fun _ => (yae hE7), trivial⟩⟩⟩⟩⟩⟩⟩⟩⟩⟩⟩, ?_⟩; obtain ⟨hx4, h⟩ := h; refine zp (zi underlying36 yaj (ybh (hS.rdo 3 rfl) hx4)) (yhC rfl rfl rfl (zt (ii r) yaj (hS.wr 3 rfl rfl hx4) ?_)); intro w5 e1; replace hS := hS.st 3 rfl rfl hx4 (x := r) rfl e1; clear e1; refine zb (yb4 (yai (zr ?_))); obtain ⟨hi, h⟩ := h; refine zq (ycv hE14 rfl hi) (zq (zm (ii (v + 1))) (yaa ?_)); obtain ⟨mq, hlt, h⟩ := h; exact again mq _ _ _ ⟨_, _, _, _, _, h, rfl, hE0, hE1, hE2, hE7, hE13, rfl, (hS.sel [0, 1, 2, 3] (by decide))⟩ hlt
  · replace h := h.2 hp; exact zd hp (yaH rfl (zs (zq (yae hE7) (zq (za (.slice Aout lout cout)) (yaa (yah rfl rfl ⟨_, _, _, _, rfl, (hS.sel [3] (by decide)), h⟩))))))
def yh0 (x : Int) (x2 : Int) (cap : Int) (R : Int → Prop) : Prop :=
(In64 (x - cap) ∧
R (x - cap))
theorem yir {O : Nat → Prop} {w : World} {x x2 cap gc} {R : Int → Prop} (h : yh0 x x2 cap R) (hO : ∀ k, O k → k < w.heap.size) (hA0 : (FP.bx 3 gc [(Value.int .i64 cap)]).P O w) :
    Calls Tryz.prog 155 #[(ii x), (ii x2), (.pointer (some (⟨gc, 0, none⟩ : Addr)))] w fun e w' => ∃ r, e = .returned (ii r) ∧ Sep w no O w' (rl []) ∧ R r := by
  unfold yh0 at h; have hS : Sep w no O w (rl [Res.ro (FP.bx 3 gc [(ii cap)])]) := Sep.startl hO [(FP.bx 3 gc [(ii cap)])] ⟨hA0, trivial⟩; refine yan (l := [(ii x), (ii x2), (.pointer (some (⟨gc, 0, none⟩ : Addr)))]) func155 rfl ntmps155 (Nat.le_of_ble_eq_true rfl) (zs (zq (za (ii 0)) (yaa (zs (zq (zm (ii x)) (zq (zl underlying3 (Row.cell (hS.bxr 0 rfl) (i := 0) rfl)) ?_)))))); obtain ⟨hi, h⟩ := h; exact zq (zS hi) (zq (za (ii (x - cap))) (yaa (yah rfl rfl ⟨_, rfl, (hS.sel [] (by decide)), h⟩)))
def yhN (s : List Int) (R : (List Int) → Prop) : Prop :=
((((s.length : Nat) : Int) = 0 →
R ([])) ∧
(¬ (((s.length : Nat) : Int) = 0) →
yhP s (fun r =>
yhE s s (fun x x2 R => yh0 x x2 r R) (fun r2 =>
R r2))))
theorem yiy {O : Nat → Prop} {w : World} {s As ls cs} {R : (List Int) → Prop} (h : yhN s R) (hO : ∀ k, O k → k < w.heap.size) (hA0 : (FP.sl cI As ls cs s).P O w) :
    Calls Tryz.prog 91 #[(.slice As ls cs)] w fun e w' => ∃ r3 Ar2 lr2 cr2, e = .returned (.slice Ar2 lr2 cr2) ∧ Sep w no O w' (rl [Res.own cI 3 Ar2 lr2 cr2 r3]) ∧ R r3 := by
  unfold yhN at h; have hS : Sep w no O w (rl [Res.ro (FP.sl cI As ls cs s)]) := Sep.startl hO [(FP.sl cI As ls cs s)] ⟨hA0, trivial⟩; refine yan (l := [(.slice As ls cs)]) func91 rfl ntmps91 (Nat.le_of_ble_eq_true rfl) (zs (zq (za (.slice none 0 0)) (yaa (yaf (zs (zq (zm (.slice As ls cs)) (zq (ybc (n := s.length) rfl underlying36 (ya2 (hS.rdr 0 rfl))) (zq zE (yaa ?_))))))))); by_cases hp : ((s.length : Nat) : Int) = 0
  · replace h := h.1 hp; refine zc hp (zs (zq (za (.slice none 0 0)) (yaa ?_))); replace hS := hS.nil 1 rfl cI 3; exact yah rfl rfl ⟨_, _, _, _, rfl, (hS.sel [1] (by decide)), h⟩
  · replace h := h.2 hp; refine zd hp (yag (zs (zq (zm (.slice As ls cs)) (zn (yal rfl (am1 rfl) enter_154 ((yix h (yaN _) (hS.rdr 0 rfl)).mono ?_)))))); rintro _ w2 ⟨r, rfl, hC, h⟩; replace hS := hS.pur hC.pure; clear hC; refine ⟨_, rfl, ?_⟩; refine zb (zn (ybJ yaj ?_)); intro g w3 hN; replace hS : Sep w no O w3 (stl _ 1 (Res.box 3 g [(ii 0)])) := hS.new 1 rfl hN; clear hN; refine zb (zo (zt (ii r) yaj (hS.bwr 1 rfl (j := 0) rfl) ?_)); intro w4 e1; replace hS := hS.bst 1 rfl 0 (ii r) e1; clear e1; refine zb (yaa (zs (zq (zm (.slice As ls cs)) (zq (zm (.slice As ls cs)) (zq (yfd (am0) (am1 rfl)) ?_))))); replace hS := hS.frzb 1 rfl; refine zn (yal rfl (am3 rfl rfl rfl) enter_92 ((yh2 h (yaN _) (hS.rdr 0 rfl) (hS.rdr 0 rfl) (fun w' hk => ⟨155, #[(.pointer (some (⟨g, 0, none⟩ : Addr)))], rfl, enter_155, fun x x2 R hF => ybp (by simp) (yir hF (yaN _) (FP.sub _ (FP.keep _ (FP.sub _ (hS.ro 1 rfl) (fun _ _ h => h.elim) : FP.P _ no _) hk) fun _ _ h => h.elim))⟩)).mono ?_)); rintro _ w5 ⟨r2, Ar, lr, cr, rfl, hC, h⟩; replace hS := hS.call1 (hC.widen (yea (ybl (fI .i64) _ _ _ _ _) ye0) hS.blt) 2 0 rfl; clear hC; refine ⟨_, rfl, ?_⟩; exact zb (zq (za (.slice Ar lr cr)) (yaa (yah rfl rfl ⟨_, _, _, _, rfl, (hS.sel [2] (by decide)), h⟩)))
def yhQ (m2 : Int) (n : Int) (R : Int → Prop) : Prop :=
(In64 (m2 - n) ∧
R (m2 - n))
theorem yie {O : Nat → Prop} {w : World} {m2 n} {R : Int → Prop} (h : yhQ m2 n R) (hO : ∀ k, O k → k < w.heap.size) :
    Calls Tryz.prog 93 #[(ii m2), (ii n)] w fun e w' => ∃ r, e = .returned (ii r) ∧ Sep w no O w' (rl []) ∧ R r := by
  unfold yhQ at h; have hS : Sep w no O w (rl []) := Sep.start w hO; refine yan (l := [(ii m2), (ii n)]) func93 rfl ntmps93 (Nat.le_of_ble_eq_true rfl) (zs (zq (za (ii 0)) (yaa (zs (zq (zm (ii m2)) (zq (zm (ii n)) ?_)))))); obtain ⟨hi, h⟩ := h; exact zq (zS hi) (zq (za (ii (m2 - n))) (yaa (yah rfl rfl ⟨_, rfl, (hS.sel [] (by decide)), h⟩)))
def yhK (g : Int) (g2 : List E3) (a : List Int) (b : List Int) (R : Bool → (List Int) → Int → Prop) : Prop :=
yhO g g2 ([a, b]) (fun r =>
((r = 0 →
ycV g g2 0 a (fun r2 r3 r4 =>
((r4 = 0 →
ycV g g2 0 b (fun r5 r6 r7 =>
((r7 = 0 →
yaz r2 r5 (fun r8 =>
((r8 = true →
yhE r3 r6 (fun x x2 R => yhQ x x2 R) (fun r9 =>
yhN r9 (fun r10 =>
R true r10 0))) ∧
(¬ (r8 = true) →
R false ([]) 0)))) ∧
(¬ (r7 = 0) →
R false ([]) r7)))) ∧
(¬ (r4 = 0) →
R false ([]) r4)))) ∧
(¬ (r = 0) →
R false ([]) r)))
theorem yik {O : Nat → Prop} {w : World} {g g2 a b Ag lg cg Aa la ca Ab lb cb} {R : Bool → (List Int) → Int → Prop} (h : yhK g g2 a b R) (hO : ∀ k, O k → k < w.heap.size) (hA0 : (FP.sl c3 Ag lg cg g2).P O w) (hA1 : (FP.sl cI Aa la ca a).P O w) (hA2 : (FP.sl cI Ab lb cb b).P O w) :
    Calls Tryz.prog 33 #[(.agg #[(ii g), (.slice Ag lg cg)]), (.slice Aa la ca), (.slice Ab lb cb)] w fun e w' => ∃ r11 r12 r13 Ar7 lr7 cr7, e = .returned (.tuple #[(.bool (r11)), (.slice Ar7 lr7 cr7), (ii r13)]) ∧ Sep w no O w' (rl [Res.own cI 3 Ar7 lr7 cr7 r12]) ∧ R r11 r12 r13 := by
  unfold yhK at h; have hS : Sep w no O w (rl [Res.ro (FP.sl c3 Ag lg cg g2), Res.ro (FP.sl cI Aa la ca a), Res.ro (FP.sl cI Ab lb cb b)]) := Sep.startl hO [(FP.sl c3 Ag lg cg g2), (FP.sl cI Aa la ca a), (FP.sl cI Ab lb cb b)] ⟨hA0, hA1, hA2, trivial⟩; refine yan (l := [(.agg #[(ii g), (.slice Ag lg cg)]), (.slice Aa la ca), (.slice Ab lb cb)]) func33 rfl ntmps33 (Nat.le_of_ble_eq_true rfl) (zs (zn (yb6 (v := (.agg #[(ii g), (.slice Ag lg cg)])) rfl ?_))); intro g3 w2 hN; replace hS : Sep w no O w2 (stl _ 3 (Res.box 24 g3 [(ii g), (.slice Ag lg cg)])) := hS.new 3 rfl hN; clear hN; refine zb (zq (za (.bool (false))) (zq (za (.slice none 0 0)) (zq (za (ii 0)) (yaa (yaf (zs (zq (yav (vs := [(ii g), (.slice Ag lg cg)]) rfl underlying24 rfl yas ⟨Row.cell (hS.bx 3 rfl) (i := 0) rfl, Row.cell (hS.bx 3 rfl) (i := 1) rfl, trivial⟩) (zq (zm (.slice Aa la ca)) (zq (zm (.slice Ab lb cb)) (zn (yaR (l := [(0, (.slice Aa la ca)), (1, (.slice Ab lb cb))]) (cells := [(.slice Aa la ca), (.slice Ab lb cb)]) (bp2 rfl rfl) underlying44 ya0 rfl rfl ?_))))))))))); intro g4 w3 hN; replace hS := hS.lit (n := 2) (c := (cL cI)) 4 rfl hN ([a, b] : List (List Int)) rfl (by decide) ⟨[(.slice Aa la ca)], _, rfl, (ro_R (hS.ro 1 rfl)), ⟨[(.slice Ab lb cb)], _, rfl, (ro_R (hS.ro 2 rfl)), rfl⟩⟩; clear hN; refine zb (zn (yal rfl (am2 rfl rfl) enter_90 ((yiz h (yaN _) (hS.rdr 0 rfl) (hS.rdo 4 rfl)).mono ?_))); rintro _ w4 ⟨r, rfl, hC, h⟩; replace hS := hS.pur hC.pure; clear hC; refine ⟨_, rfl, ?_⟩; refine zb (zq (za (ii r)) (yaa (zs (zq (zm (ii r)) (zq zN (yaa ?_)))))); by_cases hp : r = 0
  · replace h := h.1 hp; refine ze hp (yag (zs (zq (yav (vs := [(ii g), (.slice Ag lg cg)]) rfl underlying24 rfl yas ⟨Row.cell (hS.bx 3 rfl) (i := 0) rfl, Row.cell (hS.bx 3 rfl) (i := 1) rfl, trivial⟩) (zq (zm (.slice Aa la ca)) (zn (yal rfl (am3 rfl rfl rfl) yiQ ((ydC h (yaN _) (hS.rdr 0 rfl) (hS.rdr 1 rfl)).mono ?_))))))); rintro _ w5 ⟨r2, r3, r4, Ar, lr, cr, Ar2, lr2, cr2, rfl, hC, h⟩; replace hS := hS.call2 (hC.widen (yea (ybl (fI .i64) _ _ _ _ _) (yea (ybl (fI .i64) _ _ _ _ _) ye0)) hS.blt) 5 0 6 1 rfl rfl (by decide) (by decide); clear hC; refine ⟨_, rfl, ?_⟩; refine zb (zq (zm (.tuple #[(.slice Ar lr cr), (.slice Ar2 lr2 cr2), (ii r4)])) (zq (zx (.slice Ar lr cr)) (zq (zx (.slice Ar2 lr2 cr2)) (zq (zx (ii r4)) (zq (za (.slice Ar lr cr)) (zq (za (.slice Ar2 lr2 cr2)) (zq (za (ii r4)) (yaa (yaf (zs (zq (zm (ii r4)) (zq zN (yaa ?_))))))))))))); by_cases hp2 : r4 = 0
    · replace h := h.1 hp2; refine ze hp2 (yag (zs (zq (yav (vs := [(ii g), (.slice Ag lg cg)]) rfl underlying24 rfl yas ⟨Row.cell (hS.bx 3 rfl) (i := 0) rfl, Row.cell (hS.bx 3 rfl) (i := 1) rfl, trivial⟩) (zq (zm (.slice Ab lb cb)) (zn (yal rfl (am3 rfl rfl rfl) yiQ ((ydC h (yaN _) (hS.rdr 0 rfl) (hS.rdr 2 rfl)).mono ?_))))))); rintro _ w6 ⟨r5, r6, r7, Ar3, lr3, cr3, Ar4, lr4, cr4, rfl, hC, h⟩; replace hS := hS.call2 (hC.widen (yea (ybl (fI .i64) _ _ _ _ _) (yea (ybl (fI .i64) _ _ _ _ _) ye0)) hS.blt) 7 0 8 1 rfl rfl (by decide) (by decide); clear hC; refine ⟨_, rfl, ?_⟩; refine zb (zq (zm (.tuple #[(.slice Ar3 lr3 cr3), (.slice Ar4 lr4 cr4), (ii r7)])) (zq (zx (.slice Ar3 lr3 cr3)) (zq (zx (.slice Ar4 lr4 cr4)) (zq (zx (ii r7)) (zq (za (.slice Ar3 lr3 cr3)) (zq (za (.slice Ar4 lr4 cr4)) (zq (za (ii r7)) (yaa (yaf (zs (zq (zm (ii r7)) (zq zN (yaa ?_))))))))))))); by_cases hp3 : r7 = 0
      · replace h := h.1 hp3; refine ze hp3 (yag (yaf (zs (zq (zm (.slice Ar lr cr)) (zq (zm (.slice Ar3 lr3 cr3)) (zn (yal rfl (am2 rfl rfl) yeX ((yaP h (yaN _) (hS.rdo 5 rfl) (hS.rdo 7 rfl)).mono ?_)))))))); rintro _ w7 ⟨r8, rfl, hC, h⟩; replace hS := hS.pur hC.pure; clear hC; refine ⟨_, rfl, ?_⟩; refine zb (zq (ydn rfl) (yaa ?_)); by_cases hp4 : r8 = true
        · replace h := h.1 hp4; refine yax (congrArg Value.bool (congrArg Bool.not hp4)) (yag (zs (zq (zm (.slice Ar2 lr2 cr2)) (zq (zm (.slice Ar4 lr4 cr4)) (zn (yal rfl (am3 rfl rfl rfl) enter_92 ((yh2 h (yaN _) (hS.rdo 6 rfl) (hS.rdo 8 rfl) (fun w' hk => ⟨93, #[], rfl, enter_93, fun x x2 R hF => ybp (by simp) (yie hF (yaN _))⟩)).mono ?_))))))); rintro _ w8 ⟨r9, Ar5, lr5, cr5, rfl, hC, h⟩; replace hS := hS.call1 (hC.widen (yea (ybl (fI .i64) _ _ _ _ _) ye0) hS.blt) 9 0 rfl; clear hC; refine ⟨_, rfl, ?_⟩; refine zb (zn (yal rfl (am1 rfl) enter_91 ((yiy h (yaN _) (hS.rdo 9 rfl)).mono ?_))); rintro _ w9 ⟨r10, Ar6, lr6, cr6, rfl, hC, h⟩; replace hS := hS.call1 (hC.widen (yea (ybl (fI .i64) _ _ _ _ _) ye0) hS.blt) 10 0 rfl; clear hC; refine ⟨_, rfl, ?_⟩; exact zb (zq (za (.bool (true))) (zq (za (.slice Ar6 lr6 cr6)) (zq (za (ii 0)) (yaa (yfS rfl rfl rfl rfl ⟨_, _, _, _, _, _, rfl, (hS.sel [10] (by decide)), h⟩)))))
        · replace h := h.2 hp4; refine yaq (congrArg Value.bool (congrArg Bool.not (Bool.eq_false_iff.2 hp4))) (zs (zq (za (.bool (false))) (zq (za (.slice none 0 0)) (zq (za (ii 0)) (yaa ?_))))); replace hS := hS.nil 9 rfl cI 3; exact yfS rfl rfl rfl rfl ⟨_, _, _, _, _, _, rfl, (hS.sel [9] (by decide)), h⟩
      · replace h := h.2 hp3; refine zf hp3 (zs (zq (zm (ii r7)) (zq (za (.bool (false))) (zq (za (.slice none 0 0)) (zq (za (ii r7)) (yaa ?_)))))); replace hS := hS.nil 9 rfl cI 3; exact yfS rfl rfl rfl rfl ⟨_, _, _, _, _, _, rfl, (hS.sel [9] (by decide)), h⟩
    · replace h := h.2 hp2; refine zf hp2 (zs (zq (zm (ii r4)) (zq (za (.bool (false))) (zq (za (.slice none 0 0)) (zq (za (ii r4)) (yaa ?_)))))); replace hS := hS.nil 7 rfl cI 3; exact yfS rfl rfl rfl rfl ⟨_, _, _, _, _, _, rfl, (hS.sel [7] (by decide)), h⟩
  · replace h := h.2 hp; refine zf hp (zs (zq (zm (ii r)) (zq (za (.bool (false))) (zq (za (.slice none 0 0)) (zq (za (ii r)) (yaa ?_)))))); replace hS := hS.nil 5 rfl cI 3; exact yfS rfl rfl rfl rfl ⟨_, _, _, _, _, _, rfl, (hS.sel [5] (by decide)), h⟩
def ydr (g : Int) (g2 : List E3) (R : Bool → Prop) : Prop :=
yc4 g g2 5 7 (fun r =>
R r)
theorem ygo {O : Nat → Prop} {w : World} {g g2 Ag lg cg} {R : Bool → Prop} (h : ydr g g2 R) (hO : ∀ k, O k → k < w.heap.size) (hA0 : (FP.sl c3 Ag lg cg g2).P O w) :
    Calls Tryz.prog 51 #[(.agg #[(ii g), (.slice Ag lg cg)])] w fun e w' => ∃ r2, e = .returned (.bool (r2)) ∧ Sep w no O w' (rl []) ∧ R r2 := by
  unfold ydr at h; have hS : Sep w no O w (rl [Res.ro (FP.sl c3 Ag lg cg g2)]) := Sep.startl hO [(FP.sl c3 Ag lg cg g2)] ⟨hA0, trivial⟩; refine yan (l := [(.agg #[(ii g), (.slice Ag lg cg)])]) func51 rfl ntmps51 (Nat.le_of_ble_eq_true rfl) (zs (zn (yb6 (v := (.agg #[(ii g), (.slice Ag lg cg)])) rfl ?_))); intro g3 w2 hN; replace hS : Sep w no O w2 (stl _ 1 (Res.box 24 g3 [(ii g), (.slice Ag lg cg)])) := hS.new 1 rfl hN; clear hN; refine zb (zq (za (.bool (false))) (yaa (zs (zq (yav (vs := [(ii g), (.slice Ag lg cg)]) rfl underlying24 rfl yas ⟨Row.cell (hS.bx 1 rfl) (i := 0) rfl, Row.cell (hS.bx 1 rfl) (i := 1) rfl, trivial⟩) (zn (yal rfl (am3 rfl rfl rfl) enter_117 ((pok_r08_small h (yaN _) (hS.rdr 0 rfl)).mono ?_))))))); rintro _ w3 ⟨r, rfl, hC, h⟩; replace hS := hS.pur hC.pure; clear hC; refine ⟨_, rfl, ?_⟩; exact zb (zq (za (.bool (r))) (yaa (yah rfl rfl ⟨_, rfl, (hS.sel [] (by decide)), h⟩)))
end Go.Proofs.YtncilechkclmbaaGreat

/- What firing a set comes to. -/
namespace Go.Proofs.YtncilechkclmbaaGreat
open Go Go.Proofs.Tryz
set_option linter.unusedVariables false
set_option linter.unusedSimpArgs false
section
variable {n : Nat} {es : List E3} {d : List Int} {set : List Int}
end
end Go.Proofs.YtncilechkclmbaaGreat

/- Words for the laws of layer 36: what its small functions come to; the chapter's examples come out right. -/
namespace Go.Proofs.YtncilechkclmbaaGreat
open Go Go.Proofs.Tryz
set_option linter.unusedVariables false
set_option linter.unusedSimpArgs false
theorem red_of_dec {n : Nat} {es : List E3} {q : Nat} {d : List Int} (hq : q < n) (h1 : ∀ v, v < n → v ≠ q → 0 ≤ gi d v) (h2 : ∀ m, m < 2 ^ n → 1 ≤ m → m.testBit q = false → ¬ (∀ v, v < n → m.testBit v = true → outS n es m.testBit v ≤ gi d v)) : Red n es q d :=
  (tight_red hq h1).1 fun m a b c => h2 m b a c
theorem red_known {n : Nat} {es : List E3} {q : Nat} {d r s a t : List Int} (hg : yat (n : Int) es = 0) (hq : q < n) (h : Reduces n es q d r s) (h1 : ∀ v, v < n → v ≠ q → 0 ≤ gi a v) (h2 : ∀ m, m < 2 ^ n → 1 ≤ m → m.testBit q = false → ¬ (∀ v, v < n → m.testBit v = true → outS n es m.testBit v ≤ gi a v))
    (hal : a.length = n) (htl : t.length = n) (hlp : ∀ v, v < n → gi a v = gi d v - Lp n es (gi t) v) (hz : gi t q = 0) : r = a ∧ s = t :=
  ylw (yc9 hg).1 hq h hal htl hlp hz (red_of_dec hq h1 h2)
theorem small_dec {n : Int} {es : List E3} {d : List Int} (h1 : es.length ≤ 40) (h2 : n ≤ 6 ∧ (es.map (·.2.2)).sum ≤ 9) (hd : d.length = n.toNat) (h3 : ∀ v, v < d.length → -200 ≤ gi d v ∧ gi d v ≤ 200) : Small n es d :=
  ⟨h1, fun _ => h2, fun _ v hv => h3 v (by omega)⟩
end Go.Proofs.YtncilechkclmbaaGreat

/- What the pure forms of sums, of equivalence and of lists of divisors come to. -/
namespace Go.Proofs.YtncilechkclmbaaGreat
open Go Go.Proofs.Tryz
set_option linter.unusedVariables false
set_option linter.unusedSimpArgs false
theorem own_two {n : Nat} {a b : List Int} (ha : a.length = n ∧ yaJ a n = 0) (hb : b.length = n ∧ yaJ b n = 0) : ∀ k : Nat, k < ([a, b] : List (List Int)).length → (gx [a, b] k).length = n ∧ yaJ (gx [a, b] k) n = 0 := fun k hk => by
  rcases (by simp at hk; omega : k = 0 ∨ k = 1) with rfl | rfl
  · exact ha
  · exact hb
theorem p_slices_Min_S {x : List Int} {R : Int → Prop} (hl : x.length ≤ 1000000000) (h0 : 0 < x.length) (h : ∀ m, (∃ k, k < x.length ∧ gi x k = m) → (∀ k, k < x.length → m ≤ gi x k) → R m) : yhP x R := by
  unfold yhP
  refine ⟨True, fun _ => ⟨by omega, ?_⟩, fun q => by omega, fun _ => trivial⟩
  refine ⟨fun c m i => Cnt x.length (fun k => 1 ≤ k ∧ (∃ j, j < k ∧ gi x j = m) ∧ ∀ j, j < k → m ≤ gi x j) c i, ⟨x.length - 1, 1, rfl, rfl, h0, by omega, ⟨0, by omega, rfl⟩, fun j hj => by rw [show j = 0 by omega]; exact Int.le_refl _⟩, ?_⟩
  rintro c m _ ⟨k, rfl, rfl, hk, h1, ⟨j0, hj0, rfl⟩, hm⟩
  simp only [Int.toNat_natCast]
  refine ⟨fun hlt => ⟨by omega, Cnt.next (by omega) (by omega) ⟨by omega, ?_, fun j hj => ?_⟩⟩, fun hge => ?_⟩
  · by_cases q : gi x k < gi x j0
    · exact ⟨k, by omega, by unfold mnF; rw [if_pos q]⟩
    · exact ⟨j0, by omega, by unfold mnF; rw [if_neg q]⟩
  · rw [mnF_eq]
    by_cases e : j = k
    · subst e; omega
    · have := hm j (by omega); omega
  · have : k = x.length := by omega
    subst this
    exact h _ ⟨j0, hj0, rfl⟩ hm
theorem yim {n : Nat} {a b : List Int} {F : Int → Int → (Int → Prop) → Prop} {f : Int → Int → Int} {R : List Int → Prop} (hn : n ≤ 12) (ha : a.length = n) (hb : b.length = n)
    (hF : ∀ v, v < n → ∀ R' : Int → Prop, R' (f (gi a v) (gi b v)) → F (gi a v) (gi b v) R') (h : R (tab (fun i => f (gi a i) (gi b i)) n)) : yhE a b F R := by
  unfold yhE
  refine ⟨by omega, fun m v out => Cnt n (fun k => out = upto (fun i => f (gi a i) (gi b i)) k n) m v, ?_, ?_⟩
  · rw [ha]; exact Cnt.start (upto_zero _ _).symm
  rintro m _ out ⟨k3, rfl, rfl, hk3, rfl⟩
  simp only [Int.toNat_natCast, List.length_replicate, ha]
  refine ⟨fun hlt => ?_, fun hge => ?_⟩
  · exact ⟨by omega, by omega, hF k3 (by omega) _ ⟨by rw [ycw]; omega, Cnt.next (by omega) (by omega) (upto_set (fun i => f (gi a i) (gi b i)) (by omega))⟩⟩
  · have e : k3 = n := by omega
    subst e
    rw [upto_all]; exact h
theorem yiE {n : Nat} {s : List Int} {R : List Int → Prop} (hn : 1 ≤ n ∧ n ≤ 12) (hs : s.length = n) (hb : ∀ j, j < n → -2000000000 ≤ gi s j ∧ gi s j ≤ 2000000000) (h : ∀ w, w < n → (∀ k, k < n → gi s w ≤ gi s k) → R (tab (fun i => gi s i - gi s w) n)) : yhN s R := by
  unfold yhN
  refine ⟨fun q => by omega, fun _ => p_slices_Min_S (by omega) (by omega) fun m ⟨w, hw, hm⟩ hall => ?_⟩
  subst hm
  have hw2 := hb w (by omega)
  exact yim (f := fun x _ => x - gi s w) hn.2 hs hs (fun v hv R' hR' => ⟨i64 (by have := hb v hv; omega), hR'⟩) (h w (by omega) fun k hk => hall k (by omega))
theorem yiF {n : Nat} {es : List E3} {l : List (List Int)} {R : Int → Prop} (hl : es.length ≤ 1000) (hll : l.length ≤ 1000) (hg : yat n es = 0) (hc : yde n es = true) (hd : ∀ k, k < l.length → yaJ (gx l k) n = 0) (h : R 0) : yhO (n : Int) es l R := by
  unfold yhO
  refine ⟨by omega, fun _ => ⟨fun _ => ?_, fun q => absurd (decide_eq_true ⟨hg, hc⟩) q⟩, fun q => absurd hg q⟩
  refine ⟨Cnt l.length (fun _ => True), Cnt.start trivial, ?_⟩
  rintro m _ ⟨k, rfl, rfl, hk, -⟩
  simp only [Int.toNat_natCast]
  exact ⟨fun hlt => ⟨by omega, yhs ⟨fun _ => Cnt.next (by omega) (by omega) trivial, fun q => absurd (hd k (by omega)) q⟩⟩, fun _ => h⟩
theorem script_small {n : Nat} {es : List E3} {a b : List Int} {u : Nat → Int} (hE : EOk n es) (hn : n ≤ 12) {w : Nat} (hw : w < n) (hC : Conn n es w) (ha : ∀ v, v < n → -200 ≤ gi a v ∧ gi a v ≤ 200) (hb : ∀ v, v < n → -200 ≤ gi b v ∧ gi b v ≤ 200)
    (hl : ∀ v, v < n → gi b v = gi a v - Lp n es u v) (hmin : ∀ v, v < n → u w ≤ u v) : ∀ v, v < n → 0 ≤ u v - u w ∧ u v - u w ≤ 57600 := by
  intro v hv
  have h0 := hmin v hv
  have h1 := climb hE hC hw (f := u) (G := 4800) (by omega) (fun S hS => ?_) v hv
  · have h2 := low_le (f := u) hv
    have h3 : low n u (u v) * 4800 ≤ 12 * 4800 := Int.mul_le_mul_of_nonneg_right (by omega) (by omega)
    omega
  · have h4 : sm n (fun v => if S v = true then Lp n es u v else 0) ≤ sm n (fun _ => 400) := yer fun x hx => by
      show (if S x = true then Lp n es u x else 0) ≤ 400
      have h5 := hl x hx
      have h6 := ha x hx
      have h7 := hb x hx
      split <;> omega
    rw [yeY] at h4
    omega
theorem sum_dg : ∀ (d : List Int), d.sum = dg d := by
  have key : ∀ (l : List Int) (n : Nat), n ≤ l.length → sm n (gi l) = (l.take n).sum := fun l n => by
    induction n with
    | zero => intro _; simp [sm]
    | succ n ih =>
      intro h
      rw [sm, ih (by omega), List.take_add_one, List.sum_append, yaY (by omega : n < l.length), List.getElem?_eq_getElem (by omega : n < l.length)]
      simp
  intro d
  unfold dg
  rw [key d d.length (Nat.le_refl _), List.take_length]
theorem dg_entry {d : List Int} (h : ∀ a ∈ d, 0 ≤ a) {j : Nat} (hj : j < d.length) : 0 ≤ gi d j ∧ gi d j ≤ d.sum := by
  have h1 : ∀ i, i < d.length → 0 ≤ gi d i := fun i hi => h _ (gi_mem hi)
  refine ⟨h1 j hj, ?_⟩
  rw [sum_dg]
  exact ygQ h1 j hj
theorem ygf (n k : Nat) : (ydb (n + 1) k).length ≤ (k + 1) ^ n := by
  induction n generalizing k with
  | zero => simp [ydb]
  | succ n ih =>
    show ((List.range (k + 1)).flatMap fun i => (ydb (n + 1) (k - i)).map ((i : Int) :: ·)).length ≤ _
    rw [List.length_flatMap]
    have h : ∀ (L : List Nat), (∀ i ∈ L, i ≤ k) → (L.map fun i => ((ydb (n + 1) (k - i)).map ((i : Int) :: ·)).length).sum ≤ L.length * (k + 1) ^ n := fun L => by
      induction L with
      | nil => simp
      | cons a L ihL =>
        intro hL
        have h1 := ihL fun i hi => hL i (by simp [hi])
        have h2 := ih (k - a)
        have h3 : (k - a + 1) ^ n ≤ (k + 1) ^ n := Nat.pow_le_pow_left (by omega) n
        simp only [List.map_cons, List.sum_cons, List.length_cons, List.length_map] at h1 ⊢
        rw [Nat.add_mul, Nat.one_mul]
        omega
    have := h (List.range (k + 1)) fun i hi => by rw [List.mem_range] at hi; omega
    rw [List.length_range] at this
    rwa [Nat.pow_succ, Nat.mul_comm]
end Go.Proofs.YtncilechkclmbaaGreat

/- Ranks of divisors, plainly: what takes any effective divisor of a degree away. No program in sight. -/
namespace Go.Proofs.YtncilechkclmbaaGreat
open Go Go.Proofs.Tryz
set_option linter.unusedVariables false
set_option linter.unusedSectionVars false
set_option linter.unusedSimpArgs false
theorem dg_n {d : List Int} {n : Nat} (h : d.length = n) : dg d = sm n (gi d) := by unfold dg; rw [h]
theorem yjZ {n : Nat} {es : List E3} {a b : List Int} (h : ∀ v, v < n → gi a v ≤ gi b v) (ha : Win n es a) : Win n es b := by
  obtain ⟨s, hs⟩ := ha
  exact ⟨s, fun v hv => by have := hs v hv; have := h v hv; omega⟩
def sb (n : Nat) (d e : List Int) : List Int := tab (fun i => gi d i - gi e i) n
theorem yjA {n : Nat} {d e : List Int} {v : Nat} (hv : v < n) : gi (sb n d e) v = gi d v - gi e v := yf5 _ hv
structure Eff (n : Nat) (e : List Int) (r : Int) : Prop where
  len : e.length = n
  pos : ∀ v, v < n → 0 ≤ gi e v
  deg : dg e = r
theorem Eff.nonneg {n : Nat} {e : List Int} {r : Int} (h : Eff n e r) : 0 ≤ r := by
  rw [← h.deg, dg_n h.len]; exact ya6 h.pos
theorem Eff.le {n : Nat} {e : List Int} {r : Int} (h : Eff n e r) {v : Nat} (hv : v < n) : gi e v ≤ r := by
  rw [← h.deg, dg_n h.len]; exact ygQ h.pos v hv
theorem Eff.add {n : Nat} {e : List Int} {r : Int} (h : Eff n e r) {v : Nat} (hv : v < n) {k : Int} (hk : 0 ≤ gi e v + k) : Eff n (ycD e v k) (r + k) :=
  ⟨by rw [ybP, h.len], fun i hi => by
    rw [yct (by rw [h.len]; exact hv)]
    have := h.pos i hi
    split <;> omega, by rw [dg_addAt (by rw [h.len]; exact hv), h.deg]⟩
theorem yka {n v : Nat} (hv : v < n) : gi (List.replicate n 0) v = 0 := by rw [yaY (by simpa using hv)]; simp
def AL (n : Nat) (es : List E3) (d : List Int) (r : Int) : Prop := ∀ e, Eff n e r → Win n es (sb n d e)
structure RkOk (n : Nat) (es : List E3) (d : List Int) (k : Int) : Prop where
  lo : -1 ≤ k
  al : AL n es d k
  no : ¬ AL n es d (k + 1)
section
variable {n : Nat} {es : List E3} {d : List Int}
theorem al_down (hn : 1 ≤ n) {r : Int} (h : AL n es d (r + 1)) : AL n es d r := fun e he => by
  have h1 := h _ (he.add (v := 0) (k := 1) (by omega) (by have := he.pos 0 (by omega); omega))
  refine yjZ (fun v hv => ?_) h1
  rw [yjA hv, yjA hv, yct (by rw [he.len]; omega)]
  split
  · rename_i e; subst e; omega
  · omega
theorem al_le (hn : 1 ≤ n) : ∀ (k : Nat) {r : Int}, AL n es d (r + k) → AL n es d r
  | 0, r, h => by simpa using h
  | k + 1, r, h => al_le hn k (al_down hn (by rw [Int.add_assoc]; exact_mod_cast h))
theorem yj4 (hn : 1 ≤ n) {r r' : Int} (h : r ≤ r') (ha : AL n es d r') : AL n es d r := by
  refine al_le hn (r' - r).toNat ?_
  rwa [show r + ((r' - r).toNat : Int) = r' from by omega]
theorem RkOk.eq (hn : 1 ≤ n) {k k' : Int} (h : RkOk n es d k) (h' : RkOk n es d k') : k = k' := by
  rcases Int.lt_trichotomy k k' with q | q | q
  · exact absurd (yj4 hn (by omega) h'.al) h.no
  · exact q
  · exact absurd (yj4 hn (by omega) h.al) h'.no
end
end Go.Proofs.YtncilechkclmbaaGreat

/- Complete linear systems, plainly: what single steps lead to, and lists in lexicographic order. No program in sight. -/
namespace Go.Proofs.YtncilechkclmbaaGreat
open Go Go.Proofs.Tryz
set_option linter.unusedVariables false
set_option linter.unusedSectionVars false
set_option linter.unusedSimpArgs false
def firM (n : Nat) (es : List E3) (d : List Int) (m : Nat) : List Int := tab (fun v => gi d v - Lp n es (fun u => if m.testBit u = true then 1 else 0) v) n
theorem ya7 (n : Nat) (es : List E3) (d : List Int) (m : Nat) : (firM n es d m).length = n := ydW _ n
theorem yfY {n : Nat} {es : List E3} {d : List Int} {m v : Nat} (hv : v < n) : gi (firM n es d m) v = gi d v - Lp n es (fun u => if m.testBit u = true then 1 else 0) v := yf5 _ hv
structure Pos (n : Nat) (d : List Int) : Prop where
  len : d.length = n
  pos : ∀ v, v < n → 0 ≤ gi d v
theorem ygM {a b : List Int} {n : Nat} (ha : a.length = n) (hb : b.length = n) (h : ∀ v, v < n → gi a v = gi b v) : a = b := by
  rw [eq_tab ha _ h, ← eq_tab hb _ fun i _ => rfl]
theorem fire_top {n : Nat} {es : List E3} (hE : EOk n es) {D : List Int} {s : Nat → Int} {M : Int} (hp : ∀ v, v < n → 0 ≤ gi D v) (hp' : ∀ v, v < n → 0 ≤ gi D v - Lp n es s v) (hM : ∀ v, v < n → s v ≤ M) {v : Nat} (hv : v < n) :
    0 ≤ gi D v - Lp n es (fun u => if s u = M then 1 else 0) v := by
  by_cases h : s v = M
  · have h1 : Lp n es (fun u => if s u = M then 1 else 0) v ≤ Lp n es s v := by
      refine yer fun u hu => ?_
      have h2 := ybq hE v u
      refine Int.mul_le_mul_of_nonneg_left ?_ h2
      have h3 := hM u hu
      show (if s v = M then (1 : Int) else 0) - (if s u = M then 1 else 0) ≤ s v - s u
      rw [if_pos h]
      split <;> omega
    have := hp' v hv
    omega
  · have h1 : Lp n es (fun u => if s u = M then 1 else 0) v ≤ 0 := by
      have : Lp n es (fun u => if s u = M then 1 else 0) v ≤ sm n (fun _ => 0) := by
        refine yer fun u hu => ?_
        have h2 := ybq hE v u
        show W es v u * ((if s v = M then (1 : Int) else 0) - (if s u = M then 1 else 0)) ≤ 0
        rw [if_neg h]
        have h3 : (0 : Int) - (if s u = M then 1 else 0) ≤ 0 := by split <;> omega
        have h4 := Int.mul_le_mul_of_nonneg_left h3 h2
        rwa [Int.mul_zero] at h4
      rwa [ycf] at this
    have := hp v hv
    omega
theorem reach {n : Nat} {es : List E3} (hE : EOk n es) {P : List Int → Prop} (hP : ∀ x m, P x → Pos n x → 1 ≤ m → m < 2 ^ n - 1 → Pos n (firM n es x m) → P (firM n es x m)) : ∀ (k : Nat) {x y : List Int} {s : Nat → Int} {M : Int}, P x → Pos n x → Pos n y →
    (∀ v, v < n → gi y v = gi x v - Lp n es s v) → (∀ v, v < n → M - k ≤ s v ∧ s v ≤ M) → P y := by
  have triv : ∀ {x y : List Int} {s : Nat → Int} {M : Int}, P x → Pos n x → Pos n y → (∀ v, v < n → gi y v = gi x v - Lp n es s v) → (∀ v, v < n → s v = M) → P y := by
    intro x y s M h1 h2 h3 h4 h5
    have : y = x := ygM h3.len h2.len fun v hv => by
      rw [h4 v hv, yd5 (b := fun _ => M) (fun i hi => h5 i hi) hv, yeW]; omega
    rw [this]; exact h1
  intro k
  induction k with
  | zero =>
    intro x y s M h1 h2 h3 h4 h5
    exact triv (M := M) h1 h2 h3 h4 fun v hv => by have := h5 v hv; omega
  | succ k ih =>
    intro x y s M h1 h2 h3 h4 h5
    by_cases hA : ∃ v, v < n ∧ s v = M
    · by_cases hB : ∃ v, v < n ∧ s v ≠ M
      · obtain ⟨a, ha, hsa⟩ := hA
        obtain ⟨b, hb, hsb⟩ := hB
        have hbit : ∀ v, v < n → (yes (fun u => decide (s u = M)) n).testBit v = decide (s v = M) := fun v hv => by rw [yfy]; simp [hv]
        have hm1 : 1 ≤ yes (fun u => decide (s u = M)) n := by
          rcases Nat.eq_zero_or_pos (yes (fun u => decide (s u = M)) n) with q | q
          · have := hbit a ha
            rw [q, Nat.zero_testBit] at this
            simp [hsa] at this
          · exact q
        have hm2 : yes (fun u => decide (s u = M)) n < 2 ^ n - 1 := by
          have h := mask_lt (fun u => decide (s u = M)) n
          rcases Nat.lt_or_ge (yes (fun u => decide (s u = M)) n) (2 ^ n - 1) with q | q
          · exact q
          · have e : yes (fun u => decide (s u = M)) n = 2 ^ n - 1 := by omega
            have := hbit b hb
            rw [e, Nat.testBit_two_pow_sub_one] at this
            simp [hb, hsb] at this
        have hLp : ∀ v, v < n → Lp n es (fun u => if (yes (fun u => decide (s u = M)) n).testBit u = true then 1 else 0) v = Lp n es (fun u => if s u = M then 1 else 0) v := fun v hv => yd5 (fun i hi => by rw [hbit i hi]; simp) hv
        have hx1 : Pos n (firM n es x (yes (fun u => decide (s u = M)) n)) := ⟨ya7 _ _ _ _, fun v hv => by
          rw [yfY hv, hLp v hv]
          exact fire_top hE h2.pos (fun v hv => by rw [← h4 v hv]; exact h3.pos v hv) (fun v hv => (h5 v hv).2) hv⟩
        refine ih (s := fun u => s u + (-1) * (if s u = M then 1 else 0)) (M := M - 1) (hP x _ h1 h2 hm1 hm2 hx1) hx1 h3 (fun v hv => ?_) fun v hv => ?_
        · rw [yfY hv, hLp v hv, yfM s (fun u => (-1) * (if s u = M then 1 else 0)), ygS (-1) (fun u => if s u = M then 1 else 0), h4 v hv]; omega
        · have := h5 v hv
          show M - 1 - (k : Int) ≤ s v + (-1) * (if s v = M then 1 else 0) ∧ s v + (-1) * (if s v = M then 1 else 0) ≤ M - 1
          by_cases hq : s v = M
          · rw [if_pos hq]; omega
          · rw [if_neg hq]; omega
      · exact triv h1 h2 h3 h4 fun v hv => by
          rcases Classical.em (s v = M) with q | q
          · exact q
          · exact absurd ⟨v, hv, q⟩ hB
    · exact ih (M := M - 1) h1 h2 h3 h4 fun v hv => by
        have := h5 v hv
        have : s v ≠ M := fun q => hA ⟨v, hv, q⟩
        omega
def Eqv (n : Nat) (es : List E3) (x y : List Int) : Prop := ∃ s : Nat → Int, ∀ v, v < n → gi y v = gi x v - Lp n es s v
theorem Eqv.refl (n : Nat) (es : List E3) (x : List Int) : Eqv n es x x := ⟨fun _ => 0, fun v hv => by rw [yeW]; omega⟩
theorem Eqv.symm {n : Nat} {es : List E3} {x y : List Int} (h : Eqv n es x y) : Eqv n es y x := by
  obtain ⟨s, hs⟩ := h
  exact ⟨fun i => (-1) * s i, fun v hv => by rw [ygS, hs v hv]; omega⟩
theorem Eqv.trans {n : Nat} {es : List E3} {x y z : List Int} (h : Eqv n es x y) (k : Eqv n es y z) : Eqv n es x z := by
  obtain ⟨s, hs⟩ := h
  obtain ⟨t, ht⟩ := k
  exact ⟨fun i => s i + t i, fun v hv => by rw [yfM, ht v hv, hs v hv]; omega⟩
theorem Eqv.firM (n : Nat) (es : List E3) (x : List Int) (m : Nat) : Eqv n es x (firM n es x m) := ⟨_, fun v hv => yfY hv⟩
theorem Eqv.dg {n : Nat} {es : List E3} {x y : List Int} (hx : x.length = n) (hy : y.length = n) (h : Eqv n es x y) : dg y = dg x := by
  obtain ⟨s, hs⟩ := h
  rw [dg_n hx, dg_n hy, yau hs, yjJ, yj6]; omega
theorem reach_all {n : Nat} {es : List E3} (hE : EOk n es) {P : List Int → Prop} (hP : ∀ x m, P x → Pos n x → 1 ≤ m → m < 2 ^ n - 1 → Pos n (firM n es x m) → P (firM n es x m)) {x y : List Int} (h1 : P x) (h2 : Pos n x) (h3 : Pos n y) (h : Eqv n es x y) : P y := by
  obtain ⟨s, hs⟩ := h
  have bd : ∀ k : Nat, ∃ B : Nat, ∀ v, v < k → -(B : Int) ≤ s v ∧ s v ≤ B := by
    intro k
    induction k with
    | zero => exact ⟨0, fun v hv => by omega⟩
    | succ k ih =>
      obtain ⟨B, hB⟩ := ih
      refine ⟨B + (s k).natAbs, fun v hv => ?_⟩
      by_cases e : v = k
      · subst e; omega
      · have := hB v (by omega); omega
  obtain ⟨B, hB⟩ := bd n
  exact reach hE hP (2 * B) (M := B) h1 h2 h3 hs fun v hv => by have := hB v hv; omega
def lexC : List Int → List Int → Int
  | [], [] => 0
  | [], _ :: _ => -1
  | _ :: _, [] => 1
  | a :: s, b :: t => if a < b then -1 else if b < a then 1 else lexC s t
theorem yd0 : ∀ a, lexC a a = 0
  | [] => rfl
  | a :: s => by rw [lexC, if_neg (by omega), if_neg (by omega)]; exact yd0 s
theorem yeV : ∀ a b, lexC b a = -lexC a b
  | [], [] => rfl
  | [], _ :: _ => rfl
  | _ :: _, [] => rfl
  | a :: s, b :: t => by
    unfold lexC
    by_cases h1 : a < b
    · rw [if_pos h1, if_neg (show ¬ b < a by omega), if_pos h1]; rfl
    · by_cases h2 : b < a
      · rw [if_neg h1, if_pos h2, if_pos h2, if_neg h1]
      · rw [if_neg h1, if_neg h2, if_neg h2, if_neg h1]; exact yeV s t
theorem lexC_eq : ∀ a b, lexC a b = 0 → a = b
  | [], [], _ => rfl
  | [], _ :: _, h => by cases h
  | _ :: _, [], h => by cases h
  | a :: s, b :: t, h => by
    unfold lexC at h
    by_cases h1 : a < b
    · rw [if_pos h1] at h; cases h
    · by_cases h2 : b < a
      · rw [if_neg h1, if_pos h2] at h; cases h
      · rw [if_neg h1, if_neg h2] at h
        rw [lexC_eq s t h, show a = b by omega]
theorem yfO : ∀ a b c, lexC a b < 0 → lexC b c < 0 → lexC a c < 0
  | [], [], _, h, _ => by simp [lexC] at h
  | _ :: _, [], _, h, _ => by simp [lexC] at h
  | [], _ :: _, [], _, h => by simp [lexC] at h
  | [], _ :: _, _ :: _, _, _ => by simp [lexC]
  | _ :: _, _ :: _, [], _, h => by simp [lexC] at h
  | a :: s, b :: t, c :: u, h, k => by
    unfold lexC at h k ⊢
    by_cases h1 : a < b
    · by_cases h2 : b < c
      · rw [if_pos (by omega)]; omega
      · rw [if_neg h2] at k
        by_cases h3 : c < b
        · rw [if_pos h3] at k; omega
        · rw [if_pos (by omega)]; omega
    · rw [if_neg h1] at h
      by_cases h2 : b < a
      · rw [if_pos h2] at h; omega
      · rw [if_neg h2] at h
        by_cases h3 : b < c
        · rw [if_pos (by omega)]; omega
        · rw [if_neg h3] at k
          by_cases h4 : c < b
          · rw [if_pos h4] at k; omega
          · rw [if_neg h4] at k
            rw [if_neg (by omega), if_neg (by omega)]
            exact yfO s t u h k
theorem lexC_le_trans {a b c : List Int} (h : lexC a b ≤ 0) (k : lexC b c ≤ 0) : lexC a c ≤ 0 := by
  rcases Int.lt_or_eq_of_le h with h | h
  · rcases Int.lt_or_eq_of_le k with k | k
    · exact Int.le_of_lt (yfO _ _ _ h k)
    · rw [← lexC_eq _ _ k]; omega
  · rw [lexC_eq _ _ h]; exact k
def Asc (l : List (List Int)) : Prop := l.Pairwise fun a b => lexC a b < 0
theorem Asc.filter {l : List (List Int)} (h : Asc l) (p : List Int → Bool) : Asc (l.filter p) := List.Pairwise.filter p h
theorem Asc.eq : ∀ {a b : List (List Int)}, Asc a → Asc b → (∀ x, x ∈ a ↔ x ∈ b) → a = b
  | [], [], _, _, _ => rfl
  | [], y :: b, _, _, h => by have := (h y).2 (by simp); simp at this
  | x :: a, [], _, _, h => by have := (h x).1 (by simp); simp at this
  | x :: a, y :: b, h1, h2, h => by
    have k1 := List.pairwise_cons.1 h1
    have k2 := List.pairwise_cons.1 h2
    have e : x = y := by
      rcases List.mem_cons.1 ((h x).1 (by simp)) with q | q
      · exact q
      · rcases List.mem_cons.1 ((h y).2 (by simp)) with r | r
        · exact r.symm
        · have q1 := k2.1 x q
          have q2 := k1.1 y r
          rw [yeV] at q1
          omega
    subst e
    rw [Asc.eq k1.2 k2.2 fun z => ?_]
    constructor
    · intro hz
      rcases List.mem_cons.1 ((h z).1 (by simp [hz])) with q | q
      · have := k1.1 z hz; rw [q, yd0] at this; omega
      · exact q
    · intro hz
      rcases List.mem_cons.1 ((h z).2 (by simp [hz])) with q | q
      · have := k2.1 z hz; rw [q, yd0] at this; omega
      · exact q
theorem listF_asc : ∀ (n k : Nat), Asc (ydb n k)
  | 0, k => List.Pairwise.nil
  | 1, k => List.pairwise_singleton _ _
  | n + 2, k => by
    show Asc ((List.range (k + 1)).flatMap fun i => (ydb (n + 1) (k - i)).map ((i : Int) :: ·))
    unfold Asc
    rw [List.pairwise_flatMap]
    refine ⟨fun i hi => ?_, ?_⟩
    · rw [List.pairwise_map]
      refine (listF_asc (n + 1) (k - i)).imp fun {a b} h => ?_
      show lexC ((i : Int) :: a) ((i : Int) :: b) < 0
      rw [lexC, if_neg (by omega), if_neg (by omega)]; exact h
    · refine List.pairwise_lt_range.imp fun {i j} hij x hx y hy => ?_
      obtain ⟨a, _, rfl⟩ := List.mem_map.1 hx
      obtain ⟨b, _, rfl⟩ := List.mem_map.1 hy
      show lexC ((i : Int) :: a) ((j : Int) :: b) < 0
      rw [lexC, if_pos (by omega)]; decide
open Classical in
noncomputable def sysF (n : Nat) (es : List E3) (d : List Int) : List (List Int) := if dg d < 0 then [] else (ydb n (dg d).toNat).filter fun x => decide (Eqv n es d x)
theorem ygq (n : Nat) (es : List E3) (d : List Int) : Asc (sysF n es d) := by
  unfold sysF
  split
  · exact List.Pairwise.nil
  · exact (listF_asc _ _).filter _
theorem pos_iff {n : Nat} {x : List Int} (h : x.length = n) : (∀ a ∈ x, 0 ≤ a) ↔ ∀ v, v < n → 0 ≤ gi x v := by
  constructor
  · intro q v hv
    rw [yaY (by omega)]
    exact q _ (List.getElem_mem _)
  · intro q a ha
    obtain ⟨i, hi, rfl⟩ := List.getElem_of_mem ha
    have := q i (by omega)
    rwa [yaY hi] at this
open Classical in
theorem yc0 {n : Nat} {es : List E3} {d x : List Int} (hn : 1 ≤ n) (hd : d.length = n) : x ∈ sysF n es d ↔ Pos n x ∧ Eqv n es d x := by
  obtain ⟨N, rfl⟩ : ∃ N, n = N + 1 := ⟨n - 1, by omega⟩
  have key : Pos (N + 1) x → Eqv (N + 1) es d x → 0 ≤ dg d := fun h1 h2 => by
    rw [← h2.dg hd h1.len, dg_n h1.len]; exact ya6 h1.pos
  unfold sysF
  split
  · rename_i h
    constructor
    · intro q; simp at q
    · rintro ⟨h1, h2⟩; have := key h1 h2; omega
  · rename_i h
    rw [List.mem_filter, ydq, decide_eq_true_iff]
    constructor
    · rintro ⟨⟨h1, h2, h3⟩, h4⟩
      exact ⟨⟨h1, (pos_iff h1).1 h2⟩, h4⟩
    · rintro ⟨h1, h2⟩
      refine ⟨⟨h1.len, (pos_iff h1.len).2 h1.pos, ?_⟩, h2⟩
      rw [sum_dg, h2.dg hd h1.len]; omega
theorem sysF_eq {n : Nat} {es : List E3} {d x : List Int} {l : List (List Int)} (hE : EOk n es) (hn : 1 ≤ n) (hd : d.length = n) (hx : x ∈ l) (hp : Pos n x) (he : Eqv n es d x) (hall : ∀ y ∈ l, Pos n y ∧ Eqv n es d y)
    (hcl : ∀ y m, y ∈ l → 1 ≤ m → m < 2 ^ n - 1 → Pos n (firM n es y m) → firM n es y m ∈ l) {l' : List (List Int)} (ha : Asc l') (hm : ∀ y, y ∈ l' ↔ y ∈ l) : l' = sysF n es d := by
  refine Asc.eq ha (ygq _ _ _) fun y => ?_
  rw [hm, yc0 hn hd]
  refine ⟨hall y, fun ⟨h1, h2⟩ => ?_⟩
  exact reach_all hE (P := fun z => z ∈ l) (fun z m hz _ h1 h2 h3 => hcl z m hz h1 h2 h3) hx hp h1 (he.symm.trans h2)
end Go.Proofs.YtncilechkclmbaaGreat

/- The walk of slices.Compare at slices of ints and of the closure that sorts by it: the world is only drawn from. -/
namespace Go.Proofs.YtncilechkclmbaaGreat
open Go Go.RowKit Go.Shelf Go.Proofs.Tryz
set_option maxRecDepth 100000
set_option maxHeartbeats 400000
set_option linter.unusedVariables false
theorem lexC_at {a b : List Int} : ∀ {k : Nat}, k ≤ b.length → (∀ j, j < k → gi a j = gi b j) → k ≤ a.length → lexC a b = lexC (a.drop k) (b.drop k) := by
  intro k
  induction k generalizing a b with
  | zero => intro _ _ _; rfl
  | succ k ih =>
    intro h1 h2 h3
    cases a with
    | nil => simp at h3
    | cons x a =>
      cases b with
      | nil => simp at h1
      | cons y b =>
        have h0 : x = y := by simpa [gi] using h2 0 (by omega)
        subst h0
        rw [List.drop_succ_cons, List.drop_succ_cons, lexC, if_neg (by omega), if_neg (by omega)]
        exact ih (by simpa using h1) (fun j hj => by simpa [gi] using h2 (j + 1) (by omega)) (by simpa using h3)
theorem drop_gi {a : List Int} {k : Nat} (h : k < a.length) : a.drop k = gi a k :: a.drop (k + 1) := by
  rw [List.drop_eq_getElem_cons h]
  congr 1
  simp [gi, List.getElem?_eq_getElem h]
theorem lexC_end {a b : List Int} (h1 : b.length ≤ a.length) (h2 : ∀ j, j < b.length → gi a j = gi b j) (h3 : b.length < a.length) : lexC a b = 1 := by
  rw [lexC_at (k := b.length) (Nat.le_refl _) h2 h1, List.drop_length, drop_gi h3]; rfl
theorem lexC_out {a b : List Int} (h1 : a.length ≤ b.length) (h2 : ∀ j, j < a.length → gi a j = gi b j) : lexC a b = if a.length < b.length then -1 else 0 := by
  rw [lexC_at (k := a.length) h1 h2 (Nat.le_refl _), List.drop_length]
  by_cases h : a.length < b.length
  · rw [if_pos h, drop_gi h]; rfl
  · rw [if_neg h, List.drop_eq_nil_of_le (by omega)]; rfl
theorem lexC_ne {a b : List Int} {k : Nat} (h1 : k < a.length) (h2 : k < b.length) (h3 : ∀ j, j < k → gi a j = gi b j) (h4 : gi a k ≠ gi b k) : lexC a b = cmpF (gi a k) (gi b k) := by
  rw [lexC_at (k := k) (by omega) h3 (by omega), drop_gi h1, drop_gi h2, lexC]
  unfold cmpF
  by_cases q : gi a k < gi b k
  · rw [if_pos q, if_pos q]
  · rw [if_neg q, if_neg q, if_pos (by omega), if_pos (by omega)]
theorem cmpF_ne {x y : Int} (h : x ≠ y) : cmpF x y ≠ 0 := by
  unfold cmpF
  by_cases q : x < y
  · rw [if_pos q]; omega
  · rw [if_neg q, if_pos (by omega)]; omega
theorem cmpF_same (x : Int) : cmpF x x = 0 := by unfold cmpF; rw [if_neg (by omega), if_neg (by omega)]
theorem compD_any (A B : Option Addr) (a b : List Int) (ca cb : Nat) (w : World) (ha : Ints w A a) (hb : Ints w B b) (la : a.length ≤ 1000000000) (lb : b.length ≤ 1000000000) :
    Calls Tryz.prog 35 #[.slice A a.length ca, .slice B b.length cb] w fun e w' => e = .returned (.int .i64 (lexC a b)) ∧ w = w' := by
  have HA := Lib.hid ha
  have HB := Lib.hid hb
  clear ha hb
  go_enter func35, ntmps35
  go_wp2
  go_loopw [11] (fun i wr => ∃ k : Nat, k ≤ a.length ∧ k ≤ b.length ∧ i = .int .i64 k ∧ Hid (∀ j, j < k → gi a j = gi b j) ∧ w = wr) (fun i _ => a.length - (intOf i).toNat)
  case atStart => exact ⟨0, Nat.zero_le _, Nat.zero_le _, rfl, fun j hj => absurd hj (by omega), rfl⟩
  case round =>
    obtain ⟨k, hk, hkb, rfl, hall, rfl⟩ := hrel
    by_cases hlt : k < a.length
    · have i1 : (0 : Int) ≤ (k : Int) := by omega
      have i2 : (k : Int) < (a.length : Int) := by omega
      obtain ⟨b1, o1, rfl, hb1, hc1⟩ := HA.out (by omega)
      have c1 := hc1 k hlt
      clear hc1
      by_cases hlb : k < b.length
      · obtain ⟨b2, o2, rfl, hb2, hc2⟩ := HB.out (by omega)
        have c2 := hc2 k hlb
        clear hc2
        have i3 : (k : Int) < (b.length : Int) := by omega
        by_cases he : gi a k = gi b k
        · have h0 : cmpF (gi a k) (gi b k) = 0 := by rw [he]; exact cmpF_same _
          have HE := Lib.hid he
          clear he
          go_wp2_with (first | (go_at_call 94; refine (yff _ _ _).mono ?_; rintro e w' ⟨rfl, rfl⟩; rw [h0]))
          go_roundw
          case rel =>
            refine ⟨k + 1, by omega, by omega, by go_num, ?_, trivial⟩
            intro j hj
            by_cases e : j = k
            · subst e; exact HE.out
            · exact hall.out j (by omega)
          case measure => simp [intOf]; omega
        · have h0 := lexC_ne hlt hlb hall.out he
          have hne := cmpF_ne he
          clear he
          have hb' := neT hne
          go_wp2_with (first | (go_at_call 94; refine (yff _ _ _).mono ?_; rintro e w' ⟨rfl, rfl⟩))
          go_ret
          exact ⟨ycl (by rw [h0]; rfl), rfl⟩
      · have i3 : (b.length : Int) ≤ (k : Int) := by omega
        have h0 := lexC_end (a := a) (b := b) (by omega) (fun j hj => hall.out j (by omega)) (by omega)
        go_wp2
        go_ret
        exact ⟨ycl (by rw [h0]; rfl), rfl⟩
    · have h0 := lexC_out (a := a) (b := b) (by omega) (fun j hj => hall.out j (by omega))
      by_cases hab : a.length < b.length
      · rw [if_pos hab] at h0
        go_wp2
        go_ret
        exact ⟨ycl (by rw [h0]; rfl), rfl⟩
      · rw [if_neg hab] at h0
        go_wp2
        go_ret
        exact ⟨ycl (by rw [h0]; rfl), rfl⟩
end Go.Proofs.YtncilechkclmbaaGreat

/- Pure forms of functions, made by program (pf.py), each with the proof that the code does so. -/
namespace Go.Proofs.YtncilechkclmbaaGreat
open Go Go.RowKit Go.Shelf Go.Proofs.Tryz
set_option linter.unusedVariables false
set_option maxRecDepth 100000
set_option maxHeartbeats 1000000
end Go.Proofs.YtncilechkclmbaaGreat

/- Pure forms of functions, made by program (pf.py), each with the proof that the code does so. -/
namespace Go.Proofs.YtncilechkclmbaaGreat
open Go Go.RowKit Go.Shelf Go.Proofs.Tryz
set_option linter.unusedVariables false
set_option maxRecDepth 100000
set_option maxHeartbeats 1000000
def ydo (g : Int) (g2 : List E3) (l : List (List Int)) (R : Int → Prop) : Prop :=
yco g g2 (fun r r2 =>
((r2 = 0 →
((r = true →
(∃ I2 : Nat → Int → Prop, (∃ m0, I2 m0 0) ∧ ∀ m2 v, I2 m2 v → 
((v < ((l.length : Nat) : Int) →
((0 ≤ v ∧ v < ((l.length : Nat) : Int)) ∧
ybZ (gx l v.toNat) g (fun r3 =>
((r3 = 0 →
(In64 (v + 1) ∧
∃ m3, m3 < m2 ∧ I2 m3 (v + 1))) ∧
(¬ (r3 = 0) →
R r3))))) ∧
(¬ (v < ((l.length : Nat) : Int)) →
R 0)))) ∧
(¬ (r = true) →
R 13))) ∧
(¬ (r2 = 0) →
R r2)))
theorem yjT {O : Nat → Prop} {w : World} {g g2 l Ag lg cg Al ll cl} {R : Int → Prop} (h : ydo g g2 l R) (hO : ∀ k, O k → k < w.heap.size) (hA0 : (FP.sl c3 Ag lg cg g2).P O w) (hA1 : (FP.sl (cL cI) Al ll cl l).P O w) :
    Calls Tryz.prog 99 #[(.agg #[(ii g), (.slice Ag lg cg)]), (.slice Al ll cl)] w fun e w' => ∃ r4, e = .returned (ii r4) ∧ Sep w no O w' (rl []) ∧ R r4 := by
  unfold ydo at h; have hS : Sep w no O w (rl [Res.ro (FP.sl c3 Ag lg cg g2), Res.ro (FP.sl (cL cI) Al ll cl l)]) := Sep.startl hO [(FP.sl c3 Ag lg cg g2), (FP.sl (cL cI) Al ll cl l)] ⟨hA0, hA1, trivial⟩; refine yan (l := [(.agg #[(ii g), (.slice Ag lg cg)]), (.slice Al ll cl)]) func99 rfl ntmps99 (Nat.le_of_ble_eq_true rfl) (zs (zn (yb6 (v := (.agg #[(ii g), (.slice Ag lg cg)])) rfl ?_))); intro g3 w2 hN; replace hS : Sep w no O w2 (stl _ 2 (Res.box 24 g3 [(ii g), (.slice Ag lg cg)])) := hS.new 2 rfl hN; clear hN; refine zb (zq (za (ii 0)) (yaa (zs (zq (yav (vs := [(ii g), (.slice Ag lg cg)]) rfl underlying24 rfl yas ⟨Row.cell (hS.bx 2 rfl) (i := 0) rfl, Row.cell (hS.bx 2 rfl) (i := 1) rfl, trivial⟩) (zn (yal rfl (am1 rfl) yiW ((yc5 h (yaN _) (hS.rdr 0 rfl)).mono ?_))))))); rintro _ w3 ⟨r, r2, rfl, hC, h⟩; replace hS := hS.pur hC.pure; clear hC; refine ⟨_, rfl, ?_⟩; refine zb (zq (zm (.tuple #[(.bool (r)), (ii r2)])) (zq (zx (.bool (r))) (zq (zx (ii r2)) (zq (za (.bool (r))) (zq (za (ii r2)) (yaa (yaf (zs (zq (zm (ii r2)) (zq zN (yaa ?_))))))))))); by_cases hp : r2 = 0
  · replace h := h.1 hp; refine ze hp (yag (yaf (zs (zq (zm (.bool (r))) (zq (ydn rfl) (yaa ?_)))))); by_cases hp2 : r = true
    · replace h := h.1 hp2; refine yax (congrArg Value.bool (congrArg Bool.not hp2)) (yag (yaf (zs (zq (zm (.slice Al ll cl)) (zq (ybc (n := l.length) rfl underlying44 (ya2 (hS.rdr 1 rfl))) (zq (zm (ii 0)) (yaa (yak ?_)))))))); obtain ⟨I2, ⟨m0, h0⟩, hr⟩ := h; refine yaO (fun m E ds w' => ∃ v, I2 m v ∧ ds = [] ∧ E 2 = (Value.pointer (some (⟨g3, 0, none⟩ : Addr))) ∧ E 20 = (Value.slice Al ll cl) ∧ E 21 = (ii ((l.length : Nat) : Int)) ∧ E 22 = (ii v) ∧ Sep w no O w' (rl [Res.box 24 g3 [(ii g), (.slice Ag lg cg)], Res.ro (FP.sl c3 Ag lg cg g2), Res.ro (FP.sl (cL cI) Al ll cl l)])) m0 ⟨_, h0, rfl, rfl, rfl, rfl, rfl, (hS.sel [2, 0, 1] (by decide))⟩ ?_; clear h0 hS; rintro m2 E ds w4 ⟨v, h, rfl, hE2, hE20, hE21, hE22, hS⟩ again; replace h := hr m2 v h; clear hr; refine zs (zq (yd4 hE22 hE21) (yaa (yaf ?_))); by_cases hp3 : v < ((l.length : Nat) : Int)
      · replace h := h.1 hp3; refine zc hp3 (yag (yaf (yak (zs ?_)))); obtain ⟨hx, h⟩ := h; refine zq (yeK hE20 hE22 underlying44 ya0 (ybh (hS.rdr 2 rfl) hx)) ?_; obtain ⟨A, l2, c, hc, hq⟩ := hS.el 2 rfl hx 3 4 rfl rfl (by decide); replace hS := hq; clear hq; refine zq (yaA (v := (.slice A l2 c)) rfl underlying26 rfl (hS.clr 4 rfl)) (zq (za (.slice A l2 c)) (yaa (zs (zq (zm (.slice A l2 c)) (zq (yam hE2 underlying24 rfl yaj) (zq (zl underlying3 (Row.cell (hS.bx 0 rfl) (i := 0) rfl)) (zn (yal rfl (am2 rfl rfl) yfB ((yeP h (yaN _) (hS.rdr 3 rfl)).mono ?_))))))))); rintro _ w5 ⟨r3, rfl, hC, h⟩; replace hS := hS.pur hC.pure; clear hC; refine ⟨_, rfl, ?_⟩; refine zb (zq (za (ii r3)) (yaa (zs (zq (zm (ii r3)) (zq zN (yaa ?_)))))); by_cases hp4 : r3 = 0
        · replace h := h.1 hp4; refine ze hp4 (yag (yai (zr ?_))); obtain ⟨hi, h⟩ := h; refine zq (ycv hE22 rfl hi) (zq (zm (ii (v + 1))) (yaa ?_)); obtain ⟨mq, hlt, h⟩ := h; exact again mq _ _ _ ⟨_, h, rfl, hE2, hE20, hE21, rfl, (hS.sel [0, 1, 2] (by decide))⟩ hlt
        · replace h := h.2 hp4; exact zf hp4 (zs (zq (zm (ii r3)) (zq (za (ii r3)) (yaa (yah rfl rfl ⟨_, rfl, (hS.sel [] (by decide)), h⟩)))))
      · replace h := h.2 hp3; exact zd hp3 (yaH rfl (zs (zq (za (ii 0)) (yaa (yah rfl rfl ⟨_, rfl, (hS.sel [] (by decide)), h⟩)))))
    · replace h := h.2 hp2; exact yaq (congrArg Value.bool (congrArg Bool.not (Bool.eq_false_iff.2 hp2))) (zs (zq (za (ii 13)) (yaa (yah rfl rfl ⟨_, rfl, (hS.sel [] (by decide)), h⟩))))
  · replace h := h.2 hp; exact zf hp (zs (zq (zm (ii r2)) (zq (za (ii r2)) (yaa (yah rfl rfl ⟨_, rfl, (hS.sel [] (by decide)), h⟩)))))
def yjx (g : Int) (g2 : List E3) (d : List Int) (most : Int) (R : Bool → Prop) : Prop :=
(∃ J2 : Prop, (J2 → yc6 g g2 d (fun r =>
((r = 0 →
ycP g g2 d (fun r2 =>
((r2 = true →
yc1 d (fun r3 =>
R (decide (r3 ≤ most)))) ∧
(¬ (r2 = true) →
R false)))) ∧
(¬ (r = 0) →
R true)))) ∧
ydr g g2 (fun r4 =>
((r4 = true →
((100 < ((d.length : Nat) : Int) →
R false) ∧
(¬ (100 < ((d.length : Nat) : Int)) →
J2))) ∧
(¬ (r4 = true) →
R false))))
theorem pok_r38_Few {O : Nat → Prop} {w : World} {g g2 d most Ag lg cg Ad ld cd} {R : Bool → Prop} (h : yjx g g2 d most R) (hO : ∀ k, O k → k < w.heap.size) (hA0 : (FP.sl c3 Ag lg cg g2).P O w) (hA1 : (FP.sl cI Ad ld cd d).P O w) :
    Calls Tryz.prog 96 #[(.agg #[(ii g), (.slice Ag lg cg)]), (.slice Ad ld cd), (ii most)] w fun e w' => ∃ r5, e = .returned (.bool (r5)) ∧ Sep w no O w' (rl []) ∧ R r5 := by
  unfold yjx at h; have hS : Sep w no O w (rl [Res.ro (FP.sl c3 Ag lg cg g2), Res.ro (FP.sl cI Ad ld cd d)]) := Sep.startl hO [(FP.sl c3 Ag lg cg g2), (FP.sl cI Ad ld cd d)] ⟨hA0, hA1, trivial⟩; refine yan (l := [(.agg #[(ii g), (.slice Ag lg cg)]), (.slice Ad ld cd), (ii most)]) func96 rfl ntmps96 (Nat.le_of_ble_eq_true rfl) (zs (zn (yb6 (v := (.agg #[(ii g), (.slice Ag lg cg)])) rfl ?_))); intro g3 w2 hN; replace hS : Sep w no O w2 (stl _ 2 (Res.box 24 g3 [(ii g), (.slice Ag lg cg)])) := hS.new 2 rfl hN; clear hN; refine zb (zq (za (.bool (false))) (yaa (yaf (yaf ?_)))); obtain ⟨J2, hJ, h⟩ := h; refine ycZ (fun E ds w' => J2 ∧ ds = [] ∧ E 1 = (Value.slice Ad ld cd) ∧ E 2 = (ii most) ∧ E 3 = (Value.pointer (some (⟨g3, 0, none⟩ : Addr))) ∧ Sep w no O w' (rl [Res.ro (FP.sl cI Ad ld cd d), Res.box 24 g3 [(ii g), (.slice Ag lg cg)], Res.ro (FP.sl c3 Ag lg cg g2)])) ?_ ?_
  · clear h hS; rintro E ds w3 ⟨h, rfl, hE1, hE2, hE3, hS⟩; replace h := hJ h; refine zs (zq (yav (vs := [(ii g), (.slice Ag lg cg)]) hE3 underlying24 rfl yas ⟨Row.cell (hS.bx 1 rfl) (i := 0) rfl, Row.cell (hS.bx 1 rfl) (i := 1) rfl, trivial⟩) (zq (yae hE1) (zn (yal rfl (am2 rfl rfl) enter_142 ((pok_r35_Given h (yaN _) (hS.rdr 2 rfl) (hS.rdr 0 rfl)).mono ?_))))); rintro _ w4 ⟨r, rfl, hC, h⟩; replace hS := hS.pur hC.pure; clear hC; refine ⟨_, rfl, ?_⟩; refine zb (zq zN (zq (zm (.bool (!(decide (r = 0))))) ?_)); by_cases hp : r = 0
    · replace h := h.1 hp; refine rl_q (yad rfl (yac rfl (congrArg Value.bool (congrArg Bool.not (decide_eq_true hp))))) rfl rfl (yav (vs := [(ii g), (.slice Ag lg cg)]) hE3 underlying24 rfl yas ⟨Row.cell (hS.bx 1 rfl) (i := 0) rfl, Row.cell (hS.bx 1 rfl) (i := 1) rfl, trivial⟩) (rl_q (yad rfl (yac rfl (congrArg Value.bool (congrArg Bool.not (decide_eq_true hp))))) rfl rfl (yae hE1) (rl_n (yad rfl (yac rfl (congrArg Value.bool (congrArg Bool.not (decide_eq_true hp))))) rfl rfl rfl (yal rfl (am2 rfl rfl) enter_18 ((ygB h (yaN _) (hS.rdr 2 rfl) (hS.rdr 0 rfl)).mono ?_)))); rintro _ w5 ⟨r2, rfl, hC, h⟩; replace hS := hS.pur hC.pure; clear hC; refine ⟨_, rfl, ?_⟩; refine zb (rl_q (yad rfl (yac rfl (congrArg Value.bool (congrArg Bool.not (decide_eq_true hp))))) rfl rfl (zm (.bool (r2))) ?_); by_cases hp2 : r2 = true
      · replace h := h.1 hp2; refine rl_q (yad rfl (yac rfl (congrArg Value.bool hp2))) rfl rfl (yae hE1) (rl_n (yad rfl (yac rfl (congrArg Value.bool hp2))) rfl rfl rfl (yal rfl (am1 rfl) enter_21 ((yhh h (yaN _) (hS.rdr 0 rfl)).mono ?_))); rintro _ w6 ⟨r3, rfl, hC, h⟩; replace hS := hS.pur hC.pure; clear hC; refine ⟨_, rfl, ?_⟩; exact zb (rl_q (yad rfl (yac rfl (congrArg Value.bool hp2))) rfl rfl (yae hE2) (rl_q (yad rfl (yac rfl (congrArg Value.bool hp2))) rfl rfl (v_leq rfl rfl) (rl_q (yad rfl (yac rfl (congrArg Value.bool (congrArg Bool.not (decide_eq_true hp))))) rfl rfl (yao (v := (.bool (decide (r3 ≤ most)))) (congrArg Value.bool hp2) rfl) (zq (yap (v := (.bool (decide (r3 ≤ most)))) (congrArg Value.bool (congrArg Bool.not (decide_eq_true hp))) rfl) (zq (za (.bool (decide (r3 ≤ most)))) (yaa (yah rfl rfl ⟨_, rfl, (hS.sel [] (by decide)), h⟩)))))))
      · replace h := h.2 hp2; exact rl_p (yab rfl (yac rfl (congrArg Value.bool (Bool.eq_false_iff.2 hp2))) rfl) rfl (rl_p (yab rfl (yac rfl (congrArg Value.bool (Bool.eq_false_iff.2 hp2))) rfl) rfl (rl_p (yab rfl (yac rfl (congrArg Value.bool (Bool.eq_false_iff.2 hp2))) rfl) rfl (rl_p (yab rfl (yac rfl (congrArg Value.bool (Bool.eq_false_iff.2 hp2))) rfl) rfl (rl_q (yad rfl (yac rfl (congrArg Value.bool (congrArg Bool.not (decide_eq_true hp))))) rfl rfl (yap (v := (.bool (false))) (congrArg Value.bool (Bool.eq_false_iff.2 hp2)) rfl) (zq (yap (v := (.bool (false))) (congrArg Value.bool (congrArg Bool.not (decide_eq_true hp))) rfl) (zq (za (.bool (false))) (yaa (yah rfl rfl ⟨_, rfl, (hS.sel [] (by decide)), h⟩))))))))
    · replace h := h.2 hp; exact rl_p (yab rfl (yac rfl (congrArg Value.bool (congrArg Bool.not (decide_eq_false hp)))) rfl) rfl (rl_p (yab rfl (yac rfl (congrArg Value.bool (congrArg Bool.not (decide_eq_false hp)))) rfl) rfl (rl_p (yab rfl (yac rfl (congrArg Value.bool (congrArg Bool.not (decide_eq_false hp)))) rfl) rfl (rl_p (yab rfl (yac rfl (congrArg Value.bool (congrArg Bool.not (decide_eq_false hp)))) rfl) rfl (rl_p (yaB rfl rfl) rfl (rl_p (yaB rfl rfl) rfl (rl_p (yaB rfl rfl) rfl (rl_p (yaB rfl rfl) rfl (rl_p (yab rfl (yac rfl (congrArg Value.bool (congrArg Bool.not (decide_eq_false hp)))) rfl) rfl (zq (yao (v := (.bool (true))) (congrArg Value.bool (congrArg Bool.not (decide_eq_false hp))) rfl) (zq (za (.bool (true))) (yaa (yah rfl rfl ⟨_, rfl, (hS.sel [] (by decide)), h⟩))))))))))))
  clear hJ; intro j; refine zr (zq (yav (vs := [(ii g), (.slice Ag lg cg)]) rfl underlying24 rfl yas ⟨Row.cell (hS.bx 2 rfl) (i := 0) rfl, Row.cell (hS.bx 2 rfl) (i := 1) rfl, trivial⟩) (zn (yal rfl (am1 rfl) enter_51 ((ygo h (yaN _) (hS.rdr 0 rfl)).mono ?_)))); rintro _ w7 ⟨r4, rfl, hC, h⟩; replace hS := hS.pur hC.pure; clear hC; refine ⟨_, rfl, ?_⟩; refine zb (zq (ydn rfl) (zq (zm (.bool (!(r4)))) ?_)); by_cases hp3 : r4 = true
  · replace h := h.1 hp3; refine rl_q (yad rfl (yac rfl (congrArg Value.bool (congrArg Bool.not hp3)))) rfl rfl (zm (.slice Ad ld cd)) (rl_q (yad rfl (yac rfl (congrArg Value.bool (congrArg Bool.not hp3)))) rfl rfl (ybc (n := d.length) rfl underlying25 (ya2 (hS.rdr 1 rfl))) (rl_q (yad rfl (yac rfl (congrArg Value.bool (congrArg Bool.not hp3)))) rfl rfl zG (zq (yap (v := (.bool (decide (100 < ((d.length : Nat) : Int))))) (congrArg Value.bool (congrArg Bool.not hp3)) rfl) (yaa ?_)))); by_cases hp4 : 100 < ((d.length : Nat) : Int)
    · replace h := h.1 hp4; exact zc hp4 (zs (zq (za (.bool (false))) (yaa (yah rfl rfl ⟨_, rfl, (hS.sel [] (by decide)), h⟩))))
    · replace h := h.2 hp4; exact zd hp4 (yag (j _ _ _ ⟨h, rfl, rfl, rfl, rfl, (hS.sel [1, 2, 0] (by decide))⟩))
  · replace h := h.2 hp3; exact rl_p (yab rfl (yac rfl (congrArg Value.bool (congrArg Bool.not (Bool.eq_false_iff.2 hp3)))) rfl) rfl (rl_p (yab rfl (yac rfl (congrArg Value.bool (congrArg Bool.not (Bool.eq_false_iff.2 hp3)))) rfl) rfl (rl_p (yab rfl (yac rfl (congrArg Value.bool (congrArg Bool.not (Bool.eq_false_iff.2 hp3)))) rfl) rfl (zq (yao (v := (.bool (true))) (congrArg Value.bool (congrArg Bool.not (Bool.eq_false_iff.2 hp3))) rfl) (yaa (yaq rfl (zs (zq (za (.bool (false))) (yaa (yah rfl rfl ⟨_, rfl, (hS.sel [] (by decide)), h⟩)))))))))
end Go.Proofs.YtncilechkclmbaaGreat

/- Pure forms of functions, made by program (pf.py), each with the proof that the code does so. -/
namespace Go.Proofs.YtncilechkclmbaaGreat
open Go Go.RowKit Go.Shelf Go.Proofs.Tryz
set_option linter.unusedVariables false
set_option maxRecDepth 100000
set_option maxHeartbeats 1000000
end Go.Proofs.YtncilechkclmbaaGreat

/- What the finder of ranks comes to. -/
namespace Go.Proofs.YtncilechkclmbaaGreat
open Go Go.Proofs.Tryz
set_option linter.unusedVariables false
set_option linter.unusedSimpArgs false
def errL (n : Int) : List (List Int) → Int
  | [] => 0
  | d :: t => if yaJ d n = 0 then errL n t else yaJ d n
theorem gx_succ {d : List Int} {t : List (List Int)} {k : Nat} : gx (d :: t) (k + 1) = gx t k := by simp [gx]
theorem gx_zero {d : List Int} {t : List (List Int)} : gx (d :: t) 0 = d := by simp [gx]
theorem errL_zero {n : Int} : ∀ {l : List (List Int)}, (∀ j, j < l.length → yaJ (gx l j) n = 0) → errL n l = 0
  | [], _ => rfl
  | d :: t, h => by
    have h0 := h 0 (by simp)
    rw [gx_zero] at h0
    unfold errL
    rw [if_pos h0]
    exact errL_zero fun j hj => by have := h (j + 1) (by simpa using hj); rwa [gx_succ] at this
theorem errL_at {n : Int} : ∀ {l : List (List Int)} {k : Nat}, k < l.length → (∀ j, j < k → yaJ (gx l j) n = 0) → yaJ (gx l k) n ≠ 0 → errL n l = yaJ (gx l k) n
  | [], k, hk, _, _ => by simp at hk
  | d :: t, 0, hk, h, hn => by
    rw [gx_zero] at hn ⊢
    unfold errL
    rw [if_neg hn]
  | d :: t, k + 1, hk, h, hn => by
    have h0 := h 0 (by omega)
    rw [gx_zero] at h0
    rw [gx_succ] at hn ⊢
    unfold errL
    rw [if_pos h0]
    exact errL_at (by simpa using hk) (fun j hj => by have := h (j + 1) (by omega); rwa [gx_succ] at this) hn
def givL (n : Int) (es : List E3) (l : List (List Int)) : Int := if yb2 n es = 0 then errL n l else yb2 n es
theorem givL_one {n : Int} {es : List E3} {d : List Int} : givL n es [d] = yaD n es 0 d := by
  rw [given0]
  unfold givL errL errL
  by_cases e : yaJ d n = 0 <;> simp [e]
theorem yjH {n : Int} {es : List E3} {l : List (List Int)} {R : Int → Prop} (hl : es.length ≤ 1000) (hll : l.length ≤ 1000) (h : R (givL n es l)) : ydo n es l R := by
  unfold ydo
  refine ⟨by omega, fun hg => ⟨fun hc => ?_, fun hc => ?_⟩, fun hg => ?_⟩
  · have hj : yb2 n es = 0 := by
      have := of_decide_eq_true hc
      unfold yb2; rw [if_pos this.1, if_pos this.2]
    have e : givL n es l = errL n l := by unfold givL; rw [if_pos hj]
    rw [e] at h
    refine ⟨Cnt l.length (fun k => ∀ j, j < k → yaJ (gx l j) n = 0), Cnt.start (fun j hj => absurd hj (by omega)), ?_⟩
    rintro m _ ⟨k, rfl, rfl, hk, hinv⟩
    simp only [Int.toNat_natCast]
    refine ⟨fun hlt => ⟨by omega, yhs ⟨fun h0 => Cnt.next (by omega) (by omega) fun j hj => ?_, fun hne => ?_⟩⟩, fun hge => ?_⟩
    · by_cases e : j = k
      · rw [e]; exact h0
      · exact hinv j (by omega)
    · rw [errL_at (by omega) hinv hne] at h; exact h
    · have e : k = l.length := by omega
      rw [errL_zero (by rw [← e]; exact hinv)] at h; exact h
  · have hj : yb2 n es = 13 := by
      unfold yb2; rw [if_pos hg, if_neg]
      intro q; exact hc (decide_eq_true ⟨hg, q⟩)
    have e : givL n es l = 13 := by unfold givL; rw [if_neg (by omega), hj]
    rw [e] at h; exact h
  · have hj : yb2 n es = yat n es := by unfold yb2; rw [if_neg hg]
    have e : givL n es l = yat n es := by unfold givL; rw [if_neg (by omega), hj]
    rw [e] at h; exact h
def keyF (r : List Int) : List Int := cpy (List.replicate 12 (0 : Int)) r
theorem ycU (r : List Int) : (keyF r).length = 12 := by unfold keyF; rw [cpy_length]; simp
theorem gi_keyF {r : List Int} {i : Nat} (hi : i < 12) : gi (keyF r) i = if i < r.length then gi r i else 0 := by
  unfold keyF
  rw [gi_cpy (by simpa using hi), yka hi]
theorem keyF_inj {n : Nat} {r r' : List Int} (hn : n ≤ 12) (h : r.length = n) (h' : r'.length = n) (e : keyF r = keyF r') : r = r' := by
  refine yfe (by omega) fun k hk => ?_
  have h1 := gi_keyF (r := r) (i := k) (by omega)
  have h2 := gi_keyF (r := r') (i := k) (by omega)
  rw [if_pos (by omega)] at h1 h2
  rw [← h1, ← h2, e]
structure MOk (n : Nat) (es : List E3) (m : List (List Int × Int)) : Prop where
  keys : KOk 12 m
  vals : ∀ p ∈ m, ∃ r, p.1 = keyF r ∧ Eff n r (dg r) ∧ dg r ≤ 5 ∧ RkOk n es r p.2
theorem MOk.nil (n : Nat) (es : List E3) : MOk n es [] := ⟨KOk.nil 12, fun p hp => by simp at hp⟩
theorem ygP {n : Nat} {r : List Int} (hr : Eff n r (dg r)) (h5 : dg r ≤ 5) : yfx 12 (keyF r) := by
  refine ⟨ycU r, fun x hx => ?_⟩
  obtain ⟨i, hi, rfl⟩ := List.getElem_of_mem hx
  rw [ycU] at hi
  rw [← yaY (by rw [ycU]; exact hi), gi_keyF hi]
  split
  · have hi2 : i < n := by rw [← hr.len]; assumption
    have := hr.pos i hi2
    have := hr.le hi2
    exact i64 (by omega)
  · exact i64 (by omega)
theorem MOk.put {n : Nat} {es : List E3} {m : List (List Int × Int)} (h : MOk n es m) {r : List Int} {v : Int} (hr : Eff n r (dg r)) (h5 : dg r ≤ 5) (hk : RkOk n es r v) : MOk n es (mput m (keyF r) v) := by
  have hK := h.keys.put (ygP hr h5) v
  refine ⟨hK, fun p hp => ?_⟩
  rcases mput_mem hp with e | e
  · obtain ⟨j, hj⟩ := List.mem_iff_getElem?.1 hp
    have h1 := mget_at hK.1 (k := p.1) (v := p.2) hj
    rw [e, mget_put, if_pos rfl] at h1
    cases h1
    exact ⟨r, e, hr, h5, hk⟩
  · exact h.vals p e
theorem nodup_le : ∀ {l K : List (List Int)}, l.Nodup → (∀ x ∈ l, x ∈ K) → l.length ≤ K.length
  | [], K, _, _ => Nat.zero_le _
  | a :: t, K, h, hs => by
    have h1 := List.nodup_cons.1 h
    have ha : a ∈ K := hs a (by simp)
    have h2 := nodup_le (l := t) (K := K.erase a) h1.2 fun x hx => (List.mem_erase_of_ne (by rintro rfl; exact h1.1 hx)).2 (hs x (by simp [hx]))
    rw [List.length_erase_of_mem ha] at h2
    have : 0 < K.length := List.length_pos_of_mem ha
    simp only [List.length_cons]
    omega
theorem flat_le {f : Nat → List (List Int)} {B : Nat} : ∀ {l : List Nat}, (∀ a ∈ l, (f a).length ≤ B) → (l.flatMap f).length ≤ l.length * B
  | [], _ => by simp
  | a :: t, h => by
    rw [List.flatMap_cons, List.length_append, List.length_cons, Nat.add_mul, Nat.one_mul]
    have := h a (by simp)
    have := flat_le (f := f) (l := t) fun b hb => h b (by simp [hb])
    omega
theorem ykr {n k : Nat} {e : List Int} (h : Eff (n + 1) e (k : Int)) : e ∈ ydb (n + 1) k := by
  refine (ydq n k e).2 ⟨h.len, fun a ha => ?_, by rw [sum_dg, h.deg]⟩
  obtain ⟨i, hi, rfl⟩ := List.getElem_of_mem ha
  rw [← yaY hi]
  exact h.pos i (by rw [← h.len]; exact hi)
theorem yj7 {n k : Nat} {e : List Int} (h : e ∈ ydb (n + 1) k) : Eff (n + 1) e (k : Int) := by
  obtain ⟨h1, h2, h3⟩ := (ydq n k e).1 h
  exact ⟨h1, fun v hv => (dg_entry h2 (by omega)).1, by rw [← sum_dg, h3]⟩
theorem MOk.len {n : Nat} {es : List E3} {m : List (List Int × Int)} (h : MOk n es m) (h1 : 1 ≤ n) (hn : n ≤ 5) : m.length ≤ 7776 := by
  obtain ⟨n, rfl⟩ : ∃ k, n = k + 1 := ⟨n - 1, by omega⟩
  have hN : (m.map (·.1)).Nodup := by
    have := h.keys.1
    unfold List.Nodup
    rw [List.pairwise_map]
    exact this
  have h2 := nodup_le (K := (List.range 6).flatMap fun k => (ydb (n + 1) k).map keyF) hN fun x hx => by
    obtain ⟨p, hp, rfl⟩ := List.mem_map.1 hx
    obtain ⟨r, e, hr, h5, -⟩ := h.vals p hp
    obtain ⟨k, hk⟩ : ∃ k : Nat, dg r = (k : Int) := ⟨(dg r).toNat, by have := hr.nonneg; omega⟩
    rw [hk] at hr
    rw [List.mem_flatMap]
    exact ⟨k, List.mem_range.2 (by omega), List.mem_map.2 ⟨r, ykr hr, e.symm⟩⟩
  have h3 := flat_le (f := fun k => (ydb (n + 1) k).map keyF) (B := 1296) (l := List.range 6) fun k hk => by
    rw [List.length_map]
    have h1 := ygf n k
    have h2 : (k + 1) ^ n ≤ 6 ^ n := Nat.pow_le_pow_left (by have := List.mem_range.1 hk; omega) n
    have h3 : 6 ^ n ≤ 6 ^ 4 := Nat.pow_le_pow_right (by omega) (by omega)
    omega
  simp only [List.length_map, List.length_range] at h2 h3
  omega
structure GOk (n : Nat) (es : List E3) : Prop where
  g : yat n es = 0
  c : yde n es = true
  el : es.length ≤ 40
  n1 : 1 ≤ n
  n5 : n ≤ 5
  su : (es.map (·.2.2)).sum ≤ 9
section
variable {n : Nat} {es : List E3}
theorem GOk.E (G : GOk n es) : EOk n es := (yc9 G.g).1
theorem GOk.C (G : GOk n es) : ∀ q, q < n → Conn n es q := conn_all G.g G.c
theorem GOk.giv (G : GOk n es) {d : List Int} (hd : d.length = n) (hb : ∀ v, v < n → -1000000 ≤ gi d v ∧ gi d v ≤ 1000000) : yaD n es 0 d = 0 := by
  have := G.n1
  have := G.n5
  unfold yaD; rw [if_pos G.g, if_pos G.c, if_pos ⟨by omega, by omega⟩]
  exact yfN hd (by omega) (by omega) fun v hv => by have := hb v hv; omega
theorem GOk.small (G : GOk n es) {d : List Int} (hb : ∀ v, v < n → -200 ≤ gi d v ∧ gi d v ≤ 200) : Small (n : Int) es d :=
  ⟨G.el, fun _ => ⟨by have := G.n5; omega, G.su⟩, fun _ v hv => hb v (by omega)⟩
end
end Go.Proofs.YtncilechkclmbaaGreat

/- What graph.Loopless and graph.Genus come to. -/
namespace Go.Proofs.YtncilechkclmbaaGreat
open Go Go.Proofs.Tryz
set_option linter.unusedVariables false
set_option linter.unusedSimpArgs false
end Go.Proofs.YtncilechkclmbaaGreat

/- What chips.Next, rank.taken, rank.Witness and rank.AtLeast come to. -/
namespace Go.Proofs.YtncilechkclmbaaGreat
open Go Go.Proofs.Tryz
set_option linter.unusedVariables false
set_option linter.unusedSimpArgs false
structure FailAt (n : Nat) (es : List E3) (d : List Int) (k : Nat) (w : List Int) : Prop where
  at_ : ∃ A B, ydb n k = A ++ w :: B ∧ ∀ e ∈ A, Win n es (sb n d e)
  no : ¬ Win n es (sb n d w)
theorem first_eq {α : Type} {P : α → Prop} : ∀ {A B A' B' : List α} {x x' : α}, A ++ x :: B = A' ++ x' :: B' → (∀ e ∈ A, P e) → (∀ e ∈ A', P e) → ¬ P x → ¬ P x' → x = x'
  | [], B, [], B', x, x', h, _, _, _, _ => by injection h
  | [], B, a :: A', B', x, x', h, _, h', hx, _ => by injection h with e _; exact absurd (e ▸ h' a (by simp)) hx
  | a :: A, B, [], B', x, x', h, h', _, _, hx => by injection h with e _; exact absurd (e ▸ h' a (by simp)) hx
  | a :: A, B, a' :: A', B', x, x', h, h1, h2, hx, hx' => by injection h with _ e; exact first_eq e (fun z hz => h1 z (by simp [hz])) (fun z hz => h2 z (by simp [hz])) hx hx'
theorem FailAt.eq {n k : Nat} {es : List E3} {d w w' : List Int} (h : FailAt n es d k w) (h' : FailAt n es d k w') : w = w' := by
  obtain ⟨A, B, e, hA⟩ := h.at_
  obtain ⟨A', B', e', hA'⟩ := h'.at_
  exact first_eq (P := fun x => Win n es (sb n d x)) (e.symm.trans e') hA hA' h.no h'.no
theorem FailAt.mem {n k : Nat} {es : List E3} {d w : List Int} (h : FailAt (n + 1) es d k w) : Eff (n + 1) w (k : Int) := by
  obtain ⟨A, B, e, -⟩ := h.at_
  exact yj7 (by rw [e]; simp)
def WitOk (n : Nat) (es : List E3) (d w : List Int) : Prop := ∃ k, RkOk n es d k ∧ FailAt n es d (k + 1).toNat w
theorem WitOk.eq {n : Nat} (hn : 1 ≤ n) {es : List E3} {d w w' : List Int} (h : WitOk n es d w) (h' : WitOk n es d w') : w = w' := by
  obtain ⟨k, h1, h2⟩ := h
  obtain ⟨k', h1', h2'⟩ := h'
  have e := h1.eq hn h1'
  subst e
  exact h2.eq h2'
structure DOk (n : Nat) (es : List E3) (d : List Int) : Prop where
  G : GOk n es
  b : ∀ v, v < n → -150 ≤ gi d v ∧ gi d v ≤ 150
  d5 : dg d ≤ 5
theorem yks {n k : Nat} (hn : n ≤ 4) (hk : k ≤ 6) : (ydb (n + 1) k).length ≤ 2401 := by
  have h1 := ygf n k
  have h2 : (k + 1) ^ n ≤ 7 ^ n := Nat.pow_le_pow_left (by omega) n
  have h3 : 7 ^ n ≤ 7 ^ 4 := Nat.pow_le_pow_right (by omega) hn
  omega
end Go.Proofs.YtncilechkclmbaaGreat

/- Laws of layer 36: proofs, prices, costs, moves. -/
namespace Go.Proofs.YtncilechkclmbaaGreat
open Go Go.Proofs.Tryz
set_option linter.unusedVariables false
set_option linter.unusedSimpArgs false
theorem yba {s : List (List Int)} {F : List Int → (Bool → Prop) → Prop} {p : List Int → Bool} {R : Bool → Prop} (hl : s.length ≤ 1000000000) (hF : ∀ x (R' : Bool → Prop), x ∈ s → R' (p x) → F x R') (h1 : (∀ x ∈ s, p x = false) → R false) (h2 : ∀ x ∈ s, p x = true → R true) : yaw s F R := by
  unfold yaw yaX
  have hm : ∀ k, k < s.length → gx s k ∈ s := fun k hk => List.mem_of_getElem? (yfn hk)
  refine ⟨Cnt s.length (fun k => ∀ j, j < k → p (gx s j) = false), Cnt.start (fun j hj => absurd hj (by omega)), ?_⟩
  rintro m _ ⟨k, rfl, rfl, hk, hinv⟩
  simp only [Int.toNat_natCast]
  refine ⟨fun hlt => ⟨by omega, hF _ _ (hm k (by omega)) ⟨fun h => ?_, fun h => Cnt.next (by omega) (by omega) fun j hj => ?_⟩⟩, fun hge => ?_⟩
  · rw [decide_eq_true (by omega)]; exact h2 _ (hm k (by omega)) h
  · by_cases e : j = k
    · subst e; simpa using h
    · exact hinv j (by omega)
  · rw [decide_eq_false (by omega)]
    refine h1 fun x hx => ?_
    obtain ⟨j, hj⟩ := List.getElem?_of_mem hx
    have hjl := (List.getElem?_eq_some_iff.1 hj).1
    have := hinv j (by omega)
    rw [yfn hjl] at hj
    cases hj
    exact this
theorem ygF.len {n : Nat} {es : List E3} {d out : List Int} (h : ygF n es d out) : out.length ≤ n := by
  obtain ⟨f, _, rfl⟩ := h
  exact filt_len f n
end Go.Proofs.YtncilechkclmbaaGreat

/- Pure forms of functions, made by program (pf.py), each with the proof that the code does so. -/
namespace Go.Proofs.YtncilechkclmbaaGreat
open Go Go.RowKit Go.Shelf Go.Proofs.Tryz
set_option linter.unusedVariables false
set_option maxRecDepth 100000
set_option maxHeartbeats 1000000
end Go.Proofs.YtncilechkclmbaaGreat

/- What ref25's functions compute by the rule of Cramer. -/
namespace Go.Proofs.YtncilechkclmbaaGreat
open Go Go.Proofs.Tryz
set_option linter.unusedVariables false
set_option linter.unusedSimpArgs false
section
variable {m q : Nat} {es : List E3}
variable (hl : es.length ≤ 1000000000) (hg : yat ((m + 1 : Nat) : Int) es = 0) (hc : yde ((m + 1 : Nat) : Int) es = true) (hm : m ≤ 5) (hq : q ≤ m) {d : List Int} (hdl : d.length = m + 1) (hd : ∀ j, j < m + 1 → -1000 ≤ gi d j ∧ gi d j ≤ 1000)
include hl hg hc hm hq hdl hd
end
end Go.Proofs.YtncilechkclmbaaGreat

/- What the reference of ranks comes to. -/
namespace Go.Proofs.YtncilechkclmbaaGreat
open Go Go.Proofs.Tryz
set_option linter.unusedVariables false
set_option linter.unusedSimpArgs false
section
variable {N : Nat} {es : List E3} {d : List Int}
end
theorem ygO {n : Int} {es : List E3} {d : List Int} (hg : yaD n es 0 d = 0) (hD : DOk n.toNat es d) : ∃ N : Nat, n = ((N + 1 : Nat) : Int) ∧ d.length = N + 1 := by
  have h1 := ydT (n := n.toNat) (q := 0) (es := es) (d := d) (by rw [show ((n.toNat : Nat) : Int) = n from by have := yb7 hg; omega]; exact hg)
  have h2 := yb7 hg
  exact ⟨n.toNat - 1, by omega, by have := h1.2.2.2.2.2.2.1; omega⟩
structure FewOk (n : Int) (es : List E3) (d : List Int) (most : Int) : Prop where
  s : smallF n es 5 7 = true
  l : d.length ≤ 100
  g : yaD n es 0 d = 0 → lowF n d = true ∧ dg d ≤ most
theorem FewOk.el {n : Int} {es : List E3} {d : List Int} {most : Int} (h : FewOk n es d most) : es.length ≤ 40 := (of_decide_eq_true h.s).1
theorem gok_of {n : Int} {es : List E3} (hs : smallF n es 5 7 = true) (hg : yat n es = 0) (hc : yde n es = true) : GOk n.toNat es := by
  obtain ⟨h1, h2⟩ := of_decide_eq_true hs
  have h3 := h2 hg
  have hn : 1 ≤ n ∧ n ≤ 12 := by unfold yat at hg; split at hg; · assumption
                                 · omega
  have e : ((n.toNat : Nat) : Int) = n := by omega
  exact ⟨by rw [e]; exact hg, by rw [e]; exact hc, h1, by omega, by omega, by omega⟩
theorem FewOk.dok {n : Int} {es : List E3} {d : List Int} {most : Int} (h : FewOk n es d most) (hm : most ≤ 5) (hg : yaD n es 0 d = 0) : DOk n.toNat es d := by
  obtain ⟨h1, h2⟩ := h.g hg
  have h3 := yb7 hg
  have e : ((n.toNat : Nat) : Int) = n := by omega
  have h4 := ydT (n := n.toNat) (q := 0) (es := es) (d := d) (by rw [e]; exact hg)
  have h5 := (yeZ.1 h1).2 (by have := h4.2.2.2.2.2.2.2; rwa [e] at this)
  have h6 := h4.2.2.2.2.2.2.1
  exact ⟨gok_of h.s (by have := h4.2.2.2.1; rwa [e] at this) (by have := h4.2.2.2.2.1; rwa [e] at this), fun v hv => by have := h5 v (by omega); omega, by omega⟩
theorem p_r38_Few {n most : Int} {es : List E3} {d : List Int} {R : Bool → Prop} (h1 : FewOk n es d most → R true) (h2 : ¬ FewOk n es d most → R false) : yjx n es d most R := by
  unfold yjx
  refine ⟨smallF n es 5 7 = true ∧ d.length ≤ 100, fun ⟨hs, hl⟩ => ?_, p_r08_small ⟨fun hs => ⟨fun hl => h2 fun q => by have := q.l; omega, fun hl => ⟨hs, by omega⟩⟩, fun hs => h2 fun q => hs q.s⟩⟩
  have hel := (of_decide_eq_true hs).1
  refine p_r35_Given (by omega) ⟨fun hg => p_r34_Low ⟨fun hlo => yhn (by omega) (fun i hi => ?_) ?_, fun hlo => h2 fun q => hlo (q.g hg).1⟩, fun hg => h1 ⟨hs, hl, fun q => absurd q hg⟩⟩
  · have h3 := yb7 hg
    have e : ((n.toNat : Nat) : Int) = n := by omega
    have h4 := ydT (n := n.toNat) (q := 0) (es := es) (d := d) (by rw [e]; exact hg)
    have := (yeZ.1 hlo).2 (by have := h4.2.2.2.2.2.2.2; rwa [e] at this) i hi
    omega
  · by_cases q : dg d ≤ most
    · rw [decide_eq_true q]; exact h1 ⟨hs, hl, fun _ => ⟨hlo, q⟩⟩
    · rw [decide_eq_false q]; exact h2 fun f => q (f.g hg).2
end Go.Proofs.YtncilechkclmbaaGreat

/- The examples of the chapter on ranks come out right; what the law's small functions come to. -/
namespace Go.Proofs.YtncilechkclmbaaGreat
open Go Go.Proofs.Tryz
set_option linter.unusedVariables false
set_option linter.unusedSimpArgs false
def tri : List E3 := [(0, 1, 1), (0, 2, 1), (1, 2, 1)]
theorem ykj : GOk 3 tri := ⟨by decide, by decide, by decide, by decide, by decide, by decide⟩
theorem al_dec {N k : Nat} {es : List E3} {d : List Int} (S : List (List Int)) (h : ∀ e ∈ ydb (N + 1) k, ∃ s ∈ S, ∀ v, v < N + 1 → 0 ≤ gi (sb (N + 1) d e) v - Lp (N + 1) es (gi s) v) : AL (N + 1) es d (k : Int) := fun e he => by
  obtain ⟨s, -, hs⟩ := h e (ykr he)
  exact ⟨gi s, hs⟩
theorem yjv {n : Nat} {es : List E3} {d : List Int} (G : GOk n es) (q : Nat) (hq : q < n) (h1 : ∀ v, v < n → v ≠ q → 0 ≤ gi d v) (h2 : ∀ m, m < 2 ^ n → 1 ≤ m → m.testBit q = false → ¬ (∀ v, v < n → m.testBit v = true → outS n es m.testBit v ≤ gi d v)) (hneg : gi d q < 0) : ¬ Win n es d := fun hw => by
  have := (yll (d := d) (r := d) (s := fun _ => 0) G.E hq (red_of_dec hq h1 h2) fun v hv => by rw [yeW]; omega).1 hw
  omega
theorem no_dec {N k : Nat} {es : List E3} {d : List Int} (e : List Int) (he : e ∈ ydb (N + 1) k) (h : ¬ Win (N + 1) es (sb (N + 1) d e)) : ¬ AL (N + 1) es d (k : Int) := fun q => h (q e (yj7 he))
theorem ex2 : RkOk 3 tri [0, 1, 0] 0 := ⟨by omega, al_dec (N := 2) (k := 0) [[0, 0, 0]] (by decide), no_dec (N := 2) (k := 1) [0, 0, 1] (by decide) (yjv ykj 2 (by decide) (by decide) (by decide) (by decide))⟩
theorem wx2 : WitOk 3 tri [0, 1, 0] [0, 0, 1] := ⟨0, ex2, ⟨[], [[0, 1, 0], [1, 0, 0]], by decide, fun e he => by simp at he⟩, yjv ykj 2 (by decide) (by decide) (by decide) (by decide)⟩
end Go.Proofs.YtncilechkclmbaaGreat

/- A graph is looked through whatever its length: a right one has few edges. -/
namespace Go.Proofs.YtncilechkclmbaaGreat
open Go Go.Proofs.Tryz
set_option linter.unusedVariables false
set_option linter.unusedSimpArgs false
theorem p_r08_edge0 {n : Int} {es : List E3} {k : Nat} {R : Int → Prop} (hk : k < es.length) (hl : k ≤ 1000000000) (h : R (yfq n (pre es k).1 (pre es k).2 (ge es k))) : ycy n es (k : Int) R := by
  unfold ycy
  simp only [Int.toNat_natCast]
  generalize hx : ge es k = x at h ⊢
  refine ⟨by omega, (0 ≤ x.1 ∧ x.1 < n) ∧ (0 ≤ x.2.1 ∧ x.2.1 < n) ∧ 1 ≤ x.2.2 ∧ x.2.2 ≤ 50, fun hJ => ?_, ?_⟩
  · have hed : ∀ a b, yfq n a b x = if x.1 ≤ x.2.1 ∧ yiU a b x.1 x.2.1 < 0 then 0 else 9 := fun a b => by unfold yfq; rw [if_pos hJ]
    rw [hed] at h
    refine ⟨fun q => by rw [if_neg (by omega)] at h; exact h, fun q => ⟨fun h0 => ?_, fun h0 => ?_⟩⟩
    · have e1 : ((k : Int) - 1).toNat = k - 1 := by omega
      rw [e1]
      have hp : pre es k = ((ge es (k - 1)).1, (ge es (k - 1)).2.1) := by unfold pre; rw [if_neg (by omega)]
      rw [hp] at h
      have hc := yfo (ge es (k - 1)).1 (ge es (k - 1)).2.1 x.1 x.2.1
      refine ⟨i64 (by omega), by omega, fun q1 => ?_, fun q1 => ⟨fun q2 => ⟨fun q3 => ?_, fun q3 => ?_⟩, fun q2 => ?_⟩⟩
      · rw [if_neg (fun h => by have := hc.1 h.2; omega)] at h; exact h
      · rw [if_neg (fun h => by have := hc.1 h.2; omega)] at h; exact h
      · rw [if_pos ⟨by omega, hc.2 (by omega)⟩] at h; exact h
      · rw [if_pos ⟨by omega, hc.2 (by omega)⟩] at h; exact h
    · have hp : pre es k = (-1, -1) := by unfold pre; rw [if_pos (by omega)]
      rw [hp, if_pos ⟨by omega, (yfo _ _ _ _).2 (.inl (by omega))⟩] at h
      exact h
  · have hed : ¬ ((0 ≤ x.1 ∧ x.1 < n) ∧ (0 ≤ x.2.1 ∧ x.2.1 < n) ∧ 1 ≤ x.2.2 ∧ x.2.2 ≤ 50) → R 2 := fun q => by unfold yfq at h; rwa [if_neg q] at h
    refine ydE ⟨fun h1 => ydE ⟨fun h2 => ⟨fun h3 => hed (by omega), fun h3 => ⟨fun h4 => hed (by omega), fun h4 => ?_⟩⟩, fun h2 => hed (by simp at h2; omega)⟩, fun h1 => hed (by simp at h1; omega)⟩
    simp only [decide_eq_true_eq] at h1 h2
    exact ⟨h1, h2, by omega, by omega⟩
theorem gchk_few {n : Int} (hn : n ≤ 12) : ∀ {es : List E3} {a b : Int}, a ≤ 11 → b ≤ 11 → gchk n a b es = 0 → (es.length : Int) ≤ 143 - 12 * a - b ∨ es = []
  | [], _, _, _, _, _ => .inr rfl
  | x :: t, a, b, ha, hb, h => by
    unfold gchk at h
    split at h
    · rename_i c
      split at h
      · rename_i c2
        have h2 := (yfo _ _ _ _).1 c2.2
        rcases gchk_few hn (by omega) (by omega) h with q | q
        · left; rw [List.length_cons]; omega
        · subst q; left; simp; omega
      · omega
    · omega
theorem edges_few {n : Int} {es : List E3} (hg : yat n es = 0) : es.length ≤ 156 := by
  unfold yat at hg
  split at hg
  · rcases gchk_few (by omega) (by omega) (by omega) hg with q | q
    · omega
    · rw [q]; simp
  · omega
theorem p_r08_Check0 {n : Int} {es : List E3} {R : Int → Prop} (h : R (yat n es)) : ybO n es R := by
  unfold ybO
  have hout : ¬ (1 ≤ n ∧ n ≤ 12) → R 2 := fun q => by unfold yat at h; rwa [if_neg q] at h
  refine ⟨1 ≤ n ∧ n ≤ 12, fun hn => ?_, fun q => hout (by omega), fun q => ⟨fun q2 => hout (by omega), fun q2 => ⟨by omega, by omega⟩⟩⟩
  have hg : yat n es = gchk n (-1) (-1) es := by unfold yat; rw [if_pos hn]
  rw [hg] at h
  refine ⟨fun m i => ∃ k : Nat, i = (k : Int) ∧ k ≤ es.length ∧ m = es.length - k ∧ gchk n (-1) (-1) es = gchk n (pre es k).1 (pre es k).2 (es.drop k) ∧ (k = 0 ∨ (0 ≤ (pre es k).1 ∧ (pre es k).1 < 12 ∧ 0 ≤ (pre es k).2 ∧ (pre es k).2 < 12 ∧ (k : Int) ≤ 12 * (pre es k).1 + (pre es k).2 + 1)), ⟨_, 0, rfl, by omega, rfl, rfl, .inl rfl⟩, ?_⟩
  rintro m _ ⟨k, rfl, hk, rfl, hinv, hfew⟩
  refine ⟨fun hlt => p_r08_edge0 (by omega) (by omega) ⟨fun h0 => ?_, fun h0 => ?_⟩, fun hge => ?_⟩
  · refine ⟨i64 (by omega), es.length - (k + 1), by omega, k + 1, rfl, by omega, rfl, ?_, .inr ?_⟩
    · rw [yfk (by omega), ydU, if_pos h0] at hinv
      rw [hinv]; simp [pre]
    · have hp : pre es (k + 1) = ((ge es k).1, (ge es k).2.1) := by simp [pre]
      rw [hp]
      unfold yfq at h0
      split at h0
      · rename_i c
        split at h0
        · rename_i c2
          have h2 := (yfo _ _ _ _).1 c2.2
          rcases hfew with q | q
          · subst q; simp only; omega
          · simp only; omega
        · omega
      · omega
  · rw [yfk (by omega), ydU, if_neg h0] at hinv
    rwa [hinv] at h
  · have hk2 : k = es.length := by omega
    rw [hinv, hk2, List.drop_length] at h
    exact h
theorem p_r25_Joined0 {n : Int} {es : List E3} {R : Int → Prop} (h : R (yb2 n es)) : ybD n es R := by
  unfold ybD
  unfold yb2 at h
  refine p_r08_Check0 ⟨fun h0 => ?_, fun h0 => by rwa [if_neg h0] at h⟩
  rw [if_pos h0] at h
  have hn : 1 ≤ n ∧ n ≤ 12 := by
    unfold yat at h0
    split at h0
    · assumption
    · omega
  obtain ⟨n, rfl⟩ : ∃ n' : Nat, n = (n' : Int) := ⟨n.toNat, by omega⟩
  have := edges_few h0
  exact yey (by omega) h0 ⟨fun h1 => by rwa [if_pos h1] at h, fun h1 => by rwa [if_neg h1] at h⟩
end Go.Proofs.YtncilechkclmbaaGreat
