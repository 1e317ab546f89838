/- Texts laid together: PTd, SpA, Bor, Gen, SpB, SpC, SpT, SpE, SpG, L34, SpW, SpP, SpF, L36, SpN, RkM. -/
import Derived.Test.YtncilechkclmbaaK4
/- Pure forms of functions, made by program (pf.py), each with the proof that the code does so. -/
namespace Go.Proofs.Ytncilechkclmbaa
open Go Go.RowKit Go.Shelf Go.Proofs.Try
set_option linter.unusedVariables false
set_option maxRecDepth 100000
set_option maxHeartbeats 1000000
def ycn (x : List Int) (R : Int → Prop) : Prop :=
(∃ J2 : Prop, (J2 → ((0 ≤ (0 : Int) ∧ (0 : Int) < ((x.length : Nat) : Int)) ∧
(∃ I2 : Nat → Int → Int → Prop, (∃ m0, I2 m0 (gi x (0 : Int).toNat) 1) ∧ ∀ m2 m3 i, I2 m2 m3 i → 
((i < ((x.length : Nat) : Int) →
((0 ≤ i ∧ i < ((x.length : Nat) : Int)) ∧
(In64 (i + 1) ∧
∃ m4, m4 < m2 ∧ I2 m4 (mnF m3 (gi x i.toNat)) (i + 1)))) ∧
(¬ (i < ((x.length : Nat) : Int)) →
R m3))))) ∧
((((x.length : Nat) : Int) < 1 →
False) ∧
(¬ (((x.length : Nat) : Int) < 1) →
J2)))
theorem yfs {O : Nat → Prop} {w : World} {x Ax lx cx} {R : Int → Prop} (h : ycn x R) (hO : ∀ k, O k → k < w.heap.size) (hA0 : (FP.sl cI Ax lx cx x).P O w) :
    Calls Try.prog 51 #[(.slice Ax lx cx)] w fun e w' => ∃ r, e = .returned (ii r) ∧ Sep w no O w' (rl []) ∧ R r := by
  unfold ycn at h; have hS : Sep w no O w (rl [Res.ro (FP.sl cI Ax lx cx x)]) := Sep.startl hO [(FP.sl cI Ax lx cx x)] ⟨hA0, trivial⟩; refine yan (l := [(.slice Ax lx cx)]) func51 rfl ntmps51 (Nat.le_of_ble_eq_true rfl) (zs (zq (za (ii 0)) (yaa (yae (zs (zq (zm (.slice Ax lx cx)) (zq (yaV (n := x.length) rfl underlying25 (yaR (hS.rdr 0 rfl))) (zq zL (yaa ?_))))))))); obtain ⟨J2, hJ, h⟩ := h; refine yfP (fun E ds w' => J2 ∧ ds = [] ∧ E 0 = (Value.slice Ax lx cx) ∧ Sep w no O w' (rl [Res.ro (FP.sl cI Ax lx cx x)])) ?_ ?_
  · clear h hS; rintro E ds w2 ⟨h, rfl, hE0, hS⟩; replace h := hJ h; refine zs (zq (yad hE0) ?_); obtain ⟨hx, h⟩ := h; refine zq (zi underlying25 yag (yaQ (hS.rdr 0 rfl) hx)) (zq (yax (v := (ii (gi x (0 : Int).toNat))) rfl underlying3 rfl (rd_1 (hS.rdr 0 rfl) hx (fun q => yaF q) rfl)) ?_); refine zq (za (ii (gi x (0 : Int).toNat))) (yaa (yae (zs (zq (za (ii 1)) (yaa (yak ?_)))))); obtain ⟨I2, ⟨m0, h0⟩, hr⟩ := h; refine yaC (fun m E ds w' => ∃ m3 i, I2 m m3 i ∧ ds = [] ∧ E 0 = (Value.slice Ax lx cx) ∧ E 3 = (ii m3) ∧ E 4 = (ii i) ∧ Sep w no O w' (rl [Res.ro (FP.sl cI Ax lx cx x)])) m0 ⟨_, _, h0, rfl, hE0, rfl, rfl, (hS.sel [0] (by decide))⟩ ?_; clear h0 hS; rintro m2 E ds w3 ⟨m3, i, h, rfl, hE0, hE3, hE4, hS⟩ again; replace h := hr m2 m3 i h; clear hr; refine yae (zs (zq (yad hE4) (zq (yad hE0) (zq (yaV (n := x.length) rfl underlying25 (yaR (hS.rdr 0 rfl))) (zq zL (yaa ?_)))))); by_cases hp : i < ((x.length : Nat) : Int)
    · replace h := h.1 hp; refine zc hp (yah (yae (yak (zr (zq (yad hE3) (zq (yad hE0) (zq (yad hE4) ?_))))))); obtain ⟨hx2, h⟩ := h; refine zq (zi underlying25 yag (yaQ (hS.rdr 0 rfl) hx2)) (zq (yax (v := (ii (gi x i.toNat))) rfl underlying3 rfl (rd_1 (hS.rdr 0 rfl) hx2 (fun q => yaF q) rfl)) ?_); refine zq (yhi rfl rfl) (zq (za (ii (mnF m3 (gi x i.toNat)))) (yaa (yaj (zr (zq (yad hE4) ?_))))); obtain ⟨hi, h⟩ := h; refine zq (zA hi) (zq (za (ii (i + 1))) (yaa ?_)); obtain ⟨mq, hlt, h⟩ := h; exact again mq _ _ _ ⟨_, _, h, rfl, hE0, rfl, rfl, (hS.sel [0] (by decide))⟩ hlt
    · replace h := h.2 hp; exact zd hp (yay rfl (zs (zq (yad hE3) (zq (za (ii m3)) (yaa (yal rfl rfl ⟨_, rfl, (hS.sel [] (by decide)), h⟩))))))
  clear hJ; intro j; by_cases hp2 : ((x.length : Nat) : Int) < 1
  · replace h := h.1 hp2; exact zc hp2 (zr h.elim)
  · replace h := h.2 hp2; exact zd hp2 (yah (j _ _ _ ⟨h, rfl, rfl, (hS.sel [0] (by decide))⟩))
def ybt (x : List Int) (R : Int → Prop) : Prop :=
(∃ J2 : Prop, (J2 → ((0 ≤ (0 : Int) ∧ (0 : Int) < ((x.length : Nat) : Int)) ∧
(∃ I2 : Nat → Int → Int → Prop, (∃ m0, I2 m0 (gi x (0 : Int).toNat) 1) ∧ ∀ m2 m3 i, I2 m2 m3 i → 
((i < ((x.length : Nat) : Int) →
((0 ≤ i ∧ i < ((x.length : Nat) : Int)) ∧
(In64 (i + 1) ∧
∃ m4, m4 < m2 ∧ I2 m4 (mxF m3 (gi x i.toNat)) (i + 1)))) ∧
(¬ (i < ((x.length : Nat) : Int)) →
R m3))))) ∧
((((x.length : Nat) : Int) < 1 →
False) ∧
(¬ (((x.length : Nat) : Int) < 1) →
J2)))
theorem yeV {O : Nat → Prop} {w : World} {x Ax lx cx} {R : Int → Prop} (h : ybt x R) (hO : ∀ k, O k → k < w.heap.size) (hA0 : (FP.sl cI Ax lx cx x).P O w) :
    Calls Try.prog 31 #[(.slice Ax lx cx)] w fun e w' => ∃ r, e = .returned (ii r) ∧ Sep w no O w' (rl []) ∧ R r := by
  unfold ybt at h; have hS : Sep w no O w (rl [Res.ro (FP.sl cI Ax lx cx x)]) := Sep.startl hO [(FP.sl cI Ax lx cx x)] ⟨hA0, trivial⟩; refine yan (l := [(.slice Ax lx cx)]) func31 rfl ntmps31 (Nat.le_of_ble_eq_true rfl) (zs (zq (za (ii 0)) (yaa (yae (zs (zq (zm (.slice Ax lx cx)) (zq (yaV (n := x.length) rfl underlying41 (yaR (hS.rdr 0 rfl))) (zq zL (yaa ?_))))))))); obtain ⟨J2, hJ, h⟩ := h; refine yfP (fun E ds w' => J2 ∧ ds = [] ∧ E 0 = (Value.slice Ax lx cx) ∧ Sep w no O w' (rl [Res.ro (FP.sl cI Ax lx cx x)])) ?_ ?_
  · clear h hS; rintro E ds w2 ⟨h, rfl, hE0, hS⟩; replace h := hJ h; refine zs (zq (yad hE0) ?_); obtain ⟨hx, h⟩ := h; refine zq (zi underlying41 yag (yaQ (hS.rdr 0 rfl) hx)) (zq (yax (v := (ii (gi x (0 : Int).toNat))) rfl underlying3 rfl (rd_1 (hS.rdr 0 rfl) hx (fun q => yaF q) rfl)) ?_); refine zq (za (ii (gi x (0 : Int).toNat))) (yaa (yae (zs (zq (za (ii 1)) (yaa (yak ?_)))))); obtain ⟨I2, ⟨m0, h0⟩, hr⟩ := h; refine yaC (fun m E ds w' => ∃ m3 i, I2 m m3 i ∧ ds = [] ∧ E 0 = (Value.slice Ax lx cx) ∧ E 3 = (ii m3) ∧ E 4 = (ii i) ∧ Sep w no O w' (rl [Res.ro (FP.sl cI Ax lx cx x)])) m0 ⟨_, _, h0, rfl, hE0, rfl, rfl, (hS.sel [0] (by decide))⟩ ?_; clear h0 hS; rintro m2 E ds w3 ⟨m3, i, h, rfl, hE0, hE3, hE4, hS⟩ again; replace h := hr m2 m3 i h; clear hr; refine yae (zs (zq (yad hE4) (zq (yad hE0) (zq (yaV (n := x.length) rfl underlying41 (yaR (hS.rdr 0 rfl))) (zq zL (yaa ?_)))))); by_cases hp : i < ((x.length : Nat) : Int)
    · replace h := h.1 hp; refine zc hp (yah (yae (yak (zr (zq (yad hE3) (zq (yad hE0) (zq (yad hE4) ?_))))))); obtain ⟨hx2, h⟩ := h; refine zq (zi underlying41 yag (yaQ (hS.rdr 0 rfl) hx2)) (zq (yax (v := (ii (gi x i.toNat))) rfl underlying3 rfl (rd_1 (hS.rdr 0 rfl) hx2 (fun q => yaF q) rfl)) ?_); refine zq (yhI rfl rfl) (zq (za (ii (mxF m3 (gi x i.toNat)))) (yaa (yaj (zr (zq (yad hE4) ?_))))); obtain ⟨hi, h⟩ := h; refine zq (zA hi) (zq (za (ii (i + 1))) (yaa ?_)); obtain ⟨mq, hlt, h⟩ := h; exact again mq _ _ _ ⟨_, _, h, rfl, hE0, rfl, rfl, (hS.sel [0] (by decide))⟩ hlt
    · replace h := h.2 hp; exact zd hp (yay rfl (zs (zq (yad hE3) (zq (za (ii m3)) (yaa (yal rfl rfl ⟨_, rfl, (hS.sel [] (by decide)), h⟩))))))
  clear hJ; intro j; by_cases hp2 : ((x.length : Nat) : Int) < 1
  · replace h := h.1 hp2; exact zc hp2 (zr h.elim)
  · replace h := h.2 hp2; exact zd hp2 (yah (j _ _ _ ⟨h, rfl, rfl, (hS.sel [0] (by decide))⟩))
def ya5 (s1 : List Int) (s2 : List Int) (R : Int → Prop) : Prop :=
(∃ I2 : Nat → Int → Prop, (∃ m0, I2 m0 0) ∧ ∀ m2 v, I2 m2 v → 
((v < ((s1.length : Nat) : Int) →
((0 ≤ v ∧ v < ((s1.length : Nat) : Int)) ∧
((((s2.length : Nat) : Int) ≤ v →
R 1) ∧
(¬ (((s2.length : Nat) : Int) ≤ v) →
((0 ≤ v ∧ v < ((s2.length : Nat) : Int)) ∧
ya7 (gi s1 v.toNat) (gi s2 v.toNat) (fun r =>
((r = 0 →
(In64 (v + 1) ∧
∃ m3, m3 < m2 ∧ I2 m3 (v + 1))) ∧
(¬ (r = 0) →
R r)))))))) ∧
(¬ (v < ((s1.length : Nat) : Int)) →
((((s1.length : Nat) : Int) < ((s2.length : Nat) : Int) →
R (-1)) ∧
(¬ (((s1.length : Nat) : Int) < ((s2.length : Nat) : Int)) →
R 0)))))
theorem yee {O : Nat → Prop} {w : World} {s1 s2 As1 ls1 cs1 As2 ls2 cs2} {R : Int → Prop} (h : ya5 s1 s2 R) (hO : ∀ k, O k → k < w.heap.size) (hA0 : (FP.sl cI As1 ls1 cs1 s1).P O w) (hA1 : (FP.sl cI As2 ls2 cs2 s2).P O w) :
    Calls Try.prog 47 #[(.slice As1 ls1 cs1), (.slice As2 ls2 cs2)] w fun e w' => ∃ r2, e = .returned (ii r2) ∧ Sep w no O w' (rl []) ∧ R r2 := by
  unfold ya5 at h; have hS : Sep w no O w (rl [Res.ro (FP.sl cI As1 ls1 cs1 s1), Res.ro (FP.sl cI As2 ls2 cs2 s2)]) := Sep.startl hO [(FP.sl cI As1 ls1 cs1 s1), (FP.sl cI As2 ls2 cs2 s2)] ⟨hA0, hA1, trivial⟩; refine yan (l := [(.slice As1 ls1 cs1), (.slice As2 ls2 cs2)]) func47 rfl ntmps47 (Nat.le_of_ble_eq_true rfl) (zs (zq (za (ii 0)) (yaa (yae (zs (zq (zm (.slice As1 ls1 cs1)) (zq (yaV (n := s1.length) rfl underlying41 (yaR (hS.rdr 0 rfl))) (zq (zm (ii 0)) (yaa (yak ?_)))))))))); obtain ⟨I2, ⟨m0, h0⟩, hr⟩ := h; refine yaC (fun m E ds w' => ∃ v, I2 m v ∧ ds = [] ∧ E 0 = (Value.slice As1 ls1 cs1) ∧ E 1 = (Value.slice As2 ls2 cs2) ∧ E 9 = (Value.slice As1 ls1 cs1) ∧ E 10 = (ii ((s1.length : Nat) : Int)) ∧ E 11 = (ii v) ∧ Sep w no O w' (rl [Res.ro (FP.sl cI As1 ls1 cs1 s1), Res.ro (FP.sl cI As2 ls2 cs2 s2)])) m0 ⟨_, h0, rfl, rfl, rfl, rfl, rfl, rfl, (hS.sel [0, 1] (by decide))⟩ ?_; clear h0 hS; rintro m2 E ds w2 ⟨v, h, rfl, hE0, hE1, hE9, hE10, hE11, hS⟩ again; replace h := hr m2 v h; clear hr; refine zs (zq (ycR hE11 hE10) (yaa (yae ?_))); by_cases hp : v < ((s1.length : Nat) : Int)
  · replace h := h.1 hp; refine zc hp (yah (yae (yak (zs (zq (yad hE11) ?_))))); obtain ⟨hx, h⟩ := h; refine zq (ybw hE9 hE11 underlying41 yag (yaQ (hS.rdr 0 rfl) hx)) (zq (yax (v := (ii (gi s1 v.toNat))) rfl underlying3 rfl (rd_1 (hS.rdr 0 rfl) hx (fun q => yaF q) rfl)) ?_); refine zq (za (ii v)) (zq (za (ii (gi s1 v.toNat))) (yaa (yae (zs (zq (zm (ii v)) (zq (yad hE1) (zq (yaV (n := s2.length) rfl underlying41 (yaR (hS.rdr 1 rfl))) (zq (v_geq rfl rfl) (yaa ?_))))))))); by_cases hp2 : ((s2.length : Nat) : Int) ≤ v
    · replace h := h.1 hp2; exact zc hp2 (zs (zq (za (ii 1)) (yaa (yal rfl rfl ⟨_, rfl, (hS.sel [] (by decide)), h⟩))))
    · replace h := h.2 hp2; refine zd hp2 (yah (zs (zq (yad hE1) (zq (zm (ii v)) ?_)))); obtain ⟨hx2, h⟩ := h; refine zq (zi underlying41 yag (yaQ (hS.rdr 1 rfl) hx2)) (zq (yax (v := (ii (gi s2 v.toNat))) rfl underlying3 rfl (rd_1 (hS.rdr 1 rfl) hx2 (fun q => yaF q) rfl)) ?_); refine zq (za (ii (gi s2 v.toNat))) (yaa (zs (zq (zm (ii (gi s1 v.toNat))) (zq (zm (ii (gi s2 v.toNat))) (zn (yam rfl (am2 rfl rfl) enter_69 ((ycV h (yaG _)).mono ?_))))))); rintro _ w3 ⟨r, rfl, hC, h⟩; replace hS := hS.pur hC.pure; clear hC; refine ⟨_, rfl, ?_⟩; refine zb (zq (za (ii r)) (yaa (zs (zq (zm (ii r)) (zq zN (yaa ?_)))))); by_cases hp3 : r = 0
      · replace h := h.1 hp3; refine ze hp3 (yah (yaj (zr ?_))); obtain ⟨hi, h⟩ := h; refine zq (ybf hE11 rfl hi) (zq (zm (ii (v + 1))) (yaa ?_)); obtain ⟨mq, hlt, h⟩ := h; exact again mq _ _ _ ⟨_, h, rfl, hE0, hE1, hE9, hE10, rfl, (hS.sel [0, 1] (by decide))⟩ hlt
      · replace h := h.2 hp3; exact zf hp3 (zs (zq (zm (ii r)) (zq (za (ii r)) (yaa (yal rfl rfl ⟨_, rfl, (hS.sel [] (by decide)), h⟩)))))
  · replace h := h.2 hp; refine zd hp (yay rfl (yae (zs (zq (yad hE0) (zq (yaV (n := s1.length) rfl underlying41 (yaR (hS.rdr 0 rfl))) (zq (yad hE1) (zq (yaV (n := s2.length) rfl underlying41 (yaR (hS.rdr 1 rfl))) (zq zL (yaa ?_))))))))); by_cases hp4 : ((s1.length : Nat) : Int) < ((s2.length : Nat) : Int)
    · replace h := h.1 hp4; exact zc hp4 (zs (zq (za (ii (-1))) (yaa (yal rfl rfl ⟨_, rfl, (hS.sel [] (by decide)), h⟩))))
    · replace h := h.2 hp4; exact zd hp4 (yah (zs (zq (za (ii 0)) (yaa (yal rfl rfl ⟨_, rfl, (hS.sel [] (by decide)), h⟩)))))
def ybe (s : List Int) (R : (List Int) → Prop) : Prop :=
(∀ nil : Bool, (nil = true → s = []) →
((nil = true →
R ([])) ∧
(¬ (nil = true) →
(0 + s.length ≤ 1000000000 ∧
R ([] ++ s)))))
theorem yew {O : Nat → Prop} {w : World} {s As ls cs} {R : (List Int) → Prop} (h : ybe s R) (hO : ∀ k, O k → k < w.heap.size) (hA0 : (FP.sl cI As ls cs s).P O w) :
    Calls Try.prog 48 #[(.slice As ls cs)] w fun e w' => ∃ r Ar lr cr, e = .returned (.slice Ar lr cr) ∧ Sep w no O w' (rl [Res.own cI 3 Ar lr cr r]) ∧ R r := by
  unfold ybe at h; have hS : Sep w no O w (rl [Res.ro (FP.sl cI As ls cs s)]) := Sep.startl hO [(FP.sl cI As ls cs s)] ⟨hA0, trivial⟩; refine yan (l := [(.slice As ls cs)]) func48 rfl ntmps48 (Nat.le_of_ble_eq_true rfl) (zs (zq (za (.slice none 0 0)) (yaa (yae (zs (zq (zm (.slice As ls cs)) ?_)))))); obtain ⟨nil, hn⟩ : ∃ b, Option.isNone As = b := ⟨_, rfl⟩; replace h := h nil (by rw [← hn]; exact rd_nil (hS.rdr 0 rfl)); refine zq (v_seqlx rfl rfl underlying41 hn) (yaa ?_); by_cases hp : nil = true
  · replace h := h.1 hp; refine yaq (congrArg Value.bool hp) (zs (zq (za (.slice none 0 0)) (yaa ?_))); replace hS := hS.nil 1 rfl cI 3; exact yal rfl rfl ⟨_, _, _, _, rfl, (hS.sel [1] (by decide)), h⟩
  · replace h := h.2 hp; refine yaA (congrArg Value.bool (Bool.eq_false_iff.2 hp)) (yah (zs (zn (ybd (l := []) (cells := []) (bp0) underlying41 yag rfl rfl ?_)))); intro g w2 hN; replace hS := hS.litf (n := 0) 1 rfl (fI .i64) hN ([] : List Int) rfl (by decide) rfl; clear hN; refine zb (zq (zm (.slice As ls cs)) ?_); obtain ⟨hx, h⟩ := h; refine zn (n_app (c := cI) rfl rfl underlying41 underlying41 yag rfl rfl (by decide) hS 1 rfl (hS.yr 0 rfl) hx ?_); clear hS; intro A c w3 hS; exact zb (zq (za (.slice A (0 + ls) c)) (yaa (yal rfl rfl ⟨_, _, _, _, rfl, (hS.sel [1] (by decide)), h⟩)))
def yeL (g : Int) (g2 : List E3) (vertices : List Int) (R : Int → Prop) : Prop :=
ybN g g2 (fun r =>
((r = 0 →
(∃ I2 : Nat → Int → Prop, (∃ m0, I2 m0 0) ∧ ∀ m2 v, I2 m2 v → 
((v < ((vertices.length : Nat) : Int) →
((0 ≤ v ∧ v < ((vertices.length : Nat) : Int)) ∧
ybx g (gi vertices v.toNat) (fun r2 =>
((r2 = true →
(In64 (v + 1) ∧
∃ m3, m3 < m2 ∧ I2 m3 (v + 1))) ∧
(¬ (r2 = true) →
R 2))))) ∧
(¬ (v < ((vertices.length : Nat) : Int)) →
R 0)))) ∧
(¬ (r = 0) →
R r)))
theorem pok_graph_at {O : Nat → Prop} {w : World} {g g2 vertices Ag lg cg Avertices lvertices cvertices} {R : Int → Prop} (h : yeL g g2 vertices R) (hO : ∀ k, O k → k < w.heap.size) (hA0 : (FP.sl c3 Ag lg cg g2).P O w) (hA1 : (FP.sl cI Avertices lvertices cvertices vertices).P O w) :
    Calls Try.prog 68 #[(.agg #[(ii g), (.slice Ag lg cg)]), (.slice Avertices lvertices cvertices)] w fun e w' => ∃ r3, e = .returned (ii r3) ∧ Sep w no O w' (rl []) ∧ R r3 := by
  unfold yeL at h; have hS : Sep w no O w (rl [Res.ro (FP.sl c3 Ag lg cg g2), Res.ro (FP.sl cI Avertices lvertices cvertices vertices)]) := Sep.startl hO [(FP.sl c3 Ag lg cg g2), (FP.sl cI Avertices lvertices cvertices vertices)] ⟨hA0, hA1, trivial⟩; refine yan (l := [(.agg #[(ii g), (.slice Ag lg cg)]), (.slice Avertices lvertices cvertices)]) func68 rfl ntmps68 (Nat.le_of_ble_eq_true rfl) (zs (zn (ybO (v := (.agg #[(ii g), (.slice Ag lg cg)])) rfl ?_))); intro g3 w2 hN; replace hS : Sep w no O w2 (stl _ 2 (Res.box 24 g3 [(ii g), (.slice Ag lg cg)])) := hS.new 2 rfl hN; clear hN; refine zb (zq (za (ii 0)) (yaa (yae (zs (zq (yar (vs := [(ii g), (.slice Ag lg cg)]) rfl underlying24 rfl yap ⟨Row.cell (hS.bx 2 rfl) (i := 0) rfl, Row.cell (hS.bx 2 rfl) (i := 1) rfl, trivial⟩) (zn (yam rfl (am1 rfl) enter_72 ((ydX h (yaG _) (hS.rdr 0 rfl)).mono ?_)))))))); rintro _ w3 ⟨r, rfl, hC, h⟩; replace hS := hS.pur hC.pure; clear hC; refine ⟨_, rfl, ?_⟩; refine zb (zq (za (ii r)) (yaa (zs (zq (zm (ii r)) (zq zN (yaa ?_)))))); by_cases hp : r = 0
  · replace h := h.1 hp; refine ze hp (yah (yae (zs (zq (zm (.slice Avertices lvertices cvertices)) (zq (yaV (n := vertices.length) rfl underlying25 (yaR (hS.rdr 1 rfl))) (zq (zm (ii 0)) (yaa (yak ?_)))))))); obtain ⟨I2, ⟨m0, h0⟩, hr⟩ := h; refine yaC (fun m E ds w' => ∃ v, I2 m v ∧ ds = [] ∧ E 2 = (Value.pointer (some (⟨g3, 0, none⟩ : Addr))) ∧ E 13 = (Value.slice Avertices lvertices cvertices) ∧ E 14 = (ii ((vertices.length : Nat) : Int)) ∧ E 15 = (ii v) ∧ Sep w no O w' (rl [Res.box 24 g3 [(ii g), (.slice Ag lg cg)], Res.ro (FP.sl c3 Ag lg cg g2), Res.ro (FP.sl cI Avertices lvertices cvertices vertices)])) m0 ⟨_, h0, rfl, rfl, rfl, rfl, rfl, (hS.sel [2, 0, 1] (by decide))⟩ ?_; clear h0 hS; rintro m2 E ds w4 ⟨v, h, rfl, hE2, hE13, hE14, hE15, hS⟩ again; replace h := hr m2 v h; clear hr; refine zs (zq (ycR hE15 hE14) (yaa (yae ?_))); by_cases hp2 : v < ((vertices.length : Nat) : Int)
    · replace h := h.1 hp2; refine zc hp2 (yah (yae (yak (zs ?_)))); obtain ⟨hx, h⟩ := h; refine zq (ybw hE13 hE15 underlying25 yag (yaQ (hS.rdr 2 rfl) hx)) (zq (yax (v := (ii (gi vertices v.toNat))) rfl underlying3 rfl (rd_1 (hS.rdr 2 rfl) hx (fun q => yaF q) rfl)) ?_); refine zq (za (ii (gi vertices v.toNat))) (yaa (zs (zq (yai hE2 underlying24 rfl yag) (zq (zl underlying3 (Row.cell (hS.bx 0 rfl) (i := 0) rfl)) (zq (zm (ii (gi vertices v.toNat))) (zn (yam rfl (am2 rfl rfl) enter_84 ((ydI h (yaG _)).mono ?_)))))))); rintro _ w5 ⟨r2, rfl, hC, h⟩; replace hS := hS.pur hC.pure; clear hC; refine ⟨_, rfl, ?_⟩; refine zb (zq (ydm rfl) (yaa ?_)); by_cases hp3 : r2 = true
      · replace h := h.1 hp3; refine yaA (congrArg Value.bool (congrArg Bool.not hp3)) (yah (yaj (zr ?_))); obtain ⟨hi, h⟩ := h; refine zq (ybf hE15 rfl hi) (zq (zm (ii (v + 1))) (yaa ?_)); obtain ⟨mq, hlt, h⟩ := h; exact again mq _ _ _ ⟨_, h, rfl, hE2, hE13, hE14, rfl, (hS.sel [0, 1, 2] (by decide))⟩ hlt
      · replace h := h.2 hp3; exact yaq (congrArg Value.bool (congrArg Bool.not (Bool.eq_false_iff.2 hp3))) (zs (zq (za (ii 2)) (yaa (yal rfl rfl ⟨_, rfl, (hS.sel [] (by decide)), h⟩))))
    · replace h := h.2 hp2; exact zd hp2 (yay rfl (zs (zq (za (ii 0)) (yaa (yal rfl rfl ⟨_, rfl, (hS.sel [] (by decide)), h⟩)))))
  · replace h := h.2 hp; exact zf hp (zs (zq (zm (ii r)) (zq (za (ii r)) (yaa (yal rfl rfl ⟨_, rfl, (hS.sel [] (by decide)), h⟩)))))
def yb6 (g : Int) (g2 : List E3) (v : Int) (R : Int → Int → Prop) : Prop :=
yeL g g2 ([v]) (fun r =>
((r = 0 →
(∃ I2 : Nat → Int → Int → Prop, (∃ m0, I2 m0 0 0) ∧ ∀ m2 n v2, I2 m2 n v2 → 
((v2 < ((g2.length : Nat) : Int) →
((0 ≤ v2 ∧ v2 < ((g2.length : Nat) : Int)) ∧
((((ge g2 v2.toNat).1) = ((ge g2 v2.toNat).2.1) →
(In64 (v2 + 1) ∧
∃ m3, m3 < m2 ∧ I2 m3 n (v2 + 1))) ∧
(¬ (((ge g2 v2.toNat).1) = ((ge g2 v2.toNat).2.1)) →
((((ge g2 v2.toNat).1) = v →
(In64 (n + ((ge g2 v2.toNat).2.2)) ∧
(In64 (v2 + 1) ∧
∃ m4, m4 < m2 ∧ I2 m4 (n + ((ge g2 v2.toNat).2.2)) (v2 + 1)))) ∧
(¬ (((ge g2 v2.toNat).1) = v) →
((((ge g2 v2.toNat).2.1) = v →
(In64 (n + ((ge g2 v2.toNat).2.2)) ∧
(In64 (v2 + 1) ∧
∃ m5, m5 < m2 ∧ I2 m5 (n + ((ge g2 v2.toNat).2.2)) (v2 + 1)))) ∧
(¬ (((ge g2 v2.toNat).2.1) = v) →
(In64 (v2 + 1) ∧
∃ m6, m6 < m2 ∧ I2 m6 n (v2 + 1)))))))))) ∧
(¬ (v2 < ((g2.length : Nat) : Int)) →
R n 0)))) ∧
(¬ (r = 0) →
R 0 r)))
theorem ygk {O : Nat → Prop} {w : World} {g g2 v Ag lg cg} {R : Int → Int → Prop} (h : yb6 g g2 v R) (hO : ∀ k, O k → k < w.heap.size) (hA0 : (FP.sl c3 Ag lg cg g2).P O w) :
    Calls Try.prog 44 #[(.agg #[(ii g), (.slice Ag lg cg)]), (ii v)] w fun e w' => ∃ r2 r3, e = .returned (.tuple #[(ii r2), (ii r3)]) ∧ Sep w no O w' (rl []) ∧ R r2 r3 := by
  unfold yb6 at h; have hS : Sep w no O w (rl [Res.ro (FP.sl c3 Ag lg cg g2)]) := Sep.startl hO [(FP.sl c3 Ag lg cg g2)] ⟨hA0, trivial⟩; refine yan (l := [(.agg #[(ii g), (.slice Ag lg cg)]), (ii v)]) func44 rfl ntmps44 (Nat.le_of_ble_eq_true rfl) (zs (zn (ybO (v := (.agg #[(ii g), (.slice Ag lg cg)])) rfl ?_))); intro g3 w2 hN; replace hS : Sep w no O w2 (stl _ 1 (Res.box 24 g3 [(ii g), (.slice Ag lg cg)])) := hS.new 1 rfl hN; clear hN; refine zb (zq (za (ii 0)) (zq (za (ii 0)) (yaa (yae (zs (zq (yar (vs := [(ii g), (.slice Ag lg cg)]) rfl underlying24 rfl yap ⟨Row.cell (hS.bx 1 rfl) (i := 0) rfl, Row.cell (hS.bx 1 rfl) (i := 1) rfl, trivial⟩) (zq (zm (ii v)) (zn (ybd (l := [(0, (ii v))]) (cells := [(ii v)]) (bp1 rfl) underlying25 yag rfl rfl ?_))))))))); intro g4 w3 hN; replace hS := hS.litf (n := 1) 2 rfl (fI .i64) hN ([v] : List Int) rfl (by decide) rfl; clear hN; refine zb (zn (yam rfl (am2 rfl rfl) enter_68 ((pok_graph_at h (yaG _) (hS.rdr 0 rfl) (hS.rdo 2 rfl)).mono ?_))); rintro _ w4 ⟨r, rfl, hC, h⟩; replace hS := hS.pur hC.pure; clear hC; refine ⟨_, rfl, ?_⟩; refine zb (zq (za (ii r)) (yaa (zs (zq (zm (ii r)) (zq zN (yaa ?_)))))); by_cases hp : r = 0
  · replace h := h.1 hp; refine ze hp (yah (zs (zq (za (ii 0)) (yaa (yae (zs (zq (yai rfl underlying24 rfl yb0) (zq (zl underlying22 (Row.cell (hS.bx 1 rfl) (i := 1) rfl)) (zq (yaV (n := g2.length) rfl underlying22 (yaR (hS.rdr 0 rfl))) (zq (zm (ii 0)) (yaa (yak ?_)))))))))))); obtain ⟨I2, ⟨m0, h0⟩, hr⟩ := h; refine yaC (fun m E ds w' => ∃ n v2, I2 m n v2 ∧ ds = [] ∧ E 1 = (ii v) ∧ E 7 = (ii n) ∧ E 18 = (Value.slice Ag lg cg) ∧ E 19 = (ii ((g2.length : Nat) : Int)) ∧ E 20 = (ii v2) ∧ Sep w no O w' (rl [Res.ro (FP.sl c3 Ag lg cg g2)])) m0 ⟨_, _, h0, rfl, rfl, rfl, rfl, rfl, rfl, (hS.sel [0] (by decide))⟩ ?_; clear h0 hS; rintro m2 E ds w5 ⟨n, v2, h, rfl, hE1, hE7, hE18, hE19, hE20, hS⟩ again; replace h := hr m2 n v2 h; clear hr; refine zs (zq (ycR hE20 hE19) (yaa (yae ?_))); by_cases hp2 : v2 < ((g2.length : Nat) : Int)
    · replace h := h.1 hp2; refine zc hp2 (yah (yae (yak (zs ?_)))); obtain ⟨hx, h⟩ := h; refine zq (ybw hE18 hE20 underlying22 yaE (yaQ (hS.rdr 0 rfl) hx)) (zq (yar (vs := [(ii ((ge g2 v2.toNat).1)), (ii ((ge g2 v2.toNat).2.1)), (ii ((ge g2 v2.toNat).2.2))]) rfl underlying51 rfl yaE (rd_fs (hS.rdr 0 rfl) hx (fun q => ycN q))) ?_); refine zn (ya4 yaE ?_); intro g5 w6 hN; replace hS : Sep w no O w6 (stl _ 1 (Res.box 51 g5 [(ii 0), (ii 0), (ii 0)])) := hS.new 1 rfl hN; clear hN; refine zb (zo (ybg (b := g5) (o := 0) (cells := #[(ii ((ge g2 v2.toNat).1)), (ii ((ge g2 v2.toNat).2.1)), (ii ((ge g2 v2.toNat).2.2))]) rfl rfl yaE rfl rfl (yaY (hS.bx 1 rfl) (Nat.le_of_ble_eq_true rfl)) ?_)); intro w7 e1; replace hS := hS.bstn 1 rfl 0 [(ii ((ge g2 v2.toNat).1)), (ii ((ge g2 v2.toNat).2.1)), (ii ((ge g2 v2.toNat).2.2))] e1; clear e1; refine zb (yaa (zs (zq (yai rfl underlying51 rfl yag) (zq (zl underlying3 (Row.cell (hS.bx 1 rfl) (i := 0) rfl)) (zq (yai rfl underlying51 rfl yag) (zq (zl underlying3 (Row.cell (hS.bx 1 rfl) (i := 1) rfl)) (zq zN (zq (zm (.bool (!(decide (((ge g2 v2.toNat).1) = ((ge g2 v2.toNat).2.1)))))) ?_)))))))); by_cases hp3 : ((ge g2 v2.toNat).1) = ((ge g2 v2.toNat).2.1)
      · replace h := h.1 hp3; refine rl_p (yab rfl (yaf rfl (congrArg Value.bool (congrArg Bool.not (decide_eq_true hp3)))) rfl) rfl (rl_p (yab rfl (yaf rfl (congrArg Value.bool (congrArg Bool.not (decide_eq_true hp3)))) rfl) rfl (rl_p (yab rfl (yaf rfl (congrArg Value.bool (congrArg Bool.not (decide_eq_true hp3)))) rfl) rfl (rl_p (yab rfl (yaf rfl (congrArg Value.bool (congrArg Bool.not (decide_eq_true hp3)))) rfl) rfl (rl_p (yab rfl (yaf rfl (congrArg Value.bool (congrArg Bool.not (decide_eq_true hp3)))) rfl) rfl (rl_p (ybG rfl rfl) rfl (rl_p (ybG rfl rfl) rfl (rl_p (ybG rfl rfl) rfl (rl_p (ybG rfl rfl) rfl (rl_p (yab rfl (yaf rfl (congrArg Value.bool (congrArg Bool.not (decide_eq_true hp3)))) rfl) rfl (zq (yav (v := (.bool (false))) (congrArg Value.bool (congrArg Bool.not (decide_eq_true hp3))) rfl) (yaa (yaA rfl (yah (yaj (zr ?_))))))))))))))); obtain ⟨hi, h⟩ := h; refine zq (ybf hE20 rfl hi) (zq (zm (ii (v2 + 1))) (yaa ?_)); obtain ⟨mq, hlt, h⟩ := h; exact again mq _ _ _ ⟨_, _, h, rfl, hE1, hE7, hE18, hE19, rfl, (hS.sel [0] (by decide))⟩ hlt
      · replace h := h.2 hp3; refine rl_q (yac rfl (yaf rfl (congrArg Value.bool (congrArg Bool.not (decide_eq_false hp3))))) rfl rfl (yai rfl underlying51 rfl yag) (rl_q (yac rfl (yaf rfl (congrArg Value.bool (congrArg Bool.not (decide_eq_false hp3))))) rfl rfl (zl underlying3 (Row.cell (hS.bx 1 rfl) (i := 0) rfl)) (rl_q (yac rfl (yaf rfl (congrArg Value.bool (congrArg Bool.not (decide_eq_false hp3))))) rfl rfl (yad hE1) (rl_q (yac rfl (yaf rfl (congrArg Value.bool (congrArg Bool.not (decide_eq_false hp3))))) rfl rfl zE (rl_q (yac rfl (yaf rfl (congrArg Value.bool (congrArg Bool.not (decide_eq_false hp3))))) rfl rfl (zm (.bool (decide (((ge g2 v2.toNat).1) = v)))) ?_)))); by_cases hp4 : ((ge g2 v2.toNat).1) = v
        · replace h := h.1 hp4; refine rl_p (yab rfl (yaf rfl (congrArg Value.bool (decide_eq_true hp4))) rfl) rfl (rl_p (yab rfl (yaf rfl (congrArg Value.bool (decide_eq_true hp4))) rfl) rfl (rl_p (yab rfl (yaf rfl (congrArg Value.bool (decide_eq_true hp4))) rfl) rfl (rl_p (yab rfl (yaf rfl (congrArg Value.bool (decide_eq_true hp4))) rfl) rfl (rl_q (yac rfl (yaf rfl (congrArg Value.bool (congrArg Bool.not (decide_eq_false hp3))))) rfl rfl (yat (v := (.bool (true))) (congrArg Value.bool (decide_eq_true hp4)) rfl) (zq (yat (v := (.bool (true))) (congrArg Value.bool (congrArg Bool.not (decide_eq_false hp3))) rfl) (yaa (yaq rfl (zr (zq (yad hE7) (zq (yai rfl underlying51 rfl yag) (zq (zl underlying3 (Row.cell (hS.bx 1 rfl) (i := 2) rfl)) ?_))))))))))); obtain ⟨hi2, h⟩ := h; refine zq (zA hi2) (zq (za (ii (n + ((ge g2 v2.toNat).2.2)))) (yaa (yaj (zr ?_)))); obtain ⟨hi3, h⟩ := h; refine zq (ybf hE20 rfl hi3) (zq (zm (ii (v2 + 1))) (yaa ?_)); obtain ⟨mq, hlt, h⟩ := h; exact again mq _ _ _ ⟨_, _, h, rfl, hE1, rfl, hE18, hE19, rfl, (hS.sel [0] (by decide))⟩ hlt
        · replace h := h.2 hp4; refine rl_q (yac rfl (yaf rfl (congrArg Value.bool (decide_eq_false hp4)))) rfl rfl (yai rfl underlying51 rfl yag) (rl_q (yac rfl (yaf rfl (congrArg Value.bool (decide_eq_false hp4)))) rfl rfl (zl underlying3 (Row.cell (hS.bx 1 rfl) (i := 1) rfl)) (rl_q (yac rfl (yaf rfl (congrArg Value.bool (decide_eq_false hp4)))) rfl rfl (yad hE1) (rl_q (yac rfl (yaf rfl (congrArg Value.bool (decide_eq_false hp4)))) rfl rfl zE (rl_q (yac rfl (yaf rfl (congrArg Value.bool (congrArg Bool.not (decide_eq_false hp3))))) rfl rfl (yav (v := (.bool (decide (((ge g2 v2.toNat).2.1) = v)))) (congrArg Value.bool (decide_eq_false hp4)) rfl) (zq (yat (v := (.bool (decide (((ge g2 v2.toNat).2.1) = v)))) (congrArg Value.bool (congrArg Bool.not (decide_eq_false hp3))) rfl) (yaa ?_)))))); by_cases hp5 : ((ge g2 v2.toNat).2.1) = v
          · replace h := h.1 hp5; refine zc hp5 (zr (zq (yad hE7) (zq (yai rfl underlying51 rfl yag) (zq (zl underlying3 (Row.cell (hS.bx 1 rfl) (i := 2) rfl)) ?_)))); obtain ⟨hi4, h⟩ := h; refine zq (zA hi4) (zq (za (ii (n + ((ge g2 v2.toNat).2.2)))) (yaa (yaj (zr ?_)))); obtain ⟨hi5, h⟩ := h; refine zq (ybf hE20 rfl hi5) (zq (zm (ii (v2 + 1))) (yaa ?_)); obtain ⟨mq, hlt, h⟩ := h; exact again mq _ _ _ ⟨_, _, h, rfl, hE1, rfl, hE18, hE19, rfl, (hS.sel [0] (by decide))⟩ hlt
          · replace h := h.2 hp5; refine zd hp5 (yah (yaj (zr ?_))); obtain ⟨hi6, h⟩ := h; refine zq (ybf hE20 rfl hi6) (zq (zm (ii (v2 + 1))) (yaa ?_)); obtain ⟨mq, hlt, h⟩ := h; exact again mq _ _ _ ⟨_, _, h, rfl, hE1, hE7, hE18, hE19, rfl, (hS.sel [0] (by decide))⟩ hlt
    · replace h := h.2 hp2; exact zd hp2 (yay rfl (zs (zq (yad hE7) (zq (za (ii n)) (zq (za (ii 0)) (yaa (yaK rfl rfl rfl ⟨_, _, rfl, (hS.sel [] (by decide)), h⟩)))))))
  · replace h := h.2 hp; exact zf hp (zs (zq (zm (ii r)) (zq (za (ii 0)) (zq (za (ii r)) (yaa (yaK rfl rfl rfl ⟨_, _, rfl, (hS.sel [] (by decide)), h⟩))))))
def ydB (d : List Int) (R : Bool → Prop) : Prop :=
(∃ I2 : Nat → Int → Prop, (∃ m0, I2 m0 0) ∧ ∀ m2 v, I2 m2 v → 
((v < ((d.length : Nat) : Int) →
((0 ≤ v ∧ v < ((d.length : Nat) : Int)) ∧
(((gi d v.toNat) < (-60) →
R false) ∧
(¬ ((gi d v.toNat) < (-60)) →
((60 < (gi d v.toNat) →
R false) ∧
(¬ (60 < (gi d v.toNat)) →
(In64 (v + 1) ∧
∃ m3, m3 < m2 ∧ I2 m3 (v + 1)))))))) ∧
(¬ (v < ((d.length : Nat) : Int)) →
R true)))
theorem pok_r17_Small {O : Nat → Prop} {w : World} {d Ad ld cd} {R : Bool → Prop} (h : ydB d R) (hO : ∀ k, O k → k < w.heap.size) (hA0 : (FP.sl cI Ad ld cd d).P O w) :
    Calls Try.prog 6 #[(.slice Ad ld cd)] w fun e w' => ∃ r, e = .returned (.bool (r)) ∧ Sep w no O w' (rl []) ∧ R r := by
  unfold ydB at h; have hS : Sep w no O w (rl [Res.ro (FP.sl cI Ad ld cd d)]) := Sep.startl hO [(FP.sl cI Ad ld cd d)] ⟨hA0, trivial⟩; refine yan (l := [(.slice Ad ld cd)]) func6 rfl ntmps6 (Nat.le_of_ble_eq_true rfl) (zs (zq (za (.bool (false))) (yaa (yae (zs (zq (za (ii 0)) (yaa (yak ?_)))))))); obtain ⟨I2, ⟨m0, h0⟩, hr⟩ := h; refine yaC (fun m E ds w' => ∃ v, I2 m v ∧ ds = [] ∧ E 0 = (Value.slice Ad ld cd) ∧ E 3 = (ii v) ∧ Sep w no O w' (rl [Res.ro (FP.sl cI Ad ld cd d)])) m0 ⟨_, h0, rfl, rfl, rfl, (hS.sel [0] (by decide))⟩ ?_; clear h0 hS; rintro m2 E ds w2 ⟨v, h, rfl, hE0, hE3, hS⟩ again; replace h := hr m2 v h; clear hr; refine yae (zs (zq (yad hE3) (zq (yad hE0) (zq (yaV (n := d.length) rfl underlying26 (yaR (hS.rdr 0 rfl))) (zq zL (yaa ?_)))))); by_cases hp : v < ((d.length : Nat) : Int)
  · replace h := h.1 hp; refine zc hp (yah (yae (yak (zs (zq (yad hE0) (zq (yad hE3) ?_)))))); obtain ⟨hx, h⟩ := h; refine zq (zi underlying26 yag (yaQ (hS.rdr 0 rfl) hx)) (zq (yax (v := (ii (gi d v.toNat))) rfl underlying3 rfl (rd_1 (hS.rdr 0 rfl) hx (fun q => yaF q) rfl)) ?_); refine zq zL (zq (zm (.bool (decide ((gi d v.toNat) < (-60))))) ?_); by_cases hp2 : (gi d v.toNat) < (-60)
    · replace h := h.1 hp2; exact rl_p (yab rfl (yaf rfl (congrArg Value.bool (decide_eq_true hp2))) rfl) rfl (rl_p (yab rfl (yaf rfl (congrArg Value.bool (decide_eq_true hp2))) rfl) rfl (rl_p (yab rfl (yaf rfl (congrArg Value.bool (decide_eq_true hp2))) rfl) rfl (rl_p (yab rfl (yaf rfl (congrArg Value.bool (decide_eq_true hp2))) rfl) rfl (rl_p (yab rfl (yaf rfl (congrArg Value.bool (decide_eq_true hp2))) rfl) rfl (zq (yat (v := (.bool (true))) (congrArg Value.bool (decide_eq_true hp2)) rfl) (yaa (yaq rfl (zs (zq (za (.bool (false))) (yaa (yal rfl rfl ⟨_, rfl, (hS.sel [] (by decide)), h⟩)))))))))))
    · replace h := h.2 hp2; refine rl_q (yac rfl (yaf rfl (congrArg Value.bool (decide_eq_false hp2)))) rfl rfl (yad hE0) (rl_q (yac rfl (yaf rfl (congrArg Value.bool (decide_eq_false hp2)))) rfl rfl (yad hE3) (rl_q (yac rfl (yaf rfl (congrArg Value.bool (decide_eq_false hp2)))) rfl rfl (zi underlying26 yag (yaQ (hS.rdr 0 rfl) hx)) (rl_q (yac rfl (yaf rfl (congrArg Value.bool (decide_eq_false hp2)))) rfl rfl (yax (v := (ii (gi d v.toNat))) rfl underlying3 rfl (rd_1 (hS.rdr 0 rfl) hx (fun q => yaF q) rfl)) ?_))); refine rl_q (yac rfl (yaf rfl (congrArg Value.bool (decide_eq_false hp2)))) rfl rfl zG (zq (yav (v := (.bool (decide (60 < (gi d v.toNat))))) (congrArg Value.bool (decide_eq_false hp2)) rfl) (yaa ?_)); by_cases hp3 : 60 < (gi d v.toNat)
      · replace h := h.1 hp3; exact zc hp3 (zs (zq (za (.bool (false))) (yaa (yal rfl rfl ⟨_, rfl, (hS.sel [] (by decide)), h⟩))))
      · replace h := h.2 hp3; refine zd hp3 (yah (yaj (zr (zq (yad hE3) ?_)))); obtain ⟨hi, h⟩ := h; refine zq (zA hi) (zq (za (ii (v + 1))) (yaa ?_)); obtain ⟨mq, hlt, h⟩ := h; exact again mq _ _ _ ⟨_, h, rfl, hE0, rfl, (hS.sel [0] (by decide))⟩ hlt
  · replace h := h.2 hp; exact zd hp (yay rfl (zs (zq (za (.bool (true))) (yaa (yal rfl rfl ⟨_, rfl, (hS.sel [] (by decide)), h⟩)))))
def yd5 (g : Int) (g2 : List E3) (R : Int → Prop) : Prop :=
yc0 g g2 (fun r =>
((r = 0 →
ycU g g2 (fun r2 =>
((r2 = true →
R 0) ∧
(¬ (r2 = true) →
R 13)))) ∧
(¬ (r = 0) →
R r)))
theorem pok_r43_Table {O : Nat → Prop} {w : World} {g g2 Ag lg cg} {R : Int → Prop} (h : yd5 g g2 R) (hO : ∀ k, O k → k < w.heap.size) (hA0 : (FP.sl c3 Ag lg cg g2).P O w) :
    Calls Try.prog 11 #[(.agg #[(ii g), (.slice Ag lg cg)])] w fun e w' => ∃ r3, e = .returned (ii r3) ∧ Sep w no O w' (rl []) ∧ R r3 := by
  unfold yd5 at h; have hS : Sep w no O w (rl [Res.ro (FP.sl c3 Ag lg cg g2)]) := Sep.startl hO [(FP.sl c3 Ag lg cg g2)] ⟨hA0, trivial⟩; refine yan (l := [(.agg #[(ii g), (.slice Ag lg cg)])]) func11 rfl ntmps11 (Nat.le_of_ble_eq_true rfl) (zs (zn (ybO (v := (.agg #[(ii g), (.slice Ag lg cg)])) rfl ?_))); intro g3 w2 hN; replace hS : Sep w no O w2 (stl _ 1 (Res.box 24 g3 [(ii g), (.slice Ag lg cg)])) := hS.new 1 rfl hN; clear hN; refine zb (zq (za (ii 0)) (yaa (yae (zs (zq (yar (vs := [(ii g), (.slice Ag lg cg)]) rfl underlying24 rfl yap ⟨Row.cell (hS.bx 1 rfl) (i := 0) rfl, Row.cell (hS.bx 1 rfl) (i := 1) rfl, trivial⟩) (zn (yam rfl (am1 rfl) enter_20 ((yfX h (yaG _) (hS.rdr 0 rfl)).mono ?_)))))))); rintro _ w3 ⟨r, rfl, hC, h⟩; replace hS := hS.pur hC.pure; clear hC; refine ⟨_, rfl, ?_⟩; refine zb (zq (za (ii r)) (yaa (zs (zq (zm (ii r)) (zq zN (yaa ?_)))))); by_cases hp : r = 0
  · replace h := h.1 hp; refine ze hp (yah (yae (zs (zq (yar (vs := [(ii g), (.slice Ag lg cg)]) rfl underlying24 rfl yap ⟨Row.cell (hS.bx 1 rfl) (i := 0) rfl, Row.cell (hS.bx 1 rfl) (i := 1) rfl, trivial⟩) (zn (yam rfl (am1 rfl) enter_22 ((ygm h (yaG _) (hS.rdr 0 rfl)).mono ?_))))))); rintro _ w4 ⟨r2, rfl, hC, h⟩; replace hS := hS.pur hC.pure; clear hC; refine ⟨_, rfl, ?_⟩; refine zb (zq (ydm rfl) (yaa ?_)); by_cases hp2 : r2 = true
    · replace h := h.1 hp2; exact yaA (congrArg Value.bool (congrArg Bool.not hp2)) (yah (zs (zq (za (ii 0)) (yaa (yal rfl rfl ⟨_, rfl, (hS.sel [] (by decide)), h⟩)))))
    · replace h := h.2 hp2; exact yaq (congrArg Value.bool (congrArg Bool.not (Bool.eq_false_iff.2 hp2))) (zs (zq (za (ii 13)) (yaa (yal rfl rfl ⟨_, rfl, (hS.sel [] (by decide)), h⟩))))
  · replace h := h.2 hp; exact zf hp (zs (zq (zm (ii r)) (zq (za (ii r)) (yaa (yal rfl rfl ⟨_, rfl, (hS.sel [] (by decide)), h⟩)))))
def ydz (g : Int) (g2 : List E3) (d : List Int) (R : Int → Prop) : Prop :=
yd5 g g2 (fun r =>
((r = 0 →
ydw d g (fun r2 =>
R r2)) ∧
(¬ (r = 0) →
R r)))
theorem pok_r43_Given {O : Nat → Prop} {w : World} {g g2 d Ag lg cg Ad ld cd} {R : Int → Prop} (h : ydz g g2 d R) (hO : ∀ k, O k → k < w.heap.size) (hA0 : (FP.sl c3 Ag lg cg g2).P O w) (hA1 : (FP.sl cI Ad ld cd d).P O w) :
    Calls Try.prog 5 #[(.agg #[(ii g), (.slice Ag lg cg)]), (.slice Ad ld cd)] w fun e w' => ∃ r3, e = .returned (ii r3) ∧ Sep w no O w' (rl []) ∧ R r3 := by
  unfold ydz at h; have hS : Sep w no O w (rl [Res.ro (FP.sl c3 Ag lg cg g2), Res.ro (FP.sl cI Ad ld cd d)]) := Sep.startl hO [(FP.sl c3 Ag lg cg g2), (FP.sl cI Ad ld cd d)] ⟨hA0, hA1, trivial⟩; refine yan (l := [(.agg #[(ii g), (.slice Ag lg cg)]), (.slice Ad ld cd)]) func5 rfl ntmps5 (Nat.le_of_ble_eq_true rfl) (zs (zn (ybO (v := (.agg #[(ii g), (.slice Ag lg cg)])) rfl ?_))); intro g3 w2 hN; replace hS : Sep w no O w2 (stl _ 2 (Res.box 24 g3 [(ii g), (.slice Ag lg cg)])) := hS.new 2 rfl hN; clear hN; refine zb (zq (za (ii 0)) (yaa (yae (zs (zq (yar (vs := [(ii g), (.slice Ag lg cg)]) rfl underlying24 rfl yap ⟨Row.cell (hS.bx 2 rfl) (i := 0) rfl, Row.cell (hS.bx 2 rfl) (i := 1) rfl, trivial⟩) (zn (yam rfl (am1 rfl) enter_11 ((pok_r43_Table h (yaG _) (hS.rdr 0 rfl)).mono ?_)))))))); rintro _ w3 ⟨r, rfl, hC, h⟩; replace hS := hS.pur hC.pure; clear hC; refine ⟨_, rfl, ?_⟩; refine zb (zq (za (ii r)) (yaa (zs (zq (zm (ii r)) (zq zN (yaa ?_)))))); by_cases hp : r = 0
  · replace h := h.1 hp; refine ze hp (yah (zs (zq (zm (.slice Ad ld cd)) (zq (yai rfl underlying24 rfl yag) (zq (zl underlying3 (Row.cell (hS.bx 2 rfl) (i := 0) rfl)) (zn (yam rfl (am2 rfl rfl) enter_12 ((pok_r17_Check h (yaG _) (hS.rdr 1 rfl)).mono ?_)))))))); rintro _ w4 ⟨r2, rfl, hC, h⟩; replace hS := hS.pur hC.pure; clear hC; refine ⟨_, rfl, ?_⟩; exact zb (zq (za (ii r2)) (yaa (yal rfl rfl ⟨_, rfl, (hS.sel [] (by decide)), h⟩)))
  · replace h := h.2 hp; exact zf hp (zs (zq (zm (ii r)) (zq (za (ii r)) (yaa (yal rfl rfl ⟨_, rfl, (hS.sel [] (by decide)), h⟩)))))
def ydA (a : List Int) (b : List Int) (R : Int → Prop) : Prop :=
(∃ I2 : Nat → Int → Prop, (∃ m0, I2 m0 0) ∧ ∀ m2 v, I2 m2 v → 
((v < ((a.length : Nat) : Int) →
((0 ≤ v ∧ v < ((a.length : Nat) : Int)) ∧
((0 ≤ v ∧ v < ((b.length : Nat) : Int)) ∧
(((gi a v.toNat) < (gi b v.toNat) →
R (-1)) ∧
(¬ ((gi a v.toNat) < (gi b v.toNat)) →
(((gi b v.toNat) < (gi a v.toNat) →
R 1) ∧
(¬ ((gi b v.toNat) < (gi a v.toNat)) →
(In64 (v + 1) ∧
∃ m3, m3 < m2 ∧ I2 m3 (v + 1))))))))) ∧
(¬ (v < ((a.length : Nat) : Int)) →
R 0)))
theorem pok_r17_Order {O : Nat → Prop} {w : World} {a b Aa la ca Ab lb cb} {R : Int → Prop} (h : ydA a b R) (hO : ∀ k, O k → k < w.heap.size) (hA0 : (FP.sl cI Aa la ca a).P O w) (hA1 : (FP.sl cI Ab lb cb b).P O w) :
    Calls Try.prog 56 #[(.slice Aa la ca), (.slice Ab lb cb)] w fun e w' => ∃ r, e = .returned (ii r) ∧ Sep w no O w' (rl []) ∧ R r := by
  unfold ydA at h; have hS : Sep w no O w (rl [Res.ro (FP.sl cI Aa la ca a), Res.ro (FP.sl cI Ab lb cb b)]) := Sep.startl hO [(FP.sl cI Aa la ca a), (FP.sl cI Ab lb cb b)] ⟨hA0, hA1, trivial⟩; refine yan (l := [(.slice Aa la ca), (.slice Ab lb cb)]) func56 rfl ntmps56 (Nat.le_of_ble_eq_true rfl) (zs (zq (za (ii 0)) (yaa (yae (zs (zq (za (ii 0)) (yaa (yak ?_)))))))); obtain ⟨I2, ⟨m0, h0⟩, hr⟩ := h; refine yaC (fun m E ds w' => ∃ v, I2 m v ∧ ds = [] ∧ E 0 = (Value.slice Aa la ca) ∧ E 1 = (Value.slice Ab lb cb) ∧ E 5 = (ii v) ∧ Sep w no O w' (rl [Res.ro (FP.sl cI Aa la ca a), Res.ro (FP.sl cI Ab lb cb b)])) m0 ⟨_, h0, rfl, rfl, rfl, rfl, (hS.sel [0, 1] (by decide))⟩ ?_; clear h0 hS; rintro m2 E ds w2 ⟨v, h, rfl, hE0, hE1, hE5, hS⟩ again; replace h := hr m2 v h; clear hr; refine yae (zs (zq (yad hE5) (zq (yad hE0) (zq (yaV (n := a.length) rfl underlying26 (yaR (hS.rdr 0 rfl))) (zq zL (yaa ?_)))))); by_cases hp : v < ((a.length : Nat) : Int)
  · replace h := h.1 hp; refine zc hp (yah (yae (yak (yae (yae (ybi [0, 1, 2, 3, 4, 5, 6, 7, 8] st0 ybr (by kernel_rfl) (by kernel_rfl) ?_)))))); replace hS := hS.drew; refine zp (yad hE0) (zp (yad hE5) ?_); obtain ⟨hx, h⟩ := h; refine zp (zi underlying26 yag (yaQ (hS.rdr 0 rfl) hx)) (zp (yax (v := (ii (gi a v.toNat))) rfl underlying3 rfl (rd_1 (hS.rdr 0 rfl) hx (fun q => yaF q) rfl)) ?_); refine zp (yad hE1) (zp (yad hE5) ?_); obtain ⟨hx2, h⟩ := h; refine zp (zi underlying26 yag (yaQ (hS.rdr 1 rfl) hx2)) (zp (yax (v := (ii (gi b v.toNat))) rfl underlying3 rfl (rd_1 (hS.rdr 1 rfl) hx2 (fun q => yaF q) rfl)) ?_); refine zp zL (ybz ?_); by_cases hp2 : (gi a v.toNat) < (gi b v.toNat)
    · replace h := h.1 hp2; exact zc hp2 (zs (zq (za (ii (-1))) (yaa (yal rfl rfl ⟨_, rfl, (hS.sel [] (by decide)), h⟩))))
    · replace h := h.2 hp2; refine zd hp2 (yah (yae (ybi [0, 1, 2, 3, 4, 5, 6, 7, 8] st0 ybr (by kernel_rfl) (by kernel_rfl) ?_))); replace hS := hS.drew; refine zp (yad hE0) (zp (yad hE5) (zp (zi underlying26 yag (yaQ (hS.rdr 0 rfl) hx)) (zp (yax (v := (ii (gi a v.toNat))) rfl underlying3 rfl (rd_1 (hS.rdr 0 rfl) hx (fun q => yaF q) rfl)) ?_))); refine zp (yad hE1) (zp (yad hE5) (zp (zi underlying26 yag (yaQ (hS.rdr 1 rfl) hx2)) (zp (yax (v := (ii (gi b v.toNat))) rfl underlying3 rfl (rd_1 (hS.rdr 1 rfl) hx2 (fun q => yaF q) rfl)) ?_))); refine zp zG (ybz ?_); by_cases hp3 : (gi b v.toNat) < (gi a v.toNat)
      · replace h := h.1 hp3; exact zc hp3 (zs (zq (za (ii 1)) (yaa (yal rfl rfl ⟨_, rfl, (hS.sel [] (by decide)), h⟩))))
      · replace h := h.2 hp3; refine zd hp3 (yah (yaj (zr (zq (yad hE5) ?_)))); obtain ⟨hi, h⟩ := h; refine zq (zA hi) (zq (za (ii (v + 1))) (yaa ?_)); obtain ⟨mq, hlt, h⟩ := h; exact again mq _ _ _ ⟨_, h, rfl, hE0, hE1, rfl, (hS.sel [0, 1] (by decide))⟩ hlt
  · replace h := h.2 hp; exact zd hp (yay rfl (zs (zq (za (ii 0)) (yaa (yal rfl rfl ⟨_, rfl, (hS.sel [] (by decide)), h⟩)))))
def yeF (a : List Int) (b : List Int) (R : Bool → Prop) : Prop :=
((((a.length : Nat) : Int) = ((b.length : Nat) : Int) →
ydA a b (fun r =>
R (decide (r = 0)))) ∧
(¬ (((a.length : Nat) : Int) = ((b.length : Nat) : Int)) →
R false))
theorem pok_r17_Same {O : Nat → Prop} {w : World} {a b Aa la ca Ab lb cb} {R : Bool → Prop} (h : yeF a b R) (hO : ∀ k, O k → k < w.heap.size) (hA0 : (FP.sl cI Aa la ca a).P O w) (hA1 : (FP.sl cI Ab lb cb b).P O w) :
    Calls Try.prog 36 #[(.slice Aa la ca), (.slice Ab lb cb)] w fun e w' => ∃ r2, e = .returned (.bool (r2)) ∧ Sep w no O w' (rl []) ∧ R r2 := by
  unfold yeF at h; have hS : Sep w no O w (rl [Res.ro (FP.sl cI Aa la ca a), Res.ro (FP.sl cI Ab lb cb b)]) := Sep.startl hO [(FP.sl cI Aa la ca a), (FP.sl cI Ab lb cb b)] ⟨hA0, hA1, trivial⟩; refine yan (l := [(.slice Aa la ca), (.slice Ab lb cb)]) func36 rfl ntmps36 (Nat.le_of_ble_eq_true rfl) (zs (zq (za (.bool (false))) (yaa (yae (zs (zq (zm (.slice Aa la ca)) (zq (yaV (n := a.length) rfl underlying26 (yaR (hS.rdr 0 rfl))) (zq (zm (.slice Ab lb cb)) (zq (yaV (n := b.length) rfl underlying26 (yaR (hS.rdr 1 rfl))) (zq zN (yaa ?_))))))))))); by_cases hp : ((a.length : Nat) : Int) = ((b.length : Nat) : Int)
  · replace h := h.1 hp; refine ze hp (yah (zs (zq (zm (.slice Aa la ca)) (zq (zm (.slice Ab lb cb)) (zn (yam rfl (am2 rfl rfl) enter_56 ((pok_r17_Order h (yaG _) (hS.rdr 0 rfl) (hS.rdr 1 rfl)).mono ?_))))))); rintro _ w2 ⟨r, rfl, hC, h⟩; replace hS := hS.pur hC.pure; clear hC; refine ⟨_, rfl, ?_⟩; exact zb (zq zE (zq (za (.bool (decide (r = 0)))) (yaa (yal rfl rfl ⟨_, rfl, (hS.sel [] (by decide)), h⟩))))
  · replace h := h.2 hp; exact zf hp (zs (zq (za (.bool (false))) (yaa (yal rfl rfl ⟨_, rfl, (hS.sel [] (by decide)), h⟩))))
def ybJ (a : List Int) (b : List Int) (R : Bool → Prop) : Prop :=
yeF a b (fun r =>
R r)
theorem yfC {O : Nat → Prop} {w : World} {a b Aa la ca Ab lb cb} {R : Bool → Prop} (h : ybJ a b R) (hO : ∀ k, O k → k < w.heap.size) (hA0 : (FP.sl cI Aa la ca a).P O w) (hA1 : (FP.sl cI Ab lb cb b).P O w) :
    Calls Try.prog 17 #[(.slice Aa la ca), (.slice Ab lb cb)] w fun e w' => ∃ r2, e = .returned (.bool (r2)) ∧ Sep w no O w' (rl []) ∧ R r2 := by
  unfold ybJ at h; have hS : Sep w no O w (rl [Res.ro (FP.sl cI Aa la ca a), Res.ro (FP.sl cI Ab lb cb b)]) := Sep.startl hO [(FP.sl cI Aa la ca a), (FP.sl cI Ab lb cb b)] ⟨hA0, hA1, trivial⟩; refine yan (l := [(.slice Aa la ca), (.slice Ab lb cb)]) func17 rfl ntmps17 (Nat.le_of_ble_eq_true rfl) (zs (zq (za (.bool (false))) (yaa (zs (zq (zm (.slice Aa la ca)) (zq (zm (.slice Ab lb cb)) (zn (yam rfl (am2 rfl rfl) enter_36 ((pok_r17_Same h (yaG _) (hS.rdr 0 rfl) (hS.rdr 1 rfl)).mono ?_))))))))); rintro _ w2 ⟨r, rfl, hC, h⟩; replace hS := hS.pur hC.pure; clear hC; refine ⟨_, rfl, ?_⟩; exact zb (zq (za (.bool (r))) (yaa (yal rfl rfl ⟨_, rfl, (hS.sel [] (by decide)), h⟩)))
def yb9 (g : Int) (g2 : List E3) (R : Int → Prop) : Prop :=
ycM g g2 (fun r r2 =>
((r2 = 0 →
((r = true →
R 0) ∧
(¬ (r = true) →
R 13))) ∧
(¬ (r2 = 0) →
R r2)))
theorem yge {O : Nat → Prop} {w : World} {g g2 Ag lg cg} {R : Int → Prop} (h : yb9 g g2 R) (hO : ∀ k, O k → k < w.heap.size) (hA0 : (FP.sl c3 Ag lg cg g2).P O w) :
    Calls Try.prog 42 #[(.agg #[(ii g), (.slice Ag lg cg)])] w fun e w' => ∃ r3, e = .returned (ii r3) ∧ Sep w no O w' (rl []) ∧ R r3 := by
  unfold yb9 at h; have hS : Sep w no O w (rl [Res.ro (FP.sl c3 Ag lg cg g2)]) := Sep.startl hO [(FP.sl c3 Ag lg cg g2)] ⟨hA0, trivial⟩; refine yan (l := [(.agg #[(ii g), (.slice Ag lg cg)])]) func42 rfl ntmps42 (Nat.le_of_ble_eq_true rfl) (zs (zn (ybO (v := (.agg #[(ii g), (.slice Ag lg cg)])) rfl ?_))); intro g3 w2 hN; replace hS : Sep w no O w2 (stl _ 1 (Res.box 24 g3 [(ii g), (.slice Ag lg cg)])) := hS.new 1 rfl hN; clear hN; refine zb (zq (za (ii 0)) (yaa (zs (zq (yar (vs := [(ii g), (.slice Ag lg cg)]) rfl underlying24 rfl yap ⟨Row.cell (hS.bx 1 rfl) (i := 0) rfl, Row.cell (hS.bx 1 rfl) (i := 1) rfl, trivial⟩) (zn (yam rfl (am1 rfl) enter_52 ((ydy h (yaG _) (hS.rdr 0 rfl)).mono ?_))))))); rintro _ w3 ⟨r, r2, rfl, hC, h⟩; replace hS := hS.pur hC.pure; clear hC; refine ⟨_, rfl, ?_⟩; refine zb (zq (zm (.tuple #[(.bool (r)), (ii r2)])) (zq (zx (.bool (r))) (zq (zx (ii r2)) (zq (za (.bool (r))) (zq (za (ii r2)) (yaa (yae (yak (zs (zq (zm (ii r2)) (zq zN (zq (za (.bool (!(decide (r2 = 0))))) (yaa ?_))))))))))))); by_cases hp : r2 = 0
  · replace h := h.1 hp; refine ze hp (zs (zq (zm (.bool (r))) (zq (ydm rfl) (zq (za (.bool (!(r)))) (yaa ?_))))); by_cases hp2 : r = true
    · replace h := h.1 hp2; exact yaA (congrArg Value.bool (congrArg Bool.not hp2)) (yah (yaj (zs (zq (za (ii 0)) (yaa (yal rfl rfl ⟨_, rfl, (hS.sel [] (by decide)), h⟩))))))
    · replace h := h.2 hp2; exact yaq (congrArg Value.bool (congrArg Bool.not (Bool.eq_false_iff.2 hp2))) (zs (zq (za (ii 13)) (yaa (yal rfl rfl ⟨_, rfl, (hS.sel [] (by decide)), h⟩))))
  · replace h := h.2 hp; exact zf hp (zs (zq (zm (ii r2)) (zq (za (ii r2)) (yaa (yal rfl rfl ⟨_, rfl, (hS.sel [] (by decide)), h⟩)))))
def ybV (g : Int) (g2 : List E3) (d : List Int) (R : Int → Prop) : Prop :=
yb9 g g2 (fun r =>
((r = 0 →
ybQ d g (fun r2 =>
R r2)) ∧
(¬ (r = 0) →
R r)))
theorem yeM {O : Nat → Prop} {w : World} {g g2 d Ag lg cg Ad ld cd} {R : Int → Prop} (h : ybV g g2 d R) (hO : ∀ k, O k → k < w.heap.size) (hA0 : (FP.sl c3 Ag lg cg g2).P O w) (hA1 : (FP.sl cI Ad ld cd d).P O w) :
    Calls Try.prog 24 #[(.agg #[(ii g), (.slice Ag lg cg)]), (.slice Ad ld cd)] w fun e w' => ∃ r3, e = .returned (ii r3) ∧ Sep w no O w' (rl []) ∧ R r3 := by
  unfold ybV at h; have hS : Sep w no O w (rl [Res.ro (FP.sl c3 Ag lg cg g2), Res.ro (FP.sl cI Ad ld cd d)]) := Sep.startl hO [(FP.sl c3 Ag lg cg g2), (FP.sl cI Ad ld cd d)] ⟨hA0, hA1, trivial⟩; refine yan (l := [(.agg #[(ii g), (.slice Ag lg cg)]), (.slice Ad ld cd)]) func24 rfl ntmps24 (Nat.le_of_ble_eq_true rfl) (zs (zn (ybO (v := (.agg #[(ii g), (.slice Ag lg cg)])) rfl ?_))); intro g3 w2 hN; replace hS : Sep w no O w2 (stl _ 2 (Res.box 24 g3 [(ii g), (.slice Ag lg cg)])) := hS.new 2 rfl hN; clear hN; refine zb (zq (za (ii 0)) (yaa (yae (zs (zq (yar (vs := [(ii g), (.slice Ag lg cg)]) rfl underlying24 rfl yap ⟨Row.cell (hS.bx 2 rfl) (i := 0) rfl, Row.cell (hS.bx 2 rfl) (i := 1) rfl, trivial⟩) (zn (yam rfl (am1 rfl) enter_42 ((yge h (yaG _) (hS.rdr 0 rfl)).mono ?_)))))))); rintro _ w3 ⟨r, rfl, hC, h⟩; replace hS := hS.pur hC.pure; clear hC; refine ⟨_, rfl, ?_⟩; refine zb (zq (za (ii r)) (yaa (zs (zq (zm (ii r)) (zq zN (yaa ?_)))))); by_cases hp : r = 0
  · replace h := h.1 hp; refine ze hp (yah (zs (zq (zm (.slice Ad ld cd)) (zq (yai rfl underlying24 rfl yag) (zq (zl underlying3 (Row.cell (hS.bx 2 rfl) (i := 0) rfl)) (zn (yam rfl (am2 rfl rfl) yfH ((ydY h (yaG _) (hS.rdr 1 rfl)).mono ?_)))))))); rintro _ w4 ⟨r2, rfl, hC, h⟩; replace hS := hS.pur hC.pure; clear hC; refine ⟨_, rfl, ?_⟩; exact zb (zq (za (ii r2)) (yaa (yal rfl rfl ⟨_, rfl, (hS.sel [] (by decide)), h⟩)))
  · replace h := h.2 hp; exact zf hp (zs (zq (zm (ii r)) (zq (za (ii r)) (yaa (yal rfl rfl ⟨_, rfl, (hS.sel [] (by decide)), h⟩)))))
def ycf (d : List Int) (R : Int → Prop) : Prop :=
(∃ I2 : Nat → Int → Int → Prop, (∃ m0, I2 m0 0 0) ∧ ∀ m2 n v, I2 m2 n v → 
((v < ((d.length : Nat) : Int) →
((0 ≤ v ∧ v < ((d.length : Nat) : Int)) ∧
(In64 (n - (mnF (gi d v.toNat) 0)) ∧
(In64 (v + 1) ∧
∃ m3, m3 < m2 ∧ I2 m3 (n - (mnF (gi d v.toNat) 0)) (v + 1))))) ∧
(¬ (v < ((d.length : Nat) : Int)) →
R n)))
theorem ye8 {O : Nat → Prop} {w : World} {d Ad ld cd} {R : Int → Prop} (h : ycf d R) (hO : ∀ k, O k → k < w.heap.size) (hA0 : (FP.sl cI Ad ld cd d).P O w) :
    Calls Try.prog 45 #[(.slice Ad ld cd)] w fun e w' => ∃ r, e = .returned (ii r) ∧ Sep w no O w' (rl []) ∧ R r := by
  unfold ycf at h; have hS : Sep w no O w (rl [Res.ro (FP.sl cI Ad ld cd d)]) := Sep.startl hO [(FP.sl cI Ad ld cd d)] ⟨hA0, trivial⟩; refine yan (l := [(.slice Ad ld cd)]) func45 rfl ntmps45 (Nat.le_of_ble_eq_true rfl) (zs (zq (za (ii 0)) (yaa (zs (zq (za (ii 0)) (yaa (yae (zs (zq (zm (.slice Ad ld cd)) (zq (yaV (n := d.length) rfl underlying26 (yaR (hS.rdr 0 rfl))) (zq (zm (ii 0)) (yaa (yak ?_))))))))))))); obtain ⟨I2, ⟨m0, h0⟩, hr⟩ := h; refine yaC (fun m E ds w' => ∃ n v, I2 m n v ∧ ds = [] ∧ E 3 = (ii n) ∧ E 6 = (Value.slice Ad ld cd) ∧ E 7 = (ii ((d.length : Nat) : Int)) ∧ E 8 = (ii v) ∧ Sep w no O w' (rl [Res.ro (FP.sl cI Ad ld cd d)])) m0 ⟨_, _, h0, rfl, rfl, rfl, rfl, rfl, (hS.sel [0] (by decide))⟩ ?_; clear h0 hS; rintro m2 E ds w2 ⟨n, v, h, rfl, hE3, hE6, hE7, hE8, hS⟩ again; replace h := hr m2 n v h; clear hr; refine zs (zq (ycR hE8 hE7) (yaa (yae ?_))); by_cases hp : v < ((d.length : Nat) : Int)
  · replace h := h.1 hp; refine zc hp (yah (yae (yak (zs ?_)))); obtain ⟨hx, h⟩ := h; refine zq (ybw hE6 hE8 underlying26 yag (yaQ (hS.rdr 0 rfl) hx)) (zq (yax (v := (ii (gi d v.toNat))) rfl underlying3 rfl (rd_1 (hS.rdr 0 rfl) hx (fun q => yaF q) rfl)) ?_); refine zq (za (ii (gi d v.toNat))) (yaa (zr (zq (yad hE3) (zq (zm (ii (gi d v.toNat))) (zq (yhi rfl rfl) ?_))))); obtain ⟨hi, h⟩ := h; refine zq (zS hi) (zq (za (ii (n - (mnF (gi d v.toNat) 0)))) (yaa (yaj (zr ?_)))); obtain ⟨hi2, h⟩ := h; refine zq (ybf hE8 rfl hi2) (zq (zm (ii (v + 1))) (yaa ?_)); obtain ⟨mq, hlt, h⟩ := h; exact again mq _ _ _ ⟨_, _, h, rfl, rfl, hE6, hE7, rfl, (hS.sel [0] (by decide))⟩ hlt
  · replace h := h.2 hp; exact zd hp (yay rfl (zs (zq (yad hE3) (zq (za (ii n)) (yaa (yal rfl rfl ⟨_, rfl, (hS.sel [] (by decide)), h⟩))))))
def ybM (g : Int) (g2 : List E3) (R : Int → Prop) : Prop :=
(∃ I2 : Nat → Int → Int → Prop, (∃ m0, I2 m0 0 0) ∧ ∀ m2 most v, I2 m2 most v → 
((v < g →
yb6 g g2 v (fun r r2 =>
(In64 (v + 1) ∧
∃ m3, m3 < m2 ∧ I2 m3 (mxF most r) (v + 1)))) ∧
(¬ (v < g) →
R most)))
theorem yfy {O : Nat → Prop} {w : World} {g g2 Ag lg cg} {R : Int → Prop} (h : ybM g g2 R) (hO : ∀ k, O k → k < w.heap.size) (hA0 : (FP.sl c3 Ag lg cg g2).P O w) :
    Calls Try.prog 26 #[(.agg #[(ii g), (.slice Ag lg cg)])] w fun e w' => ∃ r3, e = .returned (ii r3) ∧ Sep w no O w' (rl []) ∧ R r3 := by
  unfold ybM at h; have hS : Sep w no O w (rl [Res.ro (FP.sl c3 Ag lg cg g2)]) := Sep.startl hO [(FP.sl c3 Ag lg cg g2)] ⟨hA0, trivial⟩; refine yan (l := [(.agg #[(ii g), (.slice Ag lg cg)])]) func26 rfl ntmps26 (Nat.le_of_ble_eq_true rfl) (zs (zn (ybO (v := (.agg #[(ii g), (.slice Ag lg cg)])) rfl ?_))); intro g3 w2 hN; replace hS : Sep w no O w2 (stl _ 1 (Res.box 24 g3 [(ii g), (.slice Ag lg cg)])) := hS.new 1 rfl hN; clear hN; refine zb (zq (za (ii 0)) (yaa (zs (zq (za (ii 0)) (yaa (yae (zs (zq (yai rfl underlying24 rfl yag) (zq (zl underlying3 (Row.cell (hS.bx 1 rfl) (i := 0) rfl)) (zq (zm (ii 0)) (yaa (yak ?_)))))))))))); obtain ⟨I2, ⟨m0, h0⟩, hr⟩ := h; refine yaC (fun m E ds w' => ∃ most v, I2 m most v ∧ ds = [] ∧ E 1 = (Value.pointer (some (⟨g3, 0, none⟩ : Addr))) ∧ E 3 = (ii most) ∧ E 8 = (ii g) ∧ E 9 = (ii v) ∧ Sep w no O w' (rl [Res.box 24 g3 [(ii g), (.slice Ag lg cg)], Res.ro (FP.sl c3 Ag lg cg g2)])) m0 ⟨_, _, h0, rfl, rfl, rfl, rfl, rfl, (hS.sel [1, 0] (by decide))⟩ ?_; clear h0 hS; rintro m2 E ds w3 ⟨most, v, h, rfl, hE1, hE3, hE8, hE9, hS⟩ again; replace h := hr m2 most v h; clear hr; refine zs (zq (ycR hE9 hE8) (yaa (yae ?_))); by_cases hp : v < g
  · replace h := h.1 hp; refine zc hp (yah (yae (yak (zs (zq (yad hE9) (zq (za (ii v)) (yaa (zs (zq (yar (vs := [(ii g), (.slice Ag lg cg)]) hE1 underlying24 rfl yap ⟨Row.cell (hS.bx 0 rfl) (i := 0) rfl, Row.cell (hS.bx 0 rfl) (i := 1) rfl, trivial⟩) (zq (zm (ii v)) (zn (yam rfl (am2 rfl rfl) enter_44 ((ygk h (yaG _) (hS.rdr 1 rfl)).mono ?_))))))))))))); rintro _ w4 ⟨r, r2, rfl, hC, h⟩; replace hS := hS.pur hC.pure; clear hC; refine ⟨_, rfl, ?_⟩; refine zb (zq (zm (.tuple #[(ii r), (ii r2)])) (zq (zx (ii r)) (zq (zx (ii r2)) (zq (za (ii r)) (zq (za (ii r2)) (yaa (zr (zq (yad hE3) (zq (zm (ii r)) (zq (yhI rfl rfl) (zq (za (ii (mxF most r))) (yaa (yaj (zr ?_)))))))))))))); obtain ⟨hi, h⟩ := h; refine zq (ybf hE9 rfl hi) (zq (zm (ii (v + 1))) (yaa ?_)); obtain ⟨mq, hlt, h⟩ := h; exact again mq _ _ _ ⟨_, _, h, rfl, hE1, rfl, hE8, rfl, (hS.sel [0, 1] (by decide))⟩ hlt
  · replace h := h.2 hp; exact zd hp (yay rfl (zs (zq (yad hE3) (zq (za (ii most)) (yaa (yal rfl rfl ⟨_, rfl, (hS.sel [] (by decide)), h⟩))))))
def ycs (d : List Int) (most : Int) (R : Int → Prop) : Prop :=
((most = 0 →
R 0) ∧
(¬ (most = 0) →
ycf d (fun r =>
(In64 (r + most) ∧
(In64 ((r + most) - 1) ∧
(most ≠ 0 ∧
In64 (((r + most) - 1).tdiv most) ∧
R (((r + most) - 1).tdiv most)))))))
theorem ygH {O : Nat → Prop} {w : World} {d most Ad ld cd} {R : Int → Prop} (h : ycs d most R) (hO : ∀ k, O k → k < w.heap.size) (hA0 : (FP.sl cI Ad ld cd d).P O w) :
    Calls Try.prog 50 #[(.slice Ad ld cd), (ii most)] w fun e w' => ∃ r2, e = .returned (ii r2) ∧ Sep w no O w' (rl []) ∧ R r2 := by
  unfold ycs at h; have hS : Sep w no O w (rl [Res.ro (FP.sl cI Ad ld cd d)]) := Sep.startl hO [(FP.sl cI Ad ld cd d)] ⟨hA0, trivial⟩; refine yan (l := [(.slice Ad ld cd), (ii most)]) func50 rfl ntmps50 (Nat.le_of_ble_eq_true rfl) (zs (zq (za (ii 0)) (yaa (yae (zs (zq (zm (ii most)) (zq zE (yaa ?_)))))))); by_cases hp : most = 0
  · replace h := h.1 hp; exact zc hp (zs (zq (za (ii 0)) (yaa (yal rfl rfl ⟨_, rfl, (hS.sel [] (by decide)), h⟩))))
  · replace h := h.2 hp; refine zd hp (yah (zs (zq (zm (.slice Ad ld cd)) (zn (yam rfl (am1 rfl) enter_45 ((ye8 h (yaG _) (hS.rdr 0 rfl)).mono ?_)))))); rintro _ w2 ⟨r, rfl, hC, h⟩; replace hS := hS.pur hC.pure; clear hC; refine ⟨_, rfl, ?_⟩; refine zb (zq (zm (ii most)) ?_); obtain ⟨hi, h⟩ := h; refine zq (zA hi) ?_; obtain ⟨hi2, h⟩ := h; refine zq (zS hi2) (zq (zm (ii most)) ?_); obtain ⟨hz, h⟩ := h; obtain ⟨hi3, h⟩ := h; exact zq (v_quo rfl rfl hz hi3) (zq (za (ii (((r + most) - 1).tdiv most))) (yaa (yal rfl rfl ⟨_, rfl, (hS.sel [] (by decide)), h⟩)))
def ycc (picks : List Int) (R : Int → Prop) : Prop :=
((4096 < ((picks.length : Nat) : Int) →
R 5) ∧
(¬ (4096 < ((picks.length : Nat) : Int)) →
((((picks.length : Nat) : Int) = 0 →
R 14) ∧
(¬ (((picks.length : Nat) : Int) = 0) →
ycn picks (fun r =>
((r < 0 →
R 2) ∧
(¬ (r < 0) →
R 0)))))))
theorem ygp {O : Nat → Prop} {w : World} {picks Apicks lpicks cpicks} {R : Int → Prop} (h : ycc picks R) (hO : ∀ k, O k → k < w.heap.size) (hA0 : (FP.sl cI Apicks lpicks cpicks picks).P O w) :
    Calls Try.prog 29 #[(.slice Apicks lpicks cpicks)] w fun e w' => ∃ r2, e = .returned (ii r2) ∧ Sep w no O w' (rl []) ∧ R r2 := by
  unfold ycc at h; have hS : Sep w no O w (rl [Res.ro (FP.sl cI Apicks lpicks cpicks picks)]) := Sep.startl hO [(FP.sl cI Apicks lpicks cpicks picks)] ⟨hA0, trivial⟩; refine yan (l := [(.slice Apicks lpicks cpicks)]) func29 rfl ntmps29 (Nat.le_of_ble_eq_true rfl) (zs (zq (za (ii 0)) (yaa (yae (yak (zs (zq (zm (.slice Apicks lpicks cpicks)) (zq (yaV (n := picks.length) rfl underlying25 (yaR (hS.rdr 0 rfl))) (zq zG (zq (za (.bool (decide (4096 < ((picks.length : Nat) : Int))))) (yaa ?_))))))))))); by_cases hp : 4096 < ((picks.length : Nat) : Int)
  · replace h := h.1 hp; exact zc hp (zs (zq (za (ii 5)) (yaa (yal rfl rfl ⟨_, rfl, (hS.sel [] (by decide)), h⟩))))
  · replace h := h.2 hp; refine zd hp (zs (zq (zm (.slice Apicks lpicks cpicks)) (zq (yaV (n := picks.length) rfl underlying25 (yaR (hS.rdr 0 rfl))) (zq zE (zq (za (.bool (decide (((picks.length : Nat) : Int) = 0)))) (yaa ?_)))))); by_cases hp2 : ((picks.length : Nat) : Int) = 0
    · replace h := h.1 hp2; exact zc hp2 (zs (zq (za (ii 14)) (yaa (yal rfl rfl ⟨_, rfl, (hS.sel [] (by decide)), h⟩))))
    · replace h := h.2 hp2; refine zd hp2 (zs (zq (zm (.slice Apicks lpicks cpicks)) (zn (yam rfl (am1 rfl) enter_51 ((yfs h (yaG _) (hS.rdr 0 rfl)).mono ?_))))); rintro _ w2 ⟨r, rfl, hC, h⟩; replace hS := hS.pur hC.pure; clear hC; refine ⟨_, rfl, ?_⟩; refine zb (zq zL (zq (za (.bool (decide (r < 0)))) (yaa ?_))); by_cases hp3 : r < 0
      · replace h := h.1 hp3; exact zc hp3 (zs (zq (za (ii 2)) (yaa (yal rfl rfl ⟨_, rfl, (hS.sel [] (by decide)), h⟩))))
      · replace h := h.2 hp3; exact zd hp3 (yah (yaj (zs (zq (za (ii 0)) (yaa (yal rfl rfl ⟨_, rfl, (hS.sel [] (by decide)), h⟩))))))
def yb7 (g : Int) (g2 : List E3) (d : List Int) (v : Int) (times : Int) (R : (List Int) → Prop) : Prop :=
(∃ I2 : Nat → Int → (List Int) → Prop, (∃ m0, I2 m0 0 d) ∧ ∀ m2 v2 d2, I2 m2 v2 d2 → 
((v2 < ((g2.length : Nat) : Int) →
((0 ≤ v2 ∧ v2 < ((g2.length : Nat) : Int)) ∧
(∃ J2 : Prop, (J2 → ((0 ≤ v ∧ v < ((d2.length : Nat) : Int)) ∧
(In64 (times * ((ge g2 v2.toNat).2.2)) ∧
(In64 ((gi d2 v.toNat) + (times * ((ge g2 v2.toNat).2.2))) ∧
(In64 (((ge g2 v2.toNat).1) + ((ge g2 v2.toNat).2.1)) ∧
(In64 ((((ge g2 v2.toNat).1) + ((ge g2 v2.toNat).2.1)) - v) ∧
((0 ≤ ((((ge g2 v2.toNat).1) + ((ge g2 v2.toNat).2.1)) - v) ∧ ((((ge g2 v2.toNat).1) + ((ge g2 v2.toNat).2.1)) - v) < (((d2.set v.toNat ((gi d2 v.toNat) + (times * ((ge g2 v2.toNat).2.2)))).length : Nat) : Int)) ∧
(In64 ((gi (d2.set v.toNat ((gi d2 v.toNat) + (times * ((ge g2 v2.toNat).2.2)))) ((((ge g2 v2.toNat).1) + ((ge g2 v2.toNat).2.1)) - v).toNat) - (times * ((ge g2 v2.toNat).2.2))) ∧
(In64 (v2 + 1) ∧
∃ m3, m3 < m2 ∧ I2 m3 (v2 + 1) ((d2.set v.toNat ((gi d2 v.toNat) + (times * ((ge g2 v2.toNat).2.2)))).set ((((ge g2 v2.toNat).1) + ((ge g2 v2.toNat).2.1)) - v).toNat ((gi (d2.set v.toNat ((gi d2 v.toNat) + (times * ((ge g2 v2.toNat).2.2)))) ((((ge g2 v2.toNat).1) + ((ge g2 v2.toNat).2.1)) - v).toNat) - (times * ((ge g2 v2.toNat).2.2))))))))))))) ∧
((((ge g2 v2.toNat).1) = ((ge g2 v2.toNat).2.1) →
(In64 (v2 + 1) ∧
∃ m4, m4 < m2 ∧ I2 m4 (v2 + 1) d2)) ∧
(¬ (((ge g2 v2.toNat).1) = ((ge g2 v2.toNat).2.1)) →
((((ge g2 v2.toNat).1) = v →
J2) ∧
(¬ (((ge g2 v2.toNat).1) = v) →
((((ge g2 v2.toNat).2.1) = v →
J2) ∧
(¬ (((ge g2 v2.toNat).2.1) = v) →
(In64 (v2 + 1) ∧
∃ m5, m5 < m2 ∧ I2 m5 (v2 + 1) d2)))))))))) ∧
(¬ (v2 < ((g2.length : Nat) : Int)) →
R d2)))
theorem yf3 {S O : Nat → Prop} {w : World} {g g2 d v times Ag lg cg Ad ld cd} {R : (List Int) → Prop} (h : yb7 g g2 d v times R) (hS : Sep w S O w (rl [Res.ro (FP.sl c3 Ag lg cg g2), Res.own cI 3 Ad ld cd d])) :
    Calls Try.prog 32 #[(.agg #[(ii g), (.slice Ag lg cg)]), (.slice Ad ld cd), (ii v), (ii times)] w fun e w' => ∃ z, e = .returned (.tuple #[]) ∧ Sep w S O w' (rl [Res.own cI 3 Ad ld cd z]) ∧ R z := by
  unfold yb7 at h; refine yan (l := [(.agg #[(ii g), (.slice Ag lg cg)]), (.slice Ad ld cd), (ii v), (ii times)]) func32 rfl ntmps32 (Nat.le_of_ble_eq_true rfl) (zs (zn (ybO (v := (.agg #[(ii g), (.slice Ag lg cg)])) rfl ?_))); intro g3 w2 hN; replace hS : Sep w S O w2 (stl _ 2 (Res.box 24 g3 [(ii g), (.slice Ag lg cg)])) := hS.new 2 rfl hN; clear hN; refine zb (yaa (zs (zq (yai rfl underlying24 rfl yb0) (zq (zl underlying22 (Row.cell (hS.bx 2 rfl) (i := 1) rfl)) (zq (yaV (n := g2.length) rfl underlying22 (yaR (hS.rdr 0 rfl))) (zq (zm (ii 0)) (yaa (yak ?_)))))))); obtain ⟨I2, ⟨m0, h0⟩, hr⟩ := h; refine yaC (fun m E ds w' => ∃ v2 d2, I2 m v2 d2 ∧ ds = [] ∧ E 1 = (Value.slice Ad ld cd) ∧ E 2 = (ii v) ∧ E 3 = (ii times) ∧ E 11 = (Value.slice Ag lg cg) ∧ E 12 = (ii ((g2.length : Nat) : Int)) ∧ E 13 = (ii v2) ∧ Sep w S O w' (rl [Res.own cI 3 Ad ld cd d2, Res.ro (FP.sl c3 Ag lg cg g2)])) m0 ⟨_, _, h0, rfl, rfl, rfl, rfl, rfl, rfl, rfl, (hS.sel [1, 0] (by decide))⟩ ?_; clear h0 hS; rintro m2 E ds w3 ⟨v2, d2, h, rfl, hE1, hE2, hE3, hE11, hE12, hE13, hS⟩ again; replace h := hr m2 v2 d2 h; clear hr; refine zs (zq (ycR hE13 hE12) (yaa (yae ?_))); by_cases hp : v2 < ((g2.length : Nat) : Int)
  · replace h := h.1 hp; refine zc hp (yah (yae (yak (zs ?_)))); obtain ⟨hx, h⟩ := h; refine zq (ybw hE11 hE13 underlying22 yaE (yaQ (hS.rdr 1 rfl) hx)) (zq (yar (vs := [(ii ((ge g2 v2.toNat).1)), (ii ((ge g2 v2.toNat).2.1)), (ii ((ge g2 v2.toNat).2.2))]) rfl underlying51 rfl yaE (rd_fs (hS.rdr 1 rfl) hx (fun q => ycN q))) ?_); refine zn (ya4 yaE ?_); intro g4 w4 hN; replace hS : Sep w S O w4 (stl _ 2 (Res.box 51 g4 [(ii 0), (ii 0), (ii 0)])) := hS.new 2 rfl hN; clear hN; refine zb (zo (ybg (b := g4) (o := 0) (cells := #[(ii ((ge g2 v2.toNat).1)), (ii ((ge g2 v2.toNat).2.1)), (ii ((ge g2 v2.toNat).2.2))]) rfl rfl yaE rfl rfl (yaY (hS.bx 2 rfl) (Nat.le_of_ble_eq_true rfl)) ?_)); intro w5 e1; replace hS := hS.bstn 2 rfl 0 [(ii ((ge g2 v2.toNat).1)), (ii ((ge g2 v2.toNat).2.1)), (ii ((ge g2 v2.toNat).2.2))] e1; clear e1; refine zb (yaa (yae ?_)); obtain ⟨J2, hJ, h⟩ := h; refine wt_cutA1 (fun E ds w' => J2 ∧ ds = [] ∧ E 1 = (Value.slice Ad ld cd) ∧ E 2 = (ii v) ∧ E 3 = (ii times) ∧ E 9 = (Value.pointer (some (⟨g4, 0, none⟩ : Addr))) ∧ E 11 = (Value.slice Ag lg cg) ∧ E 12 = (ii ((g2.length : Nat) : Int)) ∧ E 13 = (ii v2) ∧ Sep w S O w' (rl [Res.own cI 3 Ad ld cd d2, Res.box 51 g4 [(ii ((ge g2 v2.toNat).1)), (ii ((ge g2 v2.toNat).2.1)), (ii ((ge g2 v2.toNat).2.2))], Res.ro (FP.sl c3 Ag lg cg g2)])) ?_ ?_
    · clear h hS; rintro E ds w6 ⟨h, rfl, hE1, hE2, hE3, hE9, hE11, hE12, hE13, hS⟩; replace h := hJ h; refine yae (ybi [0, 1, 2, 3, 4, 5, 6, 7, 8, 9, 10] st0 ybr (by kernel_rfl) (by kernel_rfl) ?_); replace hS := hS.drew; refine zp (yad hE1) (zp (yad hE2) ?_); obtain ⟨hx2, h⟩ := h; refine zp (zi underlying26 yag (yaQ (hS.rdo 0 rfl) hx2)) (zp (yax (v := (ii (gi d2 v.toNat))) rfl underlying3 rfl (rd_1 (hS.rdo 0 rfl) hx2 (fun q => yaF q) rfl)) ?_); refine zp (yad hE3) (zp (yai hE9 underlying51 rfl yag) (zp (zl underlying3 (Row.cell (hS.bx 1 rfl) (i := 2) rfl)) ?_)); obtain ⟨hi, h⟩ := h; refine zp (v_mul rfl rfl hi) ?_; obtain ⟨hi2, h⟩ := h; refine zp (zA hi2) (zp (zi underlying26 yag (yaQ (hS.rdo 0 rfl) hx2)) (rp_n0 rfl rfl rfl (zt (ii ((gi d2 v.toNat) + (times * ((ge g2 v2.toNat).2.2)))) yag (hS.wr 0 rfl rfl hx2) ?_))); intro w7 e1; replace hS := hS.st 0 rfl rfl hx2 (x := (gi d2 v.toNat) + (times * ((ge g2 v2.toNat).2.2))) rfl e1; clear e1; refine zb (ybz (ybi [0, 1, 2, 3, 4, 5, 6, 7, 8, 9, 10, 11, 12, 13, 14, 15, 16] st0 ybr (by kernel_rfl) (by kernel_rfl) ?_)); replace hS := hS.drew; refine zp (yad hE1) (zp (yai hE9 underlying51 rfl yag) (zp (zl underlying3 (Row.cell (hS.bx 1 rfl) (i := 0) rfl)) (zp (yai hE9 underlying51 rfl yag) (zp (zl underlying3 (Row.cell (hS.bx 1 rfl) (i := 1) rfl)) ?_)))); obtain ⟨hi3, h⟩ := h; refine zp (zA hi3) (zp (yad hE2) ?_); obtain ⟨hi4, h⟩ := h; refine zp (zS hi4) ?_; obtain ⟨hx3, h⟩ := h; refine zp (zi underlying26 yag (yaQ (hS.rdo 0 rfl) hx3)) (zp (yax (v := (ii (gi (d2.set v.toNat ((gi d2 v.toNat) + (times * ((ge g2 v2.toNat).2.2)))) ((((ge g2 v2.toNat).1) + ((ge g2 v2.toNat).2.1)) - v).toNat))) rfl underlying3 rfl (rd_1 (hS.rdo 0 rfl) hx3 (fun q => yaF q) rfl)) ?_); refine zp (yad hE3) (zp (yai hE9 underlying51 rfl yag) (zp (zl underlying3 (Row.cell (hS.bx 1 rfl) (i := 2) rfl)) (zp (v_mul rfl rfl hi) ?_))); obtain ⟨hi6, h⟩ := h; refine zp (zS hi6) (zp (zi underlying26 yag (yaQ (hS.rdo 0 rfl) hx3)) (rp_n0 rfl rfl rfl (zt (ii ((gi (d2.set v.toNat ((gi d2 v.toNat) + (times * ((ge g2 v2.toNat).2.2)))) ((((ge g2 v2.toNat).1) + ((ge g2 v2.toNat).2.1)) - v).toNat) - (times * ((ge g2 v2.toNat).2.2)))) yag (hS.wr 0 rfl rfl hx3) ?_))); intro w8 e1; replace hS := hS.st 0 rfl rfl hx3 (x := (gi (d2.set v.toNat ((gi d2 v.toNat) + (times * ((ge g2 v2.toNat).2.2)))) ((((ge g2 v2.toNat).1) + ((ge g2 v2.toNat).2.1)) - v).toNat) - (times * ((ge g2 v2.toNat).2.2))) rfl e1; clear e1; refine zb (ybz (yaj (zr ?_))); obtain ⟨hi7, h⟩ := h; refine zq (ybf hE13 rfl hi7) (zq (zm (ii (v2 + 1))) (yaa ?_)); obtain ⟨mq, hlt, h⟩ := h; exact again mq _ _ _ ⟨_, _, h, rfl, hE1, hE2, hE3, hE11, hE12, rfl, (hS.sel [0, 2] (by decide))⟩ hlt
    clear hJ; intro j; refine zr (zq (yai rfl underlying51 rfl yag) (zq (zl underlying3 (Row.cell (hS.bx 2 rfl) (i := 0) rfl)) (zq (yai rfl underlying51 rfl yag) (zq (zl underlying3 (Row.cell (hS.bx 2 rfl) (i := 1) rfl)) (zq zN (zq (zm (.bool (!(decide (((ge g2 v2.toNat).1) = ((ge g2 v2.toNat).2.1)))))) ?_)))))); by_cases hp2 : ((ge g2 v2.toNat).1) = ((ge g2 v2.toNat).2.1)
    · replace h := h.1 hp2; refine rl_p (yab rfl (yaf rfl (congrArg Value.bool (congrArg Bool.not (decide_eq_true hp2)))) rfl) rfl (rl_p (yab rfl (yaf rfl (congrArg Value.bool (congrArg Bool.not (decide_eq_true hp2)))) rfl) rfl (rl_p (yab rfl (yaf rfl (congrArg Value.bool (congrArg Bool.not (decide_eq_true hp2)))) rfl) rfl (rl_p (yab rfl (yaf rfl (congrArg Value.bool (congrArg Bool.not (decide_eq_true hp2)))) rfl) rfl (rl_p (yab rfl (yaf rfl (congrArg Value.bool (congrArg Bool.not (decide_eq_true hp2)))) rfl) rfl (rl_p (ybG rfl rfl) rfl (rl_p (ybG rfl rfl) rfl (rl_p (ybG rfl rfl) rfl (rl_p (ybG rfl rfl) rfl (rl_p (yab rfl (yaf rfl (congrArg Value.bool (congrArg Bool.not (decide_eq_true hp2)))) rfl) rfl (zq (yav (v := (.bool (false))) (congrArg Value.bool (congrArg Bool.not (decide_eq_true hp2))) rfl) (yaa (yaA rfl (yah (yaj (zr ?_))))))))))))))); obtain ⟨hi8, h⟩ := h; refine zq (ybf hE13 rfl hi8) (zq (zm (ii (v2 + 1))) (yaa ?_)); obtain ⟨mq, hlt, h⟩ := h; exact again mq _ _ _ ⟨_, _, h, rfl, hE1, hE2, hE3, hE11, hE12, rfl, (hS.sel [0, 1] (by decide))⟩ hlt
    · replace h := h.2 hp2; refine rl_q (yac rfl (yaf rfl (congrArg Value.bool (congrArg Bool.not (decide_eq_false hp2))))) rfl rfl (yai rfl underlying51 rfl yag) (rl_q (yac rfl (yaf rfl (congrArg Value.bool (congrArg Bool.not (decide_eq_false hp2))))) rfl rfl (zl underlying3 (Row.cell (hS.bx 2 rfl) (i := 0) rfl)) (rl_q (yac rfl (yaf rfl (congrArg Value.bool (congrArg Bool.not (decide_eq_false hp2))))) rfl rfl (yad hE2) (rl_q (yac rfl (yaf rfl (congrArg Value.bool (congrArg Bool.not (decide_eq_false hp2))))) rfl rfl zE (rl_q (yac rfl (yaf rfl (congrArg Value.bool (congrArg Bool.not (decide_eq_false hp2))))) rfl rfl (zm (.bool (decide (((ge g2 v2.toNat).1) = v)))) ?_)))); by_cases hp3 : ((ge g2 v2.toNat).1) = v
      · replace h := h.1 hp3; exact rl_p (yab rfl (yaf rfl (congrArg Value.bool (decide_eq_true hp3))) rfl) rfl (rl_p (yab rfl (yaf rfl (congrArg Value.bool (decide_eq_true hp3))) rfl) rfl (rl_p (yab rfl (yaf rfl (congrArg Value.bool (decide_eq_true hp3))) rfl) rfl (rl_p (yab rfl (yaf rfl (congrArg Value.bool (decide_eq_true hp3))) rfl) rfl (rl_q (yac rfl (yaf rfl (congrArg Value.bool (congrArg Bool.not (decide_eq_false hp2))))) rfl rfl (yat (v := (.bool (true))) (congrArg Value.bool (decide_eq_true hp3)) rfl) (zq (yat (v := (.bool (true))) (congrArg Value.bool (congrArg Bool.not (decide_eq_false hp2))) rfl) (yaa (yaq rfl (j _ _ _ ⟨h, rfl, hE1, hE2, hE3, rfl, hE11, hE12, hE13, (hS.sel [0, 2, 1] (by decide))⟩))))))))
      · replace h := h.2 hp3; refine rl_q (yac rfl (yaf rfl (congrArg Value.bool (decide_eq_false hp3)))) rfl rfl (yai rfl underlying51 rfl yag) (rl_q (yac rfl (yaf rfl (congrArg Value.bool (decide_eq_false hp3)))) rfl rfl (zl underlying3 (Row.cell (hS.bx 2 rfl) (i := 1) rfl)) (rl_q (yac rfl (yaf rfl (congrArg Value.bool (decide_eq_false hp3)))) rfl rfl (yad hE2) (rl_q (yac rfl (yaf rfl (congrArg Value.bool (decide_eq_false hp3)))) rfl rfl zE (rl_q (yac rfl (yaf rfl (congrArg Value.bool (congrArg Bool.not (decide_eq_false hp2))))) rfl rfl (yav (v := (.bool (decide (((ge g2 v2.toNat).2.1) = v)))) (congrArg Value.bool (decide_eq_false hp3)) rfl) (zq (yat (v := (.bool (decide (((ge g2 v2.toNat).2.1) = v)))) (congrArg Value.bool (congrArg Bool.not (decide_eq_false hp2))) rfl) (yaa ?_)))))); by_cases hp4 : ((ge g2 v2.toNat).2.1) = v
        · replace h := h.1 hp4; exact zc hp4 (j _ _ _ ⟨h, rfl, hE1, hE2, hE3, rfl, hE11, hE12, hE13, (hS.sel [0, 2, 1] (by decide))⟩)
        · replace h := h.2 hp4; refine zd hp4 (yah (yaj (zr ?_))); obtain ⟨hi9, h⟩ := h; refine zq (ybf hE13 rfl hi9) (zq (zm (ii (v2 + 1))) (yaa ?_)); obtain ⟨mq, hlt, h⟩ := h; exact again mq _ _ _ ⟨_, _, h, rfl, hE1, hE2, hE3, hE11, hE12, rfl, (hS.sel [0, 1] (by decide))⟩ hlt
  · replace h := h.2 hp; exact zd hp (yay rfl (yhc rfl ⟨_, rfl, (hS.sel [0] (by decide)), h⟩))
def ybs (d : Int) (d2 : List E3) (i : List Int) (a : List Int) (R : Bool → (List Int) → Int → Prop) : Prop :=
ybV d d2 i (fun r =>
((r = 0 →
ycc a (fun r2 =>
((r2 = 0 →
(∃ J2 : (List Int) → (List Int) → Prop, (∀ (v : List Int) (v2 : List Int), J2 v v2 → (∃ I2 : Nat → Int → (List Int) → (List Int) → Prop, (∃ m0, I2 m0 0 v v2) ∧ ∀ m2 v3 v4 v5, I2 m2 v3 v4 v5 → 
(∃ I3 : Nat → (List Int) → Int → Prop, (∃ m0, I3 m0 ([]) 0) ∧ ∀ m3 v6 v7, I3 m3 v6 v7 → 
((v7 < ((v4.length : Nat) : Int) →
((0 ≤ v7 ∧ v7 < ((v4.length : Nat) : Int)) ∧
(((gi v4 v7.toNat) < 0 →
(v6.length + 1 ≤ 1000000000 ∧
(In64 (v7 + 1) ∧
∃ m4, m4 < m3 ∧ I3 m4 (v6 ++ [v7]) (v7 + 1)))) ∧
(¬ ((gi v4 v7.toNat) < 0) →
(In64 (v7 + 1) ∧
∃ m5, m5 < m3 ∧ I3 m5 v6 (v7 + 1)))))) ∧
(¬ (v7 < ((v4.length : Nat) : Int)) →
((((v6.length : Nat) : Int) = 0 →
R true v5 0) ∧
(¬ (((v6.length : Nat) : Int) = 0) →
ybt v5 (fun r3 =>
((r3 < 0 →
R false v5 0) ∧
(¬ (r3 < 0) →
((v3 = 1048576 →
R false ([]) 12) ∧
(¬ (v3 = 1048576) →
(((a.length : Nat) : Int) ≠ 0 ∧
((0 ≤ (v3.tmod ((a.length : Nat) : Int)) ∧ (v3.tmod ((a.length : Nat) : Int)) < ((a.length : Nat) : Int)) ∧
(((v6.length : Nat) : Int) ≠ 0 ∧
((0 ≤ ((gi a (v3.tmod ((a.length : Nat) : Int)).toNat).tmod ((v6.length : Nat) : Int)) ∧ ((gi a (v3.tmod ((a.length : Nat) : Int)).toNat).tmod ((v6.length : Nat) : Int)) < ((v6.length : Nat) : Int)) ∧
((0 ≤ (gi v6 ((gi a (v3.tmod ((a.length : Nat) : Int)).toNat).tmod ((v6.length : Nat) : Int)).toNat) ∧ (gi v6 ((gi a (v3.tmod ((a.length : Nat) : Int)).toNat).tmod ((v6.length : Nat) : Int)).toNat) < ((v5.length : Nat) : Int)) ∧
(In64 ((gi v5 (gi v6 ((gi a (v3.tmod ((a.length : Nat) : Int)).toNat).tmod ((v6.length : Nat) : Int)).toNat).toNat) - 1) ∧
yb7 d d2 v4 (gi v6 ((gi a (v3.tmod ((a.length : Nat) : Int)).toNat).tmod ((v6.length : Nat) : Int)).toNat) 1 (fun y =>
(In64 (v3 + 1) ∧
∃ m6, m6 < m2 ∧ I2 m6 (v3 + 1) y (v5.set (gi v6 ((gi a (v3.tmod ((a.length : Nat) : Int)).toNat).tmod ((v6.length : Nat) : Int)).toNat).toNat ((gi v5 (gi v6 ((gi a (v3.tmod ((a.length : Nat) : Int)).toNat).tmod ((v6.length : Nat) : Int)).toNat).toNat) - 1)))))))))))))))))))))) ∧
((yaN i (fun r4 =>
((0 ≤ d ∧ d ≤ 1000000) ∧
J2 r4 (List.replicate d.toNat (0 : Int))))) ∧
(((0 ≤ d ∧ d ≤ 1000000) ∧
yaN i (fun r5 =>
J2 r5 (List.replicate d.toNat (0 : Int)))))))) ∧
(¬ (r2 = 0) →
R false ([]) r2)))) ∧
(¬ (r = 0) →
R false ([]) r)))
theorem yeu {O : Nat → Prop} {w : World} {d d2 i a Ad ld cd Ai li ci Aa la ca} {R : Bool → (List Int) → Int → Prop} (h : ybs d d2 i a R) (hO : ∀ k, O k → k < w.heap.size) (hA0 : (FP.sl c3 Ad ld cd d2).P O w) (hA1 : (FP.sl cI Ai li ci i).P O w) (hA2 : (FP.sl cI Aa la ca a).P O w) :
    Calls Try.prog 15 #[(.agg #[(ii d), (.slice Ad ld cd)]), (.slice Ai li ci), (.slice Aa la ca)] w fun e w' => ∃ r6 r7 r8 Ar3 lr3 cr3, e = .returned (.tuple #[(.bool (r6)), (.slice Ar3 lr3 cr3), (ii r8)]) ∧ Sep w no O w' (rl [Res.own cI 3 Ar3 lr3 cr3 r7]) ∧ R r6 r7 r8 := by
  unfold ybs at h; have hS : Sep w no O w (rl [Res.ro (FP.sl c3 Ad ld cd d2), Res.ro (FP.sl cI Ai li ci i), Res.ro (FP.sl cI Aa la ca a)]) := Sep.startl hO [(FP.sl c3 Ad ld cd d2), (FP.sl cI Ai li ci i), (FP.sl cI Aa la ca a)] ⟨hA0, hA1, hA2, trivial⟩; refine yan (l := [(.agg #[(ii d), (.slice Ad ld cd)]), (.slice Ai li ci), (.slice Aa la ca)]) func15 rfl ntmps15 (Nat.le_of_ble_eq_true rfl) (zs (zn (ybO (v := (.agg #[(ii d), (.slice Ad ld cd)])) rfl ?_))); intro g w2 hN; replace hS : Sep w no O w2 (stl _ 3 (Res.box 24 g [(ii d), (.slice Ad ld cd)])) := hS.new 3 rfl hN; clear hN; refine zb (zq (za (.bool (false))) (zq (za (.slice none 0 0)) (zq (za (ii 0)) (yaa (yae (zs (zq (yar (vs := [(ii d), (.slice Ad ld cd)]) rfl underlying24 rfl yap ⟨Row.cell (hS.bx 3 rfl) (i := 0) rfl, Row.cell (hS.bx 3 rfl) (i := 1) rfl, trivial⟩) (zq (zm (.slice Ai li ci)) (zn (yam rfl (am2 rfl rfl) enter_24 ((yeM h (yaG _) (hS.rdr 0 rfl) (hS.rdr 1 rfl)).mono ?_))))))))))); rintro _ w3 ⟨r, rfl, hC, h⟩; replace hS := hS.pur hC.pure; clear hC; refine ⟨_, rfl, ?_⟩; refine zb (zq (za (ii r)) (yaa (zs (zq (zm (ii r)) (zq zN (yaa ?_)))))); by_cases hp : r = 0
  · replace h := h.1 hp; refine ze hp (yah (yae (zs (zq (zm (.slice Aa la ca)) (zn (yam rfl (am1 rfl) enter_29 ((ygp h (yaG _) (hS.rdr 2 rfl)).mono ?_))))))); rintro _ w4 ⟨r2, rfl, hC, h⟩; replace hS := hS.pur hC.pure; clear hC; refine ⟨_, rfl, ?_⟩; refine zb (zq (za (ii r2)) (yaa (zs (zq (zm (ii r2)) (zq zN (yaa ?_)))))); by_cases hp2 : r2 = 0
    · replace h := h.1 hp2; refine ze hp2 (yah (yae ?_)); obtain ⟨J2, hJ, h⟩ := h; refine wt_cutD (fun E ds w' => ∃ v v2 Av lv cv Av2 lv2 cv2, J2 v v2 ∧ ds = [] ∧ E 2 = (Value.slice Aa la ca) ∧ E 3 = (Value.pointer (some (⟨g, 0, none⟩ : Addr))) ∧ E 11 = (Value.slice Av lv cv) ∧ E 12 = (Value.slice Av2 lv2 cv2) ∧ Sep w no O w' (rl [Res.own cI 3 Av lv cv v, Res.own cI 3 Av2 lv2 cv2 v2, Res.ro (FP.sl cI Aa la ca a), Res.box 24 g [(ii d), (.slice Ad ld cd)], Res.ro (FP.sl c3 Ad ld cd d2)])) ?_ ?_
      · clear h hS; rintro E ds w5 ⟨v, v2, Av, lv, cv, Av2, lv2, cv2, h, rfl, hE2, hE3, hE11, hE12, hS⟩; replace h := hJ v v2 h; refine zs (zq (za (ii 0)) (yaa (yak ?_))); obtain ⟨I2, ⟨m0, h0⟩, hr⟩ := h; refine yaC (fun m E ds w' => ∃ v3 v4 v5, I2 m v3 v4 v5 ∧ ds = [] ∧ E 2 = (Value.slice Aa la ca) ∧ E 3 = (Value.pointer (some (⟨g, 0, none⟩ : Addr))) ∧ E 11 = (Value.slice Av lv cv) ∧ E 12 = (Value.slice Av2 lv2 cv2) ∧ E 13 = (ii v3) ∧ Sep w no O w' (rl [Res.ro (FP.sl cI Aa la ca a), Res.box 24 g [(ii d), (.slice Ad ld cd)], Res.ro (FP.sl c3 Ad ld cd d2), Res.own cI 3 Av lv cv v4, Res.own cI 3 Av2 lv2 cv2 v5])) m0 ⟨_, _, _, h0, rfl, hE2, hE3, hE11, hE12, rfl, (hS.sel [2, 3, 4, 0, 1] (by decide))⟩ ?_; clear h0 hS; rintro m2 E ds w6 ⟨v3, v4, v5, h, rfl, hE2, hE3, hE11, hE12, hE13, hS⟩ again; replace h := hr m2 v3 v4 v5 h; clear hr; refine yae (yak (zs (zq (za (.slice none 0 0)) (yaa (yae (zs (zq (yad hE11) (zq (yaV (n := v4.length) rfl underlying26 (yaR (hS.rdo 3 rfl))) (zq (zm (ii 0)) (yaa (yak ?_))))))))))); replace hS := hS.nil 5 rfl cI 3; obtain ⟨I3, ⟨m0, h0⟩, hr⟩ := h; refine yaC (fun m E ds w' => ∃ v6 v7 Av3 lv3 cv3, I3 m v6 v7 ∧ ds = [] ∧ E 2 = (Value.slice Aa la ca) ∧ E 3 = (Value.pointer (some (⟨g, 0, none⟩ : Addr))) ∧ E 11 = (Value.slice Av lv cv) ∧ E 12 = (Value.slice Av2 lv2 cv2) ∧ E 13 = (ii v3) ∧ E 14 = (Value.slice Av3 lv3 cv3) ∧ E 36 = (Value.slice Av lv cv) ∧ E 37 = (ii ((v4.length : Nat) : Int)) ∧ E 38 = (ii v7) ∧ Sep w no O w' (rl [Res.own cI 3 Av3 lv3 cv3 v6, Res.ro (FP.sl cI Aa la ca a), Res.box 24 g [(ii d), (.slice Ad ld cd)], Res.ro (FP.sl c3 Ad ld cd d2), Res.own cI 3 Av lv cv v4, Res.own cI 3 Av2 lv2 cv2 v5])) m0 ⟨_, _, _, _, _, h0, rfl, hE2, hE3, hE11, hE12, hE13, rfl, rfl, rfl, rfl, (hS.sel [5, 0, 1, 2, 3, 4] (by decide))⟩ ?_; clear h0 hS; rintro m3 E ds w7 ⟨v6, v7, Av3, lv3, cv3, h, rfl, hE2, hE3, hE11, hE12, hE13, hE14, hE36, hE37, hE38, hS⟩ again2; replace h := hr m3 v6 v7 h; clear hr; refine zs (zq (ycR hE38 hE37) (yaa (yae ?_))); by_cases hp3 : v7 < ((v4.length : Nat) : Int)
        · replace h := h.1 hp3; refine zc hp3 (yah (yae (yak (zs (zq (yad hE38) ?_))))); obtain ⟨hx, h⟩ := h; refine zq (ybw hE36 hE38 underlying26 yag (yaQ (hS.rdo 4 rfl) hx)) (zq (yax (v := (ii (gi v4 v7.toNat))) rfl underlying3 rfl (rd_1 (hS.rdo 4 rfl) hx (fun q => yaF q) rfl)) ?_); refine zq (za (ii v7)) (zq (za (ii (gi v4 v7.toNat))) (yaa (zs (zq (zm (ii (gi v4 v7.toNat))) (zq zL (yaa ?_)))))); by_cases hp4 : (gi v4 v7.toNat) < 0
          · replace h := h.1 hp4; refine zc hp4 (zr (zq (yad hE14) (zq (zm (ii v7)) (zn (ybd (l := [(0, (ii v7))]) (cells := [(ii v7)]) (bp1 rfl) underlying25 yag rfl rfl ?_))))); intro g2 w8 hN; replace hS := hS.litf (n := 1) 6 rfl (fI .i64) hN ([v7] : List Int) rfl (by decide) rfl; clear hN; refine zb ?_; obtain ⟨hx2, h⟩ := h; refine zn (n_app (c := cI) rfl rfl underlying25 underlying25 yag rfl rfl (by decide) hS 0 rfl (hS.yo 6 rfl) hx2 ?_); clear hS; intro A c w9 hS; refine zb (zq (za (.slice A (lv3 + 1) c)) (yaa (yaj (zr ?_)))); obtain ⟨hi, h⟩ := h; refine zq (ybf hE38 rfl hi) (zq (zm (ii (v7 + 1))) (yaa ?_)); obtain ⟨mq, hlt, h⟩ := h; exact again2 mq _ _ _ ⟨_, _, _, _, _, h, rfl, hE2, hE3, hE11, hE12, hE13, rfl, hE36, hE37, rfl, (hS.sel [0, 1, 2, 3, 4, 5] (by decide))⟩ hlt
          · replace h := h.2 hp4; refine zd hp4 (yah (yaj (zr ?_))); obtain ⟨hi2, h⟩ := h; refine zq (ybf hE38 rfl hi2) (zq (zm (ii (v7 + 1))) (yaa ?_)); obtain ⟨mq, hlt, h⟩ := h; exact again2 mq _ _ _ ⟨_, _, _, _, _, h, rfl, hE2, hE3, hE11, hE12, hE13, hE14, hE36, hE37, rfl, (hS.sel [0, 1, 2, 3, 4, 5] (by decide))⟩ hlt
        · replace h := h.2 hp3; refine zd hp3 (yay rfl (yae (yak (zs (zq (yad hE14) (zq (yaV (n := v6.length) rfl underlying25 (yaR (hS.rdo 0 rfl))) (zq zE (zq (za (.bool (decide (((v6.length : Nat) : Int) = 0)))) (yaa ?_))))))))); by_cases hp5 : ((v6.length : Nat) : Int) = 0
          · replace h := h.1 hp5; exact zc hp5 (zs (zq (yad hE12) (zq (za (.bool (true))) (zq (za (.slice Av2 lv2 cv2)) (zq (za (ii 0)) (yaa (ycl rfl rfl rfl rfl ⟨_, _, _, _, _, _, rfl, (hS.sel [5] (by decide)), h⟩)))))))
          · replace h := h.2 hp5; refine zd hp5 (zs (zq (yad hE12) (zn (yam rfl (am1 rfl) enter_31 ((yeV h (yaG _) (hS.rdo 5 rfl)).mono ?_))))); rintro _ w10 ⟨r3, rfl, hC, h⟩; replace hS := hS.pur hC.pure; clear hC; refine ⟨_, rfl, ?_⟩; refine zb (zq zL (zq (za (.bool (decide (r3 < 0)))) (yaa ?_))); by_cases hp6 : r3 < 0
            · replace h := h.1 hp6; exact zc hp6 (zs (zq (yad hE12) (zq (za (.bool (false))) (zq (za (.slice Av2 lv2 cv2)) (zq (za (ii 0)) (yaa (ycl rfl rfl rfl rfl ⟨_, _, _, _, _, _, rfl, (hS.sel [5] (by decide)), h⟩)))))))
            · replace h := h.2 hp6; refine zd hp6 (zs (zq (yad hE13) (zq zE (zq (za (.bool (decide (v3 = 1048576)))) (yaa ?_))))); by_cases hp7 : v3 = 1048576
              · replace h := h.1 hp7; refine zc hp7 (zs (zq (za (.bool (false))) (zq (za (.slice none 0 0)) (zq (za (ii 12)) (yaa ?_))))); replace hS := hS.nil 6 rfl cI 3; exact ycl rfl rfl rfl rfl ⟨_, _, _, _, _, _, rfl, (hS.sel [6] (by decide)), h⟩
              · replace h := h.2 hp7; refine zd hp7 (yah (yaj (zs (zq (yad hE14) (zq (yad hE2) (zq (yad hE13) (zq (yad hE2) (zq (yaV (n := a.length) rfl underlying25 (yaR (hS.rdr 1 rfl))) ?_)))))))); obtain ⟨hz, h⟩ := h; refine zq (v_rem rfl rfl hz) ?_; obtain ⟨hx3, h⟩ := h; refine zq (zi underlying25 yag (yaQ (hS.rdr 1 rfl) hx3)) (zq (yax (v := (ii (gi a (v3.tmod ((a.length : Nat) : Int)).toNat))) rfl underlying3 rfl (rd_1 (hS.rdr 1 rfl) hx3 (fun q => yaF q) rfl)) ?_); refine zq (yad hE14) (zq (yaV (n := v6.length) rfl underlying25 (yaR (hS.rdo 0 rfl))) ?_); obtain ⟨hz2, h⟩ := h; refine zq (v_rem rfl rfl hz2) ?_; obtain ⟨hx4, h⟩ := h; refine zq (zi underlying25 yag (yaQ (hS.rdo 0 rfl) hx4)) (zq (yax (v := (ii (gi v6 ((gi a (v3.tmod ((a.length : Nat) : Int)).toNat).tmod ((v6.length : Nat) : Int)).toNat))) rfl underlying3 rfl (rd_1 (hS.rdo 0 rfl) hx4 (fun q => yaF q) rfl)) ?_); refine zq (za (ii (gi v6 ((gi a (v3.tmod ((a.length : Nat) : Int)).toNat).tmod ((v6.length : Nat) : Int)).toNat))) (yaa (zs (zq (yad hE12) (zq (zm (ii (gi v6 ((gi a (v3.tmod ((a.length : Nat) : Int)).toNat).tmod ((v6.length : Nat) : Int)).toNat))) ?_)))); obtain ⟨hx5, h⟩ := h; refine zq (zi underlying41 yag (yaQ (hS.rdo 5 rfl) hx5)) (zq (yax (v := (ii (gi v5 (gi v6 ((gi a (v3.tmod ((a.length : Nat) : Int)).toNat).tmod ((v6.length : Nat) : Int)).toNat).toNat))) rfl underlying3 rfl (rd_1 (hS.rdo 5 rfl) hx5 (fun q => yaF q) rfl)) ?_); obtain ⟨hi3, h⟩ := h; refine zq (zS hi3) (zq (zi underlying41 yag (yaQ (hS.rdo 5 rfl) hx5)) (zo (zt (ii ((gi v5 (gi v6 ((gi a (v3.tmod ((a.length : Nat) : Int)).toNat).tmod ((v6.length : Nat) : Int)).toNat).toNat) - 1)) yag (hS.wr 5 rfl rfl hx5) ?_))); intro w11 e1; replace hS := hS.st 5 rfl rfl hx5 (x := (gi v5 (gi v6 ((gi a (v3.tmod ((a.length : Nat) : Int)).toNat).tmod ((v6.length : Nat) : Int)).toNat).toNat) - 1) rfl e1; clear e1; refine zb (yaa (zr (zq (yar (vs := [(ii d), (.slice Ad ld cd)]) hE3 underlying24 rfl yap ⟨Row.cell (hS.bx 2 rfl) (i := 0) rfl, Row.cell (hS.bx 2 rfl) (i := 1) rfl, trivial⟩) (zq (yad hE11) (zq (zm (ii (gi v6 ((gi a (v3.tmod ((a.length : Nat) : Int)).toNat).tmod ((v6.length : Nat) : Int)).toNat))) ?_))))); have hB := hS.lend (asc [(4, 0)]) [3, 4] (by decide) ⟨.inr rfl, .inl (ycW rfl), trivial⟩; refine zn (yeS (vs := #[(.agg #[(ii d), (.slice Ad ld cd)]), (.slice Av lv cv), (ii (gi v6 ((gi a (v3.tmod ((a.length : Nat) : Int)).toNat).tmod ((v6.length : Nat) : Int)).toNat)), (ii 1)]) (us := #[]) rfl (am4 rfl rfl rfl rfl) enter_32 ((ych (by simp) (yf3 h hB)).mono ?_)); rintro _ w12 ⟨y, rfl, hC, h⟩; replace hS := hS.back (asc [(4, 0)]) (yec (by decide)) hC; clear hC hB; refine ⟨_, rfl, ?_⟩; refine zb (yaa (yaj (zr (zq (yad hE13) ?_)))); obtain ⟨hi4, h⟩ := h; refine zq (zA hi4) (zq (za (ii (v3 + 1))) (yaa ?_)); obtain ⟨mq, hlt, h⟩ := h; exact again mq _ _ _ ⟨_, _, _, h, rfl, hE2, hE3, hE11, hE12, rfl, (hS.sel [1, 2, 3, 4, 5] (by decide))⟩ hlt
      clear hJ; intro j; refine wp_draw2 1 4 [0, 2, 3, 1, 5, 4, 6] [0, 2, 3, 4, 1, 5, 6] (fun i => match i with | 1 => [2, 3] | 4 => [0, 5] | _ => []) (fun i => match i with | 4 => [0] | 1 => [2, 3] | _ => []) ybr (by kernel_rfl) (by kernel_rfl) ?_ ?_
      · replace h := h.1; replace hS := hS.drew; refine zp (zm (.slice Ai li ci)) (zp (yai rfl underlying24 rfl yag) (zp (zl underlying3 (Row.cell (hS.bx 3 rfl) (i := 0) rfl)) (rp_n rfl rfl rfl rfl (yam rfl (am1 rfl) enter_30 ((ybW h (yaG _) (hS.rdr 1 rfl)).mono ?_))))); rintro _ w13 ⟨r4, Ar, lr, cr, rfl, hC, h⟩; replace hS := hS.call1 (hC.widen (yea (ybh (fI .i64) _ _ _ _ _) yfn) hS.blt) 4 0 rfl; clear hC; refine ⟨_, rfl, ?_⟩; refine ⟨⟨fun _ => (zl underlying3 (Row.cell (hS.bx 3 rfl) (i := 0) rfl)), ⟨fun _ => (yai rfl underlying24 rfl yag), ⟨fun hh => Bool.noConfusion (show false = true from hh), trivial⟩⟩⟩, ?_⟩; refine zp (za (.slice Ar lr cr)) ?_; obtain ⟨hx6, h⟩ := h; refine rp_n rfl rfl rfl rfl (yhl rfl rfl underlying41 yag (by decide) rfl hx6 ?_); intro g3 w14 hN; replace hS := hS.made 5 rfl cI (ii 0) (0 : Int) (fun _ _ => rfl) hN (by omega); clear hN; refine ⟨⟨fun _ => (za (.slice Ar lr cr)), ⟨fun hh => Bool.noConfusion (show false = true from hh), ⟨fun hh => Bool.noConfusion (show false = true from hh), ⟨fun _ => (zm (.slice Ai li ci)), trivial⟩⟩⟩⟩, ?_⟩; exact zp (za (.slice (some ⟨g3, 0, none⟩) d.toNat d.toNat)) (ybz (j _ _ _ ⟨_, _, _, _, _, _, _, _, h, rfl, rfl, rfl, rfl, rfl, (hS.sel [4, 5, 2, 3, 0] (by decide))⟩))
      · replace h := h.2; replace hS := hS.drew; refine zp (zm (.slice Ai li ci)) (zp (yai rfl underlying24 rfl yag) (zp (zl underlying3 (Row.cell (hS.bx 3 rfl) (i := 0) rfl)) ?_)); obtain ⟨hx7, h⟩ := h; refine rp_n rfl rfl rfl rfl (yhl rfl rfl underlying41 yag (by decide) rfl hx7 ?_); intro g4 w15 hN; replace hS := hS.made 4 rfl cI (ii 0) (0 : Int) (fun _ _ => rfl) hN (by omega); clear hN; refine ⟨⟨fun hh => Bool.noConfusion (show false = true from hh), ⟨fun hh => Bool.noConfusion (show false = true from hh), ⟨fun _ => (zm (.slice Ai li ci)), trivial⟩⟩⟩, ?_⟩; refine rp_n rfl rfl rfl rfl (yam rfl (am1 rfl) enter_30 ((ybW h (yaG _) (hS.rdr 1 rfl)).mono ?_)); rintro _ w16 ⟨r5, Ar2, lr2, cr2, rfl, hC, h⟩; replace hS := hS.call1 (hC.widen (yea (ybh (fI .i64) _ _ _ _ _) yfn) hS.blt) 5 0 rfl; clear hC; refine ⟨_, rfl, ?_⟩; refine ⟨⟨fun _ => (zl underlying3 (Row.cell (hS.bx 3 rfl) (i := 0) rfl)), ⟨fun _ => (yai rfl underlying24 rfl yag), ⟨fun hh => Bool.noConfusion (show false = true from hh), trivial⟩⟩⟩, ?_⟩; exact zp (za (.slice Ar2 lr2 cr2)) (zp (za (.slice (some ⟨g4, 0, none⟩) d.toNat d.toNat)) (ybz (j _ _ _ ⟨_, _, _, _, _, _, _, _, h, rfl, rfl, rfl, rfl, rfl, (hS.sel [5, 4, 2, 3, 0] (by decide))⟩)))
    · replace h := h.2 hp2; refine zf hp2 (zs (zq (zm (ii r2)) (zq (za (.bool (false))) (zq (za (.slice none 0 0)) (zq (za (ii r2)) (yaa ?_)))))); replace hS := hS.nil 4 rfl cI 3; exact ycl rfl rfl rfl rfl ⟨_, _, _, _, _, _, rfl, (hS.sel [4] (by decide)), h⟩
  · replace h := h.2 hp; refine zf hp (zs (zq (zm (ii r)) (zq (za (.bool (false))) (zq (za (.slice none 0 0)) (zq (za (ii r)) (yaa ?_)))))); replace hS := hS.nil 4 rfl cI 3; exact ycl rfl rfl rfl rfl ⟨_, _, _, _, _, _, rfl, (hS.sel [4] (by decide)), h⟩
def ycx (s : List Int) (R : (List Int) → Prop) : Prop :=
(0 < s.length ∧
((cpy (List.replicate 12 (0 : Int)) s).length = 12 ∧
R (cpy (List.replicate 12 (0 : Int)) s)))
theorem ygL {O : Nat → Prop} {w : World} {s As ls cs} {R : (List Int) → Prop} (h : ycx s R) (hO : ∀ k, O k → k < w.heap.size) (hA0 : (FP.sl cI As ls cs s).P O w) :
    Calls Try.prog 49 #[(.slice As ls cs)] w fun e w' => ∃ r, e = .returned (kE r) ∧ Sep w no O w' (rl []) ∧ R r := by
  unfold ycx at h; have hS : Sep w no O w (rl [Res.ro (FP.sl cI As ls cs s)]) := Sep.startl hO [(FP.sl cI As ls cs s)] ⟨hA0, trivial⟩; refine yan (l := [(.slice As ls cs)]) func49 rfl ntmps49 (Nat.le_of_ble_eq_true rfl) (zs (zn (ya4 yev ?_))); intro g w2 hN; replace hS := hS.made (n := 12) 1 rfl cI (ii 0) (0 : Int) (fun _ _ => rfl) (hN : New _ _ _ (Array.replicate 12 (ii 0)) 87) (by decide); clear hN; refine zb (yaa (zs (zn (ya4 yev ?_)))); intro g2 w3 hN; replace hS := hS.made (n := 12) 2 rfl cI (ii 0) (0 : Int) (fun _ _ => rfl) (hN : New _ _ _ (Array.replicate 12 (ii 0)) 87) (by decide); clear hN; refine zb (yaa (zs (zq (yhG rfl underlying87 yag) (zq (zm (.slice As ls cs)) ?_)))); obtain ⟨hx, h⟩ := h; refine zn (n_cpy rfl rfl underlying25 yag hS 2 rfl (hS.rdr 0 rfl) hx ?_); clear hS; intro w4 hS; refine zb (yaa (zs (zq (yar (vs := (cpy (List.replicate 12 (0 : Int)) s).map (.int .i64)) rfl underlying87 rfl (yd4 yev (hS.rdo 2 rfl)) (ydE (hS.rdo 2 rfl))) ?_))); obtain ⟨hx2, h⟩ := h; refine zo (n_starr rfl rfl yev hS 1 rfl hx2 ?_); clear hS; intro w5 hS; exact zb (yaa (wt_retx1 rfl (rv_a rfl underlying87 rfl yev hS 1 rfl) ⟨_, rfl, (hS.sel [] (by decide)), h⟩))
def yaX (x : Int) (x2 : List E3) (x3 : List Int) (x4 : Int) (x5 : Int) (s : List Int) (R : (List Int) → Prop) : Prop :=
yaN x3 (fun r =>
(∃ I2 : Nat → Int → (List Int) → Prop, (∃ m0, I2 m0 0 r) ∧ ∀ m2 v out, I2 m2 v out → 
((v < ((x2.length : Nat) : Int) →
((0 ≤ v ∧ v < ((x2.length : Nat) : Int)) ∧
((0 ≤ ((ge x2 v.toNat).1) ∧ ((ge x2 v.toNat).1) < ((s.length : Nat) : Int)) ∧
((0 ≤ ((ge x2 v.toNat).2.1) ∧ ((ge x2 v.toNat).2.1) < ((s.length : Nat) : Int)) ∧
(In64 ((gi s ((ge x2 v.toNat).1).toNat) - (gi s ((ge x2 v.toNat).2.1).toNat)) ∧
(In64 (((ge x2 v.toNat).2.2) * ((gi s ((ge x2 v.toNat).1).toNat) - (gi s ((ge x2 v.toNat).2.1).toNat))) ∧
((0 ≤ ((ge x2 v.toNat).1) ∧ ((ge x2 v.toNat).1) < ((out.length : Nat) : Int)) ∧
(In64 ((gi out ((ge x2 v.toNat).1).toNat) - (((ge x2 v.toNat).2.2) * ((gi s ((ge x2 v.toNat).1).toNat) - (gi s ((ge x2 v.toNat).2.1).toNat)))) ∧
((0 ≤ ((ge x2 v.toNat).2.1) ∧ ((ge x2 v.toNat).2.1) < (((out.set ((ge x2 v.toNat).1).toNat ((gi out ((ge x2 v.toNat).1).toNat) - (((ge x2 v.toNat).2.2) * ((gi s ((ge x2 v.toNat).1).toNat) - (gi s ((ge x2 v.toNat).2.1).toNat))))).length : Nat) : Int)) ∧
(In64 ((gi (out.set ((ge x2 v.toNat).1).toNat ((gi out ((ge x2 v.toNat).1).toNat) - (((ge x2 v.toNat).2.2) * ((gi s ((ge x2 v.toNat).1).toNat) - (gi s ((ge x2 v.toNat).2.1).toNat))))) ((ge x2 v.toNat).2.1).toNat) + (((ge x2 v.toNat).2.2) * ((gi s ((ge x2 v.toNat).1).toNat) - (gi s ((ge x2 v.toNat).2.1).toNat)))) ∧
(In64 (v + 1) ∧
∃ m3, m3 < m2 ∧ I2 m3 (v + 1) ((out.set ((ge x2 v.toNat).1).toNat ((gi out ((ge x2 v.toNat).1).toNat) - (((ge x2 v.toNat).2.2) * ((gi s ((ge x2 v.toNat).1).toNat) - (gi s ((ge x2 v.toNat).2.1).toNat))))).set ((ge x2 v.toNat).2.1).toNat ((gi (out.set ((ge x2 v.toNat).1).toNat ((gi out ((ge x2 v.toNat).1).toNat) - (((ge x2 v.toNat).2.2) * ((gi s ((ge x2 v.toNat).1).toNat) - (gi s ((ge x2 v.toNat).2.1).toNat))))) ((ge x2 v.toNat).2.1).toNat) + (((ge x2 v.toNat).2.2) * ((gi s ((ge x2 v.toNat).1).toNat) - (gi s ((ge x2 v.toNat).2.1).toNat)))))))))))))))) ∧
(¬ (v < ((x2.length : Nat) : Int)) →
R out))))
theorem yc2 {S O : Nat → Prop} {w : World} {x x2 x3 x4 x5 s gc Ax lx cx Ax2 lx2 cx2 As ls cs} {R : (List Int) → Prop} (h : yaX x x2 x3 x4 x5 s R) (hS : Sep w S O w (rl [Res.box 56 gc [(Value.int .i64 x), (Value.slice Ax lx cx), (Value.slice Ax2 lx2 cx2), (Value.int .i64 x4), (Value.int .i64 x5)], Res.ro (FP.sl c3 Ax lx cx x2), Res.ro (FP.sl cI Ax2 lx2 cx2 x3), Res.ro (FP.sl cI As ls cs s)])) :
    Calls Try.prog 46 #[(.pointer (some (⟨gc, 0, none⟩ : Addr))), (.slice As ls cs)] w fun e w' => ∃ r2 Ar2 lr2 cr2, e = .returned (.slice Ar2 lr2 cr2) ∧ Sep w S O w' (rl [Res.box 56 gc [(ii x), (.slice Ax lx cx), (.slice Ax2 lx2 cx2), (ii x4), (ii x5)], Res.own cI 3 Ar2 lr2 cr2 r2]) ∧ R r2 := by
  unfold yaX at h; refine yan (l := [(.pointer (some (⟨gc, 0, none⟩ : Addr))), (.slice As ls cs)]) func46 rfl ntmps46 (Nat.le_of_ble_eq_true rfl) (zs (zq (za (.slice none 0 0)) (yaa (zs (zq (zm (.pointer (some (⟨gc, 0, none⟩ : Addr)))) (zq (ybm rfl) (zq (yai rfl underlying56 rfl yco) (zq (zl underlying26 (Row.cell (hS.bx 0 rfl) (i := 2) rfl)) (zn (yam rfl (am1 rfl) enter_30 ((ybW h (yaG _) (hS.rdr 2 rfl)).mono ?_))))))))))); rintro _ w2 ⟨r, Ar, lr, cr, rfl, hC, h⟩; replace hS := hS.call1 (hC.widen (yea (ybh (fI .i64) _ _ _ _ _) yfn) hS.blt) 4 0 rfl; clear hC; refine ⟨_, rfl, ?_⟩; refine zb (zq (za (.slice Ar lr cr)) (yaa (yae (zs (zq (zm (.pointer (some (⟨gc, 0, none⟩ : Addr)))) (zq (ybm rfl) (zq (yai rfl underlying56 rfl yap) (zq (yai rfl underlying24 rfl yb0) (zq (zl underlying22 (Row.cell (hS.bx 0 rfl) (i := 1) rfl)) (zq (yaV (n := x2.length) rfl underlying22 (yaR (hS.rdr 1 rfl))) (zq (zm (ii 0)) (yaa (yak ?_))))))))))))); obtain ⟨I2, ⟨m0, h0⟩, hr⟩ := h; refine yaC (fun m E ds w' => ∃ v out, I2 m v out ∧ ds = [] ∧ E 0 = (Value.pointer (some (⟨gc, 0, none⟩ : Addr))) ∧ E 1 = (Value.slice As ls cs) ∧ E 5 = (Value.slice Ar lr cr) ∧ E 18 = (Value.slice Ax lx cx) ∧ E 19 = (ii ((x2.length : Nat) : Int)) ∧ E 20 = (ii v) ∧ Sep w S O w' (rl [Res.box 56 gc [(ii x), (.slice Ax lx cx), (.slice Ax2 lx2 cx2), (ii x4), (ii x5)], Res.ro (FP.sl c3 Ax lx cx x2), Res.ro (FP.sl cI Ax2 lx2 cx2 x3), Res.ro (FP.sl cI As ls cs s), Res.own cI 3 Ar lr cr out])) m0 ⟨_, _, h0, rfl, rfl, rfl, rfl, rfl, rfl, rfl, (hS.sel [0, 1, 2, 3, 4] (by decide))⟩ ?_; clear h0 hS; rintro m2 E ds w3 ⟨v, out, h, rfl, hE0, hE1, hE5, hE18, hE19, hE20, hS⟩ again; replace h := hr m2 v out h; clear hr; refine zs (zq (ycR hE20 hE19) (yaa (yae ?_))); by_cases hp : v < ((x2.length : Nat) : Int)
  · replace h := h.1 hp; refine zc hp (yah (yae (yak (zs ?_)))); obtain ⟨hx, h⟩ := h; refine zq (ybw hE18 hE20 underlying22 yaE (yaQ (hS.rdr 1 rfl) hx)) (zq (yar (vs := [(ii ((ge x2 v.toNat).1)), (ii ((ge x2 v.toNat).2.1)), (ii ((ge x2 v.toNat).2.2))]) rfl underlying51 rfl yaE (rd_fs (hS.rdr 1 rfl) hx (fun q => ycN q))) ?_); refine zn (ya4 yaE ?_); intro g w4 hN; replace hS : Sep w S O w4 (stl _ 5 (Res.box 51 g [(ii 0), (ii 0), (ii 0)])) := hS.new 5 rfl hN; clear hN; refine zb (zo (ybg (b := g) (o := 0) (cells := #[(ii ((ge x2 v.toNat).1)), (ii ((ge x2 v.toNat).2.1)), (ii ((ge x2 v.toNat).2.2))]) rfl rfl yaE rfl rfl (yaY (hS.bx 5 rfl) (Nat.le_of_ble_eq_true rfl)) ?_)); intro w5 e1; replace hS := hS.bstn 5 rfl 0 [(ii ((ge x2 v.toNat).1)), (ii ((ge x2 v.toNat).2.1)), (ii ((ge x2 v.toNat).2.2))] e1; clear e1; refine zb (yaa (yae (ybi [0, 1, 2, 3, 4, 5, 6, 7, 8, 9, 10, 11, 12, 13, 14] st0 ybr (by kernel_rfl) (by kernel_rfl) ?_))); replace hS := hS.drew; refine zp (yai rfl underlying51 rfl yag) (zp (zl underlying3 (Row.cell (hS.bx 5 rfl) (i := 2) rfl)) (zp (yad hE1) (zp (yai rfl underlying51 rfl yag) (zp (zl underlying3 (Row.cell (hS.bx 5 rfl) (i := 0) rfl)) ?_)))); obtain ⟨hx2, h⟩ := h; refine zp (zi underlying41 yag (yaQ (hS.rdr 3 rfl) hx2)) (zp (yax (v := (ii (gi s ((ge x2 v.toNat).1).toNat))) rfl underlying3 rfl (rd_1 (hS.rdr 3 rfl) hx2 (fun q => yaF q) rfl)) ?_); refine zp (yad hE1) (zp (yai rfl underlying51 rfl yag) (zp (zl underlying3 (Row.cell (hS.bx 5 rfl) (i := 1) rfl)) ?_)); obtain ⟨hx3, h⟩ := h; refine zp (zi underlying41 yag (yaQ (hS.rdr 3 rfl) hx3)) (zp (yax (v := (ii (gi s ((ge x2 v.toNat).2.1).toNat))) rfl underlying3 rfl (rd_1 (hS.rdr 3 rfl) hx3 (fun q => yaF q) rfl)) ?_); obtain ⟨hi, h⟩ := h; refine zp (zS hi) ?_; obtain ⟨hi2, h⟩ := h; refine zp (v_mul rfl rfl hi2) (zp (za (ii (((ge x2 v.toNat).2.2) * ((gi s ((ge x2 v.toNat).1).toNat) - (gi s ((ge x2 v.toNat).2.1).toNat))))) (ybz (zs (zq (yad hE5) (zq (yai rfl underlying51 rfl yag) (zq (zl underlying3 (Row.cell (hS.bx 5 rfl) (i := 0) rfl)) ?_)))))); obtain ⟨hx4, h⟩ := h; refine zq (zi underlying26 yag (yaQ (hS.rdo 4 rfl) hx4)) (zq (yax (v := (ii (gi out ((ge x2 v.toNat).1).toNat))) rfl underlying3 rfl (rd_1 (hS.rdo 4 rfl) hx4 (fun q => yaF q) rfl)) ?_); refine zq (zm (ii (((ge x2 v.toNat).2.2) * ((gi s ((ge x2 v.toNat).1).toNat) - (gi s ((ge x2 v.toNat).2.1).toNat))))) ?_; obtain ⟨hi3, h⟩ := h; refine zq (zS hi3) (zq (zi underlying26 yag (yaQ (hS.rdo 4 rfl) hx4)) (zo (zt (ii ((gi out ((ge x2 v.toNat).1).toNat) - (((ge x2 v.toNat).2.2) * ((gi s ((ge x2 v.toNat).1).toNat) - (gi s ((ge x2 v.toNat).2.1).toNat))))) yag (hS.wr 4 rfl rfl hx4) ?_))); intro w6 e1; replace hS := hS.st 4 rfl rfl hx4 (x := (gi out ((ge x2 v.toNat).1).toNat) - (((ge x2 v.toNat).2.2) * ((gi s ((ge x2 v.toNat).1).toNat) - (gi s ((ge x2 v.toNat).2.1).toNat)))) rfl e1; clear e1; refine zb (yaa (zr (zq (yad hE5) (zq (yai rfl underlying51 rfl yag) (zq (zl underlying3 (Row.cell (hS.bx 5 rfl) (i := 1) rfl)) ?_))))); obtain ⟨hx5, h⟩ := h; refine zq (zi underlying26 yag (yaQ (hS.rdo 4 rfl) hx5)) (zq (yax (v := (ii (gi (out.set ((ge x2 v.toNat).1).toNat ((gi out ((ge x2 v.toNat).1).toNat) - (((ge x2 v.toNat).2.2) * ((gi s ((ge x2 v.toNat).1).toNat) - (gi s ((ge x2 v.toNat).2.1).toNat))))) ((ge x2 v.toNat).2.1).toNat))) rfl underlying3 rfl (rd_1 (hS.rdo 4 rfl) hx5 (fun q => yaF q) rfl)) ?_); refine zq (zm (ii (((ge x2 v.toNat).2.2) * ((gi s ((ge x2 v.toNat).1).toNat) - (gi s ((ge x2 v.toNat).2.1).toNat))))) ?_; obtain ⟨hi4, h⟩ := h; refine zq (zA hi4) (zq (zi underlying26 yag (yaQ (hS.rdo 4 rfl) hx5)) (zo (zt (ii ((gi (out.set ((ge x2 v.toNat).1).toNat ((gi out ((ge x2 v.toNat).1).toNat) - (((ge x2 v.toNat).2.2) * ((gi s ((ge x2 v.toNat).1).toNat) - (gi s ((ge x2 v.toNat).2.1).toNat))))) ((ge x2 v.toNat).2.1).toNat) + (((ge x2 v.toNat).2.2) * ((gi s ((ge x2 v.toNat).1).toNat) - (gi s ((ge x2 v.toNat).2.1).toNat))))) yag (hS.wr 4 rfl rfl hx5) ?_))); intro w7 e1; replace hS := hS.st 4 rfl rfl hx5 (x := (gi (out.set ((ge x2 v.toNat).1).toNat ((gi out ((ge x2 v.toNat).1).toNat) - (((ge x2 v.toNat).2.2) * ((gi s ((ge x2 v.toNat).1).toNat) - (gi s ((ge x2 v.toNat).2.1).toNat))))) ((ge x2 v.toNat).2.1).toNat) + (((ge x2 v.toNat).2.2) * ((gi s ((ge x2 v.toNat).1).toNat) - (gi s ((ge x2 v.toNat).2.1).toNat)))) rfl e1; clear e1; refine zb (yaa (yaj (zr ?_))); obtain ⟨hi5, h⟩ := h; refine zq (ybf hE20 rfl hi5) (zq (zm (ii (v + 1))) (yaa ?_)); obtain ⟨mq, hlt, h⟩ := h; exact again mq _ _ _ ⟨_, _, h, rfl, hE0, hE1, hE5, hE18, hE19, rfl, (hS.sel [0, 1, 2, 3, 4] (by decide))⟩ hlt
  · replace h := h.2 hp; exact zd hp (yay rfl (zs (zq (yad hE5) (zq (za (.slice Ar lr cr)) (yaa (yal rfl rfl ⟨_, _, _, _, rfl, (hS.sel [0, 4] (by decide)), h⟩))))))
def ya6 (x : Int) (x2 : List E3) (x3 : List Int) (x4 : Int) (x5 : Int) (l : List (List Int)) (R : (List Int) → Prop) : Prop :=
(∃ I2 : Nat → (List Int) → Int → Prop, (∃ m0, I2 m0 ([]) 0) ∧ ∀ m2 best v, I2 m2 best v → 
((v < ((l.length : Nat) : Int) →
((0 ≤ v ∧ v < ((l.length : Nat) : Int)) ∧
yaX x x2 x3 x4 x5 (gx l v.toNat) (fun r =>
ycf r (fun r2 =>
((r2 = 0 →
((best = [] →
(In64 (v + 1) ∧
((gx l v.toNat) ≠ [] ∧
∃ m3, m3 < m2 ∧ I2 m3 (gx l v.toNat) (v + 1)))) ∧
(¬ (best = []) →
ya5 (gx l v.toNat) best (fun r3 =>
((r3 < 0 →
(In64 (v + 1) ∧
((gx l v.toNat) ≠ [] ∧
∃ m4, m4 < m2 ∧ I2 m4 (gx l v.toNat) (v + 1)))) ∧
(¬ (r3 < 0) →
(In64 (v + 1) ∧
∃ m5, m5 < m2 ∧ I2 m5 best (v + 1)))))))) ∧
(¬ (r2 = 0) →
(In64 (v + 1) ∧
∃ m6, m6 < m2 ∧ I2 m6 best (v + 1)))))))) ∧
(¬ (v < ((l.length : Nat) : Int)) →
R best)))
theorem yep {S O : Nat → Prop} {w : World} {x x2 x3 x4 x5 l gc Ax lx cx Ax2 lx2 cx2 Al ll cl} {R : (List Int) → Prop} (h : ya6 x x2 x3 x4 x5 l R) (hS : Sep w S O w (rl [Res.box 56 gc [(Value.int .i64 x), (Value.slice Ax lx cx), (Value.slice Ax2 lx2 cx2), (Value.int .i64 x4), (Value.int .i64 x5)], Res.ro (FP.sl c3 Ax lx cx x2), Res.ro (FP.sl cI Ax2 lx2 cx2 x3), Res.ro (FP.sl (cL cI) Al ll cl l)])) :
    Calls Try.prog 27 #[(.pointer (some (⟨gc, 0, none⟩ : Addr))), (.slice Al ll cl)] w fun e w' => ∃ r4 Ar2 lr2 cr2, e = .returned (.slice Ar2 lr2 cr2) ∧ Option.isNone Ar2 = decide (r4 = []) ∧ Sep w S O w' (rl [Res.box 56 gc [(ii x), (.slice Ax lx cx), (.slice Ax2 lx2 cx2), (ii x4), (ii x5)], Res.ro (FP.sl cI Ar2 lr2 cr2 r4)]) ∧ R r4 := by
  unfold ya6 at h; refine yan (l := [(.pointer (some (⟨gc, 0, none⟩ : Addr))), (.slice Al ll cl)]) func27 rfl ntmps27 (Nat.le_of_ble_eq_true rfl) (zs (zq (za (.slice none 0 0)) (yaa (zs (zq (za (.slice none 0 0)) (yaa (yae (zs (zq (zm (.slice Al ll cl)) (zq (yaV (n := l.length) rfl underlying57 (yaR (hS.rdr 3 rfl))) (zq (zm (ii 0)) (yaa (yak ?_))))))))))))); replace hS := hS.addro 4 rfl _ (yhm cI _ _); obtain ⟨I2, ⟨m0, h0⟩, hr⟩ := h; refine yaC (fun m E ds w' => ∃ best v Abest lbest cbest, I2 m best v ∧ ds = [] ∧ E 0 = (Value.pointer (some (⟨gc, 0, none⟩ : Addr))) ∧ E 5 = (Value.slice Abest lbest cbest) ∧ E 8 = (Value.slice Al ll cl) ∧ E 9 = (ii ((l.length : Nat) : Int)) ∧ E 10 = (ii v) ∧ Option.isNone Abest = decide (best = []) ∧ Sep w S O w' (rl [Res.ro (FP.sl cI Abest lbest cbest best), Res.box 56 gc [(ii x), (.slice Ax lx cx), (.slice Ax2 lx2 cx2), (ii x4), (ii x5)], Res.ro (FP.sl c3 Ax lx cx x2), Res.ro (FP.sl cI Ax2 lx2 cx2 x3), Res.ro (FP.sl (cL cI) Al ll cl l)])) m0 ⟨_, _, _, _, _, h0, rfl, rfl, rfl, rfl, rfl, rfl, nn_nil, (hS.sel [4, 0, 1, 2, 3] (by decide))⟩ ?_; clear h0 hS; rintro m2 E ds w2 ⟨best, v, Abest, lbest, cbest, h, rfl, hE0, hE5, hE8, hE9, hE10, hnn5, hS⟩ again; replace h := hr m2 best v h; clear hr; refine zs (zq (ycR hE10 hE9) (yaa (yae ?_))); by_cases hp : v < ((l.length : Nat) : Int)
  · replace h := h.1 hp; refine zc hp (yah (yae (yak (zs ?_)))); obtain ⟨hx, h⟩ := h; refine zq (ybw hE8 hE10 underlying57 ydp (yaQ (hS.rdr 4 rfl) hx)) ?_; obtain ⟨A, l2, c, hc, hq⟩ := hS.el 4 rfl hx 5 6 rfl rfl (by decide); replace hS := hq; clear hq; refine zq (yax (v := (.slice A l2 c)) rfl underlying41 rfl (hS.clr 6 rfl)) (zq (za (.slice A l2 c)) (yaa (zs (zq (yad (v := (.pointer (some (⟨gc, 0, none⟩ : Addr)))) hE0) (zq (zm (.slice A l2 c)) ?_))))); have hB := hS.lend (asc [(1, 0), (7, 1)]) [1, 2, 3, 5] (by decide) ⟨.inl (ycW rfl), .inr rfl, .inr rfl, .inr rfl, trivial⟩; refine zn (yeS (vs := #[(.pointer (some (⟨gc, 0, none⟩ : Addr))), (.slice A l2 c)]) (us := #[]) rfl (am2 rfl rfl) enter_46 ((ych (by simp) (yc2 h hB)).mono ?_)); rintro _ w3 ⟨r, Ar, lr, cr, rfl, hC, h⟩; replace hS := hS.back (asc [(1, 0), (7, 1)]) (yec (by decide)) hC; clear hC hB; refine ⟨_, rfl, ?_⟩; refine zb (zn (yam rfl (am1 rfl) enter_45 ((ye8 h (yaG _) (hS.rdo 7 rfl)).mono ?_))); rintro _ w4 ⟨r2, rfl, hC, h⟩; replace hS := hS.pur hC.pure; clear hC; refine ⟨_, rfl, ?_⟩; refine zb (zq zE (zq (zm (.bool (decide (r2 = 0)))) ?_)); by_cases hp2 : r2 = 0
    · replace h := h.1 hp2; refine rl_q (yac rfl (yaf rfl (congrArg Value.bool (decide_eq_true hp2)))) rfl rfl (yad hE5) (rl_q (yac rfl (yaf rfl (congrArg Value.bool (decide_eq_true hp2)))) rfl rfl (v_seqlx rfl rfl underlying41 hnn5) (rl_q (yac rfl (yaf rfl (congrArg Value.bool (decide_eq_true hp2)))) rfl rfl (zm (.bool (decide (best = [])))) ?_)); by_cases hp3 : best = []
      · replace h := h.1 hp3; refine rl_p (yab rfl (yaf rfl (congrArg Value.bool (decide_eq_true hp3))) rfl) rfl (rl_p (yab rfl (yaf rfl (congrArg Value.bool (decide_eq_true hp3))) rfl) rfl (rl_p (yab rfl (yaf rfl (congrArg Value.bool (decide_eq_true hp3))) rfl) rfl (rl_p (yab rfl (yaf rfl (congrArg Value.bool (decide_eq_true hp3))) rfl) rfl (rl_q (yac rfl (yaf rfl (congrArg Value.bool (decide_eq_true hp2)))) rfl rfl (yat (v := (.bool (true))) (congrArg Value.bool (decide_eq_true hp3)) rfl) (zq (yat (v := (.bool (true))) (congrArg Value.bool (decide_eq_true hp2)) rfl) (yaa (yaq rfl (zr (zq (zm (.slice A l2 c)) (zq (za (.slice A l2 c)) (yaa (yaj (zr ?_))))))))))))); obtain ⟨hi, h⟩ := h; refine zq (ybf hE10 rfl hi) (zq (zm (ii (v + 1))) (yaa ?_)); obtain ⟨hne, h⟩ := h; obtain ⟨mq, hlt, h⟩ := h; exact again mq _ _ _ ⟨_, _, _, _, _, h, rfl, hE0, rfl, hE8, hE9, rfl, (nn_ne (hS.rdr 5 rfl) hne), (hS.sel [5, 1, 2, 3, 4] (by decide))⟩ hlt
      · replace h := h.2 hp3; refine rl_q (yac rfl (yaf rfl (congrArg Value.bool (decide_eq_false hp3)))) rfl rfl (zm (.slice A l2 c)) (rl_q (yac rfl (yaf rfl (congrArg Value.bool (decide_eq_false hp3)))) rfl rfl (yad hE5) (rl_n (yac rfl (yaf rfl (congrArg Value.bool (decide_eq_false hp3)))) rfl rfl rfl (yam rfl (am2 rfl rfl) enter_47 ((yee h (yaG _) (hS.rdr 5 rfl) (hS.rdr 0 rfl)).mono ?_)))); rintro _ w5 ⟨r3, rfl, hC, h⟩; replace hS := hS.pur hC.pure; clear hC; refine ⟨_, rfl, ?_⟩; refine zb (rl_q (yac rfl (yaf rfl (congrArg Value.bool (decide_eq_false hp3)))) rfl rfl zL (rl_q (yac rfl (yaf rfl (congrArg Value.bool (decide_eq_true hp2)))) rfl rfl (yav (v := (.bool (decide (r3 < 0)))) (congrArg Value.bool (decide_eq_false hp3)) rfl) (zq (yat (v := (.bool (decide (r3 < 0)))) (congrArg Value.bool (decide_eq_true hp2)) rfl) (yaa ?_)))); by_cases hp4 : r3 < 0
        · replace h := h.1 hp4; refine zc hp4 (zr (zq (zm (.slice A l2 c)) (zq (za (.slice A l2 c)) (yaa (yaj (zr ?_)))))); obtain ⟨hi2, h⟩ := h; refine zq (ybf hE10 rfl hi2) (zq (zm (ii (v + 1))) (yaa ?_)); obtain ⟨hne2, h⟩ := h; obtain ⟨mq, hlt, h⟩ := h; exact again mq _ _ _ ⟨_, _, _, _, _, h, rfl, hE0, rfl, hE8, hE9, rfl, (nn_ne (hS.rdr 5 rfl) hne2), (hS.sel [5, 1, 2, 3, 4] (by decide))⟩ hlt
        · replace h := h.2 hp4; refine zd hp4 (yah (yaj (zr ?_))); obtain ⟨hi3, h⟩ := h; refine zq (ybf hE10 rfl hi3) (zq (zm (ii (v + 1))) (yaa ?_)); obtain ⟨mq, hlt, h⟩ := h; exact again mq _ _ _ ⟨_, _, _, _, _, h, rfl, hE0, hE5, hE8, hE9, rfl, hnn5, (hS.sel [0, 1, 2, 3, 4] (by decide))⟩ hlt
    · replace h := h.2 hp2; refine rl_p (yab rfl (yaf rfl (congrArg Value.bool (decide_eq_false hp2))) rfl) rfl (rl_p (yab rfl (yaf rfl (congrArg Value.bool (decide_eq_false hp2))) rfl) rfl (rl_p (yab rfl (yaf rfl (congrArg Value.bool (decide_eq_false hp2))) rfl) rfl (rl_p (ybG rfl rfl) rfl (rl_p (ybG rfl rfl) rfl (rl_p (ybG rfl rfl) rfl (rl_p (ybG rfl rfl) rfl (rl_p (yab rfl (yaf rfl (congrArg Value.bool (decide_eq_false hp2))) rfl) rfl (zq (yav (v := (.bool (false))) (congrArg Value.bool (decide_eq_false hp2)) rfl) (yaa (yaA rfl (yah (yaj (zr ?_))))))))))))); obtain ⟨hi4, h⟩ := h; refine zq (ybf hE10 rfl hi4) (zq (zm (ii (v + 1))) (yaa ?_)); obtain ⟨mq, hlt, h⟩ := h; exact again mq _ _ _ ⟨_, _, _, _, _, h, rfl, hE0, hE5, hE8, hE9, rfl, hnn5, (hS.sel [0, 1, 2, 3, 4] (by decide))⟩ hlt
  · replace h := h.2 hp; exact zd hp (yay rfl (zs (zq (yad hE5) (zq (za (.slice Abest lbest cbest)) (yaa (yal rfl rfl ⟨_, _, _, _, rfl, hnn5, (hS.sel [1, 0] (by decide)), h⟩))))))
def ybj (d : Int) (d2 : List E3) (d3 : List Int) (d4 : Int) (d5 : Int) (i : List (List Int)) (a : Int) (R : (List (List Int)) → Prop) : Prop :=
(∃ I2 : Nat → (List (List Int)) → Int → (List (List Int × Bool)) → Prop, (∃ m0, I2 m0 ([]) 0 ([] : List (List Int × Bool))) ∧ ∀ m2 v v2 v3, I2 m2 v v2 v3 → 
((v2 < ((i.length : Nat) : Int) →
((0 ≤ v2 ∧ v2 < ((i.length : Nat) : Int)) ∧
(∃ I3 : Nat → (List (List Int)) → Int → (List (List Int × Bool)) → Prop, (∃ m0, I3 m0 v 0 v3) ∧ ∀ m3 v4 v5 v6, I3 m3 v4 v5 v6 → 
((v5 < (((gx i v2.toNat).length : Nat) : Int) →
((0 ≤ v5 ∧ v5 < (((gx i v2.toNat).length : Nat) : Int)) ∧
(∃ I4 : Nat → (List (List Int)) → Int → (List (List Int × Bool)) → Prop, (∃ m0, I4 m0 v4 0 v6) ∧ ∀ m4 v7 v8 v9, I4 m4 v7 v8 v9 → 
((v8 < 2 →
((0 ≤ v8 ∧ v8 < 2) ∧
(In64 ((gi (gx i v2.toNat) v5.toNat) * (gi [-1, 1] v8.toNat)) ∧
((((gi (gx i v2.toNat) v5.toNat) * (gi [-1, 1] v8.toNat)) < 0 →
(In64 (v8 + 1) ∧
∃ m5, m5 < m4 ∧ I4 m5 v7 (v8 + 1) v9)) ∧
(¬ (((gi (gx i v2.toNat) v5.toNat) * (gi [-1, 1] v8.toNat)) < 0) →
ybe (gx i v2.toNat) (fun r =>
((0 ≤ v5 ∧ v5 < ((r.length : Nat) : Int)) ∧
(In64 ((gi r v5.toNat) + (gi [-1, 1] v8.toNat)) ∧
ycx (r.set v5.toNat ((gi r v5.toNat) + (gi [-1, 1] v8.toNat))) (fun r2 =>
(r2.length = 12 ∧
(KOk 12 v9 ∧
yeW 12 r2 ∧
((((mget v9 r2).getD false) = true →
(In64 (v8 + 1) ∧
∃ m6, m6 < m4 ∧ I4 m6 v7 (v8 + 1) v9)) ∧
(¬ (((mget v9 r2).getD false) = true) →
(In64 (a + 1) ∧
yaX d d2 d3 d4 d5 (r.set v5.toNat ((gi r v5.toNat) + (gi [-1, 1] v8.toNat))) (fun r3 =>
ycs r3 d4 (fun r4 =>
(In64 ((a + 1) + r4) ∧
((((a + 1) + r4) ≤ d5 →
(v7.length + 1 ≤ 1000000000 ∧
(In64 (v8 + 1) ∧
∃ m7, m7 < m4 ∧ I4 m7 (v7 ++ [(r.set v5.toNat ((gi r v5.toNat) + (gi [-1, 1] v8.toNat)))]) (v8 + 1) (mput v9 r2 true)))) ∧
(¬ (((a + 1) + r4) ≤ d5) →
(In64 (v8 + 1) ∧
∃ m8, m8 < m4 ∧ I4 m8 v7 (v8 + 1) (mput v9 r2 true))))))))))))))))))))) ∧
(¬ (v8 < 2) →
(In64 (v5 + 1) ∧
∃ m9, m9 < m3 ∧ I3 m9 v7 (v5 + 1) v9)))))) ∧
(¬ (v5 < (((gx i v2.toNat).length : Nat) : Int)) →
(In64 (v2 + 1) ∧
∃ m10, m10 < m2 ∧ I2 m10 v4 (v2 + 1) v6)))))) ∧
(¬ (v2 < ((i.length : Nat) : Int)) →
R v)))
theorem yeP {S O : Nat → Prop} {w : World} {d d2 d3 d4 d5 i a gc Ad ld cd Ad2 ld2 cd2 Ai li ci} {R : (List (List Int)) → Prop} (h : ybj d d2 d3 d4 d5 i a R) (hS : Sep w S O w (rl [Res.box 56 gc [(Value.int .i64 d), (Value.slice Ad ld cd), (Value.slice Ad2 ld2 cd2), (Value.int .i64 d4), (Value.int .i64 d5)], Res.ro (FP.sl c3 Ad ld cd d2), Res.ro (FP.sl cI Ad2 ld2 cd2 d3), Res.ro (FP.sl (cL cI) Ai li ci i)])) :
    Calls Try.prog 28 #[(.pointer (some (⟨gc, 0, none⟩ : Addr))), (.slice Ai li ci), (ii a)] w fun e w' => ∃ r5 Ar3 lr3 cr3, e = .returned (.slice Ar3 lr3 cr3) ∧ Sep w S O w' (rl [Res.box 56 gc [(ii d), (.slice Ad ld cd), (.slice Ad2 ld2 cd2), (ii d4), (ii d5)], Res.own (cL cI) 41 Ar3 lr3 cr3 r5]) ∧ R r5 := by
  unfold ybj at h; refine yan (l := [(.pointer (some (⟨gc, 0, none⟩ : Addr))), (.slice Ai li ci), (ii a)]) func28 rfl ntmps28 (Nat.le_of_ble_eq_true rfl) (zs (zq (za (.slice none 0 0)) (yaa (zs (zn (n_mkmap (vE := Value.bool) rfl ?_)))))); intro g w2 e1 e2; replace hS : Sep w S O w2 (stl _ 4 (Res.obj g (mapO Value.bool ([] : List (List Int × Bool))))) := hS.newm 4 rfl e1 e2; clear e1 e2; refine zb (zq (za (Value.map (some g))) (yaa (zs (zq (za (.slice none 0 0)) (yaa (yae (zs (zq (zm (.slice Ai li ci)) (zq (yaV (n := i.length) rfl underlying57 (yaR (hS.rdr 3 rfl))) (zq (zm (ii 0)) (yaa (yak ?_)))))))))))); replace hS := hS.nil 5 rfl (cL cI) 41; obtain ⟨I2, ⟨m0, h0⟩, hr⟩ := h; refine yaC (fun m E ds w' => ∃ v v2 v3 Av lv cv, I2 m v v2 v3 ∧ ds = [] ∧ E 0 = (Value.pointer (some (⟨gc, 0, none⟩ : Addr))) ∧ E 2 = (ii a) ∧ E 7 = (Value.map (some g)) ∧ E 8 = (Value.slice Av lv cv) ∧ E 18 = (Value.slice Ai li ci) ∧ E 19 = (ii ((i.length : Nat) : Int)) ∧ E 20 = (ii v2) ∧ Sep w S O w' (rl [Res.own (cL cI) 41 Av lv cv v, Res.box 56 gc [(ii d), (.slice Ad ld cd), (.slice Ad2 ld2 cd2), (ii d4), (ii d5)], Res.ro (FP.sl c3 Ad ld cd d2), Res.ro (FP.sl cI Ad2 ld2 cd2 d3), Res.obj g (mapO Value.bool v3), Res.ro (FP.sl (cL cI) Ai li ci i)])) m0 ⟨_, _, _, _, _, _, h0, rfl, rfl, rfl, rfl, rfl, rfl, rfl, rfl, (hS.sel [5, 0, 1, 2, 4, 3] (by decide))⟩ ?_; clear h0 hS; rintro m2 E ds w3 ⟨v, v2, v3, Av, lv, cv, h, rfl, hE0, hE2, hE7, hE8, hE18, hE19, hE20, hS⟩ again; replace h := hr m2 v v2 v3 h; clear hr; refine zs (zq (ycR hE20 hE19) (yaa (yae ?_))); by_cases hp : v2 < ((i.length : Nat) : Int)
  · replace h := h.1 hp; refine zc hp (yah (yae (yak (zs ?_)))); obtain ⟨hx, h⟩ := h; refine zq (ybw hE18 hE20 underlying57 ydp (yaQ (hS.rdr 5 rfl) hx)) ?_; obtain ⟨A, l, c, hc, hq⟩ := hS.el 5 rfl hx 6 7 rfl rfl (by decide); replace hS := hq; clear hq; refine zq (yax (v := (.slice A l c)) rfl underlying41 rfl (hS.clr 7 rfl)) (zq (za (.slice A l c)) (yaa (zs (zq (zm (.slice A l c)) (zq (yaV (n := (gx i v2.toNat).length) rfl underlying41 (yaR (hS.rdr 6 rfl))) (zq (zm (ii 0)) (yaa (yak ?_)))))))); obtain ⟨I3, ⟨m0, h0⟩, hr⟩ := h; refine yaC (fun m E ds w' => ∃ v4 v5 v6 Av2 lv2 cv2, I3 m v4 v5 v6 ∧ ds = [] ∧ E 0 = (Value.pointer (some (⟨gc, 0, none⟩ : Addr))) ∧ E 2 = (ii a) ∧ E 7 = (Value.map (some g)) ∧ E 8 = (Value.slice Av2 lv2 cv2) ∧ E 10 = (Value.slice A l c) ∧ E 18 = (Value.slice Ai li ci) ∧ E 19 = (ii ((i.length : Nat) : Int)) ∧ E 20 = (ii v2) ∧ E 24 = (Value.slice A l c) ∧ E 25 = (ii (((gx i v2.toNat).length : Nat) : Int)) ∧ E 26 = (ii v5) ∧ Sep w S O w' (rl [Res.own (cL cI) 41 Av2 lv2 cv2 v4, Res.box 56 gc [(ii d), (.slice Ad ld cd), (.slice Ad2 ld2 cd2), (ii d4), (ii d5)], Res.ro (FP.sl c3 Ad ld cd d2), Res.ro (FP.sl cI Ad2 ld2 cd2 d3), Res.obj g (mapO Value.bool v6), Res.ro (FP.sl cI A l c (gx i v2.toNat)), Res.ro (FP.sl (cL cI) Ai li ci i)])) m0 ⟨_, _, _, _, _, _, h0, rfl, hE0, hE2, hE7, hE8, rfl, hE18, hE19, hE20, rfl, rfl, rfl, (hS.sel [0, 1, 2, 3, 4, 6, 5] (by decide))⟩ ?_; clear h0 hS; rintro m3 E ds w4 ⟨v4, v5, v6, Av2, lv2, cv2, h, rfl, hE0, hE2, hE7, hE8, hE10, hE18, hE19, hE20, hE24, hE25, hE26, hS⟩ again2; replace h := hr m3 v4 v5 v6 h; clear hr; refine zs (zq (ycR hE26 hE25) (yaa (yae ?_))); by_cases hp2 : v5 < (((gx i v2.toNat).length : Nat) : Int)
    · replace h := h.1 hp2; refine zc hp2 (yah (yae (yak (zs (zq (yad hE26) ?_))))); obtain ⟨hx2, h⟩ := h; refine zq (ybw hE24 hE26 underlying41 yag (yaQ (hS.rdr 5 rfl) hx2)) (zq (yax (v := (ii (gi (gx i v2.toNat) v5.toNat))) rfl underlying3 rfl (rd_1 (hS.rdr 5 rfl) hx2 (fun q => yaF q) rfl)) ?_); refine zq (za (ii v5)) (zq (za (ii (gi (gx i v2.toNat) v5.toNat))) (yaa (zs (zn (n_builda (l := [(0, (ii (-1))), (1, (ii 1))]) (cells := [(ii (-1)), (ii 1)]) (bp2 rfl rfl) underlying84 info_84 yag rfl ?_))))); refine zb (zq (zm (ii 0)) (yaa (yak ?_))); obtain ⟨I4, ⟨m0, h0⟩, hr⟩ := h; refine yaC (fun m E ds w' => ∃ v7 v8 v9 Av3 lv3 cv3, I4 m v7 v8 v9 ∧ ds = [] ∧ E 0 = (Value.pointer (some (⟨gc, 0, none⟩ : Addr))) ∧ E 2 = (ii a) ∧ E 7 = (Value.map (some g)) ∧ E 8 = (Value.slice Av3 lv3 cv3) ∧ E 10 = (Value.slice A l c) ∧ E 11 = (ii v5) ∧ E 12 = (ii (gi (gx i v2.toNat) v5.toNat)) ∧ E 18 = (Value.slice Ai li ci) ∧ E 19 = (ii ((i.length : Nat) : Int)) ∧ E 20 = (ii v2) ∧ E 24 = (Value.slice A l c) ∧ E 25 = (ii (((gx i v2.toNat).length : Nat) : Int)) ∧ E 26 = (ii v5) ∧ E 31 = (Value.agg #[(ii (-1)), (ii 1)]) ∧ E 32 = (ii v8) ∧ Sep w S O w' (rl [Res.own (cL cI) 41 Av3 lv3 cv3 v7, Res.box 56 gc [(ii d), (.slice Ad ld cd), (.slice Ad2 ld2 cd2), (ii d4), (ii d5)], Res.ro (FP.sl c3 Ad ld cd d2), Res.ro (FP.sl cI Ad2 ld2 cd2 d3), Res.obj g (mapO Value.bool v9), Res.ro (FP.sl cI A l c (gx i v2.toNat)), Res.ro (FP.sl (cL cI) Ai li ci i)])) m0 ⟨_, _, _, _, _, _, h0, rfl, hE0, hE2, hE7, hE8, hE10, rfl, rfl, hE18, hE19, hE20, hE24, hE25, hE26, rfl, rfl, (hS.sel [0, 1, 2, 3, 4, 5, 6] (by decide))⟩ ?_; clear h0 hS; rintro m4 E ds w5 ⟨v7, v8, v9, Av3, lv3, cv3, h, rfl, hE0, hE2, hE7, hE8, hE10, hE11, hE12, hE18, hE19, hE20, hE24, hE25, hE26, hE31, hE32, hS⟩ again3; replace h := hr m4 v7 v8 v9 h; clear hr; refine zs (zq (ycR hE32 rfl) (yaa (yae ?_))); by_cases hp3 : v8 < 2
      · replace h := h.1 hp3; refine zc hp3 (yah (yae (yak (zs ?_)))); obtain ⟨hx3, h⟩ := h; refine zq (v_index hE31 hE32 underlying84 underlying3 rfl yag hx3 (arr_idx [-1, 1] hx3)) (zq (za (ii (gi [-1, 1] v8.toNat))) (yaa (yae (zs (zq (yad (v := (ii (gi (gx i v2.toNat) v5.toNat))) hE12) (zq (zm (ii (gi [-1, 1] v8.toNat))) ?_)))))); obtain ⟨hi, h⟩ := h; refine zq (v_mul rfl rfl hi) (zq zL (yaa ?_)); by_cases hp4 : ((gi (gx i v2.toNat) v5.toNat) * (gi [-1, 1] v8.toNat)) < 0
        · replace h := h.1 hp4; refine zc hp4 (yay rfl (zr ?_)); obtain ⟨hi2, h⟩ := h; refine zq (ybf hE32 rfl hi2) (zq (zm (ii (v8 + 1))) (yaa ?_)); obtain ⟨mq, hlt, h⟩ := h; exact again3 mq _ _ _ ⟨_, _, _, _, _, _, h, rfl, hE0, hE2, hE7, hE8, hE10, hE11, hE12, hE18, hE19, hE20, hE24, hE25, hE26, hE31, rfl, (hS.sel [0, 1, 2, 3, 4, 5, 6] (by decide))⟩ hlt
        · replace h := h.2 hp4; refine zd hp4 (yah (zs (zq (yad hE10) (zn (yam rfl (am1 rfl) enter_48 ((yew h (yaG _) (hS.rdr 5 rfl)).mono ?_)))))); rintro _ w6 ⟨r, Ar, lr, cr, rfl, hC, h⟩; replace hS := hS.call1 (hC.widen (yea (ybh (fI .i64) _ _ _ _ _) yfn) hS.blt) 7 0 rfl; clear hC; refine ⟨_, rfl, ?_⟩; refine zb (zq (za (.slice Ar lr cr)) (yaa (zs (zq (zm (.slice Ar lr cr)) (zq (yad hE11) ?_))))); obtain ⟨hx4, h⟩ := h; refine zq (zi underlying41 yag (yaQ (hS.rdo 7 rfl) hx4)) (zq (yax (v := (ii (gi r v5.toNat))) rfl underlying3 rfl (rd_1 (hS.rdo 7 rfl) hx4 (fun q => yaF q) rfl)) ?_); refine zq (zm (ii (gi [-1, 1] v8.toNat))) ?_; obtain ⟨hi3, h⟩ := h; refine zq (zA hi3) (zq (zi underlying41 yag (yaQ (hS.rdo 7 rfl) hx4)) (zo (zt (ii ((gi r v5.toNat) + (gi [-1, 1] v8.toNat))) yag (hS.wr 7 rfl rfl hx4) ?_))); intro w7 e1; replace hS := hS.st 7 rfl rfl hx4 (x := (gi r v5.toNat) + (gi [-1, 1] v8.toNat)) rfl e1; clear e1; refine zb (yaa (zs (zq (zm (.slice Ar lr cr)) (zn (yam rfl (am1 rfl) enter_49 ((ygL h (yaG _) (hS.rdo 7 rfl)).mono ?_)))))); rintro _ w8 ⟨r2, rfl, hC, h⟩; replace hS := hS.pur hC.pure; clear hC; refine ⟨_, rfl, ?_⟩; refine zb (zn (ya4 yev ?_)); intro g2 w9 hN; replace hS := hS.made (n := 12) 8 rfl cI (ii 0) (0 : Int) (fun _ _ => rfl) (hN : New _ _ _ (Array.replicate 12 (ii 0)) 87) (by decide); clear hN; refine zb ?_; obtain ⟨hx5, h⟩ := h; refine zo (n_starr rfl rfl yev hS 8 rfl hx5 ?_); clear hS; intro w10 hS; refine zb (yaa (zs (zq (yad hE7) (zq (yar (vs := r2.map (.int .i64)) rfl underlying87 rfl (yd4 yev (hS.rdo 8 rfl)) (ydE (hS.rdo 8 rfl))) ?_)))); obtain ⟨hx6, h⟩ := h; obtain ⟨hx7, h⟩ := h; refine zn (n_val (v_mget1 (vE := Value.bool) (x0 := false) (keyt_87) hx6 hx7 rfl rfl underlying83 ycI (hS.mp 4 rfl)) ?_); refine zb (zq (ydm rfl) (yaa ?_)); by_cases hp5 : ((mget v9 r2).getD false) = true
          · replace h := h.1 hp5; refine yaA (congrArg Value.bool (congrArg Bool.not hp5)) (yah (yaj (zr ?_))); obtain ⟨hi4, h⟩ := h; refine zq (ybf hE32 rfl hi4) (zq (zm (ii (v8 + 1))) (yaa ?_)); obtain ⟨mq, hlt, h⟩ := h; exact again3 mq _ _ _ ⟨_, _, _, _, _, _, h, rfl, hE0, hE2, hE7, hE8, hE10, hE11, hE12, hE18, hE19, hE20, hE24, hE25, hE26, hE31, rfl, (hS.sel [0, 1, 2, 3, 4, 5, 6] (by decide))⟩ hlt
          · replace h := h.2 hp5; refine yaq (congrArg Value.bool (congrArg Bool.not (Bool.eq_false_iff.2 hp5))) (zs (zq (yad hE7) (zq (yar (vs := r2.map (.int .i64)) rfl underlying87 rfl (yd4 yev (hS.rdo 8 rfl)) (ydE (hS.rdo 8 rfl))) (zo (n_mput (vE := Value.bool) (keyt_87) hx6 hx7 (v := true) rfl rfl rfl underlying83 (hS.mp 4 rfl) ?_))))); intro w11 e1 e2; replace hS := hS.mst 4 rfl e1 e2; clear e1 e2; refine zb (yaa (yae (ybi [0, 1, 2, 3, 5, 6, 7, 8, 11, 12, 13, 14, 4, 9, 10, 15] (fun i => match i with | 4 => [0, 1, 5, 6, 7, 8, 11, 12, 13, 14] | 9 => [0, 1, 11, 12, 13, 14] | _ => []) ybr (by kernel_rfl) (by kernel_rfl) ?_))); replace hS := hS.drew; refine zp (yad hE2) ?_; obtain ⟨hi5, h⟩ := h; refine zp (zA hi5) (zp (yad (v := (.pointer (some (⟨gc, 0, none⟩ : Addr)))) hE0) (zp (zm (.slice Ar lr cr)) (zp (yad (v := (.pointer (some (⟨gc, 0, none⟩ : Addr)))) hE0) (zp (ybm rfl) (zp (yai rfl underlying56 rfl yag) (zp (zl underlying3 (Row.cell (hS.bx 1 rfl) (i := 3) rfl)) (zp (yad (v := (.pointer (some (⟨gc, 0, none⟩ : Addr)))) hE0) (zp (ybm rfl) (zp (yai rfl underlying56 rfl yag) (zp (zl underlying3 (Row.cell (hS.bx 1 rfl) (i := 4) rfl)) ?_)))))))))); replace hS := hS.frz 7 rfl; have hB := hS.lend (asc [(1, 0), (9, 1)]) [1, 2, 3, 7] (by decide) ⟨.inl (ycW rfl), .inr rfl, .inr rfl, .inr rfl, trivial⟩; refine rp_n rfl rfl rfl rfl (yeS (vs := #[(.pointer (some (⟨gc, 0, none⟩ : Addr))), (.slice Ar lr cr)]) (us := #[]) rfl (am2 rfl rfl) enter_46 ((ych (by simp) (yc2 h hB)).mono ?_)); rintro _ w12 ⟨r3, Ar2, lr2, cr2, rfl, hC, h⟩; replace hS := hS.back (asc [(1, 0), (9, 1)]) (yec (by decide)) hC; clear hC hB; refine ⟨_, rfl, ?_⟩; refine ⟨⟨fun _ => (zl underlying3 (Row.cell (hS.bx 1 rfl) (i := 4) rfl)), ⟨fun _ => (yai rfl underlying56 rfl yag), ⟨fun _ => (ybm rfl), ⟨fun _ => (yad (v := (Value.pointer (some (⟨gc, 0, none⟩ : Addr)))) hE0), ⟨fun _ => (zl underlying3 (Row.cell (hS.bx 1 rfl) (i := 3) rfl)), ⟨fun _ => (yai rfl underlying56 rfl yag), ⟨fun _ => (ybm rfl), ⟨fun _ => (yad (v := (Value.pointer (some (⟨gc, 0, none⟩ : Addr)))) hE0), ⟨fun hh => Bool.noConfusion (show false = true from hh), ⟨fun hh => Bool.noConfusion (show false = true from hh), ⟨fun _ => (zA hi5), ⟨fun _ => (yad hE2), trivial⟩⟩⟩⟩⟩⟩⟩⟩⟩⟩⟩⟩, ?_⟩; refine rp_n rfl rfl rfl rfl (yam rfl (am2 rfl rfl) enter_50 ((ygH h (yaG _) (hS.rdo 9 rfl)).mono ?_)); rintro _ w13 ⟨r4, rfl, hC, h⟩; replace hS := hS.pur hC.pure; clear hC; refine ⟨_, rfl, ?_⟩; refine ⟨⟨fun _ => (zl underlying3 (Row.cell (hS.bx 1 rfl) (i := 4) rfl)), ⟨fun _ => (yai rfl underlying56 rfl yag), ⟨fun _ => (ybm rfl), ⟨fun _ => (yad (v := (Value.pointer (some (⟨gc, 0, none⟩ : Addr)))) hE0), ⟨fun hh => Bool.noConfusion (show false = true from hh), ⟨fun hh => Bool.noConfusion (show false = true from hh), ⟨fun hh => Bool.noConfusion (show false = true from hh), ⟨fun hh => Bool.noConfusion (show false = true from hh), ⟨fun hh => Bool.noConfusion (show false = true from hh), ⟨fun hh => Bool.noConfusion (show false = true from hh), ⟨fun _ => (zA hi5), ⟨fun _ => (yad hE2), trivial⟩⟩⟩⟩⟩⟩⟩⟩⟩⟩⟩⟩, ?_⟩; obtain ⟨hi6, h⟩ := h; refine zp (zA hi6) (zp (v_leq rfl rfl) (ybz ?_)); by_cases hp6 : ((a + 1) + r4) ≤ d5
            · replace h := h.1 hp6; refine zc hp6 (zr (zq (yad hE8) (zq (zm (.slice Ar lr cr)) (zn (ybd (l := [(0, (.slice Ar lr cr))]) (cells := [(.slice Ar lr cr)]) (bp1 rfl) underlying57 ydp rfl rfl ?_))))); intro g3 w14 hN; replace hS := hS.lit (n := 1) (c := (cL cI)) 10 rfl hN ([(r.set v5.toNat ((gi r v5.toNat) + (gi [-1, 1] v8.toNat)))] : List (List Int)) rfl (by decide) ⟨[(.slice Ar lr cr)], _, rfl, (ro_R (hS.ro 7 rfl)), rfl⟩; clear hN; refine zb ?_; obtain ⟨hx8, h⟩ := h; refine zn (n_app (c := (cL cI)) rfl rfl underlying57 underlying57 ydp rfl rfl (by decide) hS 0 rfl (hS.yo 10 rfl) hx8 ?_); clear hS; intro A2 c2 w15 hS; refine zb (zq (za (.slice A2 (lv3 + 1) c2)) (yaa (yaj (zr ?_)))); obtain ⟨hi7, h⟩ := h; refine zq (ybf hE32 rfl hi7) (zq (zm (ii (v8 + 1))) (yaa ?_)); obtain ⟨mq, hlt, h⟩ := h; exact again3 mq _ _ _ ⟨_, _, _, _, _, _, h, rfl, hE0, hE2, hE7, rfl, hE10, hE11, hE12, hE18, hE19, hE20, hE24, hE25, hE26, hE31, rfl, (hS.sel [0, 1, 2, 3, 4, 5, 6] (by decide))⟩ hlt
            · replace h := h.2 hp6; refine zd hp6 (yah (yaj (zr ?_))); obtain ⟨hi8, h⟩ := h; refine zq (ybf hE32 rfl hi8) (zq (zm (ii (v8 + 1))) (yaa ?_)); obtain ⟨mq, hlt, h⟩ := h; exact again3 mq _ _ _ ⟨_, _, _, _, _, _, h, rfl, hE0, hE2, hE7, hE8, hE10, hE11, hE12, hE18, hE19, hE20, hE24, hE25, hE26, hE31, rfl, (hS.sel [0, 1, 2, 3, 4, 5, 6] (by decide))⟩ hlt
      · replace h := h.2 hp3; refine zd hp3 (yay rfl (yaj (zr ?_))); obtain ⟨hi9, h⟩ := h; refine zq (ybf hE26 rfl hi9) (zq (zm (ii (v5 + 1))) (yaa ?_)); obtain ⟨mq, hlt, h⟩ := h; exact again2 mq _ _ _ ⟨_, _, _, _, _, _, h, rfl, hE0, hE2, hE7, hE8, hE10, hE18, hE19, hE20, hE24, hE25, rfl, (hS.sel [0, 1, 2, 3, 4, 5, 6] (by decide))⟩ hlt
    · replace h := h.2 hp2; refine zd hp2 (yay rfl (yaj (zr ?_))); obtain ⟨hi10, h⟩ := h; refine zq (ybf hE20 rfl hi10) (zq (zm (ii (v2 + 1))) (yaa ?_)); obtain ⟨mq, hlt, h⟩ := h; exact again mq _ _ _ ⟨_, _, _, _, _, _, h, rfl, hE0, hE2, hE7, hE8, hE18, hE19, rfl, (hS.sel [0, 1, 2, 3, 4, 6] (by decide))⟩ hlt
  · replace h := h.2 hp; exact zd hp (yay rfl (zs (zq (yad hE8) (zq (za (.slice Av lv cv)) (yaa (yal rfl rfl ⟨_, _, _, _, rfl, (hS.sel [1, 0] (by decide)), h⟩))))))
def ybU (d : Int) (d2 : List E3) (i : List Int) (a : Int) (R : (List Int) → Int → Int → Prop) : Prop :=
ybV d d2 i (fun r =>
((r = 0 →
(∃ J2 : Prop, (J2 → yaW d d2 i (fun r2 r3 r4 r5 =>
((r5 = 0 →
((r2 = true →
ybM d d2 (fun r6 =>
((0 ≤ d ∧ d ≤ 1000000) ∧
(∃ I2 : Nat → (List (List Int)) → Int → Prop, (∃ m0, I2 m0 ([(List.replicate d.toNat (0 : Int))]) 0) ∧ ∀ m2 v v2, I2 m2 v v2 → 
((v2 ≤ a →
ya6 d d2 i r6 a v (fun r7 =>
((r7 = [] →
ybj d d2 i r6 a v v2 (fun r8 =>
(In64 (v2 + 1) ∧
∃ m3, m3 < m2 ∧ I2 m3 r8 (v2 + 1)))) ∧
(¬ (r7 = []) →
R r7 v2 0)))) ∧
(¬ (v2 ≤ a) →
R ([]) 0 12)))))) ∧
(¬ (r2 = true) →
R ([]) 0 6))) ∧
(¬ (r5 = 0) →
R ([]) 0 r5)))) ∧
((a < 0 →
R ([]) 0 2) ∧
(¬ (a < 0) →
((8 < a →
R ([]) 0 2) ∧
(¬ (8 < a) →
J2)))))) ∧
(¬ (r = 0) →
R ([]) 0 r)))
theorem ygM {O : Nat → Prop} {w : World} {d d2 i a Ad ld cd Ai li ci} {R : (List Int) → Int → Int → Prop} (h : ybU d d2 i a R) (hO : ∀ k, O k → k < w.heap.size) (hA0 : (FP.sl c3 Ad ld cd d2).P O w) (hA1 : (FP.sl cI Ai li ci i).P O w) :
    Calls Try.prog 14 #[(.agg #[(ii d), (.slice Ad ld cd)]), (.slice Ai li ci), (ii a)] w fun e w' => ∃ r9 r10 r11 Ar5 lr5 cr5, e = .returned (.tuple #[(.slice Ar5 lr5 cr5), (ii r10), (ii r11)]) ∧ Sep w no O w' (rl [Res.ro (FP.sl cI Ar5 lr5 cr5 r9)]) ∧ R r9 r10 r11 := by
  unfold ybU at h; have hS : Sep w no O w (rl [Res.ro (FP.sl c3 Ad ld cd d2), Res.ro (FP.sl cI Ai li ci i)]) := Sep.startl hO [(FP.sl c3 Ad ld cd d2), (FP.sl cI Ai li ci i)] ⟨hA0, hA1, trivial⟩; refine yan (l := [(.agg #[(ii d), (.slice Ad ld cd)]), (.slice Ai li ci), (ii a)]) func14 rfl ntmps14 (Nat.le_of_ble_eq_true rfl) (zs (zn (ybO (v := (.agg #[(ii d), (.slice Ad ld cd)])) rfl ?_))); intro g w2 hN; replace hS : Sep w no O w2 (stl _ 2 (Res.box 24 g [(ii d), (.slice Ad ld cd)])) := hS.new 2 rfl hN; clear hN; refine zb (zq (za (.slice none 0 0)) (zq (za (ii 0)) (zq (za (ii 0)) (yaa (yae (zs (zq (yar (vs := [(ii d), (.slice Ad ld cd)]) rfl underlying24 rfl yap ⟨Row.cell (hS.bx 2 rfl) (i := 0) rfl, Row.cell (hS.bx 2 rfl) (i := 1) rfl, trivial⟩) (zq (zm (.slice Ai li ci)) (zn (yam rfl (am2 rfl rfl) enter_24 ((yeM h (yaG _) (hS.rdr 0 rfl) (hS.rdr 1 rfl)).mono ?_))))))))))); rintro _ w3 ⟨r, rfl, hC, h⟩; replace hS := hS.pur hC.pure; clear hC; refine ⟨_, rfl, ?_⟩; refine zb (zq (za (ii r)) (yaa (zs (zq (zm (ii r)) (zq zN (yaa ?_)))))); by_cases hp : r = 0
  · replace h := h.1 hp; refine ze hp (yah (yae (yae ?_))); obtain ⟨J2, hJ, h⟩ := h; refine ycS (fun E ds w' => J2 ∧ ds = [] ∧ E 1 = (Value.slice Ai li ci) ∧ E 2 = (ii a) ∧ E 3 = (Value.pointer (some (⟨g, 0, none⟩ : Addr))) ∧ Sep w no O w' (rl [Res.ro (FP.sl cI Ai li ci i), Res.box 24 g [(ii d), (.slice Ad ld cd)], Res.ro (FP.sl c3 Ad ld cd d2)])) ?_ ?_
    · clear h hS; rintro E ds w4 ⟨h, rfl, hE1, hE2, hE3, hS⟩; replace h := hJ h; refine zs (zq (yar (vs := [(ii d), (.slice Ad ld cd)]) hE3 underlying24 rfl yap ⟨Row.cell (hS.bx 1 rfl) (i := 0) rfl, Row.cell (hS.bx 1 rfl) (i := 1) rfl, trivial⟩) (zq (yad hE1) (zn (yam rfl (am2 rfl rfl) enter_25 ((yck h (yaG _) (hS.rdr 2 rfl) (hS.rdr 0 rfl)).mono ?_))))); rintro _ w5 ⟨r2, r3, r4, r5, Ar, lr, cr, Ar2, lr2, cr2, rfl, hC, h⟩; replace hS := hS.call2 (hC.widen (yea (ybh (fI .i64) _ _ _ _ _) (yea (ybh (fI .i64) _ _ _ _ _) yfn)) hS.blt) 3 0 4 1 rfl rfl (by decide) (by decide); clear hC; refine ⟨_, rfl, ?_⟩; refine zb (zq (zm (.tuple #[(.bool (r2)), (.slice Ar lr cr), (.slice Ar2 lr2 cr2), (ii r5)])) (zq (zx (.bool (r2))) (zq (zx (.slice Ar lr cr)) (zq (zx (.slice Ar2 lr2 cr2)) (zq (zx (ii r5)) (zq (za (.bool (r2))) (zq (za (.slice Ar lr cr)) (zq (za (.slice Ar2 lr2 cr2)) (zq (za (ii r5)) (yaa (yae (yak (zs (zq (zm (ii r5)) (zq zN (zq (za (.bool (!(decide (r5 = 0))))) (yaa ?_))))))))))))))))); by_cases hp2 : r5 = 0
      · replace h := h.1 hp2; refine ze hp2 (zs (zq (zm (.bool (r2))) (zq (ydm rfl) (zq (za (.bool (!(r2)))) (yaa ?_))))); by_cases hp3 : r2 = true
        · replace h := h.1 hp3; refine yaA (congrArg Value.bool (congrArg Bool.not hp3)) (yah (yaj (yae (ybi [0, 1, 2, 4, 3, 5, 6, 7] (fun i => match i with | 3 => [0, 1, 4] | _ => []) ybr (by kernel_rfl) (by kernel_rfl) ?_)))); replace hS := hS.drew; refine zp (yar (vs := [(ii d), (.slice Ad ld cd)]) hE3 underlying24 rfl yap ⟨Row.cell (hS.bx 1 rfl) (i := 0) rfl, Row.cell (hS.bx 1 rfl) (i := 1) rfl, trivial⟩) (zp (yad hE1) (zp (yar (vs := [(ii d), (.slice Ad ld cd)]) hE3 underlying24 rfl yap ⟨Row.cell (hS.bx 1 rfl) (i := 0) rfl, Row.cell (hS.bx 1 rfl) (i := 1) rfl, trivial⟩) (zp (yad hE2) (rp_n rfl rfl rfl rfl (yam rfl (am1 rfl) enter_26 ((yfy h (yaG _) (hS.rdr 2 rfl)).mono ?_)))))); rintro _ w6 ⟨r6, rfl, hC, h⟩; replace hS := hS.pur hC.pure; clear hC; refine ⟨_, rfl, ?_⟩; refine ⟨⟨fun _ => (yad hE2), ⟨fun hh => Bool.noConfusion (show false = true from hh), ⟨fun _ => (yad hE1), ⟨fun _ => (yar (vs := [(ii d), (.slice Ad ld cd)]) hE3 underlying24 rfl yap ⟨Row.cell (hS.bx 1 rfl) (i := 0) rfl, Row.cell (hS.bx 1 rfl) (i := 1) rfl, trivial⟩), trivial⟩⟩⟩⟩, ?_⟩; refine rp_n rfl rfl rfl rfl (ydW (l := [(0, (.agg #[(ii d), (.slice Ad ld cd)])), (1, (.slice Ai li ci)), (2, (ii r6)), (3, (ii a))]) (cells := [(ii d), (.slice Ad ld cd), (.slice Ai li ci), (ii r6), (ii a)]) (places := [(0, 2), (2, 1), (3, 1), (4, 1)]) (bp4 rfl rfl rfl rfl) underlying56 info_56 (by kernel_rfl) rfl ?_); refine zb (rp_n rfl rfl rfl rfl (ybO (v := (.agg #[(ii d), (.slice Ad ld cd), (.slice Ai li ci), (ii r6), (ii a)])) rfl ?_)); intro g2 w7 hN; replace hS : Sep w no O w7 (stl _ 5 (Res.box 56 g2 [(ii d), (.slice Ad ld cd), (.slice Ai li ci), (ii r6), (ii a)])) := hS.new 5 rfl hN; clear hN; refine zb (zp (za (.pointer (some (⟨g2, 0, none⟩ : Addr)))) (ybz (zs (zq (yai hE3 underlying24 rfl yag) (zq (zl underlying3 (Row.cell (hS.bx 1 rfl) (i := 0) rfl)) ?_))))); obtain ⟨hx, h⟩ := h; refine zn (yhl rfl rfl underlying41 yag (by decide) rfl hx ?_); intro g3 w8 hN; replace hS := hS.made 6 rfl cI (ii 0) (0 : Int) (fun _ _ => rfl) hN (by omega); clear hN; refine zb ?_; replace hS := hS.frz 6 rfl; refine zn (ybd (l := [(0, (.slice (some ⟨g3, 0, none⟩) d.toNat d.toNat))]) (cells := [(.slice (some ⟨g3, 0, none⟩) d.toNat d.toNat)]) (bp1 rfl) underlying57 ydp rfl rfl ?_); intro g4 w9 hN; replace hS := hS.lit (n := 1) (c := (cL cI)) 7 rfl hN ([(List.replicate d.toNat (0 : Int))] : List (List Int)) rfl (by decide) ⟨[(.slice (some ⟨g3, 0, none⟩) d.toNat d.toNat)], _, rfl, (ro_R (hS.ro 6 rfl)), rfl⟩; clear hN; refine zb (zq (za (.slice (some ⟨g4, 0, none⟩) 1 1)) (yaa (yae (zs (zq (za (ii 0)) (yaa (yak ?_))))))); obtain ⟨I2, ⟨m0, h0⟩, hr⟩ := h; refine yaC (fun m E ds w' => ∃ v v2 Av lv cv, I2 m v v2 ∧ ds = [] ∧ E 2 = (ii a) ∧ E 14 = (Value.pointer (some (⟨g2, 0, none⟩ : Addr))) ∧ E 15 = (Value.slice Av lv cv) ∧ E 16 = (ii v2) ∧ Sep w no O w' (rl [Res.own (cL cI) 41 Av lv cv v, Res.box 56 g2 [(ii d), (.slice Ad ld cd), (.slice Ai li ci), (ii r6), (ii a)], Res.ro (FP.sl c3 Ad ld cd d2), Res.ro (FP.sl cI Ai li ci i)])) m0 ⟨_, _, _, _, _, h0, rfl, hE2, rfl, rfl, rfl, (hS.sel [7, 5, 2, 0] (by decide))⟩ ?_; clear h0 hS; rintro m2 E ds w10 ⟨v, v2, Av, lv, cv, h, rfl, hE2, hE14, hE15, hE16, hS⟩ again; replace h := hr m2 v v2 h; clear hr; refine yae (zs (zq (yad hE16) (zq (yad hE2) (zq (v_leq rfl rfl) (yaa ?_))))); by_cases hp4 : v2 ≤ a
          · replace h := h.1 hp4; refine zc hp4 (yah (yae (yak (yae (zs (zq (yad (v := (.pointer (some (⟨g2, 0, none⟩ : Addr)))) hE14) (zq (yad hE15) ?_))))))); replace hS := hS.frz 0 rfl; have hB := hS.lend (asc [(1, 0), (4, 1)]) [1, 2, 3, 0] (by decide) ⟨.inl (ycW rfl), .inr rfl, .inr rfl, .inr rfl, trivial⟩; refine zn (yeS (vs := #[(.pointer (some (⟨g2, 0, none⟩ : Addr))), (.slice Av lv cv)]) (us := #[]) rfl (am2 rfl rfl) enter_27 ((ych (by simp) (yep h hB)).mono ?_)); rintro _ w11 ⟨r7, Ar3, lr3, cr3, rfl, hnnr, hC, h⟩; replace hS := hS.back (asc [(1, 0), (4, 1)]) (yec (by decide)) hC; clear hC hB; refine ⟨_, rfl, ?_⟩; refine zb (zq (za (.slice Ar3 lr3 cr3)) (yaa (zs (zq (zm (.slice Ar3 lr3 cr3)) (zq (v_sneqx rfl rfl underlying41 hnnr) (yaa ?_)))))); by_cases hp5 : r7 = []
            · replace h := h.1 hp5; refine ze hp5 (yah (zr (zq (yad (v := (.pointer (some (⟨g2, 0, none⟩ : Addr)))) hE14) (zq (yad hE15) (zq (yad hE16) ?_))))); have hB := hS.lend (asc [(1, 0), (5, 1)]) [1, 2, 3, 0] (by decide) ⟨.inl (ycW rfl), .inr rfl, .inr rfl, .inr rfl, trivial⟩; refine zn (yeS (vs := #[(.pointer (some (⟨g2, 0, none⟩ : Addr))), (.slice Av lv cv), (ii v2)]) (us := #[]) rfl (am3 rfl rfl rfl) enter_28 ((ych (by simp) (yeP h hB)).mono ?_)); rintro _ w12 ⟨r8, Ar4, lr4, cr4, rfl, hC, h⟩; replace hS := hS.back (asc [(1, 0), (5, 1)]) (yec (by decide)) hC; clear hC hB; refine ⟨_, rfl, ?_⟩; refine zb (zq (za (.slice Ar4 lr4 cr4)) (yaa (yaj (zr (zq (yad hE16) ?_))))); obtain ⟨hi, h⟩ := h; refine zq (zA hi) (zq (za (ii (v2 + 1))) (yaa ?_)); obtain ⟨mq, hlt, h⟩ := h; exact again mq _ _ _ ⟨_, _, _, _, _, h, rfl, hE2, hE14, rfl, rfl, (hS.sel [5, 1, 2, 3] (by decide))⟩ hlt
            · replace h := h.2 hp5; exact zf hp5 (zs (zq (zm (.slice Ar3 lr3 cr3)) (zq (yad hE16) (zq (za (.slice Ar3 lr3 cr3)) (zq (za (ii v2)) (zq (za (ii 0)) (yaa (ycl rfl rfl rfl rfl ⟨_, _, _, _, _, _, rfl, (hS.sel [4] (by decide)), h⟩))))))))
          · replace h := h.2 hp4; refine zd hp4 (yay rfl (zs (zq (za (.slice none 0 0)) (zq (za (ii 0)) (zq (za (ii 12)) (yaa ?_)))))); replace hS := hS.addro 4 rfl _ (yhm cI _ _); exact ycl rfl rfl rfl rfl ⟨_, _, _, _, _, _, rfl, (hS.sel [4] (by decide)), h⟩
        · replace h := h.2 hp3; refine yaq (congrArg Value.bool (congrArg Bool.not (Bool.eq_false_iff.2 hp3))) (zs (zq (za (.slice none 0 0)) (zq (za (ii 0)) (zq (za (ii 6)) (yaa ?_))))); replace hS := hS.addro 5 rfl _ (yhm cI _ _); exact ycl rfl rfl rfl rfl ⟨_, _, _, _, _, _, rfl, (hS.sel [5] (by decide)), h⟩
      · replace h := h.2 hp2; refine zf hp2 (zs (zq (zm (ii r5)) (zq (za (.slice none 0 0)) (zq (za (ii 0)) (zq (za (ii r5)) (yaa ?_)))))); replace hS := hS.addro 5 rfl _ (yhm cI _ _); exact ycl rfl rfl rfl rfl ⟨_, _, _, _, _, _, rfl, (hS.sel [5] (by decide)), h⟩
    clear hJ; intro j; refine zr (zq (zm (ii a)) (zq zL (zq (zm (.bool (decide (a < 0)))) ?_))); by_cases hp6 : a < 0
    · replace h := h.1 hp6; refine rl_p (yab rfl (yaf rfl (congrArg Value.bool (decide_eq_true hp6))) rfl) rfl (rl_p (yab rfl (yaf rfl (congrArg Value.bool (decide_eq_true hp6))) rfl) rfl (zq (yat (v := (.bool (true))) (congrArg Value.bool (decide_eq_true hp6)) rfl) (yaa (yaq rfl (zs (zq (za (.slice none 0 0)) (zq (za (ii 0)) (zq (za (ii 2)) (yaa ?_))))))))); replace hS := hS.addro 3 rfl _ (yhm cI _ _); exact ycl rfl rfl rfl rfl ⟨_, _, _, _, _, _, rfl, (hS.sel [3] (by decide)), h⟩
    · replace h := h.2 hp6; refine rl_q (yac rfl (yaf rfl (congrArg Value.bool (decide_eq_false hp6)))) rfl rfl (zm (ii a)) (rl_q (yac rfl (yaf rfl (congrArg Value.bool (decide_eq_false hp6)))) rfl rfl zG (zq (yav (v := (.bool (decide (8 < a)))) (congrArg Value.bool (decide_eq_false hp6)) rfl) (yaa ?_))); by_cases hp7 : 8 < a
      · replace h := h.1 hp7; refine zc hp7 (zs (zq (za (.slice none 0 0)) (zq (za (ii 0)) (zq (za (ii 2)) (yaa ?_))))); replace hS := hS.addro 3 rfl _ (yhm cI _ _); exact ycl rfl rfl rfl rfl ⟨_, _, _, _, _, _, rfl, (hS.sel [3] (by decide)), h⟩
      · replace h := h.2 hp7; exact zd hp7 (yah (j _ _ _ ⟨h, rfl, rfl, rfl, rfl, (hS.sel [1, 2, 0] (by decide))⟩))
  · replace h := h.2 hp; refine zf hp (zs (zq (zm (ii r)) (zq (za (.slice none 0 0)) (zq (za (ii 0)) (zq (za (ii r)) (yaa ?_)))))); replace hS := hS.addro 3 rfl _ (yhm cI _ _); exact ycl rfl rfl rfl rfl ⟨_, _, _, _, _, _, rfl, (hS.sel [3] (by decide)), h⟩
def ybq (R : Int → (List E3) → Prop) : Prop :=
R 3 ([(0, 1, 1), (0, 2, 1), (1, 2, 1)])
theorem yeh {O : Nat → Prop} {w : World} {R : Int → (List E3) → Prop} (h : ybq R) (hO : ∀ k, O k → k < w.heap.size) :
    Calls Try.prog 13 #[] w fun e w' => ∃ r r2 Ar lr cr, e = .returned (.agg #[(ii r), (.slice Ar lr cr)]) ∧ Sep w no O w' (rl [Res.own c3 51 Ar lr cr r2]) ∧ R r r2 := by
  unfold ybq at h; have hS : Sep w no O w (rl []) := Sep.start w hO; refine yan (l := []) func13 rfl ntmps13 (Nat.le_of_ble_eq_true rfl) (zs (zn (ya4 yap ?_))); intro g w2 hN; replace hS : Sep w no O w2 (stl _ 0 (Res.box 24 g [(ii 0), (.slice none 0 0)])) := hS.new 0 rfl hN; clear hN; refine zb (yaa (zs (zn (ydW (l := [(0, (ii 0)), (1, (ii 1)), (2, (ii 1))]) (cells := [(ii 0), (ii 1), (ii 1)]) (places := [(0, 1), (1, 1), (2, 1)]) (bp3 rfl rfl rfl) underlying51 yaE (by kernel_rfl) rfl ?_)))); refine zb (zn (ydW (l := [(0, (ii 0)), (1, (ii 2)), (2, (ii 1))]) (cells := [(ii 0), (ii 2), (ii 1)]) (places := [(0, 1), (1, 1), (2, 1)]) (bp3 rfl rfl rfl) underlying51 yaE (by kernel_rfl) rfl ?_)); refine zb (zn (ydW (l := [(0, (ii 1)), (1, (ii 2)), (2, (ii 1))]) (cells := [(ii 1), (ii 2), (ii 1)]) (places := [(0, 1), (1, 1), (2, 1)]) (bp3 rfl rfl rfl) underlying51 yaE (by kernel_rfl) rfl ?_)); refine zb (zn (ybd (l := [(0, (.agg #[(ii 0), (ii 1), (ii 1)])), (1, (.agg #[(ii 0), (ii 2), (ii 1)])), (2, (.agg #[(ii 1), (ii 2), (ii 1)]))]) (cells := [(ii 0), (ii 1), (ii 1), (ii 0), (ii 2), (ii 1), (ii 1), (ii 2), (ii 1)]) (bp3 rfl rfl rfl) underlying22 yaE rfl rfl ?_)); intro g2 w3 hN; replace hS := hS.litf (n := 3) 1 rfl (fP (fI .i64) (fP (fI .i64) (fI .i64))) hN ([(0, 1, 1), (0, 2, 1), (1, 2, 1)] : List E3) rfl (by decide) rfl; clear hN; refine zb (zn (ydW (l := [(0, (ii 3)), (1, (.slice (some ⟨g2, 0, none⟩) 3 3))]) (cells := [(ii 3), (.slice (some ⟨g2, 0, none⟩) 3 3)]) (places := [(0, 1), (1, 1)]) (bp2 rfl rfl) underlying24 yap (by kernel_rfl) rfl ?_)); refine zb (zo (ybg (b := g) (o := 0) (cells := #[(ii 3), (.slice (some ⟨g2, 0, none⟩) 3 3)]) rfl rfl yap rfl rfl (yaY (hS.bx 0 rfl) (Nat.le_of_ble_eq_true rfl)) ?_)); intro w4 e1; replace hS := hS.bstn 0 rfl 0 [(ii 3), (.slice (some ⟨g2, 0, none⟩) 3 3)] e1; clear e1; exact zb (yaa (wt_retx1 rfl (rv_n (vs := [(ii 3), (.slice (some ⟨g2, 0, none⟩) 3 3)]) rfl underlying24 rfl yap ⟨Row.cell (hS.bx 0 rfl) (i := 0) rfl, Row.cell (hS.bx 0 rfl) (i := 1) rfl, trivial⟩) ⟨_, _, _, _, _, rfl, (hS.sel [1] (by decide)), h⟩))
def yaz (R : Bool → Prop) : Prop :=
ybq (fun r r2 =>
ybU r r2 ([-1, 0, 2]) 2 (fun r3 r4 r5 =>
ybs r r2 ([-1, 0, 1]) ([0]) (fun r6 r7 r8 =>
yc1 r r2 ([-1, 0, 1]) (fun r9 r10 =>
(In64 (r5 + r8) ∧
(In64 ((r5 + r8) + r10) ∧
((((r5 + r8) + r10) = 0 →
((r4 = 1 →
((r6 = true →
R false) ∧
(¬ (r6 = true) →
((r9 = (-1) →
ybJ r3 ([0, 0, 1]) (fun r11 =>
R r11)) ∧
(¬ (r9 = (-1)) →
R false))))) ∧
(¬ (r4 = 1) →
R false))) ∧
(¬ (((r5 + r8) + r10) = 0) →
R false))))))))
theorem yaU {O : Nat → Prop} {w : World} {R : Bool → Prop} (h : yaz R) (hO : ∀ k, O k → k < w.heap.size) :
    Calls Try.prog 7 #[] w fun e w' => ∃ r12, e = .returned (.bool (r12)) ∧ Sep w no O w' (rl []) ∧ R r12 := by
  unfold yaz at h; have hS : Sep w no O w (rl []) := Sep.start w hO; refine yan (l := []) func7 rfl ntmps7 (Nat.le_of_ble_eq_true rfl) (zs (zq (za (.bool (false))) (yaa (zs (zn (yam rfl (am0) enter_13 ((yeh h (yaG _)).mono ?_))))))); rintro _ w2 ⟨r, r2, Ar, lr, cr, rfl, hC, h⟩; replace hS := hS.call1 (hC.widen (yea (ybh (fP (fI .i64) (fP (fI .i64) (fI .i64))) _ _ _ _ _) yfn) hS.blt) 0 0 rfl; clear hC; refine ⟨_, rfl, ?_⟩; refine zb (zn (ya4 yap ?_)); intro g w3 hN; replace hS : Sep w no O w3 (stl _ 1 (Res.box 24 g [(ii 0), (.slice none 0 0)])) := hS.new 1 rfl hN; clear hN; refine zb (zo (ybg (b := g) (o := 0) (cells := #[(ii r), (.slice Ar lr cr)]) rfl rfl yap rfl rfl (yaY (hS.bx 1 rfl) (Nat.le_of_ble_eq_true rfl)) ?_)); intro w4 e1; replace hS := hS.bstn 1 rfl 0 [(ii r), (.slice Ar lr cr)] e1; clear e1; refine zb (yaa (zs (zq (yar (vs := [(ii r), (.slice Ar lr cr)]) rfl underlying24 rfl yap ⟨Row.cell (hS.bx 1 rfl) (i := 0) rfl, Row.cell (hS.bx 1 rfl) (i := 1) rfl, trivial⟩) (zn (ybd (l := [(0, (ii (-1))), (1, (ii 0)), (2, (ii 2))]) (cells := [(ii (-1)), (ii 0), (ii 2)]) (bp3 rfl rfl rfl) underlying26 yag rfl rfl ?_))))); intro g2 w5 hN; replace hS := hS.litf (n := 3) 2 rfl (fI .i64) hN ([-1, 0, 2] : List Int) rfl (by decide) rfl; clear hN; refine zb ?_; replace hS := hS.frz 0 rfl; replace hS := hS.frz 2 rfl; refine zn (yam rfl (am3 rfl rfl rfl) enter_14 ((ygM h hS.blt (hS.ro 0 rfl) (hS.ro 2 rfl)).mono ?_)); rintro _ w6 ⟨r3, r4, r5, Ar2, lr2, cr2, rfl, hC, h⟩; replace hS := hS.call1 hC 3 0 rfl; clear hC; refine ⟨_, rfl, ?_⟩; refine zb (zq (zm (.tuple #[(.slice Ar2 lr2 cr2), (ii r4), (ii r5)])) (zq (zx (.slice Ar2 lr2 cr2)) (zq (zx (ii r4)) (zq (zx (ii r5)) (zq (za (.slice Ar2 lr2 cr2)) (zq (za (ii r4)) (zq (za (ii r5)) (yaa (zs (zq (yar (vs := [(ii r), (.slice Ar lr cr)]) rfl underlying24 rfl yap ⟨Row.cell (hS.bx 1 rfl) (i := 0) rfl, Row.cell (hS.bx 1 rfl) (i := 1) rfl, trivial⟩) (zn (ybd (l := [(0, (ii (-1))), (1, (ii 0)), (2, (ii 1))]) (cells := [(ii (-1)), (ii 0), (ii 1)]) (bp3 rfl rfl rfl) underlying26 yag rfl rfl ?_)))))))))))); intro g3 w7 hN; replace hS := hS.litf (n := 3) 4 rfl (fI .i64) hN ([-1, 0, 1] : List Int) rfl (by decide) rfl; clear hN; refine zb (zn (ybd (l := [(0, (ii 0))]) (cells := [(ii 0)]) (bp1 rfl) underlying25 yag rfl rfl ?_)); intro g4 w8 hN; replace hS := hS.litf (n := 1) 5 rfl (fI .i64) hN ([0] : List Int) rfl (by decide) rfl; clear hN; refine zb (zn (yam rfl (am3 rfl rfl rfl) enter_15 ((yeu h (yaG _) (hS.rdr 0 rfl) (hS.rdo 4 rfl) (hS.rdo 5 rfl)).mono ?_))); rintro _ w9 ⟨r6, r7, r8, Ar3, lr3, cr3, rfl, hC, h⟩; replace hS := hS.call1 (hC.widen (yea (ybh (fI .i64) _ _ _ _ _) yfn) hS.blt) 6 0 rfl; clear hC; refine ⟨_, rfl, ?_⟩; refine zb (zq (zm (.tuple #[(.bool (r6)), (.slice Ar3 lr3 cr3), (ii r8)])) (zq (zx (.bool (r6))) (zq (zx (.slice Ar3 lr3 cr3)) (zq (zx (ii r8)) (zq (za (.bool (r6))) (zq (za (.slice Ar3 lr3 cr3)) (zq (za (ii r8)) (yaa (zs (zq (yar (vs := [(ii r), (.slice Ar lr cr)]) rfl underlying24 rfl yap ⟨Row.cell (hS.bx 1 rfl) (i := 0) rfl, Row.cell (hS.bx 1 rfl) (i := 1) rfl, trivial⟩) (zn (ybd (l := [(0, (ii (-1))), (1, (ii 0)), (2, (ii 1))]) (cells := [(ii (-1)), (ii 0), (ii 1)]) (bp3 rfl rfl rfl) underlying26 yag rfl rfl ?_)))))))))))); intro g5 w10 hN; replace hS := hS.litf (n := 3) 7 rfl (fI .i64) hN ([-1, 0, 1] : List Int) rfl (by decide) rfl; clear hN; refine zb (zn (yam rfl (am2 rfl rfl) enter_16 ((pok_rank_Rank h (yaG _) (hS.rdr 0 rfl) (hS.rdo 7 rfl)).mono ?_))); rintro _ w11 ⟨r9, r10, rfl, hC, h⟩; replace hS := hS.pur hC.pure; clear hC; refine ⟨_, rfl, ?_⟩; refine zb (zq (zm (.tuple #[(ii r9), (ii r10)])) (zq (zx (ii r9)) (zq (zx (ii r10)) (zq (za (ii r9)) (zq (za (ii r10)) (yaa (zs (zq (zm (ii r5)) (zq (zm (ii r8)) ?_))))))))); obtain ⟨hi, h⟩ := h; refine zq (zA hi) (zq (zm (ii r10)) ?_); obtain ⟨hi2, h⟩ := h; refine zq (zA hi2) (zq zE (zq (zm (.bool (decide (((r5 + r8) + r10) = 0)))) ?_)); by_cases hp : ((r5 + r8) + r10) = 0
  · replace h := h.1 hp; refine rl_q (yac rfl (yaf rfl (congrArg Value.bool (decide_eq_true hp)))) rfl rfl (zm (ii r4)) (rl_q (yac rfl (yaf rfl (congrArg Value.bool (decide_eq_true hp)))) rfl rfl zE (zq (yat (v := (.bool (decide (r4 = 1)))) (congrArg Value.bool (decide_eq_true hp)) rfl) (zq (zm (.bool (decide (r4 = 1)))) ?_))); by_cases hp2 : r4 = 1
    · replace h := h.1 hp2; refine rl_q (yac rfl (yaf rfl (congrArg Value.bool (decide_eq_true hp2)))) rfl rfl (zm (.bool (r6))) (rl_q (yac rfl (yaf rfl (congrArg Value.bool (decide_eq_true hp2)))) rfl rfl (ydm rfl) (zq (yat (v := (.bool (!(r6)))) (congrArg Value.bool (decide_eq_true hp2)) rfl) (zq (zm (.bool (!(r6)))) ?_))); by_cases hp3 : r6 = true
      · replace h := h.1 hp3; exact rl_p (yab rfl (yaf rfl (congrArg Value.bool (congrArg Bool.not hp3))) rfl) rfl (rl_p (yab rfl (yaf rfl (congrArg Value.bool (congrArg Bool.not hp3))) rfl) rfl (zq (yav (v := (.bool (false))) (congrArg Value.bool (congrArg Bool.not hp3)) rfl) (zq (zm (.bool (false))) (rl_p (yab rfl (yaf rfl rfl) rfl) rfl (rl_p (yab rfl (yaf rfl rfl) rfl) rfl (rl_p (yab rfl (yaf rfl rfl) rfl) rfl (zq (yav (v := (.bool (false))) rfl rfl) (zq (za (.bool (false))) (yaa (yal rfl rfl ⟨_, rfl, (hS.sel [] (by decide)), h⟩))))))))))
      · replace h := h.2 hp3; refine rl_q (yac rfl (yaf rfl (congrArg Value.bool (congrArg Bool.not (Bool.eq_false_iff.2 hp3))))) rfl rfl (zm (ii r9)) (rl_q (yac rfl (yaf rfl (congrArg Value.bool (congrArg Bool.not (Bool.eq_false_iff.2 hp3))))) rfl rfl zE (zq (yat (v := (.bool (decide (r9 = (-1))))) (congrArg Value.bool (congrArg Bool.not (Bool.eq_false_iff.2 hp3))) rfl) (zq (zm (.bool (decide (r9 = (-1))))) ?_))); by_cases hp4 : r9 = (-1)
        · replace h := h.1 hp4; refine rl_q (yac rfl (yaf rfl (congrArg Value.bool (decide_eq_true hp4)))) rfl rfl (zm (.slice Ar2 lr2 cr2)) (rl_n (yac rfl (yaf rfl (congrArg Value.bool (decide_eq_true hp4)))) rfl rfl rfl (ybd (l := [(0, (ii 0)), (1, (ii 0)), (2, (ii 1))]) (cells := [(ii 0), (ii 0), (ii 1)]) (bp3 rfl rfl rfl) underlying41 yag rfl rfl ?_)); intro g6 w12 hN; replace hS := hS.litf (n := 3) 8 rfl (fI .i64) hN ([0, 0, 1] : List Int) rfl (by decide) rfl; clear hN; refine zb (rl_n (yac rfl (yaf rfl (congrArg Value.bool (decide_eq_true hp4)))) rfl rfl rfl (yam rfl (am2 rfl rfl) enter_17 ((yfC h (yaG _) (hS.rdr 3 rfl) (hS.rdo 8 rfl)).mono ?_))); rintro _ w13 ⟨r11, rfl, hC, h⟩; replace hS := hS.pur hC.pure; clear hC; refine ⟨_, rfl, ?_⟩; exact zb (zq (yat (v := (.bool (r11))) (congrArg Value.bool (decide_eq_true hp4)) rfl) (zq (za (.bool (r11))) (yaa (yal rfl rfl ⟨_, rfl, (hS.sel [] (by decide)), h⟩))))
        · replace h := h.2 hp4; exact rl_p (yab rfl (yaf rfl (congrArg Value.bool (decide_eq_false hp4))) rfl) rfl (rl_p (yab rfl (yaf rfl (congrArg Value.bool (decide_eq_false hp4))) rfl) rfl (rl_p (yab rfl (yaf rfl (congrArg Value.bool (decide_eq_false hp4))) rfl) rfl (zq (yav (v := (.bool (false))) (congrArg Value.bool (decide_eq_false hp4)) rfl) (zq (za (.bool (false))) (yaa (yal rfl rfl ⟨_, rfl, (hS.sel [] (by decide)), h⟩))))))
    · replace h := h.2 hp2; exact rl_p (yab rfl (yaf rfl (congrArg Value.bool (decide_eq_false hp2))) rfl) rfl (rl_p (yab rfl (yaf rfl (congrArg Value.bool (decide_eq_false hp2))) rfl) rfl (zq (yav (v := (.bool (false))) (congrArg Value.bool (decide_eq_false hp2)) rfl) (zq (zm (.bool (false))) (rl_p (yab rfl (yaf rfl rfl) rfl) rfl (rl_p (yab rfl (yaf rfl rfl) rfl) rfl (zq (yav (v := (.bool (false))) rfl rfl) (zq (zm (.bool (false))) (rl_p (yab rfl (yaf rfl rfl) rfl) rfl (rl_p (yab rfl (yaf rfl rfl) rfl) rfl (rl_p (yab rfl (yaf rfl rfl) rfl) rfl (zq (yav (v := (.bool (false))) rfl rfl) (zq (za (.bool (false))) (yaa (yal rfl rfl ⟨_, rfl, (hS.sel [] (by decide)), h⟩))))))))))))))
  · replace h := h.2 hp; exact rl_p (yab rfl (yaf rfl (congrArg Value.bool (decide_eq_false hp))) rfl) rfl (rl_p (yab rfl (yaf rfl (congrArg Value.bool (decide_eq_false hp))) rfl) rfl (zq (yav (v := (.bool (false))) (congrArg Value.bool (decide_eq_false hp)) rfl) (zq (zm (.bool (false))) (rl_p (yab rfl (yaf rfl rfl) rfl) rfl (rl_p (yab rfl (yaf rfl rfl) rfl) rfl (zq (yav (v := (.bool (false))) rfl rfl) (zq (zm (.bool (false))) (rl_p (yab rfl (yaf rfl rfl) rfl) rfl (rl_p (yab rfl (yaf rfl rfl) rfl) rfl (zq (yav (v := (.bool (false))) rfl rfl) (zq (zm (.bool (false))) (rl_p (yab rfl (yaf rfl rfl) rfl) rfl (rl_p (yab rfl (yaf rfl rfl) rfl) rfl (rl_p (yab rfl (yaf rfl rfl) rfl) rfl (zq (yav (v := (.bool (false))) rfl rfl) (zq (za (.bool (false))) (yaa (yal rfl rfl ⟨_, rfl, (hS.sel [] (by decide)), h⟩))))))))))))))))))
def ya2 (g : Int) (g2 : List E3) (d : List Int) (R : Bool → Bool → Prop) : Prop :=
ybs g g2 d ([0]) (fun r r2 r3 =>
R r (decide (r3 = 0)))
theorem yc9 {O : Nat → Prop} {w : World} {g g2 d Ag lg cg Ad ld cd} {R : Bool → Bool → Prop} (h : ya2 g g2 d R) (hO : ∀ k, O k → k < w.heap.size) (hA0 : (FP.sl c3 Ag lg cg g2).P O w) (hA1 : (FP.sl cI Ad ld cd d).P O w) :
    Calls Try.prog 9 #[(.agg #[(ii g), (.slice Ag lg cg)]), (.slice Ad ld cd)] w fun e w' => ∃ r4 r5, e = .returned (.tuple #[(.bool (r4)), (.bool (r5))]) ∧ Sep w no O w' (rl []) ∧ R r4 r5 := by
  unfold ya2 at h; have hS : Sep w no O w (rl [Res.ro (FP.sl c3 Ag lg cg g2), Res.ro (FP.sl cI Ad ld cd d)]) := Sep.startl hO [(FP.sl c3 Ag lg cg g2), (FP.sl cI Ad ld cd d)] ⟨hA0, hA1, trivial⟩; refine yan (l := [(.agg #[(ii g), (.slice Ag lg cg)]), (.slice Ad ld cd)]) func9 rfl ntmps9 (Nat.le_of_ble_eq_true rfl) (zs (zn (ybO (v := (.agg #[(ii g), (.slice Ag lg cg)])) rfl ?_))); intro g3 w2 hN; replace hS : Sep w no O w2 (stl _ 2 (Res.box 24 g3 [(ii g), (.slice Ag lg cg)])) := hS.new 2 rfl hN; clear hN; refine zb (zq (za (.bool (false))) (zq (za (.bool (false))) (yaa (zs (zq (yar (vs := [(ii g), (.slice Ag lg cg)]) rfl underlying24 rfl yap ⟨Row.cell (hS.bx 2 rfl) (i := 0) rfl, Row.cell (hS.bx 2 rfl) (i := 1) rfl, trivial⟩) (zq (zm (.slice Ad ld cd)) (zn (ybd (l := [(0, (ii 0))]) (cells := [(ii 0)]) (bp1 rfl) underlying25 yag rfl rfl ?_)))))))); intro g4 w3 hN; replace hS := hS.litf (n := 1) 3 rfl (fI .i64) hN ([0] : List Int) rfl (by decide) rfl; clear hN; refine zb (zn (yam rfl (am3 rfl rfl rfl) enter_15 ((yeu h (yaG _) (hS.rdr 0 rfl) (hS.rdr 1 rfl) (hS.rdo 3 rfl)).mono ?_))); rintro _ w4 ⟨r, r2, r3, Ar, lr, cr, rfl, hC, h⟩; replace hS := hS.call1 (hC.widen (yea (ybh (fI .i64) _ _ _ _ _) yfn) hS.blt) 4 0 rfl; clear hC; refine ⟨_, rfl, ?_⟩; exact zb (zq (zm (.tuple #[(.bool (r)), (.slice Ar lr cr), (ii r3)])) (zq (zx (.bool (r))) (zq (zx (.slice Ar lr cr)) (zq (zx (ii r3)) (zq (za (.bool (r))) (zq (za (.slice Ar lr cr)) (zq (za (ii r3)) (yaa (zs (zq (zm (.bool (r))) (zq (zm (ii r3)) (zq zE (zq (za (.bool (r))) (zq (za (.bool (decide (r3 = 0)))) (yaa (yaK rfl rfl rfl ⟨_, _, rfl, (hS.sel [] (by decide)), h⟩))))))))))))))))
def ya0 (d : Int) (d2 : List E3) (i : List Int) (a : Int) (R : Bool → Prop) : Prop :=
(∃ J2 : Prop, (J2 → (In64 a ∧
(d ≠ 0 ∧
ybL d d2 i (a.tmod d) (fun r r2 =>
(∃ J3 : Prop, (J3 → (0 + i.length ≤ 1000000000 ∧
((0 ≤ (a.tmod d) ∧ (a.tmod d) < ((([] ++ i).length : Nat) : Int)) ∧
(In64 ((gi ([] ++ i) (a.tmod d).toNat) + r) ∧
ya2 d d2 (([] ++ i).set (a.tmod d).toNat ((gi ([] ++ i) (a.tmod d).toNat) + r)) (fun r3 r4 =>
(∃ J4 : Prop, (J4 → ((r = 0 →
yaz (fun r5 =>
R r5)) ∧
(¬ (r = 0) →
((0 ≤ (a.tmod d) ∧ (a.tmod d) < (((([] ++ i).set (a.tmod d).toNat ((gi ([] ++ i) (a.tmod d).toNat) + r)).length : Nat) : Int)) ∧
(In64 ((gi (([] ++ i).set (a.tmod d).toNat ((gi ([] ++ i) (a.tmod d).toNat) + r)) (a.tmod d).toNat) - 1) ∧
ya2 d d2 ((([] ++ i).set (a.tmod d).toNat ((gi ([] ++ i) (a.tmod d).toNat) + r)).set (a.tmod d).toNat ((gi (([] ++ i).set (a.tmod d).toNat ((gi ([] ++ i) (a.tmod d).toNat) + r)) (a.tmod d).toNat) - 1)) (fun r6 r7 =>
((r7 = true →
((r6 = true →
R false) ∧
(¬ (r6 = true) →
yaz (fun r8 =>
R r8)))) ∧
(¬ (r7 = true) →
R false)))))))) ∧
((r4 = true →
((r3 = true →
J4) ∧
(¬ (r3 = true) →
R false))) ∧
(¬ (r4 = true) →
R false)))))))) ∧
((r2 = 0 →
((r < 0 →
R false) ∧
(¬ (r < 0) →
((2000 < r →
R false) ∧
(¬ (2000 < r) →
J3))))) ∧
(¬ (r2 = 0) →
R false))))))) ∧
yde d d2 (fun r9 =>
((r9 = true →
ydz d d2 i (fun r10 =>
((r10 = 0 →
ydB i (fun r11 =>
((r11 = true →
J2) ∧
(¬ (r11 = true) →
yaz (fun r12 =>
R r12))))) ∧
(¬ (r10 = 0) →
yaz (fun r13 =>
R r13))))) ∧
(¬ (r9 = true) →
yaz (fun r14 =>
R r14)))))
theorem ygq {O : Nat → Prop} {w : World} {d d2 i a Ad ld cd Ai li ci} {R : Bool → Prop} (h : ya0 d d2 i a R) (hO : ∀ k, O k → k < w.heap.size) (hA0 : (FP.sl c3 Ad ld cd d2).P O w) (hA1 : (FP.sl cI Ai li ci i).P O w) :
    Calls Try.prog 3 #[(.agg #[(ii d), (.slice Ad ld cd)]), (.slice Ai li ci), (.int .u8 a)] w fun e w' => ∃ r15, e = .returned (.bool (r15)) ∧ Sep w no O w' (rl []) ∧ R r15 := by
  unfold ya0 at h; have hS : Sep w no O w (rl [Res.ro (FP.sl c3 Ad ld cd d2), Res.ro (FP.sl cI Ai li ci i)]) := Sep.startl hO [(FP.sl c3 Ad ld cd d2), (FP.sl cI Ai li ci i)] ⟨hA0, hA1, trivial⟩; refine yan (l := [(.agg #[(ii d), (.slice Ad ld cd)]), (.slice Ai li ci), (.int .u8 a)]) func3 rfl ntmps3 (Nat.le_of_ble_eq_true rfl) (zs (zn (ybO (v := (.agg #[(ii d), (.slice Ad ld cd)])) rfl ?_))); intro g w2 hN; replace hS : Sep w no O w2 (stl _ 2 (Res.box 24 g [(ii d), (.slice Ad ld cd)])) := hS.new 2 rfl hN; clear hN; refine zb (zq (za (.bool (false))) (yaa (yae (yae ?_)))); obtain ⟨J2, hJ, h⟩ := h; refine ycS (fun E ds w' => J2 ∧ ds = [] ∧ E 1 = (Value.slice Ai li ci) ∧ E 2 = (Value.int .u8 a) ∧ E 3 = (Value.pointer (some (⟨g, 0, none⟩ : Addr))) ∧ Sep w no O w' (rl [Res.ro (FP.sl cI Ai li ci i), Res.box 24 g [(ii d), (.slice Ad ld cd)], Res.ro (FP.sl c3 Ad ld cd d2)])) ?_ ?_
  · clear h hS; rintro E ds w3 ⟨h, rfl, hE1, hE2, hE3, hS⟩; replace h := hJ h; refine zs (zq (yad hE2) ?_); obtain ⟨hi, h⟩ := h; refine zq (v_conv rfl underlying5 underlying3 hi) (zq (yai hE3 underlying24 rfl yag) (zq (zl underlying3 (Row.cell (hS.bx 1 rfl) (i := 0) rfl)) ?_)); obtain ⟨hz, h⟩ := h; refine zq (v_rem rfl rfl hz) (zq (za (ii (a.tmod d))) (yaa (zs (zq (yar (vs := [(ii d), (.slice Ad ld cd)]) hE3 underlying24 rfl yap ⟨Row.cell (hS.bx 1 rfl) (i := 0) rfl, Row.cell (hS.bx 1 rfl) (i := 1) rfl, trivial⟩) (zq (yad hE1) (zq (zm (ii (a.tmod d))) (zn (yam rfl (am3 rfl rfl rfl) enter_8 ((yfB h (yaG _) (hS.rdr 2 rfl) (hS.rdr 0 rfl)).mono ?_))))))))); rintro _ w4 ⟨r, r2, rfl, hC, h⟩; replace hS := hS.pur hC.pure; clear hC; refine ⟨_, rfl, ?_⟩; refine zb (zq (zm (.tuple #[(ii r), (ii r2)])) (zq (zx (ii r)) (zq (zx (ii r2)) (zq (za (ii r)) (zq (za (ii r2)) (yaa (yae (yae ?_)))))))); obtain ⟨J3, hJ, h⟩ := h; refine ycS (fun E ds w' => J3 ∧ ds = [] ∧ E 1 = (Value.slice Ai li ci) ∧ E 3 = (Value.pointer (some (⟨g, 0, none⟩ : Addr))) ∧ E 7 = (ii (a.tmod d)) ∧ E 8 = (ii r) ∧ Sep w no O w' (rl [Res.ro (FP.sl cI Ai li ci i), Res.box 24 g [(ii d), (.slice Ad ld cd)], Res.ro (FP.sl c3 Ad ld cd d2)])) ?_ ?_
    · clear h hS; rintro E ds w5 ⟨h, rfl, hE1, hE3, hE7, hE8, hS⟩; replace h := hJ h; refine zs (zn (ybd (l := []) (cells := []) (bp0) underlying26 yag rfl rfl ?_)); intro g2 w6 hN; replace hS := hS.litf (n := 0) 3 rfl (fI .i64) hN ([] : List Int) rfl (by decide) rfl; clear hN; refine zb (zq (yad hE1) ?_); obtain ⟨hx, h⟩ := h; refine zn (n_app (c := cI) rfl rfl underlying26 underlying26 yag rfl rfl (by decide) hS 3 rfl (hS.yr 0 rfl) hx ?_); clear hS; intro A c w7 hS; refine zb (zq (za (.slice A (0 + li) c)) (yaa (zs (zq (zm (.slice A (0 + li) c)) (zq (yad hE7) ?_))))); obtain ⟨hx2, h⟩ := h; refine zq (zi underlying26 yag (yaQ (hS.rdo 3 rfl) hx2)) (zq (yax (v := (ii (gi ([] ++ i) (a.tmod d).toNat))) rfl underlying3 rfl (rd_1 (hS.rdo 3 rfl) hx2 (fun q => yaF q) rfl)) ?_); refine zq (yad hE8) ?_; obtain ⟨hi2, h⟩ := h; refine zq (zA hi2) (zq (zi underlying26 yag (yaQ (hS.rdo 3 rfl) hx2)) (zo (zt (ii ((gi ([] ++ i) (a.tmod d).toNat) + r)) yag (hS.wr 3 rfl rfl hx2) ?_))); intro w8 e1; replace hS := hS.st 3 rfl rfl hx2 (x := (gi ([] ++ i) (a.tmod d).toNat) + r) rfl e1; clear e1; refine zb (yaa (zs (zq (yar (vs := [(ii d), (.slice Ad ld cd)]) hE3 underlying24 rfl yap ⟨Row.cell (hS.bx 1 rfl) (i := 0) rfl, Row.cell (hS.bx 1 rfl) (i := 1) rfl, trivial⟩) (zq (zm (.slice A (0 + li) c)) (zn (yam rfl (am2 rfl rfl) enter_9 ((yc9 h (yaG _) (hS.rdr 2 rfl) (hS.rdo 3 rfl)).mono ?_))))))); rintro _ w9 ⟨r3, r4, rfl, hC, h⟩; replace hS := hS.pur hC.pure; clear hC; refine ⟨_, rfl, ?_⟩; refine zb (zq (zm (.tuple #[(.bool (r3)), (.bool (r4))])) (zq (zx (.bool (r3))) (zq (zx (.bool (r4))) (zq (za (.bool (r3))) (zq (za (.bool (r4))) (yaa (yae (yae ?_)))))))); obtain ⟨J4, hJ, h⟩ := h; refine ycS (fun E ds w' => J4 ∧ ds = [] ∧ E 3 = (Value.pointer (some (⟨g, 0, none⟩ : Addr))) ∧ E 7 = (ii (a.tmod d)) ∧ E 8 = (ii r) ∧ E 10 = (Value.slice A (0 + li) c) ∧ Sep w no O w' (rl [Res.box 24 g [(ii d), (.slice Ad ld cd)], Res.ro (FP.sl c3 Ad ld cd d2), Res.own cI 3 A (0 + li) c (([] ++ i).set (a.tmod d).toNat ((gi ([] ++ i) (a.tmod d).toNat) + r))])) ?_ ?_
      · clear h hS; rintro E ds w10 ⟨h, rfl, hE3, hE7, hE8, hE10, hS⟩; replace h := hJ h; refine yae (zs (zq (yad hE8) (zq zE (yaa ?_)))); by_cases hp : r = 0
        · replace h := h.1 hp; refine zc hp (zs (zn (yam rfl (am0) yhn ((yaU h (yaG _)).mono ?_)))); rintro _ w11 ⟨r5, rfl, hC, h⟩; replace hS := hS.pur hC.pure; clear hC; refine ⟨_, rfl, ?_⟩; exact zb (zq (za (.bool (r5))) (yaa (yal rfl rfl ⟨_, rfl, (hS.sel [] (by decide)), h⟩)))
        · replace h := h.2 hp; refine zd hp (yah (zs (zq (yad hE10) (zq (yad hE7) ?_)))); obtain ⟨hx3, h⟩ := h; refine zq (zi underlying26 yag (yaQ (hS.rdo 2 rfl) hx3)) (zq (yax (v := (ii (gi (([] ++ i).set (a.tmod d).toNat ((gi ([] ++ i) (a.tmod d).toNat) + r)) (a.tmod d).toNat))) rfl underlying3 rfl (rd_1 (hS.rdo 2 rfl) hx3 (fun q => yaF q) rfl)) ?_); obtain ⟨hi3, h⟩ := h; refine zq (zS hi3) (zq (zi underlying26 yag (yaQ (hS.rdo 2 rfl) hx3)) (zo (zt (ii ((gi (([] ++ i).set (a.tmod d).toNat ((gi ([] ++ i) (a.tmod d).toNat) + r)) (a.tmod d).toNat) - 1)) yag (hS.wr 2 rfl rfl hx3) ?_))); intro w12 e1; replace hS := hS.st 2 rfl rfl hx3 (x := (gi (([] ++ i).set (a.tmod d).toNat ((gi ([] ++ i) (a.tmod d).toNat) + r)) (a.tmod d).toNat) - 1) rfl e1; clear e1; refine zb (yaa (zs (zq (yar (vs := [(ii d), (.slice Ad ld cd)]) hE3 underlying24 rfl yap ⟨Row.cell (hS.bx 0 rfl) (i := 0) rfl, Row.cell (hS.bx 0 rfl) (i := 1) rfl, trivial⟩) (zq (yad hE10) (zn (yam rfl (am2 rfl rfl) enter_9 ((yc9 h (yaG _) (hS.rdr 1 rfl) (hS.rdo 2 rfl)).mono ?_))))))); rintro _ w13 ⟨r6, r7, rfl, hC, h⟩; replace hS := hS.pur hC.pure; clear hC; refine ⟨_, rfl, ?_⟩; refine zb (zq (zm (.tuple #[(.bool (r6)), (.bool (r7))])) (zq (zx (.bool (r6))) (zq (zx (.bool (r7))) (zq (za (.bool (r6))) (zq (za (.bool (r7))) (yaa (zs (zq (zm (.bool (r7))) (zq (zm (.bool (r7))) ?_))))))))); by_cases hp2 : r7 = true
          · replace h := h.1 hp2; refine rl_q (yac rfl (yaf rfl (congrArg Value.bool hp2))) rfl rfl (zm (.bool (r6))) (rl_q (yac rfl (yaf rfl (congrArg Value.bool hp2))) rfl rfl (ydm rfl) (zq (yat (v := (.bool (!(r6)))) (congrArg Value.bool hp2) rfl) (zq (zm (.bool (!(r6)))) ?_))); by_cases hp3 : r6 = true
            · replace h := h.1 hp3; exact rl_p (yab rfl (yaf rfl (congrArg Value.bool (congrArg Bool.not hp3))) rfl) rfl (zq (yav (v := (.bool (false))) (congrArg Value.bool (congrArg Bool.not hp3)) rfl) (zq (za (.bool (false))) (yaa (yal rfl rfl ⟨_, rfl, (hS.sel [] (by decide)), h⟩))))
            · replace h := h.2 hp3; refine rl_n (yac rfl (yaf rfl (congrArg Value.bool (congrArg Bool.not (Bool.eq_false_iff.2 hp3))))) rfl rfl rfl (yam rfl (am0) yhn ((yaU h (yaG _)).mono ?_)); rintro _ w14 ⟨r8, rfl, hC, h⟩; replace hS := hS.pur hC.pure; clear hC; refine ⟨_, rfl, ?_⟩; exact zb (zq (yat (v := (.bool (r8))) (congrArg Value.bool (congrArg Bool.not (Bool.eq_false_iff.2 hp3))) rfl) (zq (za (.bool (r8))) (yaa (yal rfl rfl ⟨_, rfl, (hS.sel [] (by decide)), h⟩))))
          · replace h := h.2 hp2; exact rl_p (yab rfl (yaf rfl (congrArg Value.bool (Bool.eq_false_iff.2 hp2))) rfl) rfl (rl_p (yab rfl (yaf rfl (congrArg Value.bool (Bool.eq_false_iff.2 hp2))) rfl) rfl (zq (yav (v := (.bool (false))) (congrArg Value.bool (Bool.eq_false_iff.2 hp2)) rfl) (zq (zm (.bool (false))) (rl_p (yab rfl (yaf rfl rfl) rfl) rfl (zq (yav (v := (.bool (false))) rfl rfl) (zq (za (.bool (false))) (yaa (yal rfl rfl ⟨_, rfl, (hS.sel [] (by decide)), h⟩))))))))
      clear hJ; intro j3; refine zr (zq (zm (.bool (r4))) (zq (ydm rfl) (zq (zm (.bool (!(r4)))) ?_))); by_cases hp4 : r4 = true
      · replace h := h.1 hp4; refine rl_q (yac rfl (yaf rfl (congrArg Value.bool (congrArg Bool.not hp4)))) rfl rfl (zm (.bool (r3))) (rl_q (yac rfl (yaf rfl (congrArg Value.bool (congrArg Bool.not hp4)))) rfl rfl (ydm rfl) (zq (yav (v := (.bool (!(r3)))) (congrArg Value.bool (congrArg Bool.not hp4)) rfl) (yaa ?_))); by_cases hp5 : r3 = true
        · replace h := h.1 hp5; exact yaA (congrArg Value.bool (congrArg Bool.not hp5)) (yah (j3 _ _ _ ⟨h, rfl, hE3, hE7, hE8, rfl, (hS.sel [1, 2, 3] (by decide))⟩))
        · replace h := h.2 hp5; exact yaq (congrArg Value.bool (congrArg Bool.not (Bool.eq_false_iff.2 hp5))) (zs (zq (za (.bool (false))) (yaa (yal rfl rfl ⟨_, rfl, (hS.sel [] (by decide)), h⟩))))
      · replace h := h.2 hp4; exact rl_p (yab rfl (yaf rfl (congrArg Value.bool (congrArg Bool.not (Bool.eq_false_iff.2 hp4)))) rfl) rfl (rl_p (yab rfl (yaf rfl (congrArg Value.bool (congrArg Bool.not (Bool.eq_false_iff.2 hp4)))) rfl) rfl (zq (yat (v := (.bool (true))) (congrArg Value.bool (congrArg Bool.not (Bool.eq_false_iff.2 hp4))) rfl) (yaa (yaq rfl (zs (zq (za (.bool (false))) (yaa (yal rfl rfl ⟨_, rfl, (hS.sel [] (by decide)), h⟩))))))))
    clear hJ; intro j2; refine zr (zq (zm (ii r2)) (zq zN (zq (zm (.bool (!(decide (r2 = 0))))) ?_))); by_cases hp6 : r2 = 0
    · replace h := h.1 hp6; refine rl_q (yac rfl (yaf rfl (congrArg Value.bool (congrArg Bool.not (decide_eq_true hp6))))) rfl rfl (zm (ii r)) (rl_q (yac rfl (yaf rfl (congrArg Value.bool (congrArg Bool.not (decide_eq_true hp6))))) rfl rfl zL (zq (yav (v := (.bool (decide (r < 0)))) (congrArg Value.bool (congrArg Bool.not (decide_eq_true hp6))) rfl) (zq (zm (.bool (decide (r < 0)))) ?_))); by_cases hp7 : r < 0
      · replace h := h.1 hp7; exact rl_p (yab rfl (yaf rfl (congrArg Value.bool (decide_eq_true hp7))) rfl) rfl (rl_p (yab rfl (yaf rfl (congrArg Value.bool (decide_eq_true hp7))) rfl) rfl (zq (yat (v := (.bool (true))) (congrArg Value.bool (decide_eq_true hp7)) rfl) (yaa (yaq rfl (zs (zq (za (.bool (false))) (yaa (yal rfl rfl ⟨_, rfl, (hS.sel [] (by decide)), h⟩))))))))
      · replace h := h.2 hp7; refine rl_q (yac rfl (yaf rfl (congrArg Value.bool (decide_eq_false hp7)))) rfl rfl (zm (ii r)) (rl_q (yac rfl (yaf rfl (congrArg Value.bool (decide_eq_false hp7)))) rfl rfl zG (zq (yav (v := (.bool (decide (2000 < r)))) (congrArg Value.bool (decide_eq_false hp7)) rfl) (yaa ?_))); by_cases hp8 : 2000 < r
        · replace h := h.1 hp8; exact zc hp8 (zs (zq (za (.bool (false))) (yaa (yal rfl rfl ⟨_, rfl, (hS.sel [] (by decide)), h⟩))))
        · replace h := h.2 hp8; exact zd hp8 (yah (j2 _ _ _ ⟨h, rfl, hE1, hE3, rfl, rfl, (hS.sel [0, 1, 2] (by decide))⟩))
    · replace h := h.2 hp6; exact rl_p (yab rfl (yaf rfl (congrArg Value.bool (congrArg Bool.not (decide_eq_false hp6)))) rfl) rfl (rl_p (yab rfl (yaf rfl (congrArg Value.bool (congrArg Bool.not (decide_eq_false hp6)))) rfl) rfl (zq (yat (v := (.bool (true))) (congrArg Value.bool (congrArg Bool.not (decide_eq_false hp6))) rfl) (zq (zm (.bool (true))) (rl_p (yab rfl (yaf rfl rfl) rfl) rfl (rl_p (yab rfl (yaf rfl rfl) rfl) rfl (zq (yat (v := (.bool (true))) rfl rfl) (yaa (yaq rfl (zs (zq (za (.bool (false))) (yaa (yal rfl rfl ⟨_, rfl, (hS.sel [] (by decide)), h⟩))))))))))))
  clear hJ; intro j; refine zr (zq (yar (vs := [(ii d), (.slice Ad ld cd)]) rfl underlying24 rfl yap ⟨Row.cell (hS.bx 2 rfl) (i := 0) rfl, Row.cell (hS.bx 2 rfl) (i := 1) rfl, trivial⟩) (zn (yam rfl (am1 rfl) enter_4 ((ygJ h (yaG _) (hS.rdr 0 rfl)).mono ?_)))); rintro _ w15 ⟨r9, rfl, hC, h⟩; replace hS := hS.pur hC.pure; clear hC; refine ⟨_, rfl, ?_⟩; refine zb (zq (ydm rfl) (zq (zm (.bool (!(r9)))) ?_)); by_cases hp9 : r9 = true
  · replace h := h.1 hp9; refine rl_q (yac rfl (yaf rfl (congrArg Value.bool (congrArg Bool.not hp9)))) rfl rfl (yar (vs := [(ii d), (.slice Ad ld cd)]) rfl underlying24 rfl yap ⟨Row.cell (hS.bx 2 rfl) (i := 0) rfl, Row.cell (hS.bx 2 rfl) (i := 1) rfl, trivial⟩) (rl_q (yac rfl (yaf rfl (congrArg Value.bool (congrArg Bool.not hp9)))) rfl rfl (zm (.slice Ai li ci)) (rl_n (yac rfl (yaf rfl (congrArg Value.bool (congrArg Bool.not hp9)))) rfl rfl rfl (yam rfl (am2 rfl rfl) enter_5 ((pok_r43_Given h (yaG _) (hS.rdr 0 rfl) (hS.rdr 1 rfl)).mono ?_)))); rintro _ w16 ⟨r10, rfl, hC, h⟩; replace hS := hS.pur hC.pure; clear hC; refine ⟨_, rfl, ?_⟩; refine zb (rl_q (yac rfl (yaf rfl (congrArg Value.bool (congrArg Bool.not hp9)))) rfl rfl zN (zq (yav (v := (.bool (!(decide (r10 = 0))))) (congrArg Value.bool (congrArg Bool.not hp9)) rfl) (zq (zm (.bool (!(decide (r10 = 0))))) ?_))); by_cases hp10 : r10 = 0
    · replace h := h.1 hp10; refine rl_q (yac rfl (yaf rfl (congrArg Value.bool (congrArg Bool.not (decide_eq_true hp10))))) rfl rfl (zm (.slice Ai li ci)) (rl_n (yac rfl (yaf rfl (congrArg Value.bool (congrArg Bool.not (decide_eq_true hp10))))) rfl rfl rfl (yam rfl (am1 rfl) enter_6 ((pok_r17_Small h (yaG _) (hS.rdr 1 rfl)).mono ?_))); rintro _ w17 ⟨r11, rfl, hC, h⟩; replace hS := hS.pur hC.pure; clear hC; refine ⟨_, rfl, ?_⟩; refine zb (rl_q (yac rfl (yaf rfl (congrArg Value.bool (congrArg Bool.not (decide_eq_true hp10))))) rfl rfl (ydm rfl) (zq (yav (v := (.bool (!(r11)))) (congrArg Value.bool (congrArg Bool.not (decide_eq_true hp10))) rfl) (yaa ?_))); by_cases hp11 : r11 = true
      · replace h := h.1 hp11; exact yaA (congrArg Value.bool (congrArg Bool.not hp11)) (yah (j _ _ _ ⟨h, rfl, rfl, rfl, rfl, (hS.sel [1, 2, 0] (by decide))⟩))
      · replace h := h.2 hp11; refine yaq (congrArg Value.bool (congrArg Bool.not (Bool.eq_false_iff.2 hp11))) (zs (zn (yam rfl (am0) yhn ((yaU h (yaG _)).mono ?_)))); rintro _ w18 ⟨r12, rfl, hC, h⟩; replace hS := hS.pur hC.pure; clear hC; refine ⟨_, rfl, ?_⟩; exact zb (zq (za (.bool (r12))) (yaa (yal rfl rfl ⟨_, rfl, (hS.sel [] (by decide)), h⟩)))
    · replace h := h.2 hp10; refine rl_p (yab rfl (yaf rfl (congrArg Value.bool (congrArg Bool.not (decide_eq_false hp10)))) rfl) rfl (rl_p (yab rfl (yaf rfl (congrArg Value.bool (congrArg Bool.not (decide_eq_false hp10)))) rfl) rfl (rl_p (yab rfl (yaf rfl (congrArg Value.bool (congrArg Bool.not (decide_eq_false hp10)))) rfl) rfl (zq (yat (v := (.bool (true))) (congrArg Value.bool (congrArg Bool.not (decide_eq_false hp10))) rfl) (yaa (yaq rfl (zs (zn (yam rfl (am0) yhn ((yaU h (yaG _)).mono ?_))))))))); rintro _ w19 ⟨r13, rfl, hC, h⟩; replace hS := hS.pur hC.pure; clear hC; refine ⟨_, rfl, ?_⟩; exact zb (zq (za (.bool (r13))) (yaa (yal rfl rfl ⟨_, rfl, (hS.sel [] (by decide)), h⟩)))
  · replace h := h.2 hp9; refine rl_p (yab rfl (yaf rfl (congrArg Value.bool (congrArg Bool.not (Bool.eq_false_iff.2 hp9)))) rfl) rfl (rl_p (yab rfl (yaf rfl (congrArg Value.bool (congrArg Bool.not (Bool.eq_false_iff.2 hp9)))) rfl) rfl (rl_p (yab rfl (yaf rfl (congrArg Value.bool (congrArg Bool.not (Bool.eq_false_iff.2 hp9)))) rfl) rfl (rl_p (yab rfl (yaf rfl (congrArg Value.bool (congrArg Bool.not (Bool.eq_false_iff.2 hp9)))) rfl) rfl (zq (yat (v := (.bool (true))) (congrArg Value.bool (congrArg Bool.not (Bool.eq_false_iff.2 hp9))) rfl) (zq (zm (.bool (true))) (rl_p (yab rfl (yaf rfl rfl) rfl) rfl (rl_p (yab rfl (yaf rfl rfl) rfl) rfl (rl_p (yab rfl (yaf rfl rfl) rfl) rfl (zq (yat (v := (.bool (true))) rfl rfl) (yaa (yaq rfl (zs (zn (yam rfl (am0) yhn ((yaU h (yaG _)).mono ?_))))))))))))))); rintro _ w20 ⟨r14, rfl, hC, h⟩; replace hS := hS.pur hC.pure; clear hC; refine ⟨_, rfl, ?_⟩; exact zb (zq (za (.bool (r14))) (yaa (yal rfl rfl ⟨_, rfl, (hS.sel [] (by decide)), h⟩)))
end Go.Proofs.Ytncilechkclmbaa

/- What the references' pure forms come to: graphs and divisors. -/
namespace Go.Proofs.Ytncilechkclmbaa
open Go Go.Proofs.Try
set_option linter.unusedVariables false
set_option linter.unusedSimpArgs false
theorem p_r17_In {k : Int} {R : Bool → Prop} (h : R (inF k)) : yfc k R := by
  unfold yfc
  refine ⟨fun h1 => ?_, fun h1 => ?_⟩
  · have e : decide (k ≤ 1048576) = inF k := by unfold inF; simp [h1]
    rw [e]; exact h
  · have e : false = inF k := by unfold inF; simp [h1]
    rw [e]; exact h
theorem ygu {n v : Int} {es : List E3} {R : Bool → Prop} (h : R (decide (0 ≤ v ∧ v < n))) : ycz n es v R := by
  unfold ycz
  refine ⟨fun h1 => ?_, fun h1 => ?_⟩
  · have e : decide (v < n) = decide (0 ≤ v ∧ v < n) := by simp [h1]
    rw [e]; exact h
  · have e : false = decide (0 ≤ v ∧ v < n) := by simp [h1]
    rw [e]; exact h
theorem p_r17_Check {d : List Int} {n : Int} {R : Int → Prop} (h : R (yaT d n)) : ydw d n R := by
  unfold ydw
  have hout : ¬ (1 ≤ n ∧ n ≤ 12) → R 2 := fun q => by
    have : yaT d n = 2 := by unfold yaT yfe; rw [if_neg q, if_neg (by omega)]
    rwa [this] at h
  refine ⟨1 ≤ n ∧ n ≤ 12, fun hn => ?_, fun q => hout (by omega), fun q => ⟨fun q2 => hout (by omega), fun q2 => ⟨by omega, by omega⟩⟩⟩
  have hc : yaT d n = if (d.length : Int) = n then (if d.all inF then 0 else 2) else 8 := by unfold yaT; rw [if_pos (by unfold yfe; rw [if_pos hn])]
  rw [hc] at h
  refine ⟨fun hln => ?_, fun hln => by rwa [if_neg hln] at h⟩
  rw [if_pos hln] at h
  refine ⟨Cnt d.length (fun k => ∀ j, j < k → inF (gi d j) = true), Cnt.start (fun j hj => absurd hj (by omega)), ?_⟩
  rintro m _ ⟨k, rfl, rfl, hk, hinv⟩
  refine ⟨fun hlt => ⟨by omega, p_r17_In ⟨fun h1 => Cnt.next (by omega) (by omega) fun j hj => ?_, fun h1 => ?_⟩⟩, fun hge => ?_⟩
  · by_cases e : j = k
    · subst e; simpa using h1
    · exact hinv j (by omega)
  · rw [if_neg (fun hall => h1 ((yc3 inF d).1 hall _ (by omega)))] at h; exact h
  · rw [if_pos ((yc3 inF d).2 fun j hj => hinv j (by omega))] at h; exact h
theorem p_r08_edge {n : Int} {es : List E3} {k : Nat} {R : Int → Prop} (hk : k < es.length) (hl : es.length ≤ 1000000000) (h : R (yfw n (pre es k).1 (pre es k).2 (ge es k))) : ydT n es (k : Int) R := by
  unfold ydT
  simp only [Int.toNat_natCast]
  generalize hx : ge es k = x at h ⊢
  refine ⟨by omega, (0 ≤ x.1 ∧ x.1 < n) ∧ (0 ≤ x.2.1 ∧ x.2.1 < n) ∧ 1 ≤ x.2.2 ∧ x.2.2 ≤ 50, fun hJ => ?_, ?_⟩
  · have hed : ∀ a b, yfw n a b x = if x.1 ≤ x.2.1 ∧ yeR a b x.1 x.2.1 < 0 then 0 else 9 := fun a b => by unfold yfw; rw [if_pos hJ]
    rw [hed] at h
    refine ⟨fun q => by rw [if_neg (by omega)] at h; exact h, fun q => ⟨fun h0 => ?_, fun h0 => ?_⟩⟩
    · have e1 : ((k : Int) - 1).toNat = k - 1 := by omega
      rw [e1]
      have hp : pre es k = ((ge es (k - 1)).1, (ge es (k - 1)).2.1) := by unfold pre; rw [if_neg (by omega)]
      rw [hp] at h
      have hc := yhu (ge es (k - 1)).1 (ge es (k - 1)).2.1 x.1 x.2.1
      refine ⟨i64 (by omega), by omega, fun q1 => ?_, fun q1 => ⟨fun q2 => ⟨fun q3 => ?_, fun q3 => ?_⟩, fun q2 => ?_⟩⟩
      · rw [if_neg (fun h => by have := hc.1 h.2; omega)] at h; exact h
      · rw [if_neg (fun h => by have := hc.1 h.2; omega)] at h; exact h
      · rw [if_pos ⟨by omega, hc.2 (by omega)⟩] at h; exact h
      · rw [if_pos ⟨by omega, hc.2 (by omega)⟩] at h; exact h
    · have hp : pre es k = (-1, -1) := by unfold pre; rw [if_pos (by omega)]
      rw [hp, if_pos ⟨by omega, (yhu _ _ _ _).2 (.inl (by omega))⟩] at h
      exact h
  · have hed : ¬ ((0 ≤ x.1 ∧ x.1 < n) ∧ (0 ≤ x.2.1 ∧ x.2.1 < n) ∧ 1 ≤ x.2.2 ∧ x.2.2 ≤ 50) → R 2 := fun q => by unfold yfw at h; rwa [if_neg q] at h
    refine ygu ⟨fun h1 => ygu ⟨fun h2 => ⟨fun h3 => hed (by omega), fun h3 => ⟨fun h4 => hed (by omega), fun h4 => ?_⟩⟩, fun h2 => hed (by simp at h2; omega)⟩, fun h1 => hed (by simp at h1; omega)⟩
    simp only [decide_eq_true_eq] at h1 h2
    exact ⟨h1, h2, by omega, by omega⟩
theorem yg5 {n : Int} {es : List E3} {R : Int → Prop} (hl : es.length ≤ 1000000000) (h : R (yas n es)) : yc0 n es R := by
  unfold yc0
  have hout : ¬ (1 ≤ n ∧ n ≤ 12) → R 2 := fun q => by unfold yas at h; rwa [if_neg q] at h
  refine ⟨1 ≤ n ∧ n ≤ 12, fun hn => ?_, fun q => hout (by omega), fun q => ⟨fun q2 => hout (by omega), fun q2 => ⟨by omega, by omega⟩⟩⟩
  have hg : yas n es = gchk n (-1) (-1) es := by unfold yas; rw [if_pos hn]
  rw [hg] at h
  refine ⟨Cnt es.length (fun k => gchk n (-1) (-1) es = gchk n (pre es k).1 (pre es k).2 (es.drop k)), Cnt.start rfl, ?_⟩
  rintro m _ ⟨k, rfl, rfl, hk, hinv⟩
  refine ⟨fun hlt => p_r08_edge (by omega) hl ⟨fun h0 => Cnt.next (by omega) (by omega) ?_, fun h0 => ?_⟩, fun hge => ?_⟩
  · rw [ygl (by omega), ye6, if_pos h0] at hinv
    rw [hinv]; simp [pre]
  · rw [ygl (by omega), ye6, if_neg h0] at hinv
    rwa [hinv] at h
  · have hk2 : k = es.length := by omega
    rw [hinv, hk2, List.drop_length] at h
    exact h
theorem p_r08_Between' {n : Int} {es : List E3} {a b : Int} {R : Int → Prop} (hl : es.length ≤ 1000000000) (h : R (((es.find? fun x => decide (x.1 = mnF a b ∧ x.2.1 = mxF a b)).map (·.2.2)).getD 0)) : ycg n es a b R := by
  unfold ycg
  refine ⟨Cnt es.length (fun k => es.find? (fun x => decide (x.1 = mnF a b ∧ x.2.1 = mxF a b)) = (es.drop k).find? (fun x => decide (x.1 = mnF a b ∧ x.2.1 = mxF a b))), Cnt.start rfl, ?_⟩
  rintro m _ ⟨k, rfl, rfl, hk, hinv⟩
  refine ⟨fun hlt => ?_, fun hge => ?_⟩
  · have hlt : k < es.length := by omega
    rw [ygl hlt, List.find?_cons] at hinv
    simp only [Int.toNat_natCast]
    refine ⟨by omega, fun h1 => ⟨fun h2 => ?_, fun h2 => Cnt.next hlt (by omega) ?_⟩, fun h1 => Cnt.next hlt (by omega) ?_⟩
    · rw [hinv] at h; simpa [h1, h2] using h
    · rw [hinv]; simp [h2]
    · rw [hinv]; simp [h1]
  · have hk2 : k = es.length := by omega
    rw [hinv, hk2, List.drop_length] at h
    exact h
theorem W_le50 {n : Int} {es : List E3} (hg : yas n es = 0) (u v : Nat) : 0 ≤ W es u v ∧ W es u v ≤ 50 := by
  by_cases e : u = v
  · subst e; rw [yhH]; omega
  · have hok := gchk_ok es _ _ (yeK hg)
    rw [← yhp u v e es (-1) (-1) (yeK hg)]
    cases hf : es.find? fun x => decide (x.1 = mnF (u : Int) v ∧ x.2.1 = mxF (u : Int) v) with
    | none => simp
    | some x => have := hok x (List.mem_of_find?_eq_some hf); simp; omega
theorem p_r08_Between {n : Int} {es : List E3} {u v : Nat} {R : Int → Prop} (hl : es.length ≤ 1000000000) (hg : yas n es = 0) (huv : u ≠ v) (h : R (W es u v)) : ycg n es (u : Int) (v : Int) R :=
  p_r08_Between' hl (by rw [yhp u v huv es (-1) (-1) (yeK hg)]; exact h)
theorem deg_bound {n : Int} {es : List E3} (hg : yas n es = 0) (k v : Nat) : 0 ≤ sm k (fun u => W es v u) ∧ sm k (fun u => W es v u) ≤ k * 50 :=
  ⟨yaI fun i _ => (W_le50 hg v i).1, (yfO (f := fun u => W es v u) (B := 50) (by omega) fun i _ => by have := W_le50 hg v i; omega).2⟩
def ygI (es : List E3) : List (Int × Int) := es.flatMap fun x => List.replicate x.2.2.toNat (x.1, x.2.1)
theorem endsF_take {es : List E3} {k : Nat} (hk : k < es.length) : ygI (es.take (k + 1)) = ygI (es.take k) ++ List.replicate (ge es k).2.2.toNat ((ge es k).1, (ge es k).2.1) := by
  unfold ygI
  rw [List.take_add_one, List.getElem?_eq_getElem hk, ycy hk, List.flatMap_append]
  simp
theorem ygC (es : List E3) (hE : ∀ x ∈ es, 1 ≤ x.2.2 ∧ x.2.2 ≤ 50) : ((ygI es).length : Int) = (es.map (·.2.2)).sum ∧ (ygI es).length ≤ 50 * es.length := by
  induction es with
  | nil => simp [ygI]
  | cons x t ih =>
    have hx := hE x (by simp)
    have := ih fun y hy => hE y (by simp [hy])
    unfold ygI at this ⊢
    rw [List.flatMap_cons, List.length_append, List.length_replicate, List.map_cons, List.sum_cons, List.length_cons]
    omega
theorem p_r08_Ends {n : Int} {es : List E3} {R : List (Int × Int) → Prop} (hl : es.length ≤ 1000) (hE : ∀ x ∈ es, 1 ≤ x.2.2 ∧ x.2.2 ≤ 50) (h : R (ygI es)) : ydS n es R := by
  unfold ydS
  have hlen : ∀ k, (ygI (es.take k)).length ≤ 50 * k := fun k => by
    have := (ygC (es.take k) fun x hx => hE x (List.mem_of_mem_take hx)).2
    rw [List.length_take] at this
    omega
  refine ⟨fun m out i => Cnt es.length (fun k => out = ygI (es.take k)) m i, Cnt.start (by simp [ygI]), ?_⟩
  rintro m out _ ⟨k, rfl, rfl, hk, rfl⟩
  refine ⟨fun hlt => ?_, fun hge => ?_⟩
  · have hlt : k < es.length := by omega
    have hmk := hE _ (yfr hlt)
    have hl2 := hlen k
    simp only [Int.toNat_natCast]
    refine ⟨fun m2 out2 j => Cnt (ge es k).2.2.toNat (fun i => out2 = ygI (es.take k) ++ List.replicate i ((ge es k).1, (ge es k).2.1)) m2 j, Cnt.start (by simp), ?_⟩
    rintro m2 out2 _ ⟨j, rfl, rfl, hj, rfl⟩
    refine ⟨by omega, fun h1 => ⟨?_, Cnt.next (by omega) (by omega) ?_⟩, fun h1 => Cnt.next hlt (by omega) ?_⟩
    · rw [List.length_append, List.length_replicate]; omega
    · rw [List.append_assoc, List.replicate_succ']
    · have : j = (ge es k).2.2.toNat := by omega
      rw [endsF_take hlt, this]
  · have hk2 : k = es.length := by omega
    rw [hk2, List.take_length]; exact h
theorem p_r08_Size {n : Int} {es : List E3} {R : Int → Prop} (hl : es.length ≤ 1000) (hE : ∀ x ∈ es, 1 ≤ x.2.2 ∧ x.2.2 ≤ 50) (h : R ((es.map (·.2.2)).sum)) : yeC n es R :=
  p_r08_Ends hl hE (by rw [(ygC es hE).1]; exact h)
theorem p_r08_small {n a b : Int} {es : List E3} {R : Bool → Prop} (h : R (yht n es a b)) : ydC n es a b R := by
  unfold ydC
  unfold yht at h
  refine ⟨fun h1 => ?_, fun h1 => yg5 (by omega) ⟨fun h2 => ⟨fun h3 => ?_, fun h3 => ?_⟩, fun h2 => ?_⟩⟩
  · rwa [decide_eq_false (by omega)] at h
  · have hE := gchk_ok es _ _ (yeK h2)
    refine p_r08_Size (by omega) (fun x hx => (hE x hx).2.2.2.2) ?_
    have e : decide ((es.map (·.2.2)).sum ≤ b) = decide (es.length ≤ 40 ∧ (yas n es = 0 → n ≤ a ∧ (es.map (·.2.2)).sum ≤ b)) := by
      rw [decide_eq_decide]; constructor
      · intro q; exact ⟨by omega, fun _ => ⟨h3, q⟩⟩
      · intro q; exact (q.2 h2).2
    rw [e]; exact h
  · rwa [decide_eq_false (fun q => h3 (q.2 h2).1)] at h
  · rwa [decide_eq_true ⟨by omega, fun q => absurd q h2⟩] at h
end Go.Proofs.Ytncilechkclmbaa

/- Borrowing: a vertex in debt borrows from its neighbours, until there is no debt, or each vertex has borrowed. No program in sight. -/
namespace Go.Proofs.Ytncilechkclmbaa
open Go Go.Proofs.Try
set_option linter.unusedVariables false
set_option linter.unusedSectionVars false
set_option linter.unusedSimpArgs false
def Win (n : Nat) (es : List E3) (d : List Int) : Prop := ∃ s : Nat → Int, ∀ v, v < n → 0 ≤ gi d v - Lp n es s v
theorem Lp_unit {n : Nat} {es : List E3} {v : Nat} (hv : v < n) (i : Nat) : Lp n es (fun j => if j = v then 1 else 0) i = if i = v then deg n es v else - W es i v := by
  rw [Lp_ind]
  have h1 : sm n (fun u => (if u = v then (1 : Int) else 0) * W es u i) = W es v i := by
    rw [← ycH (W es v i) hv]
    refine yao fun u hu => ?_
    show (if u = v then (1 : Int) else 0) * W es u i = if u = v then W es v i else 0
    split
    · rename_i e; rw [e]; omega
    · omega
  rw [h1]
  by_cases e : i = v
  · subst e; rw [if_pos rfl, if_pos rfl, yhH]; omega
  · rw [if_neg e, if_neg e, yej]; omega
structure Bor (n : Nat) (es : List E3) (d : List Int) (c : Nat → Int) (x : List Int) (b : List Bool) : Prop where
  xl : x.length = n
  bl : b.length = n
  val : ∀ v, v < n → gi x v = gi d v + Lp n es c v
  c0 : ∀ v, v < n → 0 ≤ c v
  bo : ∀ v, v < n → (gb b v = true ↔ 0 < c v)
  up : ∀ v, v < n → gi x v ≤ 1000
  least : ∀ t : Nat → Int, (∀ v, v < n → 0 ≤ t v) → (∀ v, v < n → 0 ≤ gi d v + Lp n es t v) → ∀ v, v < n → c v ≤ t v
section
variable {n : Nat} {es : List E3} {d : List Int}
theorem bor_start (hd : d.length = n) (hb : ∀ v, v < n → gi d v ≤ 1000) : Bor n es d (fun _ => 0) d (List.replicate n false) :=
  ⟨hd, by simp, fun v hv => by rw [yfi]; omega, fun v hv => Int.le_refl _, fun v hv => by rw [gb_rep]; simp, hb, fun t ht _ v hv => ht v hv⟩
theorem deg_le {m : Int} (hg : yas m es = 0) (hn : n ≤ 12) (v : Nat) : 0 ≤ deg n es v ∧ deg n es v ≤ 600 := by
  have := deg_bound hg n v
  unfold deg
  omega
theorem bor_step {m : Int} (hg : yas m es = 0) (hE : EOk n es) (hn : n ≤ 12) {c : Nat → Int} {x : List Int} {b : List Bool} (h : Bor n es d c x b) {v : Nat} (hv : v < n) (hneg : gi x v < 0) {y : List Int} (hyl : y.length = n)
    (hy : ∀ i, i < n → gi y i = if i = v then gi x v + deg n es v else gi x i - W es i v) : Bor n es d (fun j => c j + if j = v then 1 else 0) y (b.set v true) := by
  refine ⟨hyl, by rw [List.length_set, h.bl], fun i hi => ?_, fun i hi => ?_, fun i hi => ?_, fun i hi => ?_, fun t ht0 ht i hi => ?_⟩
  · rw [hy i hi, ygt c (fun j => if j = v then 1 else 0), Lp_unit hv, h.val i hi]
    by_cases e : i = v
    · subst e; rw [if_pos rfl, if_pos rfl, h.val i hi]; omega
    · rw [if_neg e, if_neg e]; omega
  · have := h.c0 i hi
    show 0 ≤ c i + if i = v then 1 else 0
    split <;> omega
  · rw [ydK (by rw [h.bl]; exact hv)]
    have := h.c0 i hi
    show _ ↔ 0 < c i + if i = v then 1 else 0
    by_cases e : i = v
    · rw [if_pos e, if_pos e]; simp; omega
    · rw [if_neg e, if_neg e, h.bo i hi]; simp
  · rw [hy i hi]
    have h1 := deg_le hg hn (n := n) v
    have h2 := h.up i hi
    have h3 := yaJ hE i v
    split <;> omega
  · have h1 := h.least t ht0 ht i hi
    show c i + (if i = v then 1 else 0) ≤ t i
    by_cases e : i = v
    · subst e
      rw [if_pos rfl]
      apply Int.not_lt.1
      intro hlt
      have e2 : t i = c i := by omega
      have h3 : Lp n es t i ≤ Lp n es c i := by
        unfold Lp
        refine yca fun u hu => ?_
        show W es i u * (t i - t u) ≤ W es i u * (c i - c u)
        exact Int.mul_le_mul_of_nonneg_left (by have := h.least t ht0 ht u hu; omega) (yaJ hE i u)
      have := ht i hi
      have := h.val i hi
      omega
    · rw [if_neg e]; omega
theorem bor_few (hE : EOk n es) (hC : ∀ q, q < n → Conn n es q) (hn : n ≤ 12) (hdb : ∀ v, v < n → -1000 ≤ gi d v) {c : Nat → Int} {x : List Int} {b : List Bool} (h : Bor n es d c x b) {w : Nat} (hw : w < n) (h0 : gb b w ≠ true) : ∀ v, v < n → c v ≤ 288000 := by
  have cw : c w = 0 := by
    have h1 := h.c0 w hw
    have h2 := (h.bo w hw)
    have : ¬ 0 < c w := fun h3 => h0 (h2.2 h3)
    omega
  intro v hv
  have h1 := climb hE (hC w hw) hw (f := c) (G := 24000) (by omega) (fun S hS => ?_) v hv
  · have h2 := low_le (f := c) hv
    have h3 : low n c (c v) * 24000 ≤ 12 * 24000 := Int.mul_le_mul_of_nonneg_right (by omega) (by omega)
    omega
  · have h4 : sm n (fun v => if S v = true then Lp n es c v else 0) ≤ sm n (fun _ => 2000) := yca fun u hu => by
      show (if S u = true then Lp n es c u else 0) ≤ 2000
      have h5 := h.val u hu
      have h6 := h.up u hu
      have h7 := hdb u hu
      split <;> omega
    rw [yb1] at h4
    omega
theorem bor_total (hn : n ≤ 12) {c : Nat → Int} (hc : ∀ v, v < n → c v ≤ 288000) : sm n c ≤ 3456000 := by
  have h := yca (f := c) (g := fun _ => 288000) (n := n) hc
  rw [yb1] at h
  omega
theorem bor_count {c : Nat → Int} {v : Nat} (hv : v < n) : sm n (fun j => c j + if j = v then 1 else 0) = sm n c + 1 := by
  rw [ybp c (fun j => if j = v then 1 else 0), ycH 1 hv]
theorem bor_win {c : Nat → Int} {x : List Int} {b : List Bool} (h : Bor n es d c x b) (hx : ∀ v, v < n → 0 ≤ gi x v) : Win n es d := by
  refine ⟨fun i => (-1) * c i, fun v hv => ?_⟩
  rw [yfV]
  have := hx v hv
  rw [h.val v hv] at this
  omega
theorem max_at (s : Nat → Int) : ∀ n : Nat, 1 ≤ n → ∃ w, w < n ∧ ∀ v, v < n → s v ≤ s w
  | 0, h => absurd h (by omega)
  | 1, _ => ⟨0, by omega, fun v hv => by rw [show v = 0 by omega]; omega⟩
  | n + 2, _ => by
    obtain ⟨w, hw, h⟩ := max_at s (n + 1) (by omega)
    by_cases c : s (n + 1) ≤ s w
    · refine ⟨w, by omega, fun v hv => ?_⟩
      by_cases e : v = n + 1
      · rw [e]; exact c
      · exact h v (by omega)
    · refine ⟨n + 1, by omega, fun v hv => ?_⟩
      by_cases e : v = n + 1
      · rw [e]; omega
      · have := h v (by omega); omega
theorem win_red {q : Nat} {r : List Int} {s : Nat → Int} (hE : EOk n es) (hq : q < n) (hr : Red n es q r) (hl : ∀ v, v < n → gi r v = gi d v - Lp n es s v) : Win n es d ↔ 0 ≤ gi r q := by
  constructor
  · rintro ⟨t, ht⟩
    -- the end of t is the form behind a firing
    have h1 := red_script hE hq hr (d' := tab (fun v => gi d v - Lp n es t v) n) (fun v hv _ => by rw [ydf _ hv]; exact ht v hv) (f := fun i => t i + (-1) * s i) fun v hv => by
      rw [ydf _ hv, ygt t (fun i => (-1) * s i), yfV, hl v hv]; omega
    have h2 : 0 ≤ Lp n es (fun i => t i + (-1) * s i) q := by
      unfold Lp
      refine yaI fun u hu => ?_
      exact Int.mul_nonneg (yaJ hE q u) (by have := h1 u hu; show 0 ≤ t q + -1 * s q - (t u + -1 * s u); omega)
    have h3 := ht q hq
    rw [ygt t (fun i => (-1) * s i), yfV] at h2
    rw [hl q hq]; omega
  · intro h0
    refine ⟨s, fun v hv => ?_⟩
    rw [← hl v hv]
    by_cases e : v = q
    · rw [e]; exact h0
    · exact hr.pos v hv e
end
end Go.Proofs.Ytncilechkclmbaa

/- The genus: how many single edges there are, and how many chips a reduced divisor has. No program in sight. -/
namespace Go.Proofs.Ytncilechkclmbaa
open Go Go.Proofs.Try
set_option linter.unusedVariables false
set_option linter.unusedSimpArgs false
def ycG (es : List E3) : Int := (es.map fun x => if x.1 = x.2.1 then 0 else x.2.2).sum
theorem yfL {n : Nat} : ∀ {es : List E3}, EOk n es → tot n es = 2 * ycG es
  | [], _ => by
    unfold tot ycG
    rw [yao (g := fun _ => 0) (fun v _ => by rw [yao (g := fun _ => 0) (fun u _ => W_nil v u), yaZ]), yaZ]
    simp
  | x :: es, hE => by
    have ih := yfL (es := es) (fun y hy => hE y (by simp [hy]))
    have hx := hE x (by simp)
    have h1 : tot n (x :: es) = sm n (fun v => sm n (fun u => w1 x v u)) + tot n es := by
      unfold tot
      rw [← ybp]
      refine yao fun v _ => ?_
      rw [← ybp]
      exact yao fun u _ => ydR x es v u
    have hp : ycG (x :: es) = (if x.1 = x.2.1 then 0 else x.2.2) + ycG es := by simp [ycG]
    rw [h1, hp, ih]
    by_cases e : x.1 = x.2.1
    · rw [if_pos e]
      have h2 : sm n (fun v => sm n (fun u => w1 x v u)) = 0 := by
        rw [yao (g := fun _ => 0) (fun v _ => by rw [yao (g := fun _ => 0) (fun u _ => by unfold w1; rw [if_neg (fun h => h.1 e)]), yaZ]), yaZ]
      omega
    · rw [if_neg e]
      have h2 : sm n (fun v => sm n (fun u => w1 x v u)) = sm n (fun v => sm n (fun u => (if v = x.1.toNat then (if u = x.2.1.toNat then x.2.2 else 0) else 0) + (if v = x.2.1.toNat then (if u = x.1.toNat then x.2.2 else 0) else 0))) :=
        yao fun v _ => yao fun u _ => by
          show w1 x v u = ite _ _ _ + ite _ _ _
          unfold w1
          by_cases a1 : v = x.1.toNat
          · by_cases a2 : u = x.2.1.toNat
            · rw [if_pos ⟨e, .inl ⟨by omega, by omega⟩⟩, if_pos a1, if_pos a2, if_neg (by omega)]; omega
            · rw [if_neg (fun h => by omega), if_pos a1, if_neg a2, if_neg (by omega)]; omega
          · rw [if_neg a1]
            by_cases b1 : v = x.2.1.toNat
            · rw [if_pos b1]
              by_cases b2 : u = x.1.toNat
              · rw [if_pos ⟨e, .inr ⟨by omega, by omega⟩⟩, if_pos b2]; omega
              · rw [if_neg (fun h => by omega), if_neg b2]; omega
            · rw [if_neg (fun h => by omega), if_neg b1]; omega
      have h3 : ∀ a b : Nat, a < n → b < n → sm n (fun v => sm n (fun u => if v = a then (if u = b then x.2.2 else 0) else 0)) = x.2.2 := fun a b ha hb => by
        rw [yao (g := fun v => if v = a then x.2.2 else 0) (fun v _ => by
          by_cases e : v = a
          · simp only [if_pos e]; exact ycH _ hb
          · simp only [if_neg e]; exact yaZ n)]
        exact ycH _ ha
      have h4 : sm n (fun v => sm n (fun u => (if v = x.1.toNat then (if u = x.2.1.toNat then x.2.2 else 0) else 0) + (if v = x.2.1.toNat then (if u = x.1.toNat then x.2.2 else 0) else 0))) = x.2.2 + x.2.2 := by
        have e : ∀ A B : Nat → Nat → Int, sm n (fun v => sm n (fun u => A v u + B v u)) = sm n (fun v => sm n (A v)) + sm n (fun v => sm n (B v)) := fun A B => by
          rw [← ybp]
          exact yao fun v _ => by rw [← ybp]
        refine (e (fun v u => if v = x.1.toNat then (if u = x.2.1.toNat then x.2.2 else 0) else 0) (fun v u => if v = x.2.1.toNat then (if u = x.1.toNat then x.2.2 else 0) else 0)).trans ?_
        rw [h3 x.1.toNat x.2.1.toNat (by omega) (by omega), h3 x.2.1.toNat x.1.toNat (by omega) (by omega)]
      omega
end Go.Proofs.Ytncilechkclmbaa

/- What the references' pure forms come to: connectedness, errors, scripts. -/
namespace Go.Proofs.Ytncilechkclmbaa
open Go Go.Proofs.Try
set_option linter.unusedVariables false
set_option linter.unusedSimpArgs false
section
variable {n : Nat} {es : List E3}
theorem p_r08_Reached {v : Nat} {R : List Bool → Prop} (hl : es.length ≤ 1000000000) (hg : yas n es = 0) (hv : v < n) (h : ∀ o : List Bool, o.length = n → (∀ u, u < n → gb o u = decide (root (yau es) u = root (yau es) v)) → R o) : ycQ (n : Int) es (v : Int) R := by
  obtain ⟨hE, hn1, hn12⟩ := ya3 hg
  unfold ycQ
  simp only [Int.toNat_natCast]
  refine ⟨by omega, by simp; omega, ?_⟩
  let Q : List Bool → Prop := fun o => o.length = n ∧ gb o v = true ∧ ∀ u, u < n → gb o u = true → root (yau es) u = root (yau es) v
  let Z : List Bool → List Bool → Prop := fun o0 o => (Cl n es o0 → o = o0) ∧ (o = o0 ∨ cf o < cf o0) ∧ ∀ a, gb o0 a = true → gb o a = true
  have hq4 : Q ((List.replicate n false).set v true) := by
    refine ⟨by simp, by rw [ydK (by simpa using hv), if_pos rfl], fun u hu h => ?_⟩
    rw [ydK (by simpa using hv)] at h
    split at h
    · rename_i e; rw [e]
    · rw [gb_rep] at h; cases h
  have hcf0 : cf ((List.replicate n false).set v true) + 1 = n := by
    rw [cf_set (by simpa using hv) (gb_rep n v)]
    unfold cf
    rw [List.filter_eq_self.2 (fun x hx => by rw [(List.mem_replicate.1 hx).2]; rfl)]
    simp
  have hsetQ : ∀ {o : List Bool} {b : Nat}, Q o → b < n → root (yau es) b = root (yau es) v → Q (o.set b true) := by
    rintro o b ⟨q1, q4, q5⟩ hb hr
    have hbl : b < o.length := by omega
    refine ⟨by simpa using q1, ?_, fun u hu h => ?_⟩
    · rw [ydK hbl]; split <;> first | rfl | exact q4
    · rw [ydK hbl] at h
      split at h
      · rename_i e; rw [e]; exact hr
      · exact q5 u hu h
  refine ⟨fun m i o => Cnt n (fun k => Q o ∧ (Cl n es o ∨ cf o + k + 1 ≤ n)) m i, Cnt.start ⟨hq4, .inr (by omega)⟩, ?_⟩
  rintro m _ o0 ⟨k, rfl, rfl, hk, hq5, hpr⟩
  refine ⟨fun hlt => ?_, fun hge => ?_⟩
  · refine ⟨fun m i o => Cnt n (fun a => Q o ∧ Z o0 o ∧ ∀ a', a' < a → gb o0 a' = true → ∀ b, b < n → 0 < W es a' b → gb o b = true) m i, Cnt.start ⟨hq5, ⟨fun _ => rfl, .inl rfl, fun _ h => h⟩, fun a' h => absurd h (by omega)⟩, ?_⟩
    rintro m _ o ⟨a, rfl, rfl, ha, hq6, hz, hdone⟩
    refine ⟨fun hlta => ?_, fun hgea => ?_⟩
    · refine ⟨fun m i o => Cnt n (fun b => Q o ∧ Z o0 o ∧ (∀ a', a' < a → gb o0 a' = true → ∀ b, b < n → 0 < W es a' b → gb o b = true) ∧ (gb o0 a = true → ∀ b', b' < b → 0 < W es a b' → gb o b' = true)) m i, Cnt.start ⟨hq6, hz, hdone, fun _ b' h => absurd h (by omega)⟩, ?_⟩
      clear hq6 hz hdone hq5
      rintro m _ o ⟨b, rfl, rfl, hb, hq7, hz, hdone, hnow⟩
      have hol := hq7.1
      refine ⟨fun hltb => ⟨by omega, fun hx => ?_, fun hx => Cnt.next (by omega) (by omega) ⟨hq7, hz, hdone, fun h => absurd (hz.2.2 a h) (by simpa using hx)⟩⟩, fun hgeb => ?_⟩
      · simp only [Int.toNat_natCast] at hx ⊢
        have hstep : (a ≠ b → 0 < W es a b) → Q (o.set b true) ∧ Z o0 (o.set b true) ∧ (∀ a', a' < a → gb o0 a' = true → ∀ b', b' < n → 0 < W es a' b' → gb (o.set b true) b' = true) ∧ (gb o0 a = true → ∀ b', b' < b + 1 → 0 < W es a b' → gb (o.set b true) b' = true) := by
          intro hW
          have hbl : b < o.length := by omega
          have hup : ∀ x, gb o x = true → gb (o.set b true) x = true := fun x h => by rw [ydK hbl]; split <;> first | rfl | exact h
          have hrb : root (yau es) b = root (yau es) v := by
            have h1 := hq7.2.2 a (by omega) hx
            by_cases eab : a = b
            · rw [← eab]; exact h1
            · rw [← root_W hE hn1 hn12 (hW eab)]; exact h1
          refine ⟨hsetQ hq7 (by omega) hrb, ⟨fun hcl => ?_, ?_, fun x h => hup x (hz.2.2 x h)⟩, fun a' h1 h2 b' h3 h4 => hup _ (hdone a' h1 h2 b' h3 h4), fun h1 b' h2 h3 => ?_⟩
          · have e0 := hz.1 hcl
            subst e0
            refine set_same ?_
            by_cases eab : a = b
            · rw [← eab]; exact hx
            · exact hcl a b (by omega) (by omega) hx (hW eab)
          · cases hob : gb o b with
            | true => rw [set_same hob]; exact hz.2.1
            | false =>
              have := cf_set hbl hob
              rcases hz.2.1 with h | h
              · right; rw [← h]; omega
              · right; omega
          · by_cases e2 : b' = b
            · subst e2; rw [ydK hbl, if_pos rfl]
            · exact hup _ (hnow h1 b' (by omega) h3)
        have hpass : ¬ 0 < W es a b → (gb o0 a = true → ∀ b', b' < b + 1 → 0 < W es a b' → gb o b' = true) := fun h h1 b' h2 h3 => by
          by_cases e2 : b' = b
          · subst e2; exact absurd h3 h
          · exact hnow h1 b' (by omega) h3
        by_cases eab : a = b
        · subst eab
          refine p_r08_Between' hl ⟨fun h => ⟨by omega, Cnt.next (by omega) (by omega) (hstep fun h => absurd rfl h)⟩, fun h => Cnt.next (by omega) (by omega) ⟨hq7, hz, hdone, hpass (by rw [show W es a a = 0 from yhH es a]; omega)⟩⟩
        · refine p_r08_Between hl hg eab ⟨fun h => ⟨by omega, Cnt.next (by omega) (by omega) (hstep fun _ => h)⟩, fun h => Cnt.next (by omega) (by omega) ⟨hq7, hz, hdone, hpass h⟩⟩
      · have hbn : b = n := by omega
        subst hbn
        refine Cnt.next (by omega) (by omega) ⟨hq7, hz, fun a' h1 h2 b' h3 h4 => ?_⟩
        by_cases e2 : a' = a
        · subst e2; exact hnow h2 b' h3 h4
        · exact hdone a' (by omega) h2 b' h3 h4
    · have han : a = n := by omega
      subst han
      refine Cnt.next (by omega) (by omega) ⟨hq6, ?_⟩
      by_cases hcl : Cl a es o0
      · rw [hz.1 hcl]; exact .inl hcl
      · rcases hz.2.1 with h | h
        · exfalso
          subst h
          exact hcl fun x y hx hy h1 h2 => hdone x hx h1 y hy h2
        · rcases hpr with h2 | h2
          · exact absurd h2 hcl
          · right; omega
  · have hkn : k = n := by omega
    subst hkn
    rcases hpr with q | q
    · exact h o0 hq5.1 (cl_root hE hn1 hn12 q hv hq5.2.1 hq5.2.2)
    · omega
theorem p_r08_Parts {R : Int → Prop} (hl : es.length ≤ 1000000000) (hg : yas n es = 0) (h : ∀ k : Int, (k = 1 ↔ ydO n es = true) → R k) : ydv (n : Int) es R := by
  obtain ⟨hE, hn1, hn12⟩ := ya3 hg
  have hcr := conn_root hE hn1 hn12
  unfold ydv
  simp only [Int.toNat_natCast]
  refine ⟨by omega, ?_⟩
  refine ⟨fun m k i o => Cnt n (fun v => 0 ≤ k ∧ k ≤ v ∧ (v = 0 → k = 0) ∧ (0 < v → 1 ≤ k ∧ (k = 1 ↔ ∀ x, x < v → root (yau es) x = root (yau es) 0)) ∧ o.length = n ∧ (∀ u, u < n → (gb o u = true ↔ ∃ x, x < v ∧ root (yau es) u = root (yau es) x))) m i,
    Cnt.start ⟨by omega, by omega, fun _ => rfl, fun h => absurd h (by omega), by simp, fun u _ => by rw [gb_rep]; simp⟩, ?_⟩
  rintro m k _ o ⟨v, rfl, rfl, hv, k0, k1, k2, k3, hol, hseen⟩
  refine ⟨fun hlt => ?_, fun hge => ?_⟩
  · have hlt : v < n := by omega
    simp only [Int.toNat_natCast]
    refine ⟨by omega, fun hx => ?_, fun hx => ⟨i64 (by omega), p_r08_Reached hl hg hlt fun ro hrl hro => ?_⟩⟩
    · obtain ⟨x, hxv, hxr⟩ := (hseen v hlt).1 hx
      refine Cnt.next hlt (by omega) ⟨k0, by omega, fun h => absurd h (by omega), fun _ => ?_, hol, fun u hu => ?_⟩
      · have h3 := k3 (by omega)
        refine ⟨h3.1, ?_⟩
        rw [h3.2]
        constructor
        · intro h y hy
          by_cases e : y = v
          · subst e; rw [hxr]; exact h x hxv
          · exact h y (by omega)
        · intro h y hy; exact h y (by omega)
      · rw [hseen u hu]
        constructor
        · rintro ⟨y, hy, hyr⟩; exact ⟨y, by omega, hyr⟩
        · rintro ⟨y, hy, hyr⟩
          by_cases e : y = v
          · subst e; exact ⟨x, hxv, hyr.trans hxr⟩
          · exact ⟨y, by omega, hyr⟩
    · refine ⟨fun m i o' => Cnt n (fun u => o'.length = n ∧ (∀ x, x < n → (gb o' x = true ↔ (gb o x = true ∨ (x < u ∧ gb ro x = true))))) m i, Cnt.start ⟨hol, fun x _ => by simp⟩, ?_⟩
      rintro m _ o' ⟨u, rfl, rfl, hu, hol', hor⟩
      refine ⟨fun hltu => ?_, fun hgeu => ?_⟩
      · have hltu : u < n := by omega
        simp only [Int.toNat_natCast]
        have hou := hor u hltu
        have st : ∀ b : Bool, (b = true ↔ (gb o u = true ∨ gb ro u = true)) → (o'.set u b).length = n ∧ (∀ x, x < n → (gb (o'.set u b) x = true ↔ (gb o x = true ∨ (x < u + 1 ∧ gb ro x = true)))) := fun b hbb => by
          refine ⟨by simpa using hol', fun x hx => ?_⟩
          rw [ydK (by omega)]
          by_cases e : x = u
          · subst e
            rw [if_pos rfl, hbb]
            constructor
            · rintro (h | h)
              · exact .inl h
              · exact .inr ⟨by omega, h⟩
            · rintro (h | h)
              · exact .inl h
              · exact .inr h.2
          · rw [if_neg e, hor x hx]
            constructor
            · rintro (h | h)
              · exact .inl h
              · exact .inr ⟨by omega, h.2⟩
            · rintro (h | h)
              · exact .inl h
              · exact .inr ⟨by omega, h.2⟩
        refine ⟨by omega, fun hx2 => Cnt.next hltu (by omega) (st true ?_), fun hx2 => ⟨by omega, Cnt.next hltu (by omega) (st _ ?_)⟩⟩
        · have := hou.1 hx2
          constructor
          · intro _; rcases this with h | h
            · exact .inl h
            · exact .inr h.2
          · intro _; rfl
        · constructor
          · intro h; exact .inr h
          · rintro (h | h)
            · exact absurd (hou.2 (.inl h)) hx2
            · exact h
      · have hun : u = n := by omega
        subst hun
        have hnew : ¬ ∃ x, x < v ∧ root (yau es) v = root (yau es) x := fun h => hx ((hseen v hlt).2 h)
        refine Cnt.next (by omega) (by omega) ⟨by omega, by omega, fun h => absurd h (by omega), fun _ => ⟨by omega, ?_⟩, hol', fun x hxn => ?_⟩
        · by_cases e0 : v = 0
          · subst e0
            have := k2 rfl
            subst this
            constructor
            · intro _ y hy; rw [show y = 0 by omega]
            · intro _; rfl
          · have h3 := k3 (by omega)
            constructor
            · intro h; omega
            · intro h; exact absurd ⟨0, by omega, h v (by omega)⟩ hnew
        · rw [hor x hxn, hseen x hxn, hro x hxn, decide_eq_true_eq]
          constructor
          · rintro (⟨y, hy, hyr⟩ | h)
            · exact ⟨y, by omega, hyr⟩
            · exact ⟨v, by omega, h.2⟩
          · rintro ⟨y, hy, hyr⟩
            by_cases e : y = v
            · subst e; exact .inr ⟨hxn, hyr⟩
            · exact .inl ⟨y, by omega, hyr⟩
  · have hvn : v = n := by omega
    subst hvn
    refine h k ?_
    rw [(k3 (by omega)).2, hcr]
theorem yhq {R : Bool → Prop} (hl : es.length ≤ 1000000000) (hg : yas n es = 0) (h : R (ydO n es)) : ycU (n : Int) es R :=
  p_r08_Parts hl hg fun k hk => by
    have e : decide (k = 1) = ydO n es := by rw [Bool.eq_iff_iff, decide_eq_true_eq]; exact hk
    rw [e]; exact h
end
section
variable {n q : Int} {es : List E3} {d s : List Int}
def lowF (n : Int) (d : List Int) : Bool := decide (d.length ≤ 100 ∧ (yaT d n = 0 → ∀ j, j < d.length → -100 ≤ gi d j ∧ gi d j ≤ 100))
theorem Lp_row {n : Nat} {es : List E3} (s : List Int) {v : Nat} (hv : v < n) : sm n (fun k => (if v = k then deg n es v else - W es v k) * gi s k) = Lp n es (gi s) v := by
  have e : (fun k => (if v = k then deg n es v else - W es v k) * gi s k) = (fun k => (if k = v then gi s v * deg n es v else 0) - gi s k * W es v k) := by
    funext k
    by_cases e : v = k
    · subst e; rw [if_pos rfl, if_pos rfl, yhH, Int.mul_comm]; omega
    · rw [if_neg e, if_neg (fun q => e q.symm), Int.mul_comm]; simp only [Int.mul_neg]; omega
  rw [Lp_ind, e, ye7, ycH _ hv]
  exact congrArg _ (yao fun k _ => by rw [yej es v k])
theorem row_bound {n : Nat} {es : List E3} (hg : yas n es = 0) {s : List Int} (hs : ∀ j, j < n → -2000000000 ≤ gi s j ∧ gi s j ≤ 2000000000) (i k : Nat) (hk : k < n) : -1200000000000 ≤ (if i = k then deg n es i else - W es i k) * gi s k ∧ (if i = k then deg n es i else - W es i k) * gi s k ≤ 1200000000000 := by
  obtain ⟨hE, hn1, hn12⟩ := ya3 hg
  have h1 := deg_bound hg n i
  have h2 := W_le50 hg i k
  have h3 := hs k hk
  have hb : -600 ≤ (if i = k then deg n es i else - W es i k) ∧ (if i = k then deg n es i else - W es i k) ≤ 600 := by
    unfold deg
    split <;> omega
  generalize (if i = k then deg n es i else - W es i k) = c at hb ⊢
  generalize gi s k = x at h3 ⊢
  have := Int.natAbs_mul c x
  have h4 : c.natAbs ≤ 600 := by omega
  have h5 : x.natAbs ≤ 2000000000 := by omega
  have := Nat.mul_le_mul h4 h5
  omega
theorem Lp_bound {n : Nat} {es : List E3} (hg : yas n es = 0) {s : List Int} (hs : ∀ j, j < n → -2000000000 ≤ gi s j ∧ gi s j ≤ 2000000000) {v : Nat} (hv : v < n) : -20000000000000 ≤ Lp n es (gi s) v ∧ Lp n es (gi s) v ≤ 20000000000000 := by
  obtain ⟨hE, hn1, hn12⟩ := ya3 hg
  rw [← Lp_row s hv]
  have hb := yfO (f := fun k => (if v = k then deg n es v else - W es v k) * gi s k) (B := 1200000000000) (by omega) (n := n) fun j hj => row_bound hg hs v j hj
  have : (n : Int) * 1200000000000 ≤ 12 * 1200000000000 := by omega
  omega
def appF (n : Nat) (es : List E3) (d s : List Int) : List Int := tab (fun v => gi d v - Lp n es (gi s) v) n
theorem yby {n : Nat} {es : List E3} {d s : List Int} : (appF n es d s).length = n := ycB _ _
end
end Go.Proofs.Ytncilechkclmbaa

/- What the pure forms of the program's and the library's small functions come to. -/
namespace Go.Proofs.Ytncilechkclmbaa
open Go Go.Proofs.Try
set_option linter.unusedVariables false
set_option linter.unusedSimpArgs false
theorem ycj {s : List Int} {R : List Int → Prop} (hl : s.length ≤ 1000000000) (h : R s) : yaN s R := by
  unfold yaN
  exact fun nil hn => ⟨fun q => by rw [hn q] at h; exact h, fun q => ⟨by omega, h⟩⟩
end Go.Proofs.Ytncilechkclmbaa

/- What the references' pure forms on sets come to. -/
namespace Go.Proofs.Ytncilechkclmbaa
open Go Go.Proofs.Try
set_option linter.unusedVariables false
set_option linter.unusedSimpArgs false
section
variable {n : Nat} {es : List E3} {d : List Int}
end
end Go.Proofs.Ytncilechkclmbaa

/- What the library's pure forms come to: search, minimum, order. -/
namespace Go.Proofs.Ytncilechkclmbaa
open Go Go.Proofs.Try
set_option linter.unusedVariables false
set_option linter.unusedSimpArgs false
end Go.Proofs.Ytncilechkclmbaa

/- What the pure forms of chips, graph and firing come to. -/
namespace Go.Proofs.Ytncilechkclmbaa
open Go Go.Proofs.Try
set_option linter.unusedVariables false
set_option linter.unusedSimpArgs false
theorem p_chips_within {k : Int} {R : Bool → Prop} (h : R (inF k)) : ycv k R := by
  unfold ycv
  refine ⟨fun h1 => ?_, fun h1 => ?_⟩
  · have e : decide (k ≤ 1048576) = inF k := by unfold inF; simp [h1]
    rw [e]; exact h
  · have e : false = inF k := by unfold inF; simp [h1]
    rw [e]; exact h
theorem yeG {d : List Int} {n : Int} {R : Int → Prop} (h : R (yaT d n)) : ybQ d n R := by
  unfold ybQ ycD
  have hout : ¬ (1 ≤ n ∧ n ≤ 12) → R 2 := fun q => by
    have : yaT d n = 2 := by unfold yaT yfe; rw [if_neg q, if_neg (by omega)]
    rwa [this] at h
  refine ⟨fun q => ⟨fun q2 => absurd q2 (by omega), fun _ => hout (by omega)⟩, fun q => ⟨fun q2 => ⟨fun q3 => absurd q3 (by omega), fun _ => hout (by omega)⟩, fun q2 => ⟨fun _ => ?_, fun q3 => absurd rfl q3⟩⟩⟩
  have hc : yaT d n = if (d.length : Int) = n then (if d.all inF then 0 else 2) else 8 := by unfold yaT; rw [if_pos (by unfold yfe; rw [if_pos (by omega)])]
  rw [hc] at h
  refine ⟨fun hln => ?_, fun hln => by rwa [if_neg hln] at h⟩
  rw [if_pos hln] at h
  refine ⟨Cnt d.length (fun k => ∀ j, j < k → inF (gi d j) = true), Cnt.start (fun j hj => absurd hj (by omega)), ?_⟩
  rintro m _ ⟨k, rfl, rfl, hk, hinv⟩
  refine ⟨fun hlt => ⟨by omega, p_chips_within ⟨fun h1 => Cnt.next (by omega) (by omega) fun j hj => ?_, fun h1 => ?_⟩⟩, fun hge => ?_⟩
  · by_cases e : j = k
    · subst e; simpa using h1
    · exact hinv j (by omega)
  · rw [if_neg (fun hall => h1 ((yc3 inF d).1 hall _ (by omega)))] at h; exact h
  · rw [if_pos ((yc3 inF d).2 fun j hj => hinv j (by omega))] at h; exact h
theorem yeg {n v : Int} {R : Bool → Prop} (h : R (decide (0 ≤ v ∧ v < n))) : ybx n v R := by
  unfold ybx
  refine ⟨fun h1 => ?_, fun h1 => ?_⟩
  · have e : decide (v < n) = decide (0 ≤ v ∧ v < n) := by simp [h1]
    rw [e]; exact h
  · have e : false = decide (0 ≤ v ∧ v < n) := by simp [h1]
    rw [e]; exact h
theorem yex {a b : Int} {R : Int → Prop} (h : R (cmpF a b)) : ya7 a b R := by
  unfold ya7 ycb
  unfold cmpF at h
  refine ⟨fun q => absurd q (by simp), fun _ => ⟨fun q => absurd q (by simp), fun _ => ⟨fun h1 => by rwa [if_pos h1] at h, fun h1 => ?_⟩⟩⟩
  rw [if_neg h1] at h
  refine ⟨fun h2 => by rwa [if_pos h2] at h, fun h2 => by rwa [if_neg h2] at h⟩
theorem p_cmp_Or2 {x y : Int} {R : Int → Prop} (h : R (orF x y)) : ydd [x, y] R := by
  unfold ydd
  unfold orF at h
  refine ⟨Cnt 2 (fun k => ∀ j, j < k → gi [x, y] j = 0), Cnt.start (fun j hj => absurd hj (by omega)), ?_⟩
  rintro m _ ⟨k, rfl, rfl, hk, hinv⟩
  simp only [Int.toNat_natCast, List.length_cons, List.length_nil]
  have hk3 : k = 0 ∨ k = 1 ∨ k = 2 := by omega
  have g0 : gi [x, y] 0 = x := rfl
  have g1 : gi [x, y] 1 = y := rfl
  have hnx : gi [x, y] k = 0 → ∀ j, j < k + 1 → gi [x, y] j = 0 := fun q j hj => by
    by_cases e : j = k
    · subst e; exact q
    · exact hinv j (by omega)
  refine ⟨fun hlt => ⟨by omega, fun q => Cnt.next (by omega) (by omega) (hnx q), fun q => ?_⟩, fun hge => ?_⟩
  · rcases hk3 with rfl | rfl | rfl
    · rw [g0] at q ⊢; rwa [if_pos q] at h
    · have h0 := hinv 0 (by omega)
      rw [g0] at h0
      rw [g1]; rwa [if_neg (fun q2 => q2 h0)] at h
    · exact absurd hlt (by omega)
  · have : k = 2 := by omega
    subst this
    have h0 := hinv 0 (by omega)
    have h1 := hinv 1 (by omega)
    rw [g0] at h0
    rw [g1] at h1
    rw [if_neg (fun q2 => q2 h0), h1] at h; exact h
theorem p_pair_compare {a b c d : Int} {R : Int → Prop} (h : R (yeR a b c d)) : ybE a b c d R :=
  yex (yex (p_cmp_Or2 h))
theorem yeD {n : Int} {es : List E3} {R : Int → Prop} (hl : es.length ≤ 1000000000) (h : R (yas n es)) : ybN n es R := by
  unfold ybN
  have hout : ¬ (1 ≤ n ∧ n ≤ 12) → R 2 := fun q => by unfold yas at h; rwa [if_neg q] at h
  refine ⟨1 ≤ n ∧ n ≤ 12, fun hn => ?_, fun q => hout (by omega), fun q => ⟨fun q2 => hout (by omega), fun q2 => ⟨by omega, by omega⟩⟩⟩
  have hg : yas n es = gchk n (-1) (-1) es := by unfold yas; rw [if_pos hn]
  rw [hg] at h
  refine ⟨fun m i a b => Cnt es.length (fun k => a = (pre es k).1 ∧ b = (pre es k).2 ∧ gchk n (-1) (-1) es = gchk n (pre es k).1 (pre es k).2 (es.drop k)) m i, Cnt.start ⟨rfl, rfl, rfl⟩, ?_⟩
  rintro m _ _ _ ⟨k, rfl, rfl, hk, rfl, rfl, hinv⟩
  simp only [Int.toNat_natCast]
  refine ⟨fun hlt => ⟨by omega, ?_⟩, fun hge => ?_⟩
  · have hlt : k < es.length := by omega
    rw [ygl hlt, ye6] at hinv
    generalize hx : ge es k = x at hinv ⊢
    have hed : R (if yfw n (pre es k).1 (pre es k).2 x = 0 then gchk n x.1 x.2.1 (es.drop (k + 1)) else yfw n (pre es k).1 (pre es k).2 x) := by rw [← hinv]; exact h
    have h2 : ¬ ((0 ≤ x.1 ∧ x.1 < n) ∧ (0 ≤ x.2.1 ∧ x.2.1 < n) ∧ 1 ≤ x.2.2 ∧ x.2.2 ≤ 50) → R 2 := fun q => by
      unfold yfw at hed; rw [if_neg q, if_neg (by omega)] at hed; exact hed
    refine ⟨(0 ≤ x.1 ∧ x.1 < n) ∧ (0 ≤ x.2.1 ∧ x.2.1 < n) ∧ 1 ≤ x.2.2 ∧ x.2.2 ≤ 50, fun hJ => ?_, yeg ⟨fun q1 => yeg ⟨fun q2 => ⟨fun q3 => h2 (by omega), fun q3 => ⟨fun q4 => h2 (by omega), fun q4 => ?_⟩⟩, fun q2 => h2 (by simp at q2; omega)⟩, fun q1 => h2 (by simp at q1; omega)⟩⟩
    · have he : yfw n (pre es k).1 (pre es k).2 x = if x.1 ≤ x.2.1 ∧ yeR (pre es k).1 (pre es k).2 x.1 x.2.1 < 0 then 0 else 9 := by unfold yfw; rw [if_pos hJ]
      rw [he] at hed hinv
      refine ⟨fun q => ?_, fun q => p_pair_compare ⟨fun q2 => ?_, fun q2 => Cnt.next hlt (by omega) ⟨?_, ?_, ?_⟩⟩⟩
      · rw [if_neg (show ¬ (x.1 ≤ x.2.1 ∧ _) by omega), if_neg (by omega)] at hed; exact hed
      · rw [if_neg (show ¬ (x.1 ≤ x.2.1 ∧ _) by omega), if_neg (by omega)] at hed; exact hed
      · simp [pre, hx]
      · simp [pre, hx]
      · have hc : x.1 ≤ x.2.1 ∧ yeR (pre es k).1 (pre es k).2 x.1 x.2.1 < 0 := ⟨by omega, by omega⟩
        rw [if_pos hc, if_pos rfl] at hinv
        rw [hinv]
        simp [pre, hx]
    · simp only [decide_eq_true_eq] at q1 q2
      exact ⟨q1, q2, by omega, by omega⟩
  · have hk2 : k = es.length := by omega
    rw [hinv, hk2, List.drop_length] at h
    exact h
theorem W_snoc (x : E3) (v u : Nat) : ∀ l : List E3, W (l ++ [x]) v u = W l v u + w1 x v u
  | [] => by rw [List.nil_append, ydR, W_nil]; omega
  | y :: t => by rw [List.cons_append, ydR, ydR, W_snoc x v u t]; omega
def e1 (x : E3) (s : Nat → Int) (v : Nat) : Int := (if (v : Int) = x.1 then x.2.2 * (s x.1.toNat - s x.2.1.toNat) else 0) - (if (v : Int) = x.2.1 then x.2.2 * (s x.1.toNat - s x.2.1.toNat) else 0)
theorem Lp_snoc {n : Nat} {l : List E3} {x : E3} {s : Nat → Int} {v : Nat} (hx : 0 ≤ x.1 ∧ x.1 < n ∧ 0 ≤ x.2.1 ∧ x.2.1 < n) (hv : v < n) : Lp n (l ++ [x]) s v = Lp n l s v + e1 x s v := by
  have h1 : Lp n (l ++ [x]) s v = Lp n l s v + sm n (fun u => w1 x v u * (s v - s u)) := by
    unfold Lp
    rw [← ybp]
    refine yao fun u _ => ?_
    rw [W_snoc, Int.add_mul]
  rw [h1]
  congr 1
  obtain ⟨a, ha⟩ : ∃ a : Nat, x.1 = a := ⟨x.1.toNat, by omega⟩
  obtain ⟨b, hb⟩ : ∃ b : Nat, x.2.1 = b := ⟨x.2.1.toNat, by omega⟩
  unfold e1
  rw [ha, hb, Int.toNat_natCast, Int.toNat_natCast]
  have ean : a < n := by omega
  have ebn : b < n := by omega
  by_cases hab : a = b
  · subst hab
    rw [show (fun u => w1 x v u * (s v - s u)) = fun _ => 0 from ?_, yaZ]
    · omega
    · funext u
      unfold w1
      rw [if_neg (by omega)]; omega
  · by_cases e1 : v = a
    · subst e1
      rw [if_pos rfl, if_neg (by omega), show (fun u => w1 x v u * (s v - s u)) = fun u => if u = b then x.2.2 * (s v - s b) else 0 from ?_, ycH _ ebn]
      · omega
      · funext u
        unfold w1
        by_cases e2 : u = b
        · subst e2; rw [if_pos ⟨by omega, .inl ⟨ha, hb⟩⟩, if_pos rfl]
        · rw [if_neg (by omega), if_neg e2]; omega
    · by_cases e3 : v = b
      · subst e3
        rw [if_neg (by omega), if_pos rfl, show (fun u => w1 x v u * (s v - s u)) = fun u => if u = a then x.2.2 * (s v - s a) else 0 from ?_, ycH _ ean]
        · rw [show s a - s v = -(s v - s a) by omega, Int.mul_neg]; omega
        · funext u
          unfold w1
          by_cases e2 : u = a
          · subst e2; rw [if_pos ⟨by omega, .inr ⟨ha, hb⟩⟩, if_pos rfl]
          · rw [if_neg (by omega), if_neg e2]; omega
      · rw [if_neg (by omega), if_neg (by omega), show (fun u => w1 x v u * (s v - s u)) = fun _ => 0 from ?_, yaZ]
        · omega
        · funext u
          unfold w1
          rw [if_neg (by omega)]; omega
theorem flow_bound {x : E3} {s : Nat → Int} (hm : 1 ≤ x.2.2 ∧ x.2.2 ≤ 50) (ha : -2000000000 ≤ s x.1.toNat ∧ s x.1.toNat ≤ 2000000000) (hb : -2000000000 ≤ s x.2.1.toNat ∧ s x.2.1.toNat ≤ 2000000000) : -200000000000 ≤ x.2.2 * (s x.1.toNat - s x.2.1.toNat) ∧ x.2.2 * (s x.1.toNat - s x.2.1.toNat) ≤ 200000000000 := by
  generalize x.2.2 = m at hm ⊢
  have h : -4000000000 ≤ s x.1.toNat - s x.2.1.toNat ∧ s x.1.toNat - s x.2.1.toNat ≤ 4000000000 := by omega
  generalize s x.1.toNat - s x.2.1.toNat = y at h ⊢
  have := Int.natAbs_mul m y
  have h4 : m.natAbs ≤ 50 := by omega
  have h5 : y.natAbs ≤ 4000000000 := by omega
  have := Nat.mul_le_mul h4 h5
  omega
theorem yfU {n : Nat} {es : List E3} (hE : EOk n es) {s : Nat → Int} (hs : ∀ j, j < n → -2000000000 ≤ s j ∧ s j ≤ 2000000000) {v : Nat} (hv : v < n) : ∀ k, k ≤ es.length → -(400000000000 * (k : Int)) ≤ Lp n (es.take k) s v ∧ Lp n (es.take k) s v ≤ 400000000000 * k
  | 0, _ => by
    have : Lp n [] s v = 0 := by
      unfold Lp
      rw [show (fun u => W [] v u * (s v - s u)) = fun _ => 0 from ?_, yaZ]
      funext u; rw [W_nil]; omega
    rw [List.take_zero, this]; omega
  | k + 1, hk => by
    have ih := yfU hE hs hv k (by omega)
    have hx := hE _ (yfr (show k < es.length by omega))
    have hf := flow_bound (x := ge es k) (s := s) (by omega) (hs _ (by omega)) (hs _ (by omega))
    have e : es.take (k + 1) = es.take k ++ [ge es k] := by rw [List.take_add_one, List.getElem?_eq_getElem (by omega), ycy (by omega)]; rfl
    rw [e, Lp_snoc (by omega) hv]
    unfold e1
    split <;> split <;> omega
theorem Lp_nil {n : Nat} {s : Nat → Int} {v : Nat} : Lp n [] s v = 0 := by
  unfold Lp
  rw [show (fun u => W [] v u * (s v - s u)) = fun _ => 0 from ?_, yaZ]
  funext u; rw [W_nil]; omega
theorem edge_step {n : Nat} {es : List E3} (hE : EOk n es) {d s : List Int} {k : Nat} (hk : k < es.length) :
    ((appF n (es.take k) d s).set (ge es k).1.toNat (gi (appF n (es.take k) d s) (ge es k).1.toNat - (ge es k).2.2 * (gi s (ge es k).1.toNat - gi s (ge es k).2.1.toNat))).set (ge es k).2.1.toNat
      (gi ((appF n (es.take k) d s).set (ge es k).1.toNat (gi (appF n (es.take k) d s) (ge es k).1.toNat - (ge es k).2.2 * (gi s (ge es k).1.toNat - gi s (ge es k).2.1.toNat))) (ge es k).2.1.toNat + (ge es k).2.2 * (gi s (ge es k).1.toNat - gi s (ge es k).2.1.toNat)) = appF n (es.take (k + 1)) d s := by
  have hx := hE _ (yfr hk)
  have e : es.take (k + 1) = es.take k ++ [ge es k] := by rw [List.take_add_one, List.getElem?_eq_getElem hk, ycy hk]; rfl
  have hal : (appF n (es.take k) d s).length = n := yby
  refine yfq (by rw [List.length_set, List.length_set, yby, yby]) fun i hi => ?_
  rw [List.length_set, List.length_set, hal] at hi
  have h1 : ∀ j, j < n → gi (appF n (es.take k) d s) j = gi d j - Lp n (es.take k) (gi s) j := fun j hj => ydf _ hj
  have h2 : gi (appF n (es.take (k + 1)) d s) i = gi d i - (Lp n (es.take k) (gi s) i + e1 (ge es k) (gi s) i) := by
    rw [← Lp_snoc (by omega) hi, ← e]; exact ydf _ hi
  rw [h2, ybo (by rw [List.length_set, hal]; omega), ybo (by rw [hal]; omega), ybo (by rw [hal]; omega)]
  unfold e1
  by_cases q1 : i = (ge es k).2.1.toNat
  · rw [if_pos q1, if_pos (show (i : Int) = (ge es k).2.1 by omega)]
    by_cases q2 : (ge es k).2.1.toNat = (ge es k).1.toNat
    · rw [if_pos q2, if_pos (show (i : Int) = (ge es k).1 by omega), ← q2, ← q1, h1 i hi]; omega
    · rw [if_neg q2, if_neg (show ¬ (i : Int) = (ge es k).1 by omega), ← q1, h1 i hi]; omega
  · rw [if_neg q1, if_neg (show ¬ (i : Int) = (ge es k).2.1 by omega)]
    by_cases q2 : i = (ge es k).1.toNat
    · rw [if_pos q2, if_pos (show (i : Int) = (ge es k).1 by omega), ← q2, h1 i hi]; omega
    · rw [if_neg q2, if_neg (show ¬ (i : Int) = (ge es k).1 by omega), h1 i hi]; omega
section
variable {n : Nat} {es : List E3} {d s : List Int}
theorem app_start (hdl : d.length = n) : d = appF n (es.take 0) d s := by
  refine eq_tab hdl _ fun i _ => ?_
  rw [List.take_zero, Lp_nil]; omega
end
end Go.Proofs.Ytncilechkclmbaa

/- Words for the laws of layer 34. -/
namespace Go.Proofs.Ytncilechkclmbaa
open Go Go.Proofs.Try
set_option linter.unusedVariables false
set_option linter.unusedSimpArgs false
structure Right (n : Int) (es : List E3) (d : List Int) : Prop where
  few : yht n es 6 9 = true
  joined : ycZ n es = 0
  chips : yaT d n = 0
  low : lowF n d = true
end Go.Proofs.Ytncilechkclmbaa

/- What the pure forms of 'effective' and of its reference come to. -/
namespace Go.Proofs.Ytncilechkclmbaa
open Go Go.Proofs.Try
set_option linter.unusedVariables false
set_option linter.unusedSimpArgs false
theorem win_dg {n : Nat} {es : List E3} {d : List Int} (hd : d.length = n) (h : Win n es d) : 0 ≤ dg d := by
  obtain ⟨s, hs⟩ := h
  have h1 : 0 ≤ sm n (fun v => gi d v - Lp n es s v) := yaI hs
  rw [ye7, ygV] at h1
  unfold dg
  rw [hd]; omega
theorem conn_all {n : Nat} {es : List E3} (hg : yas n es = 0) (hc : ydO n es = true) : ∀ q, q < n → Conn n es q := fun q hq => by
  obtain ⟨hE, hn1, hn12⟩ := ya3 hg
  exact (ygY hE hn1 hn12 hq).1 hc
def yc4 (d : List Int) (v : Nat) (k : Int) : List Int := d.set v (gi d v + k)
theorem yd3 (d : List Int) (v : Nat) (k : Int) : (yc4 d v k).length = d.length := by simp [yc4]
theorem yb5 {d : List Int} {v : Nat} (hv : v < d.length) (k : Int) (i : Nat) : gi (yc4 d v k) i = if i = v then gi d v + k else gi d i := by unfold yc4; rw [ybo hv]
theorem dg_addAt {d : List Int} {v : Nat} (hv : v < d.length) (k : Int) : dg (yc4 d v k) = dg d + k := by
  unfold dg
  rw [yd3]
  have h2 : sm d.length (gi (yc4 d v k)) = sm d.length (fun i => gi d i + if i = v then k else 0) := yao fun i hi => by
    rw [yb5 hv]
    show _ = gi d i + if i = v then k else 0
    split
    · rename_i e; rw [e]
    · omega
  rw [h2, ybp, ycH k hv]
theorem red_addAt {n : Nat} {es : List E3} {v : Nat} {r : List Int} (hr : Red n es v r) (hl : r.length = n) (hv : v < n) (j : Int) : Red n es v (yc4 r v j) := by
  refine ⟨fun u hu hne => by rw [yb5 (by omega), if_neg hne]; exact hr.pos u hu hne, fun S hS hex => ?_⟩
  obtain ⟨u, hu, hSu, hlt⟩ := hr.no S hS hex
  refine ⟨u, hu, hSu, ?_⟩
  rw [yb5 (by omega), if_neg (fun e => by rw [e, hS] at hSu; cases hSu)]
  exact hlt
theorem win_price {n : Nat} {es : List E3} {v : Nat} {d r s : List Int} (hE : EOk n es) (hv : v < n) (hd : d.length = n) (h : Reduces n es v d r s) (j : Int) : Win n es (yc4 d v j) ↔ -gi r v ≤ j := by
  have hl := h.dl
  rw [win_red hE hv (red_addAt h.red hl hv j) (s := gi s) fun u hu => ?_, yb5 (by omega), if_pos rfl]
  · omega
  · rw [yb5 (by omega), yb5 (by omega), h.lp u hu]
    split
    · rename_i e; rw [e, h.lp v hv]; omega
    · rfl
theorem red_few {n : Nat} {es : List E3} {q : Nat} {r : List Int} (hE : EOk n es) (hq : q < n) (hl : r.length = n) (hr : Red n es q r) : dg r - gi r q ≤ tot n es := by
  have h1 : ∀ v, v < n → (if v = q then 0 else gi r v) ≤ sm n (fun u => W es v u) := fun v hv => by
    by_cases e : v = q
    · rw [if_pos e]; exact yaI fun u _ => yaJ hE v u
    · rw [if_neg e]
      obtain ⟨x, hx, hSx, hlt⟩ := hr.no (fun x => decide (x = v)) (by simp; exact fun h => e h.symm) ⟨v, hv, by simp⟩
      have hxv : x = v := by simpa using hSx
      subst hxv
      refine Int.le_trans (Int.le_of_lt hlt) (yca fun u hu => ?_)
      have := yaJ hE x u
      show (if _ then _ else _) ≤ _
      split <;> omega
  have h2 := yca h1
  have h3 := ygP (f := gi r) hq
  unfold dg tot
  rw [hl]
  have h4 : sm n (fun v => if v = q then 0 else gi r v) ≤ sm n (fun v => sm n (fun u => W es v u)) := h2
  omega
theorem given0 {n : Int} {es : List E3} {d : List Int} : yaP n es 0 d = if ycZ n es = 0 then yaT d n else ycZ n es := by
  unfold yaP ycZ
  by_cases h1 : yas n es = 0
  · rw [if_pos h1, if_pos h1]
    have hn : 1 ≤ n := by
      unfold yas at h1
      split at h1
      · omega
      · omega
    by_cases h2 : ydO n es = true
    · rw [if_pos h2, if_pos h2, if_pos rfl, if_pos (by omega)]
    · rw [if_neg h2, if_neg h2, if_neg (by omega)]
  · rw [if_neg h1, if_neg h1, if_neg h1]
theorem yf4 {n : Int} {es : List E3} {d : List Int} {R : Int → Prop} (hl : es.length ≤ 1000) (hdl : d.length ≤ 1000000000) (h : R (yaP n es 0 d)) : ycm n es d R :=
  ⟨hl, hdl, fun _ _ _ => h⟩
def LossOk (n : Int) (es : List E3) (q : Int) (d s : List Int) (e : Int) : Prop :=
  (yaP n es q d ≠ 0 ∧ e = yaP n es q d) ∨ (yaP n es q d = 0 ∧ yaT s n ≠ 0 ∧ e = yaT s n) ∨
  (yaP n es q d = 0 ∧ yaT s n = 0 ∧ (Red n.toNat es q.toNat (appF n.toNat es d s) ∧ gi (appF n.toNat es d s) q.toNat < 0) ∧ e = 0) ∨
  (yaP n es q d = 0 ∧ yaT s n = 0 ∧ ¬ (Red n.toNat es q.toNat (appF n.toNat es d s) ∧ gi (appF n.toNat es d s) q.toNat < 0) ∧ e = 16)
theorem LossOk.eq {n : Int} {es : List E3} {q : Int} {d s : List Int} {e e' : Int} (h : LossOk n es q d s e) (h' : LossOk n es q d s e') : e = e' := by
  rcases h with h | h | h | h <;> rcases h' with h' | h' | h' | h' <;> first | (exact absurd h'.2.2.1 h.2.2.1) | (exact absurd h.2.2.1 h'.2.2.1) | (rw [h.2.2.2, h'.2.2.2]; done) | (rw [h.2, h'.2]; done) | (exact absurd h'.1 h.1) | (exact absurd h.1 h'.1) | (rw [h.2.2, h'.2.2]; done) | (exact absurd h'.2.1 h.2.1) | (exact absurd h.2.1 h'.2.1)
end Go.Proofs.Ytncilechkclmbaa

/- What Winnable, Price and Needy come to, and their references. -/
namespace Go.Proofs.Ytncilechkclmbaa
open Go Go.Proofs.Try
set_option linter.unusedVariables false
set_option linter.unusedSimpArgs false
theorem yeX {n : Nat} {es : List E3} {q : Nat} {d : List Int} (h : yaP n es q d = 0) : EOk n es ∧ 1 ≤ n ∧ n ≤ 12 ∧ yas n es = 0 ∧ ydO n es = true ∧ q < n ∧ d.length = n ∧ yaT d n = 0 := by
  obtain ⟨k1, k2, k3, k4, k5⟩ := ycr h
  obtain ⟨hE, hn1, hn12⟩ := ya3 k1
  exact ⟨hE, hn1, hn12, k1, k2, by omega, (yfT k5).1, k5⟩
theorem given_at {n : Int} {es : List E3} {d : List Int} (h : yaP n es 0 d = 0) {v : Int} (hv : 0 ≤ v ∧ v < n) : yaP n es v d = 0 := by
  obtain ⟨k1, k2, k3, k4, k5⟩ := ycr h
  unfold yaP
  rw [if_pos k1, if_pos k2, if_pos hv, k5]
theorem ydL {n : Int} {es : List E3} {d : List Int} {R : Bool → List Int → List Int → Int → Prop} (hS : Small n es d ∨ RedIn n es 0 d) (hdl : d.length ≤ 1000000000) (h0 : yaP n es 0 d ≠ 0 → R false [] [] (yaP n es 0 d))
    (h1 : yaP n es 0 d = 0 → ∀ r s, Reduces n.toNat es 0 d r s → ∀ b, (b = true ↔ Win n.toNat es d) → R b r s 0) : yaW n es d R := by
  unfold yaW
  refine ⟨hS, hdl, fun h => ⟨fun q => absurd q h, fun _ => h0 h⟩, fun h r s hr hrl hsl => ?_⟩
  obtain ⟨n, rfl⟩ : ∃ n' : Nat, n = (n' : Int) := ⟨n.toNat, by have := ycr h; omega⟩
  obtain ⟨hE, hn1, hn12, hg, hc, -, hd, -⟩ := yeX (q := 0) h
  have e0 : (0 : Int).toNat = 0 := rfl
  simp only [Int.toNat_natCast, e0] at hr hrl hsl h1 ⊢
  refine ⟨fun _ => ⟨by omega, h1 h r s hr _ ?_⟩, fun q => absurd trivial q⟩
  rw [decide_eq_true_eq, win_red hE (by omega) hr.red hr.lp]
structure PriceOk (n : Nat) (es : List E3) (d : List Int) (v : Nat) (k : Int) : Prop where
  pos : 0 ≤ k
  few : k = 0 ∨ k ≤ 18 - dg d
  iff : ∀ j, 0 ≤ j → (Win n es (yc4 d v j) ↔ k ≤ j)
theorem PriceOk.eq {n : Nat} {es : List E3} {d : List Int} {v : Nat} {k k' : Int} (h : PriceOk n es d v k) (h' : PriceOk n es d v k') : k = k' := by
  have h1 := h.pos
  have h2 := h'.pos
  have h3 := (h'.iff k h1).1 ((h.iff k h1).2 (Int.le_refl _))
  have h4 := (h.iff k' h2).1 ((h'.iff k' h2).2 (Int.le_refl _))
  omega
theorem tot_few {n : Nat} {es : List E3} (hE : EOk n es) (hn : 1 ≤ n) (h12 : n ≤ 12) (hs : (es.map (·.2.2)).sum ≤ 9) : tot n es ≤ 18 := by
  have := tot_le hE hn h12; omega
theorem dg_lp {n : Nat} {es : List E3} {x d : List Int} {s : Nat → Int} (hx : x.length = n) (hd : d.length = n) (h : ∀ v, v < n → gi x v = gi d v - Lp n es s v) : dg x = dg d := by
  unfold dg
  rw [hx, hd, yao (g := fun v => gi d v - Lp n es s v) h, ye7, ygV]; omega
theorem price_of {n : Nat} {es : List E3} {d r s : List Int} {v : Nat} (hE : EOk n es) (ht : tot n es ≤ 18) (hv : v < n) (hd : d.length = n) (h : Reduces n es v d r s) : PriceOk n es d v (mxF 0 (-gi r v)) := by
  have h1 := red_few hE hv h.dl h.red
  have h2 := dg_lp h.dl hd h.lp
  rw [ydj]
  refine ⟨by omega, by omega, fun j hj => ?_⟩
  rw [win_price hE hv hd h]
  omega
theorem ygd {n : Int} {v : Nat} {es : List E3} {d : List Int} {R : Int → Int → Prop} (hS : Small n es d) (hdl : d.length ≤ 1000000000) (hg : yaP n es v d = 0) (h : ∀ k, PriceOk n.toNat es d v k → R k 0) : ybK n es d (v : Int) R := by
  unfold ybK
  refine ⟨.inl hS, hdl, fun q => absurd hg q, fun _ r s hr hrl hsl => ⟨fun _ => ?_, fun q => absurd rfl q⟩⟩
  obtain ⟨n, rfl⟩ : ∃ n' : Nat, n = (n' : Int) := ⟨n.toNat, by have := ycr hg; omega⟩
  obtain ⟨hE, hn1, hn12, hg1, hc, hv, hd, -⟩ := yeX hg
  simp only [Int.toNat_natCast] at hr hrl hsl h ⊢
  have hb := hr.bd v hv
  exact ⟨by omega, i64 (by omega), h _ (price_of hE (tot_few hE hn1 hn12 (hS.g hg1).2) hv hd hr)⟩
theorem ygi {n v : Int} {es : List E3} {d : List Int} {R : Int → Int → Prop} (hS : Small n es d) (hdl : d.length ≤ 1000000000) (h0 : yaP n es 0 d ≠ 0 → R 0 (yaP n es 0 d)) (h1 : yaP n es 0 d = 0 → ¬ (0 ≤ v ∧ v < n) → R 0 2)
    (h2 : yaP n es 0 d = 0 → ∀ v' : Nat, v = v' → v' < n.toNat → ∀ k, PriceOk n.toNat es d v' k → R k 0) : ybL n es d v R := by
  unfold ybL
  refine yf4 (by have := hS.el; omega) hdl ⟨fun hg => ?_, h0⟩
  have out : ¬ (0 ≤ v ∧ v < n) → R 0 2 := h1 hg
  refine ⟨0 ≤ v ∧ v < n, fun hv => ?_, fun q => out (by omega), fun q => ⟨fun q2 => out (by omega), fun q2 => ⟨by omega, by omega⟩⟩⟩
  obtain ⟨v', rfl⟩ : ∃ v' : Nat, v = (v' : Int) := ⟨v.toNat, by omega⟩
  exact ygd hS hdl (given_at hg hv) (h2 hg v' rfl (by omega))
def ygb (l : List Nat) : List Int := l.map fun v : Nat => (v : Int)
def NeedyOk (n : Nat) (es : List E3) (d : List Int) (out : List Int) : Prop := ∃ f : Nat → Bool, (∀ v, v < n → (f v = true ↔ Win n es (yc4 d v 1))) ∧ out = ygb ((List.range n).filter f)
theorem NeedyOk.eq {n : Nat} {es : List E3} {d o o' : List Int} (h : NeedyOk n es d o) (h' : NeedyOk n es d o') : o = o' := by
  obtain ⟨f, hf, rfl⟩ := h
  obtain ⟨f', hf', rfl⟩ := h'
  congr 1
  refine List.filter_congr fun v hv => ?_
  rw [List.mem_range] at hv
  rw [Bool.eq_iff_iff, hf v hv, hf' v hv]
theorem filt_yes {f : Nat → Bool} {k : Nat} (h : f k = true) : ygb ((List.range (k + 1)).filter f) = ygb ((List.range k).filter f) ++ [(k : Int)] := by
  unfold ygb; rw [List.range_succ, List.filter_append, List.map_append]; simp [h]
theorem filt_no {f : Nat → Bool} {k : Nat} (h : f k ≠ true) : ygb ((List.range (k + 1)).filter f) = ygb ((List.range k).filter f) := by
  unfold ygb; rw [List.range_succ, List.filter_append, List.map_append]; simp [h]
theorem filt_len (f : Nat → Bool) (k : Nat) : (ygb ((List.range k).filter f)).length ≤ k := by
  unfold ygb
  rw [List.length_map]
  refine Nat.le_trans (List.length_filter_le _ _) ?_
  simp
end Go.Proofs.Ytncilechkclmbaa

/- What firing a set comes to. -/
namespace Go.Proofs.Ytncilechkclmbaa
open Go Go.Proofs.Try
set_option linter.unusedVariables false
set_option linter.unusedSimpArgs false
section
variable {n : Nat} {es : List E3} {d : List Int} {set : List Int}
end
end Go.Proofs.Ytncilechkclmbaa

/- Words for the laws of layer 36: what its small functions come to; the chapter's examples come out right. -/
namespace Go.Proofs.Ytncilechkclmbaa
open Go Go.Proofs.Try
set_option linter.unusedVariables false
set_option linter.unusedSimpArgs false
theorem red_of_dec {n : Nat} {es : List E3} {q : Nat} {d : List Int} (hq : q < n) (h1 : ∀ v, v < n → v ≠ q → 0 ≤ gi d v) (h2 : ∀ m, m < 2 ^ n → 1 ≤ m → m.testBit q = false → ¬ (∀ v, v < n → m.testBit v = true → outS n es m.testBit v ≤ gi d v)) : Red n es q d :=
  (tight_red hq h1).1 fun m a b c => h2 m b a c
end Go.Proofs.Ytncilechkclmbaa

/- What the pure forms of sums, of equivalence and of lists of divisors come to. -/
namespace Go.Proofs.Ytncilechkclmbaa
open Go Go.Proofs.Try
set_option linter.unusedVariables false
set_option linter.unusedSimpArgs false
theorem p_chips_own {n : Nat} {l : List (List Int)} {R : Int → Prop} (hl : l.length ≤ 1000) (h0 : 0 < l.length) (hd : ∀ k, k < l.length → (gx l k).length = n ∧ yaT (gx l k) n = 0) (h : R 0) : ydu l R := by
  unfold ydu
  refine ⟨Cnt l.length (fun _ => True), Cnt.start trivial, ?_⟩
  rintro m _ ⟨k, rfl, rfl, hk, -⟩
  simp only [Int.toNat_natCast]
  refine ⟨fun hlt => ⟨by omega, yeG ⟨fun _ => Cnt.next (by omega) (by omega) trivial, fun q => absurd ?_ q⟩⟩, fun hge => ?_⟩
  · rw [(hd k (by omega)).1]; exact (hd k (by omega)).2
  · refine ⟨Cnt l.length (fun _ => True), Cnt.start trivial, ?_⟩
    rintro m _ ⟨k2, rfl, rfl, hk2, -⟩
    simp only [Int.toNat_natCast, Int.toNat_zero]
    exact ⟨fun hlt => ⟨by omega, by omega, fun _ => Cnt.next (by omega) (by omega) trivial, fun q => absurd (by rw [(hd k2 (by omega)).1, (hd 0 h0).1]) q⟩, fun hge => h⟩
theorem sum_dg : ∀ (d : List Int), d.sum = dg d := by
  have key : ∀ (l : List Int) (n : Nat), n ≤ l.length → sm n (gi l) = (l.take n).sum := fun l n => by
    induction n with
    | zero => intro _; simp [sm]
    | succ n ih =>
      intro h
      rw [sm, ih (by omega), List.take_add_one, List.sum_append, ya8 (by omega : n < l.length), List.getElem?_eq_getElem (by omega : n < l.length)]
      simp
  intro d
  unfold dg
  rw [key d d.length (Nat.le_refl _), List.take_length]
theorem dg_entry {d : List Int} (h : ∀ a ∈ d, 0 ≤ a) {j : Nat} (hj : j < d.length) : 0 ≤ gi d j ∧ gi d j ≤ d.sum := by
  have h1 : ∀ i, i < d.length → 0 ≤ gi d i := fun i hi => h _ (gi_mem hi)
  refine ⟨h1 j hj, ?_⟩
  rw [sum_dg]
  exact yft h1 j hj
theorem listF_length (n k : Nat) : (yfR (n + 1) k).length ≤ (k + 1) ^ n := by
  induction n generalizing k with
  | zero => simp [yfR]
  | succ n ih =>
    show ((List.range (k + 1)).flatMap fun i => (yfR (n + 1) (k - i)).map ((i : Int) :: ·)).length ≤ _
    rw [List.length_flatMap]
    have h : ∀ (L : List Nat), (∀ i ∈ L, i ≤ k) → (L.map fun i => ((yfR (n + 1) (k - i)).map ((i : Int) :: ·)).length).sum ≤ L.length * (k + 1) ^ n := fun L => by
      induction L with
      | nil => simp
      | cons a L ihL =>
        intro hL
        have h1 := ihL fun i hi => hL i (by simp [hi])
        have h2 := ih (k - a)
        have h3 : (k - a + 1) ^ n ≤ (k + 1) ^ n := Nat.pow_le_pow_left (by omega) n
        simp only [List.map_cons, List.sum_cons, List.length_cons, List.length_map] at h1 ⊢
        rw [Nat.add_mul, Nat.one_mul]
        omega
    have := h (List.range (k + 1)) fun i hi => by rw [List.mem_range] at hi; omega
    rw [List.length_range] at this
    rwa [Nat.pow_succ, Nat.mul_comm]
end Go.Proofs.Ytncilechkclmbaa

/- Ranks of divisors, plainly: what takes any effective divisor of a degree away. No program in sight. -/
namespace Go.Proofs.Ytncilechkclmbaa
open Go Go.Proofs.Try
set_option linter.unusedVariables false
set_option linter.unusedSectionVars false
set_option linter.unusedSimpArgs false
theorem dg_n {d : List Int} {n : Nat} (h : d.length = n) : dg d = sm n (gi d) := by unfold dg; rw [h]
theorem yfS {n : Nat} {es : List E3} {a b : List Int} (h : ∀ v, v < n → gi a v ≤ gi b v) (ha : Win n es a) : Win n es b := by
  obtain ⟨s, hs⟩ := ha
  exact ⟨s, fun v hv => by have := hs v hv; have := h v hv; omega⟩
theorem win_eqv {n : Nat} {es : List E3} {x y : List Int} {s : Nat → Int} (h : ∀ v, v < n → gi y v = gi x v - Lp n es s v) : Win n es x ↔ Win n es y := by
  constructor
  · rintro ⟨t, ht⟩
    refine ⟨fun i => t i + (-1) * s i, fun v hv => ?_⟩
    rw [ygt t (fun i => (-1) * s i), yfV, h v hv]
    have := ht v hv
    omega
  · rintro ⟨t, ht⟩
    refine ⟨fun i => t i + s i, fun v hv => ?_⟩
    rw [ygt t s]
    have := ht v hv
    rw [h v hv] at this
    omega
def half (n : Nat) (es : List E3) (r : Nat → Nat → Bool) : Int := sm n (fun v => sm n (fun u => if r u v = true then W es v u else 0))
theorem half_swap {n : Nat} {es : List E3} {r : Nat → Nat → Bool} : half n es r = half n es (fun u v => r v u) := by
  unfold half
  rw [sm_swap (fun v u => if r u v = true then W es v u else 0)]
  refine yao fun v hv => yao fun u hu => ?_
  show (if r v u = true then W es u v else 0) = if r v u = true then W es v u else 0
  rw [yej]
theorem half_le {n : Nat} {es : List E3} (hE : EOk n es) {r : Nat → Nat → Bool} (h : ∀ u v, r u v = true → r v u = true → False) : 2 * half n es r ≤ tot n es := by
  have h1 : half n es r + half n es r ≤ tot n es := by
    conv => lhs; arg 2; rw [half_swap]
    unfold half tot
    rw [← ybp]
    refine yca fun v hv => ?_
    show _ + _ ≤ _
    rw [← ybp]
    refine yca fun u hu => ?_
    show (if r u v = true then W es v u else 0) + (if r v u = true then W es v u else 0) ≤ W es v u
    have := yaJ hE v u
    by_cases e1 : r u v = true
    · rw [if_pos e1, if_neg (fun e2 => h u v e1 e2)]; omega
    · rw [if_neg e1]; split <;> omega
  omega
theorem half_ge {n : Nat} {es : List E3} (hE : EOk n es) {r : Nat → Nat → Bool} (h : ∀ u v, u ≠ v → r u v = true ∨ r v u = true) : tot n es ≤ 2 * half n es r := by
  have h1 : tot n es ≤ half n es r + half n es r := by
    conv => rhs; arg 2; rw [half_swap]
    unfold half tot
    rw [← ybp]
    refine yca fun v hv => ?_
    show _ ≤ _ + _
    rw [← ybp]
    refine yca fun u hu => ?_
    show W es v u ≤ (if r u v = true then W es v u else 0) + (if r v u = true then W es v u else 0)
    have := yaJ hE v u
    by_cases e : u = v
    · subst e; rw [yhH]; split <;> omega
    · rcases h u v e with q | q
      · rw [if_pos q]; split <;> omega
      · rw [if_pos q]; split <;> omega
  omega
def ords (n : Nat) (es : List E3) (b : List Bool) (ρ : Nat → Nat) (v : Nat) : Int := sm n (fun u => if gb b u = true ∧ ¬ ρ u < ρ v then 0 else W es v u)
theorem bor_all {n : Nat} {es : List E3} {d : List Int} (hg : yas n es = 0) (hE : EOk n es) (hC : ∀ q, q < n → Conn n es q) (hn : n ≤ 12) (hdb : ∀ v, v < n → -1000 ≤ gi d v) (hw : ¬ Win n es d) :
    ∀ (N : Nat) (c : Nat → Int) (x : List Int) (b : List Bool) (ρ : Nat → Nat) (K : Nat), 3456001 - sm n c ≤ N → Bor n es d c x b → (∀ u, u < n → ρ u < K) → (∀ v, v < n → gb b v = true → gi x v ≤ ords n es b ρ v - 1) →
      ∃ c x b ρ, Bor n es d c x b ∧ (∀ v, v < n → gb b v = true) ∧ ∀ v, v < n → gi x v ≤ ords n es b ρ v - 1 := by
  intro N
  induction N with
  | zero =>
    intro c x b ρ K hN hB hρ hx
    by_cases hall : ∀ v, v < n → gb b v = true
    · exact ⟨c, x, b, ρ, hB, hall, fun v hv => hx v hv (hall v hv)⟩
    · exfalso
      obtain ⟨w, hw1⟩ := Classical.not_forall.1 hall
      obtain ⟨hw2, hw3⟩ := Classical.not_imp.1 hw1
      have := bor_total hn (bor_few hE hC hn hdb hB hw2 hw3)
      omega
  | succ N ih =>
    intro c x b ρ K hN hB hρ hx
    by_cases hall : ∀ v, v < n → gb b v = true
    · exact ⟨c, x, b, ρ, hB, hall, fun v hv => hx v hv (hall v hv)⟩
    · have hdebt : ¬ ∀ v, v < n → 0 ≤ gi x v := fun q => hw (bor_win hB q)
      obtain ⟨v, hv1⟩ := Classical.not_forall.1 hdebt
      obtain ⟨hv, hv3⟩ := Classical.not_imp.1 hv1
      have hneg : gi x v < 0 := by omega
      have hy : ∀ i, i < n → gi (tab (fun i => if i = v then gi x v + deg n es v else gi x i - W es i v) n) i = if i = v then gi x v + deg n es v else gi x i - W es i v := fun i hi => ydf _ hi
      have hB2 := bor_step hg hE hn hB hv hneg (ycB _ n) hy
      refine ih _ _ _ (fun u => if u = v then K else ρ u) (K + 1) (by rw [bor_count hv]; omega) hB2 (fun u hu => ?_) fun i hi hbi => ?_
      · show (if u = v then K else ρ u) < K + 1
        have := hρ u hu
        split <;> omega
      · rw [hy i hi]
        have hgb : ∀ u, gb (b.set v true) u = if u = v then true else gb b u := fun u => by
          rw [ydK (by rw [hB.bl]; exact hv)]
        by_cases e : i = v
        · subst e
          rw [if_pos rfl]
          have h1 : ords n es (b.set i true) (fun u => if u = i then K else ρ u) i = deg n es i := by
            unfold ords deg
            refine yao fun u hu => ?_
            show (if gb (b.set i true) u = true ∧ ¬ (if u = i then K else ρ u) < (if i = i then K else ρ i) then 0 else W es i u) = W es i u
            by_cases e : u = i
            · subst e; rw [yhH]; exact ite_self _
            · rw [if_neg]
              rintro ⟨_, h⟩
              rw [if_neg e, if_pos rfl] at h
              exact h (hρ u hu)
          rw [h1]; omega
        · rw [if_neg e]
          rw [hgb, if_neg e] at hbi
          have h0 := hx i hi hbi
          have h1 : ords n es b ρ i ≤ ords n es (b.set v true) (fun u => if u = v then K else ρ u) i + W es i v := by
            have h2 : ords n es (b.set v true) (fun u => if u = v then K else ρ u) i + W es i v = sm n (fun u => (if gb (b.set v true) u = true ∧ ¬ (if u = v then K else ρ u) < (if i = v then K else ρ i) then 0 else W es i u) + if u = v then W es i v else 0) := by
              rw [ybp, ycH _ hv]; rfl
            rw [h2]
            unfold ords
            refine yca fun u hu => ?_
            show (if gb b u = true ∧ ¬ ρ u < ρ i then 0 else W es i u) ≤ (if gb (b.set v true) u = true ∧ ¬ (if u = v then K else ρ u) < (if i = v then K else ρ i) then 0 else W es i u) + if u = v then W es i v else 0
            rw [hgb, if_neg e]
            have := yaJ hE i u
            by_cases e2 : u = v
            · subst e2
              rw [if_pos rfl, if_pos rfl, if_pos rfl]
              split <;> split <;> omega
            · rw [if_neg e2, if_neg e2, if_neg e2]; omega
          omega
theorem win_many {n : Nat} {es : List E3} {d : List Int} (hg : yas n es = 0) (hC : ∀ q, q < n → Conn n es q) (hn : n ≤ 12) (hd : d.length = n) (hdb : ∀ v, v < n → -1000 ≤ gi d v ∧ gi d v ≤ 1000) (h : ycG es + 1 - n ≤ dg d) : Win n es d := by
  apply Classical.byContradiction
  intro hw
  have hE := (ya3 hg).1
  obtain ⟨c, x, b, ρ, hB, hall, hx⟩ := bor_all hg hE hC hn (fun v hv => (hdb v hv).1) hw 3456001 (fun _ => 0) d (List.replicate n false) (fun _ => 0) 1 (by rw [yaZ]; omega) (bor_start hd fun v hv => (hdb v hv).2) (fun _ _ => by omega) (fun v hv h => by rw [gb_rep] at h; cases h)
  have h1 : dg x = dg d := dg_lp (n := n) (es := es) hB.xl hd (s := fun i => (-1) * c i) fun v hv => by rw [yfV, hB.val v hv]; omega
  have h2 : dg x ≤ half n es (fun u v => decide (ρ u < ρ v)) - n := by
    rw [dg_n hB.xl]
    have h3 : half n es (fun u v => decide (ρ u < ρ v)) - n = sm n (fun v => ords n es b ρ v - 1) := by
      rw [ye7, yb1]
      have : half n es (fun u v => decide (ρ u < ρ v)) = sm n (fun v => ords n es b ρ v) := by
        unfold half ords
        refine yao fun v hv => yao fun u hu => ?_
        show (if decide (ρ u < ρ v) = true then W es v u else 0) = if gb b u = true ∧ ¬ ρ u < ρ v then 0 else W es v u
        by_cases e : ρ u < ρ v
        · rw [if_pos (by simpa using e), if_neg (fun q => q.2 e)]
        · rw [if_neg (by simpa using e), if_pos ⟨hall u hu, e⟩]
      have e9 : sm n (ords n es b ρ) = sm n (fun v => ords n es b ρ v) := rfl
      rw [this, e9]; omega
    rw [h3]
    exact yca hx
  have h4 := half_le hE (r := fun u v => decide (ρ u < ρ v)) (fun u v a b => by simp at a b; omega)
  rw [yfL hE] at h4
  omega
def nu (n : Nat) (es : List E3) : List Int := tab (fun v => sm n (fun u => if decide (u < v) = true then W es v u else 0) - 1) n
theorem nu_dg {n : Nat} {es : List E3} (hE : EOk n es) : dg (nu n es) = ycG es - n := by
  have h1 : dg (nu n es) = half n es (fun u v => decide (u < v)) - n := by
    rw [dg_n (show (nu n es).length = n from ycB _ n)]
    have : sm n (gi (nu n es)) = sm n (fun v => sm n (fun u => if decide (u < v) = true then W es v u else 0) - 1) := yao fun v hv => ydf _ hv
    rw [this, ye7, yb1]
    show _ - _ = half n es (fun u v => decide (u < v)) - n
    have e9 : half n es (fun u v => decide (u < v)) = sm n (fun v => sm n (fun u => if decide (u < v) = true then W es v u else 0)) := rfl
    rw [e9]; omega
  have h2 := half_le hE (r := fun u v => decide (u < v)) (fun u v a b => by simp at a b; omega)
  have h3 := half_ge hE (r := fun u v => decide (u < v)) (fun u v h => by simp; omega)
  rw [yfL hE] at h2 h3
  omega
theorem least_at (p : Nat → Prop) {n : Nat} (h : ∃ v, v < n ∧ p v) : ∃ v, v < n ∧ p v ∧ ∀ u, u < v → ¬ p u := by
  obtain ⟨v, hv, hp⟩ := h
  have : ∀ v, v < n → p v → ∃ v, v < n ∧ p v ∧ ∀ u, u < v → ¬ p u := by
    intro v
    induction v using Nat.strongRecOn with
    | ind v ih =>
      intro hv hp
      by_cases q : ∃ u, u < v ∧ p u
      · obtain ⟨u, hu, hpu⟩ := q
        exact ih u hu (by omega) hpu
      · exact ⟨v, hv, hp, fun u hu hpu => q ⟨u, hu, hpu⟩⟩
  exact this v hv hp
theorem nu_lose {n : Nat} {es : List E3} (hE : EOk n es) (hn : 1 ≤ n) : ¬ Win n es (nu n es) := by
  rintro ⟨s, hs⟩
  obtain ⟨w, hw, hmax⟩ := max_at s n hn
  obtain ⟨v, hv, hp, hlow⟩ := least_at (fun v => s v = s w) (n := n) ⟨w, hw, rfl⟩
  have h1 := hs v hv
  have h2 : sm n (fun u => if decide (u < v) = true then W es v u else 0) ≤ Lp n es s v := by
    unfold Lp
    refine yca fun u hu => ?_
    show (if decide (u < v) = true then W es v u else 0) ≤ W es v u * (s v - s u)
    have h3 := yaJ hE v u
    have h4 := hmax u hu
    by_cases e : u < v
    · rw [if_pos (by simpa using e)]
      have h5 : s u ≠ s w := hlow u e
      have h6 : W es v u * 1 ≤ W es v u * (s v - s u) := Int.mul_le_mul_of_nonneg_left (by omega) h3
      omega
    · rw [if_neg (by simpa using e)]
      exact Int.mul_nonneg h3 (by omega)
  have h3 : gi (nu n es) v = sm n (fun u => if decide (u < v) = true then W es v u else 0) - 1 := ydf _ hv
  omega
theorem nu_bound {n : Nat} {es : List E3} (hE : EOk n es) {T : Int} (ht : tot n es ≤ T) {v : Nat} (hv : v < n) : -1 ≤ gi (nu n es) v ∧ gi (nu n es) v ≤ T := by
  have h3 : gi (nu n es) v = sm n (fun u => if decide (u < v) = true then W es v u else 0) - 1 := ydf _ hv
  have h4 : 0 ≤ sm n (fun u => if decide (u < v) = true then W es v u else 0) := yaI fun u _ => by
    have := yaJ hE v u
    show 0 ≤ if decide (u < v) = true then W es v u else 0
    split <;> omega
  have h5 : sm n (fun u => if decide (u < v) = true then W es v u else 0) ≤ deg n es v := yca fun u _ => by
    have := yaJ hE v u
    show (if decide (u < v) = true then W es v u else 0) ≤ W es v u
    split <;> omega
  have h6 : deg n es v ≤ tot n es := yft (f := fun v => sm n (fun u => W es v u)) (fun i _ => yaI fun u _ => yaJ hE i u) v hv
  omega
def sb (n : Nat) (d e : List Int) : List Int := tab (fun i => gi d i - gi e i) n
theorem yeZ (n : Nat) (d e : List Int) : (sb n d e).length = n := ycB _ _
theorem yfu {n : Nat} {d e : List Int} {v : Nat} (hv : v < n) : gi (sb n d e) v = gi d v - gi e v := ydf _ hv
theorem dg_sb {n : Nat} {d e : List Int} (hd : d.length = n) (he : e.length = n) : dg (sb n d e) = dg d - dg e := by
  rw [dg_n (yeZ n d e), dg_n hd, dg_n he, ← ye7]
  exact yao fun v hv => yfu hv
structure Eff (n : Nat) (e : List Int) (r : Int) : Prop where
  len : e.length = n
  pos : ∀ v, v < n → 0 ≤ gi e v
  deg : dg e = r
theorem Eff.nonneg {n : Nat} {e : List Int} {r : Int} (h : Eff n e r) : 0 ≤ r := by
  rw [← h.deg, dg_n h.len]; exact yaI h.pos
theorem Eff.le {n : Nat} {e : List Int} {r : Int} (h : Eff n e r) {v : Nat} (hv : v < n) : gi e v ≤ r := by
  rw [← h.deg, dg_n h.len]; exact yft h.pos v hv
theorem Eff.add {n : Nat} {e : List Int} {r : Int} (h : Eff n e r) {v : Nat} (hv : v < n) {k : Int} (hk : 0 ≤ gi e v + k) : Eff n (yc4 e v k) (r + k) :=
  ⟨by rw [yd3, h.len], fun i hi => by
    rw [yb5 (by rw [h.len]; exact hv)]
    have := h.pos i hi
    split <;> omega, by rw [dg_addAt (by rw [h.len]; exact hv), h.deg]⟩
theorem ygU (n : Nat) : Eff n (List.replicate n 0) 0 :=
  ⟨by simp, fun v hv => by rw [ya8 (by simpa using hv)]; simp, by
    rw [dg_n (n := n) (by simp), yao (g := fun _ => 0) fun v hv => by rw [ya8 (by simpa using hv)]; simp]
    exact yaZ n⟩
theorem eff_at {n : Nat} (hn : 1 ≤ n) {k : Int} (hk : 0 ≤ k) : Eff n (yc4 (List.replicate n 0) 0 k) k := by
  have h := (ygU n).add (v := 0) (by omega) (k := k) (by have := (ygU n).pos 0 (by omega); omega)
  rwa [Int.zero_add] at h
theorem gi_zero {n v : Nat} (hv : v < n) : gi (List.replicate n 0) v = 0 := by rw [ya8 (by simpa using hv)]; simp
def AL (n : Nat) (es : List E3) (d : List Int) (r : Int) : Prop := ∀ e, Eff n e r → Win n es (sb n d e)
structure RkOk (n : Nat) (es : List E3) (d : List Int) (k : Int) : Prop where
  lo : -1 ≤ k
  al : AL n es d k
  no : ¬ AL n es d (k + 1)
section
variable {n : Nat} {es : List E3} {d : List Int}
theorem al_neg {r : Int} (hr : r < 0) : AL n es d r := fun e he => by have := he.nonneg; omega
theorem al_down (hn : 1 ≤ n) {r : Int} (h : AL n es d (r + 1)) : AL n es d r := fun e he => by
  have h1 := h _ (he.add (v := 0) (k := 1) (by omega) (by have := he.pos 0 (by omega); omega))
  refine yfS (fun v hv => ?_) h1
  rw [yfu hv, yfu hv, yb5 (by rw [he.len]; omega)]
  split
  · rename_i e; subst e; omega
  · omega
theorem al_le (hn : 1 ≤ n) : ∀ (k : Nat) {r : Int}, AL n es d (r + k) → AL n es d r
  | 0, r, h => by simpa using h
  | k + 1, r, h => al_le hn k (al_down hn (by rw [Int.add_assoc]; exact_mod_cast h))
theorem yf0 (hn : 1 ≤ n) {r r' : Int} (h : r ≤ r') (ha : AL n es d r') : AL n es d r := by
  refine al_le hn (r' - r).toNat ?_
  rwa [show r + ((r' - r).toNat : Int) = r' from by omega]
theorem RkOk.eq (hn : 1 ≤ n) {k k' : Int} (h : RkOk n es d k) (h' : RkOk n es d k') : k = k' := by
  rcases Int.lt_trichotomy k k' with q | q | q
  · exact absurd (yf0 hn (by omega) h'.al) h.no
  · exact q
  · exact absurd (yf0 hn (by omega) h.al) h'.no
theorem RkOk.ge (hn : 1 ≤ n) {k r : Int} (h : RkOk n es d k) : r ≤ k ↔ AL n es d r :=
  ⟨fun q => yf0 hn q h.al, fun q => Int.not_lt.1 fun lt => h.no (yf0 hn (by omega) q)⟩
theorem sb_zero {v : Nat} (hv : v < n) : gi (sb n d (List.replicate n 0)) v = gi d v := by rw [yfu hv, gi_zero hv]; omega
theorem al_zero : AL n es d 0 ↔ Win n es d := by
  constructor
  · intro h; exact yfS (fun v hv => by rw [sb_zero hv]; exact Int.le_refl _) (h _ (ygU n))
  · intro h e he
    refine yfS (fun v hv => ?_) h
    have h1 := he.pos v hv
    have h2 := he.le hv
    rw [yfu hv]; omega
theorem rk_lose (h : ¬ Win n es d) : RkOk n es d (-1) := ⟨by omega, al_neg (by omega), fun q => h (al_zero.1 q)⟩
theorem RkOk.win (hn : 1 ≤ n) {k : Int} (h : RkOk n es d k) : 0 ≤ k ↔ Win n es d := (h.ge hn).trans al_zero
theorem RkOk.top (hn : 1 ≤ n) (hd : d.length = n) {k : Int} (h : RkOk n es d k) (hw : Win n es d) : k ≤ dg d := by
  have h0 := (h.win hn).2 hw
  have h1 := win_dg (yeZ n d _) (h.al _ (eff_at hn h0))
  rw [dg_sb hd (eff_at hn h0).len, (eff_at hn h0).deg] at h1
  omega
theorem al_eqv {x y : List Int} {s : Nat → Int} (h : ∀ v, v < n → gi y v = gi x v - Lp n es s v) {r : Int} : AL n es x r ↔ AL n es y r := by
  have key : ∀ e, Win n es (sb n x e) ↔ Win n es (sb n y e) := fun e => win_eqv (s := s) fun v hv => by rw [yfu hv, yfu hv, h v hv]; omega
  exact ⟨fun q e he => (key e).1 (q e he), fun q e he => (key e).2 (q e he)⟩
theorem rk_eqv {x y : List Int} {s : Nat → Int} (h : ∀ v, v < n → gi y v = gi x v - Lp n es s v) {k : Int} : RkOk n es x k ↔ RkOk n es y k :=
  ⟨fun q => ⟨q.lo, (al_eqv h).1 q.al, fun a => q.no ((al_eqv h).2 a)⟩, fun q => ⟨q.lo, (al_eqv h).2 q.al, fun a => q.no ((al_eqv h).1 a)⟩⟩
theorem rk_big (hg : yas n es = 0) (hC : ∀ q, q < n → Conn n es q) (h1 : 1 ≤ n) (hn : n ≤ 12) (hd : d.length = n) (hdb : ∀ v, v < n → -200 ≤ gi d v ∧ gi d v ≤ 200) (hdg : dg d ≤ 200) (ht : tot n es ≤ 18) (h : 2 * (ycG es + 1 - n) - 2 < dg d) :
    RkOk n es d (dg d - (ycG es + 1 - n)) := by
  have hE := (ya3 hg).1
  have hg0 : 0 ≤ ycG es + 1 - n := by
    apply Classical.byContradiction
    intro q
    have hl : (yc4 (List.replicate n (0 : Int)) 0 (-1)).length = n := by rw [yd3]; simp
    have hdg1 : dg (yc4 (List.replicate n (0 : Int)) 0 (-1)) = -1 := by rw [dg_addAt (by simp; omega), (ygU n).deg]; rfl
    have hw := win_many hg hC hn hl (fun v hv => by
      rw [yb5 (by simp; omega), gi_zero hv, gi_zero (by omega)]
      split <;> omega) (by rw [hdg1]; omega)
    have := win_dg hl hw
    omega
  refine ⟨by omega, fun e he => ?_, fun hal => ?_⟩
  · refine win_many hg hC hn (yeZ n d e) (fun v hv => ?_) ?_
    · rw [yfu hv]
      have := he.pos v hv
      have := he.le hv
      have := hdb v hv
      omega
    · rw [dg_sb hd he.len, he.deg]; omega
  · have hnl : (nu n es).length = n := ycB _ n
    have h2 : Win n es (sb n d (nu n es)) := by
      refine win_many hg hC hn (yeZ n d _) (fun v hv => ?_) ?_
      · rw [yfu hv]
        have := nu_bound hE ht hv
        have := hdb v hv
        omega
      · rw [dg_sb hd hnl, nu_dg hE]; omega
    obtain ⟨s, hs⟩ := h2
    obtain ⟨e, he⟩ : ∃ e, e = tab (fun v => gi (sb n d (nu n es)) v - Lp n es s v) n := ⟨_, rfl⟩
    have hge : ∀ v, v < n → gi e v = gi (sb n d (nu n es)) v - Lp n es s v := fun v hv => by rw [he]; exact ydf _ hv
    have hel : e.length = n := by rw [he]; exact ycB _ n
    have heff : Eff n e (dg d - (ycG es + 1 - n) + 1) := ⟨hel, fun v hv => by rw [hge v hv]; exact hs v hv, by
      rw [dg_lp hel (yeZ n d _) hge, dg_sb hd hnl, nu_dg hE]; omega⟩
    have h3 := hal e heff
    refine nu_lose hE h1 ((win_eqv (x := nu n es) (y := sb n d e) (s := fun i => (-1) * s i) fun v hv => ?_).2 h3)
    rw [yfV, yfu hv, hge v hv, yfu hv]
    omega
theorem rk_step (hn : 1 ≤ n) (hd : d.length = n) (hw : Win n es d) {k : Nat → Int} (hk : ∀ v, v < n → RkOk n es (yc4 d v (-1)) (k v)) {m : Int} (h1 : ∀ v, v < n → m ≤ k v + 1) (h2 : ∃ v, v < n ∧ m = k v + 1) : RkOk n es d m := by
  obtain ⟨v, hv, hm⟩ := h2
  refine ⟨by have := (hk v hv).lo; omega, fun e he => ?_, fun q => ?_⟩
  · by_cases e0 : m = 0
    · subst e0; exact al_zero.2 hw e he
    · have hpos : ∃ u, u < n ∧ 1 ≤ gi e u := by
        apply Classical.byContradiction
        intro q
        have : dg e ≤ 0 := by
          rw [dg_n he.len, ← yaZ n]
          exact yca fun u hu => Int.not_lt.1 fun lt => q ⟨u, hu, lt⟩
        have := he.nonneg
        have := he.deg
        omega
      obtain ⟨u, hu, hu1⟩ := hpos
      have h3 := yf0 hn (r := m - 1) (by have := h1 u hu; omega) (hk u hu).al (yc4 e u (-1)) (by have := he.add hu (k := -1) (by omega); exact this)
      refine yfS (fun i hi => ?_) h3
      rw [yfu hi, yfu hi, yb5 (by rw [hd]; exact hu), yb5 (by rw [he.len]; exact hu)]
      split
      · rename_i e; subst e; omega
      · omega
  · refine (hk v hv).no fun e he => ?_
    have h3 := q (yc4 e v 1) (by have := he.add hv (k := 1) (by have := he.pos v hv; omega); rwa [show k v + 1 + 1 = m + 1 from by omega] at this)
    refine yfS (fun i hi => ?_) h3
    rw [yfu hi, yfu hi, yb5 (d := e) (by rw [he.len]; exact hv), yb5 (d := d) (by rw [hd]; exact hv)]
    split
    · rename_i e; subst e; omega
    · omega
end
end Go.Proofs.Ytncilechkclmbaa
