/- Texts laid together: PRa, PRb, PSr, RkF, RkG, RkW, Rr, RkR, L38. -/
import Derived.Test.YtncilechkclmbaaGreatK5
/- Pure forms of functions, made by program (pf.py), each with the proof that the code does so. -/
namespace Go.Proofs.YtncilechkclmbaaGreat
open Go Go.RowKit Go.Shelf Go.Proofs.Tryz
set_option linter.unusedVariables false
set_option maxRecDepth 100000
set_option maxHeartbeats 1000000
def yjh (g : Int) (g2 : List E3) (most : Int) (R : Int → (List E3) → Int → Prop) : Prop :=
yh4 g g2 (fun r =>
((r = 0 →
(∃ I2 : Nat → Int → (List E3) → Prop, (∃ m0, I2 m0 0 ([])) ∧ ∀ m2 v out, I2 m2 v out → 
((v < ((g2.length : Nat) : Int) →
((0 ≤ v ∧ v < ((g2.length : Nat) : Int)) ∧
((((ge g2 v.toNat).1) = ((ge g2 v.toNat).2.1) →
(In64 (v + 1) ∧
∃ m3, m3 < m2 ∧ I2 m3 (v + 1) out)) ∧
(¬ (((ge g2 v.toNat).1) = ((ge g2 v.toNat).2.1)) →
(out.length + 1 ≤ 1000000000 ∧
(In64 (v + 1) ∧
∃ m4, m4 < m2 ∧ I2 m4 (v + 1) (out ++ [((ge g2 v.toNat).1, (ge g2 v.toNat).2.1, mnF ((ge g2 v.toNat).2.2) most)]))))))) ∧
(¬ (v < ((g2.length : Nat) : Int)) →
R g out 0)))) ∧
(¬ (r = 0) →
R 0 ([]) r)))
theorem ykb {O : Nat → Prop} {w : World} {g g2 most Ag lg cg} {R : Int → (List E3) → Int → Prop} (h : yjh g g2 most R) (hO : ∀ k, O k → k < w.heap.size) (hA0 : (FP.sl c3 Ag lg cg g2).P O w) :
    Calls Tryz.prog 237 #[(.agg #[(ii g), (.slice Ag lg cg)]), (ii most)] w fun e w' => ∃ r2 r3 r4 Ar lr cr, e = .returned (.tuple #[(.agg #[(ii r2), (.slice Ar lr cr)]), (ii r4)]) ∧ Sep w no O w' (rl [Res.own c3 95 Ar lr cr r3]) ∧ R r2 r3 r4 := by
  unfold yjh at h; have hS : Sep w no O w (rl [Res.ro (FP.sl c3 Ag lg cg g2)]) := Sep.startl hO [(FP.sl c3 Ag lg cg g2)] ⟨hA0, trivial⟩; refine yan (l := [(.agg #[(ii g), (.slice Ag lg cg)]), (ii most)]) func237 rfl ntmps237 (Nat.le_of_ble_eq_true rfl) (zs (zn (yb6 (v := (.agg #[(ii g), (.slice Ag lg cg)])) rfl ?_))); intro g3 w2 hN; replace hS : Sep w no O w2 (stl _ 1 (Res.box 24 g3 [(ii g), (.slice Ag lg cg)])) := hS.new 1 rfl hN; clear hN; refine zb (zn (ybJ yas ?_)); intro g4 w3 hN; replace hS : Sep w no O w3 (stl _ 2 (Res.box 24 g4 [(ii 0), (.slice none 0 0)])) := hS.new 2 rfl hN; clear hN; refine zb (zq (za (ii 0)) (yaa (yaf (zs (zq (yav (vs := [(ii g), (.slice Ag lg cg)]) rfl underlying24 rfl yas ⟨Row.cell (hS.bx 1 rfl) (i := 0) rfl, Row.cell (hS.bx 1 rfl) (i := 1) rfl, trivial⟩) (zn (yal rfl (am1 rfl) ynf ((yiV h (yaN _) (hS.rdr 0 rfl)).mono ?_)))))))); rintro _ w4 ⟨r, rfl, hC, h⟩; replace hS := hS.pur hC.pure; clear hC; refine ⟨_, rfl, ?_⟩; refine zb (zq (za (ii r)) (yaa (zs (zq (zm (ii r)) (zq zN (yaa ?_)))))); by_cases hp : r = 0
  · replace h := h.1 hp; refine ze hp (yag (zs (zq (yam rfl underlying24 rfl yaj) (zq (zl underlying3 (Row.cell (hS.bx 1 rfl) (i := 0) rfl)) (zn (yfr (l := [(0, (ii g))]) (cells := [(ii g), (.slice none 0 0)]) (places := [(0, 1), (1, 1)]) (bp1 rfl) underlying24 yas (by kernel_rfl) rfl ?_)))))); refine zb (zn (ybJ yas ?_)); intro g5 w5 hN; replace hS : Sep w no O w5 (stl _ 3 (Res.box 24 g5 [(ii 0), (.slice none 0 0)])) := hS.new 3 rfl hN; clear hN; refine zb (zo (yeb (b := g5) (o := 0) (cells := #[(ii g), (.slice none 0 0)]) rfl rfl yas rfl rfl (yc7 (hS.bx 3 rfl) (Nat.le_of_ble_eq_true rfl)) ?_)); intro w6 e1; replace hS := hS.bstn 3 rfl 0 [(ii g), (.slice none 0 0)] e1; clear e1; refine zb (yaa (yaf (zs (zq (yam rfl underlying24 rfl ydy) (zq (zl underlying22 (Row.cell (hS.bx 1 rfl) (i := 1) rfl)) (zq (ybc (n := g2.length) rfl underlying22 (ya2 (hS.rdr 0 rfl))) (zq (zm (ii 0)) (yaa (yak ?_))))))))); replace hS := hS.nil 4 rfl c3 95; obtain ⟨I2, ⟨m0, h0⟩, hr⟩ := h; refine yaO (fun m E ds w' => ∃ v out Aout lout cout, I2 m v out ∧ ds = [] ∧ E 1 = (ii most) ∧ E 4 = (Value.pointer (some (⟨g4, 0, none⟩ : Addr))) ∧ E 7 = (Value.pointer (some (⟨g5, 0, none⟩ : Addr))) ∧ E 20 = (Value.slice Ag lg cg) ∧ E 21 = (ii ((g2.length : Nat) : Int)) ∧ E 22 = (ii v) ∧ Sep w no O w' (rl [Res.box 24 g4 [(ii 0), (.slice none 0 0)], Res.box 24 g5 [(ii g), (.slice Aout lout cout)], Res.own c3 95 Aout lout cout out, Res.ro (FP.sl c3 Ag lg cg g2)])) m0 ⟨_, _, _, _, _, h0, rfl, rfl, rfl, rfl, rfl, rfl, rfl, (hS.sel [2, 3, 4, 0] (by decide))⟩ ?_; clear h0 hS; rintro m2 E ds w7 ⟨v, out, Aout, lout, cout, h, rfl, hE1, hE4, hE7, hE20, hE21, hE22, hS⟩ again; replace h := hr m2 v out h; clear hr; refine zs (zq (yd4 hE22 hE21) (yaa (yaf ?_))); by_cases hp2 : v < ((g2.length : Nat) : Int)
    · replace h := h.1 hp2; refine zc hp2 (yag (yaf (yak (zs ?_)))); obtain ⟨hx, h⟩ := h; refine zq (yeK hE20 hE22 underlying22 ybf (ybh (hS.rdr 3 rfl) hx)) (zq (yav (vs := [(ii ((ge g2 v.toNat).1)), (ii ((ge g2 v.toNat).2.1)), (ii ((ge g2 v.toNat).2.2))]) rfl underlying95 rfl ybf (yn2 (hS.rdr 3 rfl) hx (fun q => yd6 q))) ?_); refine zn (ybJ ybf ?_); intro g6 w8 hN; replace hS : Sep w no O w8 (stl _ 4 (Res.box 95 g6 [(ii 0), (ii 0), (ii 0)])) := hS.new 4 rfl hN; clear hN; refine zb (zo (yeb (b := g6) (o := 0) (cells := #[(ii ((ge g2 v.toNat).1)), (ii ((ge g2 v.toNat).2.1)), (ii ((ge g2 v.toNat).2.2))]) rfl rfl ybf rfl rfl (yc7 (hS.bx 4 rfl) (Nat.le_of_ble_eq_true rfl)) ?_)); intro w9 e1; replace hS := hS.bstn 4 rfl 0 [(ii ((ge g2 v.toNat).1)), (ii ((ge g2 v.toNat).2.1)), (ii ((ge g2 v.toNat).2.2))] e1; clear e1; refine zb (yaa (zs (zq (yam rfl underlying95 rfl yaj) (zq (zl underlying3 (Row.cell (hS.bx 4 rfl) (i := 0) rfl)) (zq (yam rfl underlying95 rfl yaj) (zq (zl underlying3 (Row.cell (hS.bx 4 rfl) (i := 1) rfl)) (zq zN (yaa ?_)))))))); by_cases hp3 : ((ge g2 v.toNat).1) = ((ge g2 v.toNat).2.1)
      · replace h := h.1 hp3; refine ze hp3 (yag (yai (zr ?_))); obtain ⟨hi, h⟩ := h; refine zq (ycv hE22 rfl hi) (zq (zm (ii (v + 1))) (yaa ?_)); obtain ⟨mq, hlt, h⟩ := h; exact again mq _ _ _ ⟨_, _, _, _, _, h, rfl, hE1, hE4, hE7, hE20, hE21, rfl, (hS.sel [0, 1, 2, 3] (by decide))⟩ hlt
      · replace h := h.2 hp3; refine zf hp3 (zs (zq (yam rfl underlying95 rfl yaj) (zq (zl underlying3 (Row.cell (hS.bx 4 rfl) (i := 2) rfl)) (zq (yae hE1) (zq (yne rfl rfl) (zq (yam rfl underlying95 rfl yaj) (zo (zt (ii (mnF ((ge g2 v.toNat).2.2) most)) yaj (hS.bwr 4 rfl (j := 2) rfl) ?_)))))))); intro w10 e1; replace hS := hS.bst 4 rfl 2 (ii (mnF ((ge g2 v.toNat).2.2) most)) e1; clear e1; refine zb (yaa (zr (zq (yam hE7 underlying24 rfl ydy) (zq (zl underlying22 (Row.cell (hS.bx 1 rfl) (i := 1) rfl)) (zq (yav (vs := [(ii ((ge g2 v.toNat).1)), (ii ((ge g2 v.toNat).2.1)), (ii (mnF ((ge g2 v.toNat).2.2) most))]) rfl underlying95 rfl ybf ⟨Row.cell (hS.bx 4 rfl) (i := 0) rfl, Row.cell (hS.bx 4 rfl) (i := 1) rfl, Row.cell (hS.bx 4 rfl) (i := 2) rfl, trivial⟩) (zn (yaR (l := [(0, (.agg #[(ii ((ge g2 v.toNat).1)), (ii ((ge g2 v.toNat).2.1)), (ii (mnF ((ge g2 v.toNat).2.2) most))]))]) (cells := [(ii ((ge g2 v.toNat).1)), (ii ((ge g2 v.toNat).2.1)), (ii (mnF ((ge g2 v.toNat).2.2) most))]) (bp1 rfl) underlying22 ybf rfl rfl ?_))))))); intro g7 w11 hN; replace hS := hS.litf (n := 1) 5 rfl (fP (fI .i64) (fP (fI .i64) (fI .i64))) hN ([((ge g2 v.toNat).1, (ge g2 v.toNat).2.1, mnF ((ge g2 v.toNat).2.2) most)] : List E3) rfl (by decide) rfl; clear hN; refine zb ?_; obtain ⟨hx2, h⟩ := h; refine zn (n_app (c := c3) rfl rfl underlying22 underlying22 ybf rfl rfl (by decide) hS 2 rfl (hS.yo 5 rfl) hx2 ?_); clear hS; intro A c w12 hS; refine zb (zq (yam hE7 underlying24 rfl ydy) (zo (zt (.slice A (lout + 1) c) ydy (hS.bwr 1 rfl (j := 1) rfl) ?_))); intro w13 e1; replace hS := hS.bst 1 rfl 1 (.slice A (lout + 1) c) e1; clear e1; refine zb (yaa (yai (zr ?_))); obtain ⟨hi2, h⟩ := h; refine zq (ycv hE22 rfl hi2) (zq (zm (ii (v + 1))) (yaa ?_)); obtain ⟨mq, hlt, h⟩ := h; exact again mq _ _ _ ⟨_, _, _, _, _, h, rfl, hE1, hE4, hE7, hE20, hE21, rfl, (hS.sel [0, 1, 2, 3] (by decide))⟩ hlt
    · replace h := h.2 hp2; refine zd hp2 (yaH rfl (zs (zq (yav (vs := [(ii g), (.slice Aout lout cout)]) hE7 underlying24 rfl yas ⟨Row.cell (hS.bx 1 rfl) (i := 0) rfl, Row.cell (hS.bx 1 rfl) (i := 1) rfl, trivial⟩) (zo (yeb (b := g4) (o := 0) (cells := #[(ii g), (.slice Aout lout cout)]) hE4 rfl yas rfl rfl (yc7 (hS.bx 0 rfl) (Nat.le_of_ble_eq_true rfl)) ?_))))); intro w14 e1; replace hS := hS.bstn 0 rfl 0 [(ii g), (.slice Aout lout cout)] e1; clear e1; exact zb (zq (za (ii 0)) (yaa (wt_retx2 rfl (rv_n (vs := [(ii g), (.slice Aout lout cout)]) hE4 underlying24 rfl yas ⟨Row.cell (hS.bx 0 rfl) (i := 0) rfl, Row.cell (hS.bx 0 rfl) (i := 1) rfl, trivial⟩) (rv_t rfl) ⟨_, _, _, _, _, _, rfl, (hS.sel [2] (by decide)), h⟩)))
  · replace h := h.2 hp; refine zf hp (zs (zn (yfr (l := []) (cells := [(ii 0), (.slice none 0 0)]) (places := [(0, 1), (1, 1)]) (bp0) underlying24 yas (by kernel_rfl) rfl ?_))); refine zb (zq (zm (ii r)) (zo (yeb (b := g4) (o := 0) (cells := #[(ii 0), (.slice none 0 0)]) rfl rfl yas rfl rfl (yc7 (hS.bx 2 rfl) (Nat.le_of_ble_eq_true rfl)) ?_))); intro w15 e1; replace hS := hS.bstn 2 rfl 0 [(ii 0), (.slice none 0 0)] e1; clear e1; refine zb (zq (za (ii r)) (yaa ?_)); replace hS := hS.nil 3 rfl c3 95; exact wt_retx2 rfl (rv_n (vs := [(ii 0), (.slice none 0 0)]) rfl underlying24 rfl yas ⟨Row.cell (hS.bx 2 rfl) (i := 0) rfl, Row.cell (hS.bx 2 rfl) (i := 1) rfl, trivial⟩) (rv_t rfl) ⟨_, _, _, _, _, _, rfl, (hS.sel [3] (by decide)), h⟩
def yi7 (g : Int) (g2 : List E3) (R : Int → (List E3) → Int → Prop) : Prop :=
yjh g g2 50 (fun r r2 r3 =>
R r r2 r3)
theorem yj8 {O : Nat → Prop} {w : World} {g g2 Ag lg cg} {R : Int → (List E3) → Int → Prop} (h : yi7 g g2 R) (hO : ∀ k, O k → k < w.heap.size) (hA0 : (FP.sl c3 Ag lg cg g2).P O w) :
    Calls Tryz.prog 203 #[(.agg #[(ii g), (.slice Ag lg cg)])] w fun e w' => ∃ r4 r5 r6 Ar2 lr2 cr2, e = .returned (.tuple #[(.agg #[(ii r4), (.slice Ar2 lr2 cr2)]), (ii r6)]) ∧ Sep w no O w' (rl [Res.own c3 95 Ar2 lr2 cr2 r5]) ∧ R r4 r5 r6 := by
  unfold yi7 at h; have hS : Sep w no O w (rl [Res.ro (FP.sl c3 Ag lg cg g2)]) := Sep.startl hO [(FP.sl c3 Ag lg cg g2)] ⟨hA0, trivial⟩; refine yan (l := [(.agg #[(ii g), (.slice Ag lg cg)])]) func203 rfl ntmps203 (Nat.le_of_ble_eq_true rfl) (zs (zn (yb6 (v := (.agg #[(ii g), (.slice Ag lg cg)])) rfl ?_))); intro g3 w2 hN; replace hS : Sep w no O w2 (stl _ 1 (Res.box 24 g3 [(ii g), (.slice Ag lg cg)])) := hS.new 1 rfl hN; clear hN; refine zb (zn (ybJ yas ?_)); intro g4 w3 hN; replace hS : Sep w no O w3 (stl _ 2 (Res.box 24 g4 [(ii 0), (.slice none 0 0)])) := hS.new 2 rfl hN; clear hN; refine zb (zq (za (ii 0)) (yaa (zs (zq (yav (vs := [(ii g), (.slice Ag lg cg)]) rfl underlying24 rfl yas ⟨Row.cell (hS.bx 1 rfl) (i := 0) rfl, Row.cell (hS.bx 1 rfl) (i := 1) rfl, trivial⟩) (zn (yal rfl (am2 rfl rfl) enter_237 ((ykb h (yaN _) (hS.rdr 0 rfl)).mono ?_))))))); rintro _ w4 ⟨r, r2, r3, Ar, lr, cr, rfl, hC, h⟩; replace hS := hS.call1 (hC.widen (yea (ybl (fP (fI .i64) (fP (fI .i64) (fI .i64))) _ _ _ _ _) ye0) hS.blt) 3 0 rfl; clear hC; refine ⟨_, rfl, ?_⟩; refine zb (zq (zx (.agg #[(ii r), (.slice Ar lr cr)])) (zq (zx (ii r3)) (zo (yeb (b := g4) (o := 0) (cells := #[(ii r), (.slice Ar lr cr)]) rfl rfl yas rfl rfl (yc7 (hS.bx 2 rfl) (Nat.le_of_ble_eq_true rfl)) ?_)))); intro w5 e1; replace hS := hS.bstn 2 rfl 0 [(ii r), (.slice Ar lr cr)] e1; clear e1; exact zb (zq (za (ii r3)) (yaa (wt_retx2 rfl (rv_n (vs := [(ii r), (.slice Ar lr cr)]) rfl underlying24 rfl yas ⟨Row.cell (hS.bx 2 rfl) (i := 0) rfl, Row.cell (hS.bx 2 rfl) (i := 1) rfl, trivial⟩) (rv_t rfl) ⟨_, _, _, _, _, _, rfl, (hS.sel [3] (by decide)), h⟩)))
def yjr (g : Int) (g2 : List E3) (R : Prop) : Prop :=
R
theorem yj9 {O : Nat → Prop} {w : World} {g g2 Ag lg cg} {R : Prop} (h : yjr g g2 R) (hO : ∀ k, O k → k < w.heap.size) (hA0 : (FP.sl c3 Ag lg cg g2).P O w) :
    Calls Tryz.prog 238 #[(.agg #[(ii g), (.slice Ag lg cg)])] w fun e w' => ∃ gr, e = .returned (.func (Fn.func 253) #[] #[(.pointer (some (⟨gr, 0, none⟩ : Addr)))]) ∧ Sep w no O w' (rl [Res.box 24 gr [(ii g), (.slice Ag lg cg)]]) ∧ R := by
  unfold yjr at h; have hS : Sep w no O w (rl [Res.ro (FP.sl c3 Ag lg cg g2)]) := Sep.startl hO [(FP.sl c3 Ag lg cg g2)] ⟨hA0, trivial⟩; refine yan (l := [(.agg #[(ii g), (.slice Ag lg cg)])]) func238 rfl ntmps238 (Nat.le_of_ble_eq_true rfl) (zs (zn (yb6 (v := (.agg #[(ii g), (.slice Ag lg cg)])) rfl ?_))); intro g3 w2 hN; replace hS : Sep w no O w2 (stl _ 1 (Res.box 24 g3 [(ii g), (.slice Ag lg cg)])) := hS.new 1 rfl hN; clear hN; exact zb (zq (za Value.nilFunc) (yaa (zs (zq (yfd (am0) (am1 rfl)) (zq (za (.func (Fn.func 253) #[] #[(.pointer (some (⟨g3, 0, none⟩ : Addr)))])) (yaa (yah rfl rfl ⟨_, rfl, (hS.sel [1] (by decide)), h⟩)))))))
def yi6 (cap : Int) (cap2 : List E3) (Pr R : List E3 → Prop) : Prop :=
(∃ I2 : Nat → (List E3) → Int → Int → Prop, (∃ m0, I2 m0 ([]) 0 0) ∧ ∀ m2 pre2 e2 v, I2 m2 pre2 e2 v → 
((v < ((cap2.length : Nat) : Int) →
((0 ≤ v ∧ v < ((cap2.length : Nat) : Int)) ∧
(∃ I3 : Nat → (List E3) → Int → Int → Prop, (∃ m0, I3 m0 pre2 e2 0) ∧ ∀ m3 pre3 e3 v2, I3 m3 pre3 e3 v2 → 
((v2 < ((ge cap2 v.toNat).2.2) →
(Pr (pre3 ++ [(e3, (ge cap2 v.toNat).1, (ge cap2 v.toNat).2.1)]) ∧
((In64 (e3 + 1) ∧
(In64 (v2 + 1) ∧
∃ m4, m4 < m3 ∧ I3 m4 (pre3 ++ [(e3, (ge cap2 v.toNat).1, (ge cap2 v.toNat).2.1)]) (e3 + 1) (v2 + 1))) ∧
True))) ∧
(¬ (v2 < ((ge cap2 v.toNat).2.2)) →
(In64 (v + 1) ∧
∃ m5, m5 < m2 ∧ I2 m5 pre3 e3 (v + 1))))))) ∧
(¬ (v < ((cap2.length : Nat) : Int)) →
R pre2)))
theorem yjW {w : World} {T0 G0 : BS} {cap cap2 gc Acap lcap ccap} {Pr R : List E3 → Prop} (h : yi6 cap cap2 Pr R) (hS0 : Sep w G0 T0 w (rl [Res.box 24 gc [(Value.int .i64 cap), (Value.slice Acap lcap ccap)], Res.ro (FP.sl c3 Acap lcap ccap cap2)])) :
    ykB Tryz.prog 253 #[(.pointer (some (⟨gc, 0, none⟩ : Addr)))] (fun (x : E3) => #[(ii x.1), (.agg #[(ii x.2.1), (ii x.2.2)])]) (fun _ => FP.tt) Pr R T0 G0 w := by
  unfold yi6 at h; intro l J Jx T1 w1 hs hJ hp hT; obtain ⟨G, hJ, hS⟩ := gen_start hS0 hs hJ hp hT; clear hS0 hp hT; refine yjY (l := [(.func (.yield l) #[] #[]), (.pointer (some (⟨gc, 0, none⟩ : Addr)))]) func253 rfl ntmps253 (Nat.le_of_ble_eq_true rfl) rfl (zs (zq (za (ii 0)) (yaa (zs (zq (yam rfl underlying24 rfl ydy) (zq (zl underlying22 (Row.cell (hS.bx 0 rfl) (i := 1) rfl)) (zq (ybc (n := cap2.length) rfl underlying22 (ya2 (hS.rdr 1 rfl))) (zq (zm (ii 0)) (yaa (yak ?_)))))))))); obtain ⟨I2, ⟨m0, h0⟩, hr⟩ := h; refine yaO (fun m E ds w' => ∃ pre2 e2 v, ∃ T2 : BS, ∃ G2 : BS, ∃ wb2 : World, I2 m pre2 e2 v ∧ ds = [] ∧ E 0 = (Value.func (.yield l) #[] #[]) ∧ E 3 = (ii e2) ∧ E 7 = (Value.slice Acap lcap ccap) ∧ E 8 = (ii ((cap2.length : Nat) : Int)) ∧ E 9 = (ii v) ∧ J T2 G2 pre2 wb2 ∧ Sep wb2 G2 T2 w' (rl [Res.ro (FP.sl c3 Acap lcap ccap cap2)])) m0 ⟨_, _, _, _, _, _, h0, rfl, rfl, rfl, rfl, rfl, rfl, hJ, (hS.sel [1] (by decide))⟩ ?_; clear h0 hS hJ; rintro m2 E ds w2 ⟨pre2, e2, v, T2, G2, wb2, h, rfl, hE0, hE3, hE7, hE8, hE9, hJ, hS⟩ again; replace h := hr m2 pre2 e2 v h; clear hr; refine zs (zq (yd4 hE9 hE8) (yaa (yaf ?_))); by_cases hp : v < ((cap2.length : Nat) : Int)
  · replace h := h.1 hp; refine zc hp (yag (yaf (yak (zs ?_)))); obtain ⟨hx, h⟩ := h; refine zq (yeK hE7 hE9 underlying22 ybf (ybh (hS.rdr 0 rfl) hx)) (zq (yav (vs := [(ii ((ge cap2 v.toNat).1)), (ii ((ge cap2 v.toNat).2.1)), (ii ((ge cap2 v.toNat).2.2))]) rfl underlying95 rfl ybf (yn2 (hS.rdr 0 rfl) hx (fun q => yd6 q))) ?_); refine zn (ybJ ybf ?_); intro g w3 hN; replace hS : Sep wb2 G2 T2 w3 (stl _ 1 (Res.box 95 g [(ii 0), (ii 0), (ii 0)])) := hS.new 1 rfl hN; clear hN; refine zb (zo (yeb (b := g) (o := 0) (cells := #[(ii ((ge cap2 v.toNat).1)), (ii ((ge cap2 v.toNat).2.1)), (ii ((ge cap2 v.toNat).2.2))]) rfl rfl ybf rfl rfl (yc7 (hS.bx 1 rfl) (Nat.le_of_ble_eq_true rfl)) ?_)); intro w4 e1; replace hS := hS.bstn 1 rfl 0 [(ii ((ge cap2 v.toNat).1)), (ii ((ge cap2 v.toNat).2.1)), (ii ((ge cap2 v.toNat).2.2))] e1; clear e1; refine zb (yaa (zs (zq (yam rfl underlying95 rfl yaj) (zq (zl underlying3 (Row.cell (hS.bx 1 rfl) (i := 2) rfl)) (zq (zm (ii 0)) (yaa (yak ?_))))))); obtain ⟨I3, ⟨m0, h0⟩, hr⟩ := h; refine yaO (fun m E ds w' => ∃ pre3 e3 v2, ∃ T3 : BS, ∃ G3 : BS, ∃ wb3 : World, I3 m pre3 e3 v2 ∧ ds = [] ∧ E 0 = (Value.func (.yield l) #[] #[]) ∧ E 3 = (ii e3) ∧ E 5 = (Value.pointer (some (⟨g, 0, none⟩ : Addr))) ∧ E 7 = (Value.slice Acap lcap ccap) ∧ E 8 = (ii ((cap2.length : Nat) : Int)) ∧ E 9 = (ii v) ∧ E 14 = (ii ((ge cap2 v.toNat).2.2)) ∧ E 15 = (ii v2) ∧ J T3 G3 pre3 wb3 ∧ Sep wb3 G3 T3 w' (rl [Res.box 95 g [(ii ((ge cap2 v.toNat).1)), (ii ((ge cap2 v.toNat).2.1)), (ii ((ge cap2 v.toNat).2.2))], Res.ro (FP.sl c3 Acap lcap ccap cap2)])) m0 ⟨_, _, _, _, _, _, h0, rfl, hE0, hE3, rfl, hE7, hE8, hE9, rfl, rfl, hJ, (hS.sel [1, 0] (by decide))⟩ ?_; clear h0 hS hJ; rintro m3 E ds w5 ⟨pre3, e3, v2, T3, G3, wb3, h, rfl, hE0, hE3, hE5, hE7, hE8, hE9, hE14, hE15, hJ, hS⟩ again2; replace h := hr m3 pre3 e3 v2 h; clear hr; refine zs (zq (yd4 hE15 hE14) (yaa (yaf ?_))); by_cases hp2 : v2 < ((ge cap2 v.toNat).2.2)
    · replace h := h.1 hp2; refine zc hp2 (yag (yaf (yak (yaf (zs (zq (yae hE0) (zq (yae hE3) (zq (yam hE5 underlying95 rfl yaj) (zq (zl underlying3 (Row.cell (hS.bx 0 rfl) (i := 0) rfl)) (zq (yam hE5 underlying95 rfl yaj) (zq (zl underlying3 (Row.cell (hS.bx 0 rfl) (i := 1) rfl)) (zn (yfr (l := [(0, (ii ((ge cap2 v.toNat).1))), (1, (ii ((ge cap2 v.toNat).2.1)))]) (cells := [(ii ((ge cap2 v.toNat).1)), (ii ((ge cap2 v.toNat).2.1))]) (places := [(0, 1), (1, 1)]) (bp2 rfl rfl) underlying202 yia (by kernel_rfl) rfl ?_))))))))))))); refine zb ?_; obtain ⟨hPr, hyes, hno⟩ := h; refine zn (n_yield (m := 1) rfl (am2 rfl rfl) (gen_yield (x := (e3, (ge cap2 v.toNat).1, (ge cap2 v.toNat).2.1)) hs hJ hS hPr trivial ?_ ?_))
      · clear hno hJ hS; have h := hyes; clear hyes; intro T4 w6 hJ hS; generalize OwnB _ = G4 at hJ hS; refine ⟨_, rfl, ?_⟩; refine zb (zq (ydn rfl) (yaa (yax (congrArg Value.bool (congrArg Bool.not rfl)) (yag (zr (zq (yae hE3) ?_)))))); obtain ⟨hi, h⟩ := h; refine zq (zA hi) (zq (za (ii (e3 + 1))) (yaa (yai (zr ?_)))); obtain ⟨hi2, h⟩ := h; refine zq (ycv hE15 rfl hi2) (zq (zm (ii (v2 + 1))) (yaa ?_)); obtain ⟨mq, hlt, h⟩ := h; exact again2 mq _ _ _ ⟨_, _, _, _, _, _, h, rfl, hE0, rfl, hE5, hE7, hE8, hE9, hE14, rfl, hJ, (hS.sel [0, 1] (by decide))⟩ hlt
      · clear hyes hJ hS; have h := hno; clear hno; intro T5 w7 hJ hS; generalize OwnB _ = G5 at hJ hS; refine ⟨_, rfl, ?_⟩; exact zb (zq (ydn rfl) (yaa (yaq (congrArg Value.bool (congrArg Bool.not rfl)) (wt_ret0 rfl ⟨⟨_, rfl⟩, gen_endx hs hJ hS⟩))))
    · replace h := h.2 hp2; refine zd hp2 (yaH rfl (yai (zr ?_))); obtain ⟨hi3, h⟩ := h; refine zq (ycv hE9 rfl hi3) (zq (zm (ii (v + 1))) (yaa ?_)); obtain ⟨mq, hlt, h⟩ := h; exact again mq _ _ _ ⟨_, _, _, _, _, _, h, rfl, hE0, hE3, hE7, hE8, rfl, hJ, (hS.sel [1] (by decide))⟩ hlt
  · replace h := h.2 hp; exact zd hp (yaH rfl (yew rfl ⟨⟨_, rfl⟩, gen_end hs hJ hS h⟩))
def yi2 (f : List Int) (v : Int) (R : Int → Prop) : Prop :=
(∃ I2 : Nat → Int → Prop, (∃ m0, I2 m0 v) ∧ ∀ m2 v2, I2 m2 v2 → 
((0 ≤ v2 ∧ v2 < 12) ∧
(((gi f v2.toNat) = v2 →
R v2) ∧
(¬ ((gi f v2.toNat) = v2) →
∃ m3, m3 < m2 ∧ I2 m3 (gi f v2.toNat)))))
theorem yjp {S O : Nat → Prop} {w : World} {f v gc} {R : Int → Prop} (h : yi2 f v R) (hS : Sep w S O w (rl [Res.own cI 243 (some ⟨gc, 0, none⟩) 12 12 f])) :
    Calls Tryz.prog 239 #[(.pointer (some (⟨gc, 0, none⟩ : Addr))), (ii v)] w fun e w' => ∃ r, e = .returned (ii r) ∧ Sep w S O w' (rl [Res.own cI 243 (some ⟨gc, 0, none⟩) 12 12 f]) ∧ R r := by
  unfold yi2 at h; refine yan (l := [(.pointer (some (⟨gc, 0, none⟩ : Addr))), (ii v)]) func239 rfl ntmps239 (Nat.le_of_ble_eq_true rfl) (zs (zq (za (ii 0)) (yaa (yaf (yak ?_))))); obtain ⟨I2, ⟨m0, h0⟩, hr⟩ := h; refine yaO (fun m E ds w' => ∃ v2, I2 m v2 ∧ ds = [] ∧ E 0 = (Value.pointer (some (⟨gc, 0, none⟩ : Addr))) ∧ E 1 = (ii v2) ∧ Sep w S O w' (rl [Res.own cI 243 (some ⟨gc, 0, none⟩) 12 12 f])) m0 ⟨_, h0, rfl, rfl, rfl, (hS.sel [0] (by decide))⟩ ?_; clear h0 hS; rintro m2 E ds w2 ⟨v2, h, rfl, hE0, hE1, hS⟩ again; replace h := hr m2 v2 h; clear hr; refine yaf (zs (zq (yae (v := (.pointer (some (⟨gc, 0, none⟩ : Addr)))) hE0) (zq (yae hE1) (zq (ycz rfl) ?_)))); obtain ⟨hx, h⟩ := h; have hy := arr_ix (hS.rdo 0 rfl) hx; refine zq (ykp rfl rfl underlying243 yaj hx) (zq (yaA (v := (ii (gi f v2.toNat))) rfl underlying3 rfl (rd_1 (hS.rdo 0 rfl) hy (fun q => ybs q) rfl)) ?_); refine zq (yae hE1) (zq zN (yaa ?_)); by_cases hp : (gi f v2.toNat) = v2
  · replace h := h.1 hp; exact ze hp (yaH rfl (zs (zq (yae hE1) (zq (za (ii v2)) (yaa (yah rfl rfl ⟨_, rfl, (hS.sel [0] (by decide)), h⟩))))))
  · replace h := h.2 hp; refine zf hp (yag (yak (zr (zq (yae (v := (.pointer (some (⟨gc, 0, none⟩ : Addr)))) hE0) (zq (yae hE1) (zq (ycz rfl) ?_)))))); have hy2 := arr_ix (hS.rdo 0 rfl) hx; refine zq (ykp rfl rfl underlying243 yaj hx) (zq (yaA (v := (ii (gi f v2.toNat))) rfl underlying3 rfl (rd_1 (hS.rdo 0 rfl) hy2 (fun q => ybs q) rfl)) ?_); refine zq (za (ii (gi f v2.toNat))) (yaa (yai ?_)); obtain ⟨mq, hlt, h⟩ := h; exact again mq _ _ _ ⟨_, h, rfl, hE0, rfl, (hS.sel [0] (by decide))⟩ hlt
def yjg (g : Int) (g2 : List E3) (R : Int → Int → Prop) : Prop :=
yh4 g g2 (fun r =>
((r = 0 →
(∃ I2 : Nat → Int → (List Int) → Prop, (∃ m0, I2 m0 0 (List.replicate 12 (0 : Int))) ∧ ∀ m2 v f, I2 m2 v f → 
((v < 12 →
((0 ≤ v ∧ v < 12) ∧
(In64 (v + 1) ∧
∃ m3, m3 < m2 ∧ I2 m3 (v + 1) (f.set v.toNat v)))) ∧
(¬ (v < 12) →
yjr g g2 ((∃ Pr Rr : List E3 → Prop, yi6 g g2 Pr Rr ∧
(∃ I3 : List E3 → (List Int) → Int → Prop, I3 [] f 0 ∧
(∀ pre y y2 y3 f2 genus, I3 pre f2 genus → Pr (pre ++ [(y, y2, y3)]) →
yi2 f2 y2 (fun r2 =>
yi2 f2 y3 (fun r3 =>
(∃ J2 : Int → Prop, (∀ (genus2 : Int), J2 genus2 → ((0 ≤ (mxF r2 r3) ∧ (mxF r2 r3) < 12) ∧
I3 (pre ++ [(y, y2, y3)]) (f2.set (mxF r2 r3).toNat (mnF r2 r3)) genus2)) ∧
((r2 = r3 →
(In64 (genus + 1) ∧
J2 (genus + 1))) ∧
(¬ (r2 = r3) →
J2 genus)))))) ∧
(∀ ys f2 genus, I3 ys f2 genus → Rr ys →
R genus 0)))))))) ∧
(¬ (r = 0) →
R 0 r)))
theorem ykx {O : Nat → Prop} {w : World} {g g2 Ag lg cg} {R : Int → Int → Prop} (h : yjg g g2 R) (hO : ∀ k, O k → k < w.heap.size) (hA0 : (FP.sl c3 Ag lg cg g2).P O w) :
    Calls Tryz.prog 204 #[(.agg #[(ii g), (.slice Ag lg cg)])] w fun e w' => ∃ r4 r5, e = .returned (.tuple #[(ii r4), (ii r5)]) ∧ Sep w no O w' (rl []) ∧ R r4 r5 := by
  unfold yjg at h; have hS : Sep w no O w (rl [Res.ro (FP.sl c3 Ag lg cg g2)]) := Sep.startl hO [(FP.sl c3 Ag lg cg g2)] ⟨hA0, trivial⟩; refine yjK (l := [(.agg #[(ii g), (.slice Ag lg cg)])]) func204 rfl ntmps204 (Nat.le_of_ble_eq_true rfl) (zs (zn (yb6 (v := (.agg #[(ii g), (.slice Ag lg cg)])) rfl ?_))); intro g3 w2 hN; replace hS : Sep w no O w2 (stl _ 1 (Res.box 24 g3 [(ii g), (.slice Ag lg cg)])) := hS.new 1 rfl hN; clear hN; refine zb (zq (za (ii 0)) (zq (za (ii 0)) (yaa (yaf (zs (zq (yav (vs := [(ii g), (.slice Ag lg cg)]) rfl underlying24 rfl yas ⟨Row.cell (hS.bx 1 rfl) (i := 0) rfl, Row.cell (hS.bx 1 rfl) (i := 1) rfl, trivial⟩) (zn (yal rfl (am1 rfl) ynf ((yiV h (yaN _) (hS.rdr 0 rfl)).mono ?_))))))))); rintro _ w3 ⟨r, rfl, hC, h⟩; replace hS := hS.pur hC.pure; clear hC; refine ⟨_, rfl, ?_⟩; refine zb (zq (za (ii r)) (yaa (zs (zq (zm (ii r)) (zq zN (yaa ?_)))))); by_cases hp : r = 0
  · replace h := h.1 hp; refine ze hp (yag (zs (zn (ybJ info_243 ?_)))); intro g4 w4 hN; replace hS := hS.made (n := 12) 2 rfl cI (ii 0) (0 : Int) (fun _ _ => rfl) (hN : New _ _ _ (Array.replicate 12 (ii 0)) 243) (by decide); clear hN; refine zb (yaa (yaf (zs (zq (zm (ii 0)) (yaa (yak ?_)))))); obtain ⟨I2, ⟨m0, h0⟩, hr⟩ := h; refine yaO (fun m E ds w' => ∃ v f, I2 m v f ∧ ds = [] ∧ E 1 = (Value.pointer (some (⟨g3, 0, none⟩ : Addr))) ∧ E 5 = (Value.pointer (some (⟨g4, 0, none⟩ : Addr))) ∧ E 17 = (ii v) ∧ Sep w no O w' (rl [Res.box 24 g3 [(ii g), (.slice Ag lg cg)], Res.ro (FP.sl c3 Ag lg cg g2), Res.own cI 243 (some ⟨g4, 0, none⟩) 12 12 f])) m0 ⟨_, _, h0, rfl, rfl, rfl, rfl, (hS.sel [1, 0, 2] (by decide))⟩ ?_; clear h0 hS; rintro m2 E ds w5 ⟨v, f, h, rfl, hE1, hE5, hE17, hS⟩ again; replace h := hr m2 v f h; clear hr; refine zs (zq (yd4 hE17 rfl) (yaa (yaf ?_))); by_cases hp2 : v < 12
    · replace h := h.1 hp2; refine zc hp2 (yag (yaf (yak (zs (zq (yae hE17) (zq (za (ii v)) (yaa (zr (zq (zm (ii v)) (zq (zm (ii v)) ?_)))))))))); obtain ⟨hx, h⟩ := h; have hy := arr_ix (hS.rdo 2 rfl) hx; refine zq (ykp hE5 rfl underlying243 yaj hx) (zo (zt (ii v) yaj (hS.wr 2 rfl rfl hy) ?_)); intro w6 e1; replace hS := hS.st 2 rfl rfl hy (x := v) rfl e1; clear e1; refine zb (yaa (yai (zr ?_))); obtain ⟨hi, h⟩ := h; refine zq (ycv hE17 rfl hi) (zq (zm (ii (v + 1))) (yaa ?_)); obtain ⟨mq, hlt, h⟩ := h; exact again mq _ _ _ ⟨_, _, h, rfl, hE1, hE5, rfl, (hS.sel [0, 1, 2] (by decide))⟩ hlt
    · replace h := h.2 hp2; refine zd hp2 (yaH rfl (zs (zn (ybJ yaj ?_)))); intro g5 w7 hN; replace hS : Sep w no O w7 (stl _ 3 (Res.box 3 g5 [(ii 0)])) := hS.new 3 rfl hN; clear hN; refine zb (zo (zt (ii 0) yaj (hS.bwr 3 rfl (j := 0) rfl) ?_)); intro w8 e1; replace hS := hS.bst 3 rfl 0 (ii 0) e1; clear e1; refine zb (yaa (yaf (zs (zq (yav (vs := [(ii g), (.slice Ag lg cg)]) hE1 underlying24 rfl yas ⟨Row.cell (hS.bx 0 rfl) (i := 0) rfl, Row.cell (hS.bx 0 rfl) (i := 1) rfl, trivial⟩) (zn (yal rfl (am1 rfl) enter_238 ((yj9 h hS.blt (hS.ro 1 rfl)).mono ?_))))))); rintro _ w9 ⟨gc, rfl, hC, h⟩; replace hS := hS.call1 hC 4 0 rfl; clear hC; refine ⟨_, rfl, ?_⟩; refine zb (yaa (yak ?_)); obtain ⟨Pr, Rr, hgp, I3, h0, hb, h⟩ := h; refine wt_iterS hS [2, 3] [4, 1] (by decide) (by decide) ⟨.inl (by decide), .inr rfl, trivial⟩ rfl enter_253 (val := (fun (x : E3) => #[(ii x.1), (.agg #[(ii x.2.1), (ii x.2.2)])])) (pass := (fun _ => FP.tt)) (Pr := Pr) (R := Rr) (fun _ => rfl) rfl (fun pr LL => ∃ f2 genus, I3 pr f2 genus ∧ LL = [Res.own cI 243 (some ⟨g4, 0, none⟩) 12 12 f2, Res.box 3 g5 [(ii genus)]]) (fun _ _ _ => False) ⟨_, _, h0, rfl⟩ (fun T G hG => yjW hgp hG) ?_ ?_ (fun _ _ _ _ _ hx => hx.elim)
      · clear h h0 hS hgp; rintro ll rdy busy S O2 pre ⟨y, y2, y3⟩ w10 _ ⟨f2, genus, hI, rfl⟩ hPr hpass hS; have h := hb pre y y2 y3 f2 genus hI hPr; clear hb hI hPr; clear hpass; refine ya5 (yeU ll) (zn (ybJ yia ?_)); intro g6 w12 hN; replace hS : Sep w10 S O2 w12 (stl _ 3 (Res.box 202 g6 [(ii 0), (ii 0)])) := hS.new 3 rfl hN; clear hN; refine zb (zo (yeb (b := g6) (o := 0) (cells := #[(ii y2), (ii y3)]) rfl rfl yia rfl rfl (yc7 (hS.bx 3 rfl) (Nat.le_of_ble_eq_true rfl)) ?_)); intro w13 e1; replace hS := hS.bstn 3 rfl 0 [(ii y2), (ii y3)] e1; clear e1; refine zb (yaa (yjL fun a ra => ⟨rfl, _, _, ra, hS, ⟨2, rfl⟩, ?_⟩)); intro w14 hw; replace hS := hS.flip 2 rfl busy hw; clear hw ra a; refine yak (yaf (ybt [0, 1, 3, 4, 2, 5, 6, 7] (fun i => match i with | 2 => [3, 4] | _ => []) (yeU ll) (by kernel_rfl) (by kernel_rfl) ?_)); replace hS := hS.drew; refine zp (yam rfl underlying202 rfl yaj) (zp (zl underlying3 (Row.cell (hS.bx 3 rfl) (i := 0) rfl)) (zp (yam rfl underlying202 rfl yaj) (zp (zl underlying3 (Row.cell (hS.bx 3 rfl) (i := 1) rfl)) ?_))); have hB := hS.lend (asc [(0, 0)]) [0] (by decide) ⟨.inl (ycu rfl), trivial⟩; refine rp_n rfl rfl rfl rfl (yeH (vs := #[(.pointer (some (⟨g4, 0, none⟩ : Addr))), (ii y2)]) (us := #[]) rfl (am2 hE5 rfl) enter_239 ((ybp (by simp) (yjp h hB)).mono ?_)); rintro _ w15 ⟨r2, rfl, hC, h⟩; replace hS := hS.back (asc [(0, 0)]) (yfu (by decide)) hC; clear hC hB; refine ⟨_, rfl, ?_⟩; refine ⟨⟨fun _ => (zl underlying3 (Row.cell (hS.bx 3 rfl) (i := 1) rfl)), ⟨fun _ => (yam rfl underlying202 rfl yaj), ⟨fun hh => Bool.noConfusion (show false = true from hh), ⟨fun hh => Bool.noConfusion (show false = true from hh), trivial⟩⟩⟩⟩, ?_⟩; have hB := hS.lend (asc [(0, 0)]) [0] (by decide) ⟨.inl (ycu rfl), trivial⟩; refine rp_n rfl rfl rfl rfl (yeH (vs := #[(.pointer (some (⟨g4, 0, none⟩ : Addr))), (ii y3)]) (us := #[]) rfl (am2 hE5 rfl) enter_239 ((ybp (by simp) (yjp h hB)).mono ?_)); rintro _ w16 ⟨r3, rfl, hC, h⟩; replace hS := hS.back (asc [(0, 0)]) (yfu (by decide)) hC; clear hC hB; refine ⟨_, rfl, ?_⟩; refine zb (zp (za (ii r2)) (zp (za (ii r3)) (yb4 (yaf (yaf (ya5 (yeU ll) (zq (zm (ii r2)) (zq (zm (ii r3)) (zq zE (yaa ?_)))))))))); obtain ⟨J2, hJ, h⟩ := h; refine yiR (fun E ds w' => ∃ genus2, J2 genus2 ∧ ds = [] ∧ E 5 = (Value.pointer (some (⟨g4, 0, none⟩ : Addr))) ∧ E 7 = (Value.pointer (some (⟨g5, 0, none⟩ : Addr))) ∧ E 10 = (ii r2) ∧ E 11 = (ii r3) ∧ Sep w10 S O2 w' (rl [Res.obj ll busy, Res.own cI 243 (some ⟨g4, 0, none⟩) 12 12 f2, Res.box 3 g5 [(ii genus2)]])) ?_ ?_
        · clear h hS; rintro E ds w17 ⟨genus2, h, rfl, hE5, hE7, hE10, hE11, hS⟩; replace h := hJ genus2 h; refine ya5 (yeU ll) (zq (yae hE10) (zq (yae hE11) (zq (yn0 rfl rfl) (zq (yae hE10) (zq (yae hE11) (zq (yne rfl rfl) ?_)))))); obtain ⟨hx2, h⟩ := h; have hy2 := arr_ix (hS.rdo 1 rfl) hx2; refine zq (ykp hE5 rfl underlying243 yaj hx2) (zo (zt (ii (mnF r2 r3)) yaj (hS.wr 1 rfl rfl hy2) ?_)); intro w18 e1; replace hS := hS.st 1 rfl rfl hy2 (x := mnF r2 r3) rfl e1; clear e1; exact zb (yaa (yai (yjL fun a r => ⟨_, ⟨_, _, h, rfl⟩, (hS.sel [1, 2, 0] (by decide))⟩)))
        clear hJ; intro j; by_cases hp3 : r2 = r3
        · replace h := h.1 hp3; refine zc hp3 (ya5 (yeU ll) (zq (zl underlying3 (Row.cell (hS.bx 1 rfl) (i := 0) rfl)) ?_)); obtain ⟨hi2, h⟩ := h; refine zq (zA hi2) (zo (zt (ii (genus + 1)) yaj (hS.bwr 1 rfl (j := 0) rfl) ?_)); intro w19 e1; replace hS := hS.bst 1 rfl 0 (ii (genus + 1)) e1; clear e1; exact zb (yaa (j _ _ _ ⟨_, h, rfl, hE5, rfl, rfl, rfl, (hS.sel [2, 0, 1] (by decide))⟩))
        · replace h := h.2 hp3; exact zd hp3 (yag (j _ _ _ ⟨_, h, rfl, hE5, rfl, rfl, rfl, (hS.sel [2, 0, 1] (by decide))⟩))
      · clear hb h0 hS hgp; rintro D ys w11 _ hRr ⟨f2, genus, hI, rfl⟩ hS; replace h := h ys f2 genus hI hRr; clear hI hRr; exact yai (zs (zq (zl underlying3 (Row.cell (hS.bx 1 rfl) (i := 0) rfl)) (zq (za (ii genus)) (zq (za (ii 0)) (yaa (wt_retk2 (rs := [D]) (by simp) (hS.marked 2 rfl) rfl rfl rfl (fun w9 hk => ⟨_, _, rfl, (hS.unmark [2] [] (by decide) (by decide) (ykd 2 rfl) hk), h⟩)))))))
  · replace h := h.2 hp; exact zf hp (zs (zq (zm (ii r)) (zq (za (ii 0)) (zq (za (ii r)) (yaa (wt_retk2 (rs := []) (by simp) (by simp) rfl rfl rfl (fun w9 hk => ⟨_, _, rfl, (hS.unmark [] [] (by decide) (by decide) (by simp) hk), h⟩)))))))
def ydo (g : Int) (g2 : List E3) (l : List (List Int)) (R : Int → Prop) : Prop :=
yco g g2 (fun r r2 =>
((r2 = 0 →
((r = true →
(∃ I2 : Nat → Int → Prop, (∃ m0, I2 m0 0) ∧ ∀ m2 v, I2 m2 v → 
((v < ((l.length : Nat) : Int) →
((0 ≤ v ∧ v < ((l.length : Nat) : Int)) ∧
ybZ (gx l v.toNat) g (fun r3 =>
((r3 = 0 →
(In64 (v + 1) ∧
∃ m3, m3 < m2 ∧ I2 m3 (v + 1))) ∧
(¬ (r3 = 0) →
R r3))))) ∧
(¬ (v < ((l.length : Nat) : Int)) →
R 0)))) ∧
(¬ (r = true) →
R 13))) ∧
(¬ (r2 = 0) →
R r2)))
theorem yjT {O : Nat → Prop} {w : World} {g g2 l Ag lg cg Al ll cl} {R : Int → Prop} (h : ydo g g2 l R) (hO : ∀ k, O k → k < w.heap.size) (hA0 : (FP.sl c3 Ag lg cg g2).P O w) (hA1 : (FP.sl (cL cI) Al ll cl l).P O w) :
    Calls Tryz.prog 99 #[(.agg #[(ii g), (.slice Ag lg cg)]), (.slice Al ll cl)] w fun e w' => ∃ r4, e = .returned (ii r4) ∧ Sep w no O w' (rl []) ∧ R r4 := by
  unfold ydo at h; have hS : Sep w no O w (rl [Res.ro (FP.sl c3 Ag lg cg g2), Res.ro (FP.sl (cL cI) Al ll cl l)]) := Sep.startl hO [(FP.sl c3 Ag lg cg g2), (FP.sl (cL cI) Al ll cl l)] ⟨hA0, hA1, trivial⟩; refine yan (l := [(.agg #[(ii g), (.slice Ag lg cg)]), (.slice Al ll cl)]) func99 rfl ntmps99 (Nat.le_of_ble_eq_true rfl) (zs (zn (yb6 (v := (.agg #[(ii g), (.slice Ag lg cg)])) rfl ?_))); intro g3 w2 hN; replace hS : Sep w no O w2 (stl _ 2 (Res.box 24 g3 [(ii g), (.slice Ag lg cg)])) := hS.new 2 rfl hN; clear hN; refine zb (zq (za (ii 0)) (yaa (zs (zq (yav (vs := [(ii g), (.slice Ag lg cg)]) rfl underlying24 rfl yas ⟨Row.cell (hS.bx 2 rfl) (i := 0) rfl, Row.cell (hS.bx 2 rfl) (i := 1) rfl, trivial⟩) (zn (yal rfl (am1 rfl) yiW ((yc5 h (yaN _) (hS.rdr 0 rfl)).mono ?_))))))); rintro _ w3 ⟨r, r2, rfl, hC, h⟩; replace hS := hS.pur hC.pure; clear hC; refine ⟨_, rfl, ?_⟩; refine zb (zq (zm (.tuple #[(.bool (r)), (ii r2)])) (zq (zx (.bool (r))) (zq (zx (ii r2)) (zq (za (.bool (r))) (zq (za (ii r2)) (yaa (yaf (zs (zq (zm (ii r2)) (zq zN (yaa ?_))))))))))); by_cases hp : r2 = 0
  · replace h := h.1 hp; refine ze hp (yag (yaf (zs (zq (zm (.bool (r))) (zq (ydn rfl) (yaa ?_)))))); by_cases hp2 : r = true
    · replace h := h.1 hp2; refine yax (congrArg Value.bool (congrArg Bool.not hp2)) (yag (yaf (zs (zq (zm (.slice Al ll cl)) (zq (ybc (n := l.length) rfl underlying44 (ya2 (hS.rdr 1 rfl))) (zq (zm (ii 0)) (yaa (yak ?_)))))))); obtain ⟨I2, ⟨m0, h0⟩, hr⟩ := h; refine yaO (fun m E ds w' => ∃ v, I2 m v ∧ ds = [] ∧ E 2 = (Value.pointer (some (⟨g3, 0, none⟩ : Addr))) ∧ E 20 = (Value.slice Al ll cl) ∧ E 21 = (ii ((l.length : Nat) : Int)) ∧ E 22 = (ii v) ∧ Sep w no O w' (rl [Res.box 24 g3 [(ii g), (.slice Ag lg cg)], Res.ro (FP.sl c3 Ag lg cg g2), Res.ro (FP.sl (cL cI) Al ll cl l)])) m0 ⟨_, h0, rfl, rfl, rfl, rfl, rfl, (hS.sel [2, 0, 1] (by decide))⟩ ?_; clear h0 hS; rintro m2 E ds w4 ⟨v, h, rfl, hE2, hE20, hE21, hE22, hS⟩ again; replace h := hr m2 v h; clear hr; refine zs (zq (yd4 hE22 hE21) (yaa (yaf ?_))); by_cases hp3 : v < ((l.length : Nat) : Int)
      · replace h := h.1 hp3; refine zc hp3 (yag (yaf (yak (zs ?_)))); obtain ⟨hx, h⟩ := h; refine zq (yeK hE20 hE22 underlying44 ya0 (ybh (hS.rdr 2 rfl) hx)) ?_; obtain ⟨A, l2, c, hc, hq⟩ := hS.el 2 rfl hx 3 4 rfl rfl (by decide); replace hS := hq; clear hq; refine zq (yaA (v := (.slice A l2 c)) rfl underlying26 rfl (hS.clr 4 rfl)) (zq (za (.slice A l2 c)) (yaa (zs (zq (zm (.slice A l2 c)) (zq (yam hE2 underlying24 rfl yaj) (zq (zl underlying3 (Row.cell (hS.bx 0 rfl) (i := 0) rfl)) (zn (yal rfl (am2 rfl rfl) yfB ((yeP h (yaN _) (hS.rdr 3 rfl)).mono ?_))))))))); rintro _ w5 ⟨r3, rfl, hC, h⟩; replace hS := hS.pur hC.pure; clear hC; refine ⟨_, rfl, ?_⟩; refine zb (zq (za (ii r3)) (yaa (zs (zq (zm (ii r3)) (zq zN (yaa ?_)))))); by_cases hp4 : r3 = 0
        · replace h := h.1 hp4; refine ze hp4 (yag (yai (zr ?_))); obtain ⟨hi, h⟩ := h; refine zq (ycv hE22 rfl hi) (zq (zm (ii (v + 1))) (yaa ?_)); obtain ⟨mq, hlt, h⟩ := h; exact again mq _ _ _ ⟨_, h, rfl, hE2, hE20, hE21, rfl, (hS.sel [0, 1, 2] (by decide))⟩ hlt
        · replace h := h.2 hp4; exact zf hp4 (zs (zq (zm (ii r3)) (zq (za (ii r3)) (yaa (yah rfl rfl ⟨_, rfl, (hS.sel [] (by decide)), h⟩)))))
      · replace h := h.2 hp3; exact zd hp3 (yaH rfl (zs (zq (za (ii 0)) (yaa (yah rfl rfl ⟨_, rfl, (hS.sel [] (by decide)), h⟩)))))
    · replace h := h.2 hp2; exact yaq (congrArg Value.bool (congrArg Bool.not (Bool.eq_false_iff.2 hp2))) (zs (zq (za (ii 13)) (yaa (yah rfl rfl ⟨_, rfl, (hS.sel [] (by decide)), h⟩))))
  · replace h := h.2 hp; exact zf hp (zs (zq (zm (ii r2)) (zq (za (ii r2)) (yaa (yah rfl rfl ⟨_, rfl, (hS.sel [] (by decide)), h⟩)))))
def yjw (g : Int) (g2 : List E3) (R0 : Int → Prop) (R1 : Int → (List E3) → Int → (List (List Int × Int)) → Int → Prop) : Prop :=
yi7 g g2 (fun r r2 r3 =>
((r3 = 0 →
yjg r r2 (fun r4 r5 =>
R1 g g2 r4 ([] : List (List Int × Int)) r5)) ∧
(¬ (r3 = 0) →
R0 r3)))
theorem pok_rank_of {O : Nat → Prop} {w : World} {g g2 Ag lg cg} {R0 : Int → Prop} {R1 : Int → (List E3) → Int → (List (List Int × Int)) → Int → Prop} (h : yjw g g2 R0 R1) (hO : ∀ k, O k → k < w.heap.size) (hA0 : (FP.sl c3 Ag lg cg g2).P O w) :
    Calls Tryz.prog 157 #[(.agg #[(ii g), (.slice Ag lg cg)])] w fun e w' => (∃ r6, e = .returned (.tuple #[(.pointer none), (ii r6)]) ∧ Sep w no O w' (rl []) ∧ R0 r6) ∨ (∃ f f2 f3 m2 r7 gr Af lf cf gm, e = .returned (.tuple #[(.pointer (some (⟨gr, 0, none⟩ : Addr))), (ii r7)]) ∧ Sep w no O w' (rl [Res.box 211 gr [(ii f), (.slice Af lf cf), (ii f3), (Value.map (some gm))], Res.ro (FP.sl c3 Af lf cf f2), Res.obj gm (mapO (.int .i64) m2)]) ∧ R1 f f2 f3 m2 r7) := by
  unfold yjw at h; have hS : Sep w no O w (rl [Res.ro (FP.sl c3 Ag lg cg g2)]) := Sep.startl hO [(FP.sl c3 Ag lg cg g2)] ⟨hA0, trivial⟩; refine yan (l := [(.agg #[(ii g), (.slice Ag lg cg)])]) func157 rfl ntmps157 (Nat.le_of_ble_eq_true rfl) (zs (zn (yb6 (v := (.agg #[(ii g), (.slice Ag lg cg)])) rfl ?_))); intro g3 w2 hN; replace hS : Sep w no O w2 (stl _ 1 (Res.box 24 g3 [(ii g), (.slice Ag lg cg)])) := hS.new 1 rfl hN; clear hN; refine zb (zq (za (.pointer none)) (zq (za (ii 0)) (yaa (zs (zq (yav (vs := [(ii g), (.slice Ag lg cg)]) rfl underlying24 rfl yas ⟨Row.cell (hS.bx 1 rfl) (i := 0) rfl, Row.cell (hS.bx 1 rfl) (i := 1) rfl, trivial⟩) (zn (yal rfl (am1 rfl) enter_203 ((yj8 h (yaN _) (hS.rdr 0 rfl)).mono ?_)))))))); rintro _ w3 ⟨r, r2, r3, Ar, lr, cr, rfl, hC, h⟩; replace hS := hS.call1 (hC.widen (yea (ybl (fP (fI .i64) (fP (fI .i64) (fI .i64))) _ _ _ _ _) ye0) hS.blt) 2 0 rfl; clear hC; refine ⟨_, rfl, ?_⟩; refine zb (zq (zm (.tuple #[(.agg #[(ii r), (.slice Ar lr cr)]), (ii r3)])) (zq (zx (.agg #[(ii r), (.slice Ar lr cr)])) (zq (zx (ii r3)) (zn (ybJ yas ?_))))); intro g4 w4 hN; replace hS : Sep w no O w4 (stl _ 3 (Res.box 24 g4 [(ii 0), (.slice none 0 0)])) := hS.new 3 rfl hN; clear hN; refine zb (zo (yeb (b := g4) (o := 0) (cells := #[(ii r), (.slice Ar lr cr)]) rfl rfl yas rfl rfl (yc7 (hS.bx 3 rfl) (Nat.le_of_ble_eq_true rfl)) ?_)); intro w5 e1; replace hS := hS.bstn 3 rfl 0 [(ii r), (.slice Ar lr cr)] e1; clear e1; refine zb (zq (za (ii r3)) (yaa (yaf (zs (zq (zm (ii r3)) (zq zN (yaa ?_))))))); by_cases hp : r3 = 0
  · replace h := h.1 hp; refine ze hp (yag (zs (zq (yav (vs := [(ii r), (.slice Ar lr cr)]) rfl underlying24 rfl yas ⟨Row.cell (hS.bx 3 rfl) (i := 0) rfl, Row.cell (hS.bx 3 rfl) (i := 1) rfl, trivial⟩) (zn (yal rfl (am1 rfl) enter_204 ((ykx h (yaN _) (hS.rdo 2 rfl)).mono ?_)))))); rintro _ w6 ⟨r4, r5, rfl, hC, h⟩; replace hS := hS.pur hC.pure; clear hC; refine ⟨_, rfl, ?_⟩; refine zb (zq (zm (.tuple #[(ii r4), (ii r5)])) (zq (zx (ii r4)) (zq (zx (ii r5)) (zq (za (ii r4)) (zq (za (ii r5)) (yaa (zs (zq (yav (vs := [(ii g), (.slice Ag lg cg)]) rfl underlying24 rfl yas ⟨Row.cell (hS.bx 1 rfl) (i := 0) rfl, Row.cell (hS.bx 1 rfl) (i := 1) rfl, trivial⟩) (zq (zm (ii r4)) (zn (n_mkmap (vE := (.int .i64)) rfl ?_))))))))))); intro g5 w7 e1 e2; replace hS : Sep w no O w7 (stl _ 4 (Res.obj g5 (mapO (.int .i64) ([] : List (List Int × Int))))) := hS.newm 4 rfl e1 e2; clear e1 e2; refine zb (zn (yfr (l := [(0, (.agg #[(ii g), (.slice Ag lg cg)])), (1, (ii r4)), (2, (Value.map (some g5)))]) (cells := [(ii g), (.slice Ag lg cg), (ii r4), (Value.map (some g5))]) (places := [(0, 2), (2, 1), (3, 1)]) (bp3 rfl rfl rfl) underlying211 info_211 (by kernel_rfl) rfl ?_)); refine zb (zn (yb6 (v := (.agg #[(ii g), (.slice Ag lg cg), (ii r4), (Value.map (some g5))])) rfl ?_)); intro g6 w8 hN; replace hS : Sep w no O w8 (stl _ 5 (Res.box 211 g6 [(ii g), (.slice Ag lg cg), (ii r4), (Value.map (some g5))])) := hS.new 5 rfl hN; clear hN; exact zb (zq (zm (ii r5)) (zq (za (.pointer (some (⟨g6, 0, none⟩ : Addr)))) (zq (za (ii r5)) (yaa (ybF rfl rfl rfl (.inr ⟨_, _, _, _, _, _, _, _, _, _, rfl, (hS.sel [5, 0, 4] (by decide)), h⟩))))))
  · replace h := h.2 hp; exact zf hp (zs (zq (zm (ii r3)) (zq (za (.pointer none)) (zq (za (ii r3)) (yaa (ybF rfl rfl rfl (.inl ⟨_, rfl, (hS.sel [] (by decide)), h⟩)))))))
def yiY (Rec : Int → (List E3) → Int → (List (List Int × Int)) → (List Int) → (Int → Int → (List (List Int × Int)) → Prop) → Prop) (d : Int) (d2 : List E3) (d3 : Int) (d4 : List (List Int × Int)) (i : List Int) (R : Int → Int → (List (List Int × Int)) → Prop) : Prop :=
yi3 i (fun r r2 =>
((r2 = 0 →
((r < 0 →
R (-1) 0 d4) ∧
(¬ (r < 0) →
(In64 (2 * d3) ∧
(In64 ((2 * d3) - 2) ∧
((((2 * d3) - 2) < r →
(In64 (r - d3) ∧
R (r - d3) 0 d4)) ∧
(¬ (((2 * d3) - 2) < r) →
yaW d d2 i (fun r3 r4 r5 r6 =>
((r6 = 0 →
((r3 = true →
(0 < r4.length ∧
(KOk 12 d4 ∧
yfx 12 (cpy (List.replicate 12 (0 : Int)) r4) ∧
(((mget d4 (cpy (List.replicate 12 (0 : Int)) r4)).isSome = true →
R ((mget d4 (cpy (List.replicate 12 (0 : Int)) r4)).getD (0 : Int)) 0 d4) ∧
(¬ ((mget d4 (cpy (List.replicate 12 (0 : Int)) r4)).isSome = true) →
((((d4.length : Nat) : Int) = 16384 →
R 0 12 d4) ∧
(¬ (((d4.length : Nat) : Int) = 16384) →
(∃ I2 : Nat → Int → Int → (List (List Int × Int)) → (List Int) → Prop, (∃ m0, I2 m0 r 0 d4 r4) ∧ ∀ m2 v v2 d5 v3, I2 m2 v v2 d5 v3 → 
((v2 < ((r4.length : Nat) : Int) →
((0 ≤ v2 ∧ v2 < ((v3.length : Nat) : Int)) ∧
(In64 ((gi v3 v2.toNat) - 1) ∧
Rec d d2 d3 d5 (v3.set v2.toNat ((gi v3 v2.toNat) - 1)) (fun r7 r8 y =>
((0 ≤ v2 ∧ v2 < (((v3.set v2.toNat ((gi v3 v2.toNat) - 1)).length : Nat) : Int)) ∧
(In64 ((gi (v3.set v2.toNat ((gi v3 v2.toNat) - 1)) v2.toNat) + 1) ∧
((r8 = 0 →
(In64 (r7 + 1) ∧
(In64 (v2 + 1) ∧
∃ m3, m3 < m2 ∧ I2 m3 (mnF v (r7 + 1)) (v2 + 1) y ((v3.set v2.toNat ((gi v3 v2.toNat) - 1)).set v2.toNat ((gi (v3.set v2.toNat ((gi v3 v2.toNat) - 1)) v2.toNat) + 1))))) ∧
(¬ (r8 = 0) →
R 0 r8 y)))))))) ∧
(¬ (v2 < ((r4.length : Nat) : Int)) →
(KOk 12 d5 ∧
R v 0 (mput d5 (cpy (List.replicate 12 (0 : Int)) r4) v)))))))))))) ∧
(¬ (r3 = true) →
R (-1) 0 d4))) ∧
(¬ (r6 = 0) →
R 0 r6 d4)))))))))) ∧
(¬ (r2 = 0) →
R 0 r2 d4)))
def yi0 : Nat → Int → (List E3) → Int → (List (List Int × Int)) → (List Int) → (Int → Int → (List (List Int × Int)) → Prop) → Prop
  | 0 => fun _ _ _ _ _ _ => False
  | nf + 1 => fun d d2 d3 d4 i R => yiY (yi0 nf) d d2 d3 d4 i R
theorem yjz {Rec : Int → (List E3) → Int → (List (List Int × Int)) → (List Int) → (Int → Int → (List (List Int × Int)) → Prop) → Prop} (hrec : ∀ {S O : Nat → Prop} {w : World} {d d2 d3 d4 i gc Ad ld cd gm Ai li ci} {R : Int → Int → (List (List Int × Int)) → Prop} (h : Rec d d2 d3 d4 i R) (hS : Sep w S O w (rl [Res.box 211 gc [(Value.int .i64 d), (Value.slice Ad ld cd), (Value.int .i64 d3), (Value.map (some gm))], Res.ro (FP.sl c3 Ad ld cd d2), Res.obj gm (mapO (Value.int .i64) d4), Res.own cI 3 Ai li ci i])), Calls Tryz.prog 158 #[(Value.pointer (some (⟨gc, 0, none⟩ : Addr))), (Value.slice Ai li ci)] w fun e w' => ∃ r9 r10 z, e = .returned (Value.tuple #[(Value.int .i64 r9), (Value.int .i64 r10)]) ∧ Sep w S O w' (rl [Res.box 211 gc [(Value.int .i64 d), (Value.slice Ad ld cd), (Value.int .i64 d3), (Value.map (some gm))], Res.obj gm (mapO (Value.int .i64) z), Res.own cI 3 Ai li ci i]) ∧ R r9 r10 z) {S O : Nat → Prop} {w : World} {d d2 d3 d4 i gc Ad ld cd gm Ai li ci} {R : Int → Int → (List (List Int × Int)) → Prop} (h : yiY Rec d d2 d3 d4 i R) (hS : Sep w S O w (rl [Res.box 211 gc [(Value.int .i64 d), (Value.slice Ad ld cd), (Value.int .i64 d3), (Value.map (some gm))], Res.ro (FP.sl c3 Ad ld cd d2), Res.obj gm (mapO (Value.int .i64) d4), Res.own cI 3 Ai li ci i])) :
    Calls Tryz.prog 158 #[(.pointer (some (⟨gc, 0, none⟩ : Addr))), (.slice Ai li ci)] w fun e w' => ∃ r9 r10 z, e = .returned (.tuple #[(ii r9), (ii r10)]) ∧ Sep w S O w' (rl [Res.box 211 gc [(ii d), (.slice Ad ld cd), (ii d3), (Value.map (some gm))], Res.obj gm (mapO (.int .i64) z), Res.own cI 3 Ai li ci i]) ∧ R r9 r10 z := by
  unfold yiY at h; refine yan (l := [(.pointer (some (⟨gc, 0, none⟩ : Addr))), (.slice Ai li ci)]) func158 rfl ntmps158 (Nat.le_of_ble_eq_true rfl) (zs (zq (za (ii 0)) (zq (za (ii 0)) (yaa (zs (zq (zm (.slice Ai li ci)) (zn (yal rfl (am1 rfl) ykz ((yjq h (yaN _) (hS.rdo 3 rfl)).mono ?_))))))))); rintro _ w2 ⟨r, r2, rfl, hC, h⟩; replace hS := hS.pur hC.pure; clear hC; refine ⟨_, rfl, ?_⟩; refine zb (zq (zm (.tuple #[(ii r), (ii r2)])) (zq (zx (ii r)) (zq (zx (ii r2)) (zq (za (ii r)) (zq (za (ii r2)) (yaa (yaf (zs (zq (zm (ii r2)) (zq zN (yaa ?_))))))))))); by_cases hp : r2 = 0
  · replace h := h.1 hp; refine ze hp (yag (yaf (zs (zq (zm (ii r)) (zq zL (yaa ?_)))))); by_cases hp2 : r < 0
    · replace h := h.1 hp2; exact zc hp2 (zs (zq (za (ii (-1))) (zq (za (ii 0)) (yaa (ybF rfl rfl rfl ⟨_, _, _, rfl, (hS.sel [0, 2, 3] (by decide)), h⟩)))))
    · replace h := h.2 hp2; refine zd hp2 (yag (yaf (zs (zq (zm (ii r)) (zq (zm (.pointer (some (⟨gc, 0, none⟩ : Addr)))) (zq (ycz rfl) (zq (yam rfl underlying211 rfl yaj) (zq (zl underlying3 (Row.cell (hS.bx 0 rfl) (i := 2) rfl)) ?_)))))))); obtain ⟨hi, h⟩ := h; refine zq (v_mul rfl rfl hi) ?_; obtain ⟨hi2, h⟩ := h; refine zq (zS hi2) (zq zG (yaa ?_)); by_cases hp3 : ((2 * d3) - 2) < r
      · replace h := h.1 hp3; refine zc hp3 (zs (zq (zm (ii r)) (zq (zm (.pointer (some (⟨gc, 0, none⟩ : Addr)))) (zq (ycz rfl) (zq (yam rfl underlying211 rfl yaj) (zq (zl underlying3 (Row.cell (hS.bx 0 rfl) (i := 2) rfl)) ?_)))))); obtain ⟨hi3, h⟩ := h; exact zq (zS hi3) (zq (za (ii (r - d3))) (zq (za (ii 0)) (yaa (ybF rfl rfl rfl ⟨_, _, _, rfl, (hS.sel [0, 2, 3] (by decide)), h⟩))))
      · replace h := h.2 hp3; refine zd hp3 (yag (zs (zq (zm (.pointer (some (⟨gc, 0, none⟩ : Addr)))) (zq (ycz rfl) (zq (yam rfl underlying211 rfl yas) (zq (yav (vs := [(ii d), (.slice Ad ld cd)]) rfl underlying24 rfl yas ⟨Row.cell (hS.bx 0 rfl) (i := 0) rfl, Row.cell (hS.bx 0 rfl) (i := 1) rfl, trivial⟩) (zq (zm (.slice Ai li ci)) (zn (yal rfl (am2 rfl rfl) enter_19 ((yep h (yaN _) (hS.rdr 1 rfl) (hS.rdo 3 rfl)).mono ?_)))))))))); rintro _ w3 ⟨r3, r4, r5, r6, Ar, lr, cr, Ar2, lr2, cr2, rfl, hC, h⟩; replace hS := hS.call2 (hC.widen (yea (ybl (fI .i64) _ _ _ _ _) (yea (ybl (fI .i64) _ _ _ _ _) ye0)) hS.blt) 4 0 5 1 rfl rfl (by decide) (by decide); clear hC; refine ⟨_, rfl, ?_⟩; refine zb (zq (zm (.tuple #[(.bool (r3)), (.slice Ar lr cr), (.slice Ar2 lr2 cr2), (ii r6)])) (zq (zx (.bool (r3))) (zq (zx (.slice Ar lr cr)) (zq (zx (.slice Ar2 lr2 cr2)) (zq (zx (ii r6)) (zq (za (.bool (r3))) (zq (za (.slice Ar lr cr)) (zq (za (.slice Ar2 lr2 cr2)) (zq (za (ii r6)) (yaa (yaf (zs (zq (zm (ii r6)) (zq zN (yaa ?_))))))))))))))); by_cases hp4 : r6 = 0
        · replace h := h.1 hp4; refine ze hp4 (yag (yaf (zs (zq (zm (.bool (r3))) (zq (ydn rfl) (yaa ?_)))))); by_cases hp5 : r3 = true
          · replace h := h.1 hp5; refine yax (congrArg Value.bool (congrArg Bool.not hp5)) (yag (zs (zn (ybJ yjO ?_)))); intro g w4 hN; replace hS := hS.made (n := 12) 6 rfl cI (ii 0) (0 : Int) (fun _ _ => rfl) (hN : New _ _ _ (Array.replicate 12 (ii 0)) 212) (by decide); clear hN; refine zb (yaa (zs (zq (ykw rfl underlying212 yaj) (zq (zm (.slice Ar lr cr)) ?_)))); obtain ⟨hx, h⟩ := h; refine zn (n_cpy rfl rfl underlying25 yaj hS 6 rfl (hS.rdo 4 rfl) hx ?_); clear hS; intro w5 hS; refine zb (yaa (yaf (yaf (ybt [0, 1, 2, 3, 4, 5, 6, 7, 8, 9, 10] st0 yaQ (by kernel_rfl) (by kernel_rfl) ?_)))); replace hS := hS.drew; refine zp (zm (.pointer (some (⟨gc, 0, none⟩ : Addr)))) (zp (ycz rfl) (zp (yam rfl underlying211 rfl yjM) (zp (zl underlying209 (Row.cell (hS.bx 0 rfl) (i := 3) rfl)) (zp (yav (vs := (cpy (List.replicate 12 (0 : Int)) r4).map (.int .i64)) rfl underlying212 rfl (ygv yjO (hS.rdo 6 rfl)) (yfG (hS.rdo 6 rfl))) ?_)))); obtain ⟨hx2, h⟩ := h; obtain ⟨hx3, h⟩ := h; refine rp_n rfl rfl rfl rfl (n_val (v_mget (vE := (.int .i64)) (x0 := (0 : Int)) (ykn) hx2 hx3 rfl rfl underlying209 yaj (hS.mp 2 rfl)) ?_); refine zb (zp (zm (.tuple #[(ii ((mget d4 (cpy (List.replicate 12 (0 : Int)) r4)).getD (0 : Int))), (.bool ((mget d4 (cpy (List.replicate 12 (0 : Int)) r4)).isSome))])) (zp (zx (ii ((mget d4 (cpy (List.replicate 12 (0 : Int)) r4)).getD (0 : Int)))) (zp (zx (.bool ((mget d4 (cpy (List.replicate 12 (0 : Int)) r4)).isSome))) (zp (za (ii ((mget d4 (cpy (List.replicate 12 (0 : Int)) r4)).getD (0 : Int)))) (zp (za (.bool ((mget d4 (cpy (List.replicate 12 (0 : Int)) r4)).isSome))) (yb4 (zs (zq (zm (.bool ((mget d4 (cpy (List.replicate 12 (0 : Int)) r4)).isSome))) (yaa ?_))))))))); by_cases hp6 : (mget d4 (cpy (List.replicate 12 (0 : Int)) r4)).isSome = true
            · replace h := h.1 hp6; exact yaq (congrArg Value.bool hp6) (zs (zq (zm (ii ((mget d4 (cpy (List.replicate 12 (0 : Int)) r4)).getD (0 : Int)))) (zq (za (ii ((mget d4 (cpy (List.replicate 12 (0 : Int)) r4)).getD (0 : Int)))) (zq (za (ii 0)) (yaa (ybF rfl rfl rfl ⟨_, _, _, rfl, (hS.sel [0, 2, 3] (by decide)), h⟩))))))
            · replace h := h.2 hp6; refine yax (congrArg Value.bool (Bool.eq_false_iff.2 hp6)) (yag (yaf (zs (zq (zm (.pointer (some (⟨gc, 0, none⟩ : Addr)))) (zq (ycz rfl) (zq (yam rfl underlying211 rfl yjM) (zq (zl underlying209 (Row.cell (hS.bx 0 rfl) (i := 3) rfl)) (zq (v_mlen rfl underlying209 (hS.mp 2 rfl)) (zq zE (yaa ?_)))))))))); by_cases hp7 : ((d4.length : Nat) : Int) = 16384
              · replace h := h.1 hp7; exact zc hp7 (zs (zq (za (ii 0)) (zq (za (ii 12)) (yaa (ybF rfl rfl rfl ⟨_, _, _, rfl, (hS.sel [0, 2, 3] (by decide)), h⟩)))))
              · replace h := h.2 hp7; refine zd hp7 (yag (zs (zq (zm (ii r)) (zq (za (ii r)) (yaa (yaf (zs (zq (zm (.slice Ar lr cr)) (zq (ybc (n := r4.length) rfl underlying26 (ya2 (hS.rdo 4 rfl))) (zq (zm (ii 0)) (yaa (yak ?_)))))))))))); obtain ⟨I2, ⟨m0, h0⟩, hr⟩ := h; refine yaO (fun m E ds w' => ∃ v v2 d5 v3 Av lv cv, I2 m v v2 d5 v3 ∧ ds = [] ∧ E 0 = (Value.pointer (some (⟨gc, 0, none⟩ : Addr))) ∧ E 1 = (Value.slice Ai li ci) ∧ E 9 = (Value.slice Av lv cv) ∧ E 11 = (Value.pointer (some (⟨g, 0, none⟩ : Addr))) ∧ E 14 = (ii v) ∧ E 80 = (ii ((r4.length : Nat) : Int)) ∧ E 81 = (ii v2) ∧ Sep w S O w' (rl [Res.box 211 gc [(ii d), (.slice Ad ld cd), (ii d3), (Value.map (some gm))], Res.ro (FP.sl c3 Ad ld cd d2), Res.obj gm (mapO (.int .i64) d5), Res.own cI 3 Ai li ci i, Res.own cI 3 Av lv cv v3, Res.own cI 212 (some ⟨g, 0, none⟩) 12 12 (cpy (List.replicate 12 (0 : Int)) r4)])) m0 ⟨_, _, _, _, _, _, _, h0, rfl, rfl, rfl, rfl, rfl, rfl, rfl, rfl, (hS.sel [0, 1, 2, 3, 4, 6] (by decide))⟩ ?_; clear h0 hS; rintro m2 E ds w6 ⟨v, v2, d5, v3, Av, lv, cv, h, rfl, hE0, hE1, hE9, hE11, hE14, hE80, hE81, hS⟩ again; replace h := hr m2 v v2 d5 v3 h; clear hr; refine zs (zq (yd4 hE81 hE80) (yaa (yaf ?_))); by_cases hp8 : v2 < ((r4.length : Nat) : Int)
                · replace h := h.1 hp8; refine zc hp8 (yag (yaf (yak (zs (zq (yae hE81) (zq (za (ii v2)) (yaa (zs (zq (yae hE9) (zq (zm (ii v2)) ?_)))))))))); obtain ⟨hx4, h⟩ := h; refine zq (zi underlying26 yaj (ybh (hS.rdo 4 rfl) hx4)) (zq (yaA (v := (ii (gi v3 v2.toNat))) rfl underlying3 rfl (rd_1 (hS.rdo 4 rfl) hx4 (fun q => ybs q) rfl)) ?_); obtain ⟨hi4, h⟩ := h; refine zq (zS hi4) (zq (zi underlying26 yaj (ybh (hS.rdo 4 rfl) hx4)) (zo (zt (ii ((gi v3 v2.toNat) - 1)) yaj (hS.wr 4 rfl rfl hx4) ?_))); intro w7 e1; replace hS := hS.st 4 rfl rfl hx4 (x := (gi v3 v2.toNat) - 1) rfl e1; clear e1; refine zb (yaa (zs (zq (yae (v := (.pointer (some (⟨gc, 0, none⟩ : Addr)))) hE0) (zq (yae hE9) ?_)))); have hB := hS.lend (asc [(0, 0), (2, 1), (4, 2)]) [0, 1, 2, 4] (by decide) ⟨.inl (ycu rfl), .inr rfl, .inl (ycu rfl), .inl (ycu rfl), trivial⟩; refine zn (yeH (vs := #[(.pointer (some (⟨gc, 0, none⟩ : Addr))), (.slice Av lv cv)]) (us := #[]) rfl (am2 rfl rfl) ykv ((ybp (by simp) (hrec h hB)).mono ?_)); rintro _ w8 ⟨r7, r8, y, rfl, hC, h⟩; replace hS := hS.back (asc [(0, 0), (2, 1), (4, 2)]) (yfu (by decide)) hC; clear hC hB; refine ⟨_, rfl, ?_⟩; refine zb (zq (zm (.tuple #[(ii r7), (ii r8)])) (zq (zx (ii r7)) (zq (zx (ii r8)) (zq (za (ii r7)) (zq (za (ii r8)) (yaa (zs (zq (yae hE9) (zq (zm (ii v2)) ?_))))))))); obtain ⟨hx5, h⟩ := h; refine zq (zi underlying26 yaj (ybh (hS.rdo 4 rfl) hx5)) (zq (yaA (v := (ii (gi (v3.set v2.toNat ((gi v3 v2.toNat) - 1)) v2.toNat))) rfl underlying3 rfl (rd_1 (hS.rdo 4 rfl) hx5 (fun q => ybs q) rfl)) ?_); obtain ⟨hi5, h⟩ := h; refine zq (zA hi5) (zq (zi underlying26 yaj (ybh (hS.rdo 4 rfl) hx5)) (zo (zt (ii ((gi (v3.set v2.toNat ((gi v3 v2.toNat) - 1)) v2.toNat) + 1)) yaj (hS.wr 4 rfl rfl hx5) ?_))); intro w9 e1; replace hS := hS.st 4 rfl rfl hx5 (x := (gi (v3.set v2.toNat ((gi v3 v2.toNat) - 1)) v2.toNat) + 1) rfl e1; clear e1; refine zb (yaa (yaf (zs (zq (zm (ii r8)) (zq zN (yaa ?_)))))); by_cases hp9 : r8 = 0
                  · replace h := h.1 hp9; refine ze hp9 (yag (zr (zq (yae hE14) (zq (zm (ii r7)) ?_)))); obtain ⟨hi6, h⟩ := h; refine zq (zA hi6) (zq (yne rfl rfl) (zq (za (ii (mnF v (r7 + 1)))) (yaa (yai (zr ?_))))); obtain ⟨hi7, h⟩ := h; refine zq (ycv hE81 rfl hi7) (zq (zm (ii (v2 + 1))) (yaa ?_)); obtain ⟨mq, hlt, h⟩ := h; exact again mq _ _ _ ⟨_, _, _, _, _, _, _, h, rfl, hE0, hE1, hE9, hE11, rfl, hE80, rfl, (hS.sel [0, 1, 2, 3, 4, 5] (by decide))⟩ hlt
                  · replace h := h.2 hp9; exact zf hp9 (zs (zq (zm (ii r8)) (zq (za (ii 0)) (zq (za (ii r8)) (yaa (ybF rfl rfl rfl ⟨_, _, _, rfl, (hS.sel [0, 2, 3] (by decide)), h⟩))))))
                · replace h := h.2 hp8; refine zd hp8 (yaH rfl (yaf (ybt [0, 1, 2, 3, 4, 5, 6] st0 yaQ (by kernel_rfl) (by kernel_rfl) ?_))); replace hS := hS.drew; refine zp (yae (v := (.pointer (some (⟨gc, 0, none⟩ : Addr)))) hE0) (zp (ycz rfl) (zp (yam rfl underlying211 rfl yjM) (zp (zl underlying209 (Row.cell (hS.bx 0 rfl) (i := 3) rfl)) (zp (yav (vs := (cpy (List.replicate 12 (0 : Int)) r4).map (.int .i64)) hE11 underlying212 rfl (ygv yjO (hS.rdo 5 rfl)) (yfG (hS.rdo 5 rfl))) (zp (yae hE14) ?_))))); obtain ⟨hx6, h⟩ := h; refine yhC rfl rfl rfl (n_mput (vE := (.int .i64)) (ykn) hx6 hx3 (v := v) rfl rfl rfl underlying209 (hS.mp 2 rfl) ?_); intro w10 e1 e2; replace hS := hS.mst 2 rfl e1 e2; clear e1 e2; exact zb (yb4 (zs (zq (yae hE14) (zq (za (ii v)) (zq (za (ii 0)) (yaa (ybF rfl rfl rfl ⟨_, _, _, rfl, (hS.sel [0, 2, 3] (by decide)), h⟩)))))))
          · replace h := h.2 hp5; exact yaq (congrArg Value.bool (congrArg Bool.not (Bool.eq_false_iff.2 hp5))) (zs (zq (za (ii (-1))) (zq (za (ii 0)) (yaa (ybF rfl rfl rfl ⟨_, _, _, rfl, (hS.sel [0, 2, 3] (by decide)), h⟩)))))
        · replace h := h.2 hp4; exact zf hp4 (zs (zq (zm (ii r6)) (zq (za (ii 0)) (zq (za (ii r6)) (yaa (ybF rfl rfl rfl ⟨_, _, _, rfl, (hS.sel [0, 2, 3] (by decide)), h⟩))))))
  · replace h := h.2 hp; exact zf hp (zs (zq (zm (ii r2)) (zq (za (ii 0)) (zq (za (ii r2)) (yaa (ybF rfl rfl rfl ⟨_, _, _, rfl, (hS.sel [0, 2, 3] (by decide)), h⟩))))))
theorem yjC {nf} : ∀ {S O : Nat → Prop} {w : World} {d d2 d3 d4 i gc Ad ld cd gm Ai li ci} {R : Int → Int → (List (List Int × Int)) → Prop} (h : yi0 nf d d2 d3 d4 i R) (hS : Sep w S O w (rl [Res.box 211 gc [(Value.int .i64 d), (Value.slice Ad ld cd), (Value.int .i64 d3), (Value.map (some gm))], Res.ro (FP.sl c3 Ad ld cd d2), Res.obj gm (mapO (Value.int .i64) d4), Res.own cI 3 Ai li ci i])), Calls Tryz.prog 158 #[(Value.pointer (some (⟨gc, 0, none⟩ : Addr))), (Value.slice Ai li ci)] w fun e w' => ∃ r9 r10 z, e = .returned (Value.tuple #[(Value.int .i64 r9), (Value.int .i64 r10)]) ∧ Sep w S O w' (rl [Res.box 211 gc [(Value.int .i64 d), (Value.slice Ad ld cd), (Value.int .i64 d3), (Value.map (some gm))], Res.obj gm (mapO (Value.int .i64) z), Res.own cI 3 Ai li ci i]) ∧ R r9 r10 z := by
  induction nf with
  | zero => intros; rename_i h _; exact h.elim
  | succ nf ih => intro S O w d d2 d3 d4 i gc Ad ld cd gm Ai li ci R h hS; exact yjz ih h hS
def yjf (Rec : Int → (List E3) → Int → (List (List Int × Int)) → (List Int) → (Int → Int → (List (List Int × Int)) → Prop) → Prop) (d : Int) (d2 : List E3) (d3 : Int) (d4 : List (List Int × Int)) (i : List Int) (R : Int → Int → (List (List Int × Int)) → Prop) : Prop :=
yi3 i (fun r r2 =>
((r2 = 0 →
((r < 0 →
R (-1) 0 d4) ∧
(¬ (r < 0) →
(In64 (2 * d3) ∧
(In64 ((2 * d3) - 2) ∧
((((2 * d3) - 2) < r →
(In64 (r - d3) ∧
R (r - d3) 0 d4)) ∧
(¬ (((2 * d3) - 2) < r) →
yaW d d2 i (fun r3 r4 r5 r6 =>
((r6 = 0 →
((r3 = true →
(0 < r4.length ∧
(KOk 12 d4 ∧
yfx 12 (cpy (List.replicate 12 (0 : Int)) r4) ∧
(((mget d4 (cpy (List.replicate 12 (0 : Int)) r4)).isSome = true →
R ((mget d4 (cpy (List.replicate 12 (0 : Int)) r4)).getD (0 : Int)) 0 d4) ∧
(¬ ((mget d4 (cpy (List.replicate 12 (0 : Int)) r4)).isSome = true) →
((((d4.length : Nat) : Int) = 16384 →
R 0 12 d4) ∧
(¬ (((d4.length : Nat) : Int) = 16384) →
(∃ I2 : Nat → Int → Int → (List (List Int × Int)) → (List Int) → Prop, (∃ m0, I2 m0 r 0 d4 r4) ∧ ∀ m2 v v2 d5 v3, I2 m2 v v2 d5 v3 → 
((v2 < ((r4.length : Nat) : Int) →
((0 ≤ v2 ∧ v2 < ((v3.length : Nat) : Int)) ∧
(In64 ((gi v3 v2.toNat) - 1) ∧
(∃ fu, yi0 fu d d2 d3 d5 (v3.set v2.toNat ((gi v3 v2.toNat) - 1)) (fun r7 r8 y =>
((0 ≤ v2 ∧ v2 < (((v3.set v2.toNat ((gi v3 v2.toNat) - 1)).length : Nat) : Int)) ∧
(In64 ((gi (v3.set v2.toNat ((gi v3 v2.toNat) - 1)) v2.toNat) + 1) ∧
((r8 = 0 →
(In64 (r7 + 1) ∧
(In64 (v2 + 1) ∧
∃ m3, m3 < m2 ∧ I2 m3 (mnF v (r7 + 1)) (v2 + 1) y ((v3.set v2.toNat ((gi v3 v2.toNat) - 1)).set v2.toNat ((gi (v3.set v2.toNat ((gi v3 v2.toNat) - 1)) v2.toNat) + 1))))) ∧
(¬ (r8 = 0) →
R 0 r8 y))))))))) ∧
(¬ (v2 < ((r4.length : Nat) : Int)) →
(KOk 12 d5 ∧
R v 0 (mput d5 (cpy (List.replicate 12 (0 : Int)) r4) v)))))))))))) ∧
(¬ (r3 = true) →
R (-1) 0 d4))) ∧
(¬ (r6 = 0) →
R 0 r6 d4)))))))))) ∧
(¬ (r2 = 0) →
R 0 r2 d4)))
def yi9 : Nat → Int → (List E3) → Int → (List (List Int × Int)) → (List Int) → (Int → Int → (List (List Int × Int)) → Prop) → Prop
  | 0 => fun _ _ _ _ _ _ => False
  | nf + 1 => fun d d2 d3 d4 i R => yjf (yi9 nf) d d2 d3 d4 i R
theorem yjI {Rec : Int → (List E3) → Int → (List (List Int × Int)) → (List Int) → (Int → Int → (List (List Int × Int)) → Prop) → Prop} (hrec : ∀ {S O : Nat → Prop} {w : World} {d d2 d3 d4 i gc Ad ld cd gm Ai li ci} {R : Int → Int → (List (List Int × Int)) → Prop} (h : Rec d d2 d3 d4 i R) (hS : Sep w S O w (rl [Res.box 211 gc [(Value.int .i64 d), (Value.slice Ad ld cd), (Value.int .i64 d3), (Value.map (some gm))], Res.ro (FP.sl c3 Ad ld cd d2), Res.obj gm (mapO (Value.int .i64) d4), Res.ro (FP.sl cI Ai li ci i)])), Calls Tryz.prog 158 #[(Value.pointer (some (⟨gc, 0, none⟩ : Addr))), (Value.slice Ai li ci)] w fun e w' => ∃ r9 r10 z, e = .returned (Value.tuple #[(Value.int .i64 r9), (Value.int .i64 r10)]) ∧ Sep w S O w' (rl [Res.box 211 gc [(Value.int .i64 d), (Value.slice Ad ld cd), (Value.int .i64 d3), (Value.map (some gm))], Res.obj gm (mapO (Value.int .i64) z)]) ∧ R r9 r10 z) {S O : Nat → Prop} {w : World} {d d2 d3 d4 i gc Ad ld cd gm Ai li ci} {R : Int → Int → (List (List Int × Int)) → Prop} (h : yjf Rec d d2 d3 d4 i R) (hS : Sep w S O w (rl [Res.box 211 gc [(Value.int .i64 d), (Value.slice Ad ld cd), (Value.int .i64 d3), (Value.map (some gm))], Res.ro (FP.sl c3 Ad ld cd d2), Res.obj gm (mapO (Value.int .i64) d4), Res.ro (FP.sl cI Ai li ci i)])) :
    Calls Tryz.prog 158 #[(.pointer (some (⟨gc, 0, none⟩ : Addr))), (.slice Ai li ci)] w fun e w' => ∃ r9 r10 z, e = .returned (.tuple #[(ii r9), (ii r10)]) ∧ Sep w S O w' (rl [Res.box 211 gc [(ii d), (.slice Ad ld cd), (ii d3), (Value.map (some gm))], Res.obj gm (mapO (.int .i64) z)]) ∧ R r9 r10 z := by
  unfold yjf at h; refine yan (l := [(.pointer (some (⟨gc, 0, none⟩ : Addr))), (.slice Ai li ci)]) func158 rfl ntmps158 (Nat.le_of_ble_eq_true rfl) (zs (zq (za (ii 0)) (zq (za (ii 0)) (yaa (zs (zq (zm (.slice Ai li ci)) (zn (yal rfl (am1 rfl) ykz ((yjq h (yaN _) (hS.rdr 3 rfl)).mono ?_))))))))); rintro _ w2 ⟨r, r2, rfl, hC, h⟩; replace hS := hS.pur hC.pure; clear hC; refine ⟨_, rfl, ?_⟩; refine zb (zq (zm (.tuple #[(ii r), (ii r2)])) (zq (zx (ii r)) (zq (zx (ii r2)) (zq (za (ii r)) (zq (za (ii r2)) (yaa (yaf (zs (zq (zm (ii r2)) (zq zN (yaa ?_))))))))))); by_cases hp : r2 = 0
  · replace h := h.1 hp; refine ze hp (yag (yaf (zs (zq (zm (ii r)) (zq zL (yaa ?_)))))); by_cases hp2 : r < 0
    · replace h := h.1 hp2; exact zc hp2 (zs (zq (za (ii (-1))) (zq (za (ii 0)) (yaa (ybF rfl rfl rfl ⟨_, _, _, rfl, (hS.sel [0, 2] (by decide)), h⟩)))))
    · replace h := h.2 hp2; refine zd hp2 (yag (yaf (zs (zq (zm (ii r)) (zq (zm (.pointer (some (⟨gc, 0, none⟩ : Addr)))) (zq (ycz rfl) (zq (yam rfl underlying211 rfl yaj) (zq (zl underlying3 (Row.cell (hS.bx 0 rfl) (i := 2) rfl)) ?_)))))))); obtain ⟨hi, h⟩ := h; refine zq (v_mul rfl rfl hi) ?_; obtain ⟨hi2, h⟩ := h; refine zq (zS hi2) (zq zG (yaa ?_)); by_cases hp3 : ((2 * d3) - 2) < r
      · replace h := h.1 hp3; refine zc hp3 (zs (zq (zm (ii r)) (zq (zm (.pointer (some (⟨gc, 0, none⟩ : Addr)))) (zq (ycz rfl) (zq (yam rfl underlying211 rfl yaj) (zq (zl underlying3 (Row.cell (hS.bx 0 rfl) (i := 2) rfl)) ?_)))))); obtain ⟨hi3, h⟩ := h; exact zq (zS hi3) (zq (za (ii (r - d3))) (zq (za (ii 0)) (yaa (ybF rfl rfl rfl ⟨_, _, _, rfl, (hS.sel [0, 2] (by decide)), h⟩))))
      · replace h := h.2 hp3; refine zd hp3 (yag (zs (zq (zm (.pointer (some (⟨gc, 0, none⟩ : Addr)))) (zq (ycz rfl) (zq (yam rfl underlying211 rfl yas) (zq (yav (vs := [(ii d), (.slice Ad ld cd)]) rfl underlying24 rfl yas ⟨Row.cell (hS.bx 0 rfl) (i := 0) rfl, Row.cell (hS.bx 0 rfl) (i := 1) rfl, trivial⟩) (zq (zm (.slice Ai li ci)) (zn (yal rfl (am2 rfl rfl) enter_19 ((yep h (yaN _) (hS.rdr 1 rfl) (hS.rdr 3 rfl)).mono ?_)))))))))); rintro _ w3 ⟨r3, r4, r5, r6, Ar, lr, cr, Ar2, lr2, cr2, rfl, hC, h⟩; replace hS := hS.call2 (hC.widen (yea (ybl (fI .i64) _ _ _ _ _) (yea (ybl (fI .i64) _ _ _ _ _) ye0)) hS.blt) 4 0 5 1 rfl rfl (by decide) (by decide); clear hC; refine ⟨_, rfl, ?_⟩; refine zb (zq (zm (.tuple #[(.bool (r3)), (.slice Ar lr cr), (.slice Ar2 lr2 cr2), (ii r6)])) (zq (zx (.bool (r3))) (zq (zx (.slice Ar lr cr)) (zq (zx (.slice Ar2 lr2 cr2)) (zq (zx (ii r6)) (zq (za (.bool (r3))) (zq (za (.slice Ar lr cr)) (zq (za (.slice Ar2 lr2 cr2)) (zq (za (ii r6)) (yaa (yaf (zs (zq (zm (ii r6)) (zq zN (yaa ?_))))))))))))))); by_cases hp4 : r6 = 0
        · replace h := h.1 hp4; refine ze hp4 (yag (yaf (zs (zq (zm (.bool (r3))) (zq (ydn rfl) (yaa ?_)))))); by_cases hp5 : r3 = true
          · replace h := h.1 hp5; refine yax (congrArg Value.bool (congrArg Bool.not hp5)) (yag (zs (zn (ybJ yjO ?_)))); intro g w4 hN; replace hS := hS.made (n := 12) 6 rfl cI (ii 0) (0 : Int) (fun _ _ => rfl) (hN : New _ _ _ (Array.replicate 12 (ii 0)) 212) (by decide); clear hN; refine zb (yaa (zs (zq (ykw rfl underlying212 yaj) (zq (zm (.slice Ar lr cr)) ?_)))); obtain ⟨hx, h⟩ := h; refine zn (n_cpy rfl rfl underlying25 yaj hS 6 rfl (hS.rdo 4 rfl) hx ?_); clear hS; intro w5 hS; refine zb (yaa (yaf (yaf (ybt [0, 1, 2, 3, 4, 5, 6, 7, 8, 9, 10] st0 yaQ (by kernel_rfl) (by kernel_rfl) ?_)))); replace hS := hS.drew; refine zp (zm (.pointer (some (⟨gc, 0, none⟩ : Addr)))) (zp (ycz rfl) (zp (yam rfl underlying211 rfl yjM) (zp (zl underlying209 (Row.cell (hS.bx 0 rfl) (i := 3) rfl)) (zp (yav (vs := (cpy (List.replicate 12 (0 : Int)) r4).map (.int .i64)) rfl underlying212 rfl (ygv yjO (hS.rdo 6 rfl)) (yfG (hS.rdo 6 rfl))) ?_)))); obtain ⟨hx2, h⟩ := h; obtain ⟨hx3, h⟩ := h; refine rp_n rfl rfl rfl rfl (n_val (v_mget (vE := (.int .i64)) (x0 := (0 : Int)) (ykn) hx2 hx3 rfl rfl underlying209 yaj (hS.mp 2 rfl)) ?_); refine zb (zp (zm (.tuple #[(ii ((mget d4 (cpy (List.replicate 12 (0 : Int)) r4)).getD (0 : Int))), (.bool ((mget d4 (cpy (List.replicate 12 (0 : Int)) r4)).isSome))])) (zp (zx (ii ((mget d4 (cpy (List.replicate 12 (0 : Int)) r4)).getD (0 : Int)))) (zp (zx (.bool ((mget d4 (cpy (List.replicate 12 (0 : Int)) r4)).isSome))) (zp (za (ii ((mget d4 (cpy (List.replicate 12 (0 : Int)) r4)).getD (0 : Int)))) (zp (za (.bool ((mget d4 (cpy (List.replicate 12 (0 : Int)) r4)).isSome))) (yb4 (zs (zq (zm (.bool ((mget d4 (cpy (List.replicate 12 (0 : Int)) r4)).isSome))) (yaa ?_))))))))); by_cases hp6 : (mget d4 (cpy (List.replicate 12 (0 : Int)) r4)).isSome = true
            · replace h := h.1 hp6; exact yaq (congrArg Value.bool hp6) (zs (zq (zm (ii ((mget d4 (cpy (List.replicate 12 (0 : Int)) r4)).getD (0 : Int)))) (zq (za (ii ((mget d4 (cpy (List.replicate 12 (0 : Int)) r4)).getD (0 : Int)))) (zq (za (ii 0)) (yaa (ybF rfl rfl rfl ⟨_, _, _, rfl, (hS.sel [0, 2] (by decide)), h⟩))))))
            · replace h := h.2 hp6; refine yax (congrArg Value.bool (Bool.eq_false_iff.2 hp6)) (yag (yaf (zs (zq (zm (.pointer (some (⟨gc, 0, none⟩ : Addr)))) (zq (ycz rfl) (zq (yam rfl underlying211 rfl yjM) (zq (zl underlying209 (Row.cell (hS.bx 0 rfl) (i := 3) rfl)) (zq (v_mlen rfl underlying209 (hS.mp 2 rfl)) (zq zE (yaa ?_)))))))))); by_cases hp7 : ((d4.length : Nat) : Int) = 16384
              · replace h := h.1 hp7; exact zc hp7 (zs (zq (za (ii 0)) (zq (za (ii 12)) (yaa (ybF rfl rfl rfl ⟨_, _, _, rfl, (hS.sel [0, 2] (by decide)), h⟩)))))
              · replace h := h.2 hp7; refine zd hp7 (yag (zs (zq (zm (ii r)) (zq (za (ii r)) (yaa (yaf (zs (zq (zm (.slice Ar lr cr)) (zq (ybc (n := r4.length) rfl underlying26 (ya2 (hS.rdo 4 rfl))) (zq (zm (ii 0)) (yaa (yak ?_)))))))))))); obtain ⟨I2, ⟨m0, h0⟩, hr⟩ := h; refine yaO (fun m E ds w' => ∃ v v2 d5 v3 Av lv cv, I2 m v v2 d5 v3 ∧ ds = [] ∧ E 0 = (Value.pointer (some (⟨gc, 0, none⟩ : Addr))) ∧ E 9 = (Value.slice Av lv cv) ∧ E 11 = (Value.pointer (some (⟨g, 0, none⟩ : Addr))) ∧ E 14 = (ii v) ∧ E 80 = (ii ((r4.length : Nat) : Int)) ∧ E 81 = (ii v2) ∧ Sep w S O w' (rl [Res.box 211 gc [(ii d), (.slice Ad ld cd), (ii d3), (Value.map (some gm))], Res.ro (FP.sl c3 Ad ld cd d2), Res.obj gm (mapO (.int .i64) d5), Res.own cI 3 Av lv cv v3, Res.own cI 212 (some ⟨g, 0, none⟩) 12 12 (cpy (List.replicate 12 (0 : Int)) r4)])) m0 ⟨_, _, _, _, _, _, _, h0, rfl, rfl, rfl, rfl, rfl, rfl, rfl, (hS.sel [0, 1, 2, 4, 6] (by decide))⟩ ?_; clear h0 hS; rintro m2 E ds w6 ⟨v, v2, d5, v3, Av, lv, cv, h, rfl, hE0, hE9, hE11, hE14, hE80, hE81, hS⟩ again; replace h := hr m2 v v2 d5 v3 h; clear hr; refine zs (zq (yd4 hE81 hE80) (yaa (yaf ?_))); by_cases hp8 : v2 < ((r4.length : Nat) : Int)
                · replace h := h.1 hp8; refine zc hp8 (yag (yaf (yak (zs (zq (yae hE81) (zq (za (ii v2)) (yaa (zs (zq (yae hE9) (zq (zm (ii v2)) ?_)))))))))); obtain ⟨hx4, h⟩ := h; refine zq (zi underlying26 yaj (ybh (hS.rdo 3 rfl) hx4)) (zq (yaA (v := (ii (gi v3 v2.toNat))) rfl underlying3 rfl (rd_1 (hS.rdo 3 rfl) hx4 (fun q => ybs q) rfl)) ?_); obtain ⟨hi4, h⟩ := h; refine zq (zS hi4) (zq (zi underlying26 yaj (ybh (hS.rdo 3 rfl) hx4)) (zo (zt (ii ((gi v3 v2.toNat) - 1)) yaj (hS.wr 3 rfl rfl hx4) ?_))); intro w7 e1; replace hS := hS.st 3 rfl rfl hx4 (x := (gi v3 v2.toNat) - 1) rfl e1; clear e1; refine zb (yaa (zs (zq (yae (v := (.pointer (some (⟨gc, 0, none⟩ : Addr)))) hE0) (zq (yae hE9) ?_)))); obtain ⟨fu, h⟩ := h; have hB := hS.lend (asc [(0, 0), (2, 1), (3, 2)]) [0, 1, 2, 3] (by decide) ⟨.inl (ycu rfl), .inr rfl, .inl (ycu rfl), .inl (ycu rfl), trivial⟩; refine zn (yeH (vs := #[(.pointer (some (⟨gc, 0, none⟩ : Addr))), (.slice Av lv cv)]) (us := #[]) rfl (am2 rfl rfl) ykv ((ybp (by simp) (yjC h hB)).mono ?_)); rintro _ w8 ⟨r7, r8, y, rfl, hC, h⟩; replace hS := hS.back (asc [(0, 0), (2, 1), (3, 2)]) (yfu (by decide)) hC; clear hC hB; refine ⟨_, rfl, ?_⟩; refine zb (zq (zm (.tuple #[(ii r7), (ii r8)])) (zq (zx (ii r7)) (zq (zx (ii r8)) (zq (za (ii r7)) (zq (za (ii r8)) (yaa (zs (zq (yae hE9) (zq (zm (ii v2)) ?_))))))))); obtain ⟨hx5, h⟩ := h; refine zq (zi underlying26 yaj (ybh (hS.rdo 3 rfl) hx5)) (zq (yaA (v := (ii (gi (v3.set v2.toNat ((gi v3 v2.toNat) - 1)) v2.toNat))) rfl underlying3 rfl (rd_1 (hS.rdo 3 rfl) hx5 (fun q => ybs q) rfl)) ?_); obtain ⟨hi5, h⟩ := h; refine zq (zA hi5) (zq (zi underlying26 yaj (ybh (hS.rdo 3 rfl) hx5)) (zo (zt (ii ((gi (v3.set v2.toNat ((gi v3 v2.toNat) - 1)) v2.toNat) + 1)) yaj (hS.wr 3 rfl rfl hx5) ?_))); intro w9 e1; replace hS := hS.st 3 rfl rfl hx5 (x := (gi (v3.set v2.toNat ((gi v3 v2.toNat) - 1)) v2.toNat) + 1) rfl e1; clear e1; refine zb (yaa (yaf (zs (zq (zm (ii r8)) (zq zN (yaa ?_)))))); by_cases hp9 : r8 = 0
                  · replace h := h.1 hp9; refine ze hp9 (yag (zr (zq (yae hE14) (zq (zm (ii r7)) ?_)))); obtain ⟨hi6, h⟩ := h; refine zq (zA hi6) (zq (yne rfl rfl) (zq (za (ii (mnF v (r7 + 1)))) (yaa (yai (zr ?_))))); obtain ⟨hi7, h⟩ := h; refine zq (ycv hE81 rfl hi7) (zq (zm (ii (v2 + 1))) (yaa ?_)); obtain ⟨mq, hlt, h⟩ := h; exact again mq _ _ _ ⟨_, _, _, _, _, _, _, h, rfl, hE0, hE9, hE11, rfl, hE80, rfl, (hS.sel [0, 1, 2, 3, 4] (by decide))⟩ hlt
                  · replace h := h.2 hp9; exact zf hp9 (zs (zq (zm (ii r8)) (zq (za (ii 0)) (zq (za (ii r8)) (yaa (ybF rfl rfl rfl ⟨_, _, _, rfl, (hS.sel [0, 2] (by decide)), h⟩))))))
                · replace h := h.2 hp8; refine zd hp8 (yaH rfl (yaf (ybt [0, 1, 2, 3, 4, 5, 6] st0 yaQ (by kernel_rfl) (by kernel_rfl) ?_))); replace hS := hS.drew; refine zp (yae (v := (.pointer (some (⟨gc, 0, none⟩ : Addr)))) hE0) (zp (ycz rfl) (zp (yam rfl underlying211 rfl yjM) (zp (zl underlying209 (Row.cell (hS.bx 0 rfl) (i := 3) rfl)) (zp (yav (vs := (cpy (List.replicate 12 (0 : Int)) r4).map (.int .i64)) hE11 underlying212 rfl (ygv yjO (hS.rdo 4 rfl)) (yfG (hS.rdo 4 rfl))) (zp (yae hE14) ?_))))); obtain ⟨hx6, h⟩ := h; refine yhC rfl rfl rfl (n_mput (vE := (.int .i64)) (ykn) hx6 hx3 (v := v) rfl rfl rfl underlying209 (hS.mp 2 rfl) ?_); intro w10 e1 e2; replace hS := hS.mst 2 rfl e1 e2; clear e1 e2; exact zb (yb4 (zs (zq (yae hE14) (zq (za (ii v)) (zq (za (ii 0)) (yaa (ybF rfl rfl rfl ⟨_, _, _, rfl, (hS.sel [0, 2] (by decide)), h⟩)))))))
          · replace h := h.2 hp5; exact yaq (congrArg Value.bool (congrArg Bool.not (Bool.eq_false_iff.2 hp5))) (zs (zq (za (ii (-1))) (zq (za (ii 0)) (yaa (ybF rfl rfl rfl ⟨_, _, _, rfl, (hS.sel [0, 2] (by decide)), h⟩)))))
        · replace h := h.2 hp4; exact zf hp4 (zs (zq (zm (ii r6)) (zq (za (ii 0)) (zq (za (ii r6)) (yaa (ybF rfl rfl rfl ⟨_, _, _, rfl, (hS.sel [0, 2] (by decide)), h⟩))))))
  · replace h := h.2 hp; exact zf hp (zs (zq (zm (ii r2)) (zq (za (ii 0)) (zq (za (ii r2)) (yaa (ybF rfl rfl rfl ⟨_, _, _, rfl, (hS.sel [0, 2] (by decide)), h⟩))))))
theorem yjQ {nf} : ∀ {S O : Nat → Prop} {w : World} {d d2 d3 d4 i gc Ad ld cd gm Ai li ci} {R : Int → Int → (List (List Int × Int)) → Prop} (h : yi9 nf d d2 d3 d4 i R) (hS : Sep w S O w (rl [Res.box 211 gc [(Value.int .i64 d), (Value.slice Ad ld cd), (Value.int .i64 d3), (Value.map (some gm))], Res.ro (FP.sl c3 Ad ld cd d2), Res.obj gm (mapO (Value.int .i64) d4), Res.ro (FP.sl cI Ai li ci i)])), Calls Tryz.prog 158 #[(Value.pointer (some (⟨gc, 0, none⟩ : Addr))), (Value.slice Ai li ci)] w fun e w' => ∃ r9 r10 z, e = .returned (Value.tuple #[(Value.int .i64 r9), (Value.int .i64 r10)]) ∧ Sep w S O w' (rl [Res.box 211 gc [(Value.int .i64 d), (Value.slice Ad ld cd), (Value.int .i64 d3), (Value.map (some gm))], Res.obj gm (mapO (Value.int .i64) z)]) ∧ R r9 r10 z := by
  induction nf with
  | zero => intros; rename_i h _; exact h.elim
  | succ nf ih => intro S O w d d2 d3 d4 i gc Ad ld cd gm Ai li ci R h hS; exact yjI ih h hS
def yiZ (g : Int) (g2 : List E3) (d : List Int) (R : Int → Int → Prop) : Prop :=
ydo g g2 ([d]) (fun r =>
((r = 0 →
yjw g g2 (fun r2 =>
((r2 = 0 →
False) ∧
(¬ (r2 = 0) →
R 0 r2)))
(fun f f2 f3 m2 r3 =>
((r3 = 0 →
(∃ fu, yi9 fu f f2 f3 m2 d (fun r4 r5 y =>
R r4 r5))) ∧
(¬ (r3 = 0) →
R 0 r3)))) ∧
(¬ (r = 0) →
R 0 r)))
theorem yjB {O : Nat → Prop} {w : World} {g g2 d Ag lg cg Ad ld cd} {R : Int → Int → Prop} (h : yiZ g g2 d R) (hO : ∀ k, O k → k < w.heap.size) (hA0 : (FP.sl c3 Ag lg cg g2).P O w) (hA1 : (FP.sl cI Ad ld cd d).P O w) :
    Calls Tryz.prog 97 #[(.agg #[(ii g), (.slice Ag lg cg)]), (.slice Ad ld cd)] w fun e w' => ∃ r6 r7, e = .returned (.tuple #[(ii r6), (ii r7)]) ∧ Sep w no O w' (rl []) ∧ R r6 r7 := by
  unfold yiZ at h; have hS : Sep w no O w (rl [Res.ro (FP.sl c3 Ag lg cg g2), Res.ro (FP.sl cI Ad ld cd d)]) := Sep.startl hO [(FP.sl c3 Ag lg cg g2), (FP.sl cI Ad ld cd d)] ⟨hA0, hA1, trivial⟩; refine yan (l := [(.agg #[(ii g), (.slice Ag lg cg)]), (.slice Ad ld cd)]) func97 rfl ntmps97 (Nat.le_of_ble_eq_true rfl) (zs (zn (yb6 (v := (.agg #[(ii g), (.slice Ag lg cg)])) rfl ?_))); intro g3 w2 hN; replace hS : Sep w no O w2 (stl _ 2 (Res.box 24 g3 [(ii g), (.slice Ag lg cg)])) := hS.new 2 rfl hN; clear hN; refine zb (zq (za (ii 0)) (zq (za (ii 0)) (yaa (yaf (zs (zq (yav (vs := [(ii g), (.slice Ag lg cg)]) rfl underlying24 rfl yas ⟨Row.cell (hS.bx 2 rfl) (i := 0) rfl, Row.cell (hS.bx 2 rfl) (i := 1) rfl, trivial⟩) (zq (zm (.slice Ad ld cd)) (zn (yaR (l := [(0, (.slice Ad ld cd))]) (cells := [(.slice Ad ld cd)]) (bp1 rfl) underlying44 ya0 rfl rfl ?_))))))))); intro g4 w3 hN; replace hS := hS.lit (n := 1) (c := (cL cI)) 3 rfl hN ([d] : List (List Int)) rfl (by decide) ⟨[(.slice Ad ld cd)], _, rfl, (ro_R (hS.ro 1 rfl)), rfl⟩; clear hN; refine zb (zn (yal rfl (am2 rfl rfl) enter_99 ((yjT h (yaN _) (hS.rdr 0 rfl) (hS.rdo 3 rfl)).mono ?_))); rintro _ w4 ⟨r, rfl, hC, h⟩; replace hS := hS.pur hC.pure; clear hC; refine ⟨_, rfl, ?_⟩; refine zb (zq (za (ii r)) (yaa (zs (zq (zm (ii r)) (zq zN (yaa ?_)))))); by_cases hp : r = 0
  · replace h := h.1 hp; refine ze hp (yag (zs (zq (yav (vs := [(ii g), (.slice Ag lg cg)]) rfl underlying24 rfl yas ⟨Row.cell (hS.bx 2 rfl) (i := 0) rfl, Row.cell (hS.bx 2 rfl) (i := 1) rfl, trivial⟩) (zn (yal rfl (am1 rfl) enter_157 ((pok_rank_of h hS.blt (hS.ro 0 rfl)).mono ?_)))))); rintro _ w5 (⟨r2, rfl, hC, h⟩ | ⟨f, f2, f3, m2, r3, gr, Af, lf, cf, gm, rfl, hC, h⟩)
    · replace hS := hS.pur hC.pure; clear hC; refine ⟨_, rfl, ?_⟩; refine zb (zq (zm (.tuple #[(.pointer none), (ii r2)])) (zq (zx (.pointer none)) (zq (zx (ii r2)) (zq (za (.pointer none)) (zq (za (ii r2)) (yaa (yaf (zs (zq (zm (ii r2)) (zq zN (yaa ?_))))))))))); by_cases hp2 : r2 = 0
      · replace h := h.1 hp2; exact ze hp2 (yag (zs (zq (zm (.pointer none)) (zq (zm (.slice Ad ld cd)) h.elim))))
      · replace h := h.2 hp2; exact zf hp2 (zs (zq (zm (ii r2)) (zq (za (ii 0)) (zq (za (ii r2)) (yaa (ybF rfl rfl rfl ⟨_, _, rfl, (hS.sel [] (by decide)), h⟩))))))
    · replace hS := hS.call3 hC 4 5 6 rfl rfl rfl (by decide) (by decide) (by decide); clear hC; refine ⟨_, rfl, ?_⟩; refine zb (zq (zm (.tuple #[(.pointer (some (⟨gr, 0, none⟩ : Addr))), (ii r3)])) (zq (zx (.pointer (some (⟨gr, 0, none⟩ : Addr)))) (zq (zx (ii r3)) (zq (za (.pointer (some (⟨gr, 0, none⟩ : Addr)))) (zq (za (ii r3)) (yaa (yaf (zs (zq (zm (ii r3)) (zq zN (yaa ?_))))))))))); by_cases hp3 : r3 = 0
      · replace h := h.1 hp3; refine ze hp3 (yag (zs (zq (zm (.pointer (some (⟨gr, 0, none⟩ : Addr)))) (zq (zm (.slice Ad ld cd)) ?_)))); obtain ⟨fu, h⟩ := h; have hB := hS.lend (asc [(4, 0), (6, 1)]) [4, 5, 6, 1] (by decide) ⟨.inl (ycu rfl), .inr rfl, .inl (ycu rfl), .inr rfl, trivial⟩; refine zn (yeH (vs := #[(.pointer (some (⟨gr, 0, none⟩ : Addr))), (.slice Ad ld cd)]) (us := #[]) rfl (am2 rfl rfl) ykv ((ybp (by simp) (yjQ h hB)).mono ?_)); rintro _ w6 ⟨r4, r5, y, rfl, hC, h⟩; replace hS := hS.back (asc [(4, 0), (6, 1)]) (yfu (by decide)) hC; clear hC hB; refine ⟨_, rfl, ?_⟩; exact zb (zq (zx (ii r4)) (zq (zx (ii r5)) (zq (za (ii r4)) (zq (za (ii r5)) (yaa (ybF rfl rfl rfl ⟨_, _, rfl, (hS.sel [] (by decide)), h⟩))))))
      · replace h := h.2 hp3; exact zf hp3 (zs (zq (zm (ii r3)) (zq (za (ii 0)) (zq (za (ii r3)) (yaa (ybF rfl rfl rfl ⟨_, _, rfl, (hS.sel [] (by decide)), h⟩))))))
  · replace h := h.2 hp; exact zf hp (zs (zq (zm (ii r)) (zq (za (ii 0)) (zq (za (ii r)) (yaa (ybF rfl rfl rfl ⟨_, _, rfl, (hS.sel [] (by decide)), h⟩))))))
end Go.Proofs.YtncilechkclmbaaGreat

/- Pure forms of functions, made by program (pf.py), each with the proof that the code does so. -/
namespace Go.Proofs.YtncilechkclmbaaGreat
open Go Go.RowKit Go.Shelf Go.Proofs.Tryz
set_option linter.unusedVariables false
set_option maxRecDepth 100000
set_option maxHeartbeats 1000000
end Go.Proofs.YtncilechkclmbaaGreat

/- Pure forms of functions, made by program (pf.py), each with the proof that the code does so. -/
namespace Go.Proofs.YtncilechkclmbaaGreat
open Go Go.RowKit Go.Shelf Go.Proofs.Tryz
set_option linter.unusedVariables false
set_option maxRecDepth 100000
set_option maxHeartbeats 1000000
def ymc (a : List Int) (b : List Int) (R : Int → Prop) : Prop :=
(∃ I2 : Nat → Int → Prop, (∃ m0, I2 m0 0) ∧ ∀ m2 v, I2 m2 v → 
((v < ((a.length : Nat) : Int) →
((0 ≤ v ∧ v < ((a.length : Nat) : Int)) ∧
((0 ≤ v ∧ v < ((b.length : Nat) : Int)) ∧
(((gi a v.toNat) < (gi b v.toNat) →
R (-1)) ∧
(¬ ((gi a v.toNat) < (gi b v.toNat)) →
(((gi b v.toNat) < (gi a v.toNat) →
R 1) ∧
(¬ ((gi b v.toNat) < (gi a v.toNat)) →
(In64 (v + 1) ∧
∃ m3, m3 < m2 ∧ I2 m3 (v + 1))))))))) ∧
(¬ (v < ((a.length : Nat) : Int)) →
R 0)))
theorem pok_r17_Order {O : Nat → Prop} {w : World} {a b Aa la ca Ab lb cb} {R : Int → Prop} (h : ymc a b R) (hO : ∀ k, O k → k < w.heap.size) (hA0 : (FP.sl cI Aa la ca a).P O w) (hA1 : (FP.sl cI Ab lb cb b).P O w) :
    Calls Tryz.prog 229 #[(.slice Aa la ca), (.slice Ab lb cb)] w fun e w' => ∃ r, e = .returned (ii r) ∧ Sep w no O w' (rl []) ∧ R r := by
  unfold ymc at h; have hS : Sep w no O w (rl [Res.ro (FP.sl cI Aa la ca a), Res.ro (FP.sl cI Ab lb cb b)]) := Sep.startl hO [(FP.sl cI Aa la ca a), (FP.sl cI Ab lb cb b)] ⟨hA0, hA1, trivial⟩; refine yan (l := [(.slice Aa la ca), (.slice Ab lb cb)]) func229 rfl ntmps229 (Nat.le_of_ble_eq_true rfl) (zs (zq (za (ii 0)) (yaa (yaf (zs (zq (za (ii 0)) (yaa (yak ?_)))))))); obtain ⟨I2, ⟨m0, h0⟩, hr⟩ := h; refine yaO (fun m E ds w' => ∃ v, I2 m v ∧ ds = [] ∧ E 0 = (Value.slice Aa la ca) ∧ E 1 = (Value.slice Ab lb cb) ∧ E 5 = (ii v) ∧ Sep w no O w' (rl [Res.ro (FP.sl cI Aa la ca a), Res.ro (FP.sl cI Ab lb cb b)])) m0 ⟨_, h0, rfl, rfl, rfl, rfl, (hS.sel [0, 1] (by decide))⟩ ?_; clear h0 hS; rintro m2 E ds w2 ⟨v, h, rfl, hE0, hE1, hE5, hS⟩ again; replace h := hr m2 v h; clear hr; refine yaf (zs (zq (yae hE5) (zq (yae hE0) (zq (ybc (n := a.length) rfl underlying26 (ya2 (hS.rdr 0 rfl))) (zq zL (yaa ?_)))))); by_cases hp : v < ((a.length : Nat) : Int)
  · replace h := h.1 hp; refine zc hp (yag (yaf (yak (yaf (yaf (ybt [0, 1, 2, 3, 4, 5, 6, 7, 8] st0 yaQ (by kernel_rfl) (by kernel_rfl) ?_)))))); replace hS := hS.drew; refine zp (yae hE0) (zp (yae hE5) ?_); obtain ⟨hx, h⟩ := h; refine zp (zi underlying26 yaj (ybh (hS.rdr 0 rfl) hx)) (zp (yaA (v := (ii (gi a v.toNat))) rfl underlying3 rfl (rd_1 (hS.rdr 0 rfl) hx (fun q => ybs q) rfl)) ?_); refine zp (yae hE1) (zp (yae hE5) ?_); obtain ⟨hx2, h⟩ := h; refine zp (zi underlying26 yaj (ybh (hS.rdr 1 rfl) hx2)) (zp (yaA (v := (ii (gi b v.toNat))) rfl underlying3 rfl (rd_1 (hS.rdr 1 rfl) hx2 (fun q => ybs q) rfl)) ?_); refine zp zL (yb4 ?_); by_cases hp2 : (gi a v.toNat) < (gi b v.toNat)
    · replace h := h.1 hp2; exact zc hp2 (zs (zq (za (ii (-1))) (yaa (yah rfl rfl ⟨_, rfl, (hS.sel [] (by decide)), h⟩))))
    · replace h := h.2 hp2; refine zd hp2 (yag (yaf (ybt [0, 1, 2, 3, 4, 5, 6, 7, 8] st0 yaQ (by kernel_rfl) (by kernel_rfl) ?_))); replace hS := hS.drew; refine zp (yae hE0) (zp (yae hE5) (zp (zi underlying26 yaj (ybh (hS.rdr 0 rfl) hx)) (zp (yaA (v := (ii (gi a v.toNat))) rfl underlying3 rfl (rd_1 (hS.rdr 0 rfl) hx (fun q => ybs q) rfl)) ?_))); refine zp (yae hE1) (zp (yae hE5) (zp (zi underlying26 yaj (ybh (hS.rdr 1 rfl) hx2)) (zp (yaA (v := (ii (gi b v.toNat))) rfl underlying3 rfl (rd_1 (hS.rdr 1 rfl) hx2 (fun q => ybs q) rfl)) ?_))); refine zp zG (yb4 ?_); by_cases hp3 : (gi b v.toNat) < (gi a v.toNat)
      · replace h := h.1 hp3; exact zc hp3 (zs (zq (za (ii 1)) (yaa (yah rfl rfl ⟨_, rfl, (hS.sel [] (by decide)), h⟩))))
      · replace h := h.2 hp3; refine zd hp3 (yag (yai (zr (zq (yae hE5) ?_)))); obtain ⟨hi, h⟩ := h; refine zq (zA hi) (zq (za (ii (v + 1))) (yaa ?_)); obtain ⟨mq, hlt, h⟩ := h; exact again mq _ _ _ ⟨_, h, rfl, hE0, hE1, rfl, (hS.sel [0, 1] (by decide))⟩ hlt
  · replace h := h.2 hp; exact zd hp (yaH rfl (zs (zq (za (ii 0)) (yaa (yah rfl rfl ⟨_, rfl, (hS.sel [] (by decide)), h⟩)))))
end Go.Proofs.YtncilechkclmbaaGreat

/- What the finder of ranks comes to. -/
namespace Go.Proofs.YtncilechkclmbaaGreat
open Go Go.Proofs.Tryz
set_option linter.unusedVariables false
set_option linter.unusedSimpArgs false
theorem yjS {n : Nat} {d : List Int} {R : Int → Int → Prop} (hn : 1 ≤ n ∧ n ≤ 12) (hd : d.length = n) (hb : ∀ j, j < n → -1000000 ≤ gi d j ∧ gi d j ≤ 1000000) (h : R (dg d) 0) : yi3 d R := by
  unfold yi3
  refine ym9 (n := n) (by simp) (by simp) (fun k hk => ?_) ⟨fun _ => ?_, fun q => absurd rfl q⟩
  · have e : k = 0 := by simp at hk; omega
    subst e
    exact ⟨hd, yfN hd hn.1 hn.2 fun j hj => by have := hb j hj; show -1048576 ≤ gi d j ∧ gi d j ≤ 1048576; omega⟩
  refine ⟨fun m s v => Cnt d.length (fun k => s = sm k (gi d)) m v, Cnt.start rfl, ?_⟩
  rintro m _ _ ⟨k, rfl, rfl, hk, rfl⟩
  simp only [Int.toNat_natCast]
  refine ⟨fun hlt => ⟨by omega, ?_, ?_⟩, fun hge => ?_⟩
  · have h1 := yhw (f := gi d) (B := 1000000) (by omega) (n := k) (fun i hi => hb i (by omega))
    have h2 := hb k (by omega)
    exact i64 (by omega)
  · exact Cnt.next (by omega) (by omega) rfl
  · have e : k = d.length := by omega
    subst e; exact h
def errL (n : Int) : List (List Int) → Int
  | [] => 0
  | d :: t => if yaJ d n = 0 then errL n t else yaJ d n
theorem gx_succ {d : List Int} {t : List (List Int)} {k : Nat} : gx (d :: t) (k + 1) = gx t k := by simp [gx]
theorem gx_zero {d : List Int} {t : List (List Int)} : gx (d :: t) 0 = d := by simp [gx]
theorem errL_zero {n : Int} : ∀ {l : List (List Int)}, (∀ j, j < l.length → yaJ (gx l j) n = 0) → errL n l = 0
  | [], _ => rfl
  | d :: t, h => by
    have h0 := h 0 (by simp)
    rw [gx_zero] at h0
    unfold errL
    rw [if_pos h0]
    exact errL_zero fun j hj => by have := h (j + 1) (by simpa using hj); rwa [gx_succ] at this
theorem errL_at {n : Int} : ∀ {l : List (List Int)} {k : Nat}, k < l.length → (∀ j, j < k → yaJ (gx l j) n = 0) → yaJ (gx l k) n ≠ 0 → errL n l = yaJ (gx l k) n
  | [], k, hk, _, _ => by simp at hk
  | d :: t, 0, hk, h, hn => by
    rw [gx_zero] at hn ⊢
    unfold errL
    rw [if_neg hn]
  | d :: t, k + 1, hk, h, hn => by
    have h0 := h 0 (by omega)
    rw [gx_zero] at h0
    rw [gx_succ] at hn ⊢
    unfold errL
    rw [if_pos h0]
    exact errL_at (by simpa using hk) (fun j hj => by have := h (j + 1) (by omega); rwa [gx_succ] at this) hn
def givL (n : Int) (es : List E3) (l : List (List Int)) : Int := if yb2 n es = 0 then errL n l else yb2 n es
theorem givL_one {n : Int} {es : List E3} {d : List Int} : givL n es [d] = yaD n es 0 d := by
  rw [given0]
  unfold givL errL errL
  by_cases e : yaJ d n = 0 <;> simp [e]
theorem yjH {n : Int} {es : List E3} {l : List (List Int)} {R : Int → Prop} (hl : es.length ≤ 1000) (hll : l.length ≤ 1000) (h : R (givL n es l)) : ydo n es l R := by
  unfold ydo
  refine ⟨by omega, fun hg => ⟨fun hc => ?_, fun hc => ?_⟩, fun hg => ?_⟩
  · have hj : yb2 n es = 0 := by
      have := of_decide_eq_true hc
      unfold yb2; rw [if_pos this.1, if_pos this.2]
    have e : givL n es l = errL n l := by unfold givL; rw [if_pos hj]
    rw [e] at h
    refine ⟨Cnt l.length (fun k => ∀ j, j < k → yaJ (gx l j) n = 0), Cnt.start (fun j hj => absurd hj (by omega)), ?_⟩
    rintro m _ ⟨k, rfl, rfl, hk, hinv⟩
    simp only [Int.toNat_natCast]
    refine ⟨fun hlt => ⟨by omega, yhs ⟨fun h0 => Cnt.next (by omega) (by omega) fun j hj => ?_, fun hne => ?_⟩⟩, fun hge => ?_⟩
    · by_cases e : j = k
      · rw [e]; exact h0
      · exact hinv j (by omega)
    · rw [errL_at (by omega) hinv hne] at h; exact h
    · have e : k = l.length := by omega
      rw [errL_zero (by rw [← e]; exact hinv)] at h; exact h
  · have hj : yb2 n es = 13 := by
      unfold yb2; rw [if_pos hg, if_neg]
      intro q; exact hc (decide_eq_true ⟨hg, q⟩)
    have e : givL n es l = 13 := by unfold givL; rw [if_neg (by omega), hj]
    rw [e] at h; exact h
  · have hj : yb2 n es = yat n es := by unfold yb2; rw [if_neg hg]
    have e : givL n es l = yat n es := by unfold givL; rw [if_neg (by omega), hj]
    rw [e] at h; exact h
def keyF (r : List Int) : List Int := cpy (List.replicate 12 (0 : Int)) r
theorem ycU (r : List Int) : (keyF r).length = 12 := by unfold keyF; rw [cpy_length]; simp
theorem gi_keyF {r : List Int} {i : Nat} (hi : i < 12) : gi (keyF r) i = if i < r.length then gi r i else 0 := by
  unfold keyF
  rw [gi_cpy (by simpa using hi), yka hi]
theorem keyF_inj {n : Nat} {r r' : List Int} (hn : n ≤ 12) (h : r.length = n) (h' : r'.length = n) (e : keyF r = keyF r') : r = r' := by
  refine yfe (by omega) fun k hk => ?_
  have h1 := gi_keyF (r := r) (i := k) (by omega)
  have h2 := gi_keyF (r := r') (i := k) (by omega)
  rw [if_pos (by omega)] at h1 h2
  rw [← h1, ← h2, e]
structure MOk (n : Nat) (es : List E3) (m : List (List Int × Int)) : Prop where
  keys : KOk 12 m
  vals : ∀ p ∈ m, ∃ r, p.1 = keyF r ∧ Eff n r (dg r) ∧ dg r ≤ 5 ∧ RkOk n es r p.2
theorem MOk.nil (n : Nat) (es : List E3) : MOk n es [] := ⟨KOk.nil 12, fun p hp => by simp at hp⟩
theorem ygP {n : Nat} {r : List Int} (hr : Eff n r (dg r)) (h5 : dg r ≤ 5) : yfx 12 (keyF r) := by
  refine ⟨ycU r, fun x hx => ?_⟩
  obtain ⟨i, hi, rfl⟩ := List.getElem_of_mem hx
  rw [ycU] at hi
  rw [← yaY (by rw [ycU]; exact hi), gi_keyF hi]
  split
  · have hi2 : i < n := by rw [← hr.len]; assumption
    have := hr.pos i hi2
    have := hr.le hi2
    exact i64 (by omega)
  · exact i64 (by omega)
theorem MOk.put {n : Nat} {es : List E3} {m : List (List Int × Int)} (h : MOk n es m) {r : List Int} {v : Int} (hr : Eff n r (dg r)) (h5 : dg r ≤ 5) (hk : RkOk n es r v) : MOk n es (mput m (keyF r) v) := by
  have hK := h.keys.put (ygP hr h5) v
  refine ⟨hK, fun p hp => ?_⟩
  rcases mput_mem hp with e | e
  · obtain ⟨j, hj⟩ := List.mem_iff_getElem?.1 hp
    have h1 := mget_at hK.1 (k := p.1) (v := p.2) hj
    rw [e, mget_put, if_pos rfl] at h1
    cases h1
    exact ⟨r, e, hr, h5, hk⟩
  · exact h.vals p e
theorem MOk.get {n : Nat} {es : List E3} {m : List (List Int × Int)} (h : MOk n es m) (hn : n ≤ 12) {r : List Int} {v : Int} (hr : r.length = n) (hg : mget m (keyF r) = some v) : RkOk n es r v := by
  obtain ⟨r', h1, h2, h3, h4⟩ := h.vals _ (mget_mem hg)
  have e := keyF_inj hn hr h2.len h1
  subst e; exact h4
theorem nodup_le : ∀ {l K : List (List Int)}, l.Nodup → (∀ x ∈ l, x ∈ K) → l.length ≤ K.length
  | [], K, _, _ => Nat.zero_le _
  | a :: t, K, h, hs => by
    have h1 := List.nodup_cons.1 h
    have ha : a ∈ K := hs a (by simp)
    have h2 := nodup_le (l := t) (K := K.erase a) h1.2 fun x hx => (List.mem_erase_of_ne (by rintro rfl; exact h1.1 hx)).2 (hs x (by simp [hx]))
    rw [List.length_erase_of_mem ha] at h2
    have : 0 < K.length := List.length_pos_of_mem ha
    simp only [List.length_cons]
    omega
theorem flat_le {f : Nat → List (List Int)} {B : Nat} : ∀ {l : List Nat}, (∀ a ∈ l, (f a).length ≤ B) → (l.flatMap f).length ≤ l.length * B
  | [], _ => by simp
  | a :: t, h => by
    rw [List.flatMap_cons, List.length_append, List.length_cons, Nat.add_mul, Nat.one_mul]
    have := h a (by simp)
    have := flat_le (f := f) (l := t) fun b hb => h b (by simp [hb])
    omega
theorem ykr {n k : Nat} {e : List Int} (h : Eff (n + 1) e (k : Int)) : e ∈ ydb (n + 1) k := by
  refine (ydq n k e).2 ⟨h.len, fun a ha => ?_, by rw [sum_dg, h.deg]⟩
  obtain ⟨i, hi, rfl⟩ := List.getElem_of_mem ha
  rw [← yaY hi]
  exact h.pos i (by rw [← h.len]; exact hi)
theorem yj7 {n k : Nat} {e : List Int} (h : e ∈ ydb (n + 1) k) : Eff (n + 1) e (k : Int) := by
  obtain ⟨h1, h2, h3⟩ := (ydq n k e).1 h
  exact ⟨h1, fun v hv => (dg_entry h2 (by omega)).1, by rw [← sum_dg, h3]⟩
theorem MOk.len {n : Nat} {es : List E3} {m : List (List Int × Int)} (h : MOk n es m) (h1 : 1 ≤ n) (hn : n ≤ 5) : m.length ≤ 7776 := by
  obtain ⟨n, rfl⟩ : ∃ k, n = k + 1 := ⟨n - 1, by omega⟩
  have hN : (m.map (·.1)).Nodup := by
    have := h.keys.1
    unfold List.Nodup
    rw [List.pairwise_map]
    exact this
  have h2 := nodup_le (K := (List.range 6).flatMap fun k => (ydb (n + 1) k).map keyF) hN fun x hx => by
    obtain ⟨p, hp, rfl⟩ := List.mem_map.1 hx
    obtain ⟨r, e, hr, h5, -⟩ := h.vals p hp
    obtain ⟨k, hk⟩ : ∃ k : Nat, dg r = (k : Int) := ⟨(dg r).toNat, by have := hr.nonneg; omega⟩
    rw [hk] at hr
    rw [List.mem_flatMap]
    exact ⟨k, List.mem_range.2 (by omega), List.mem_map.2 ⟨r, ykr hr, e.symm⟩⟩
  have h3 := flat_le (f := fun k => (ydb (n + 1) k).map keyF) (B := 1296) (l := List.range 6) fun k hk => by
    rw [List.length_map]
    have h1 := ygf n k
    have h2 : (k + 1) ^ n ≤ 6 ^ n := Nat.pow_le_pow_left (by have := List.mem_range.1 hk; omega) n
    have h3 : 6 ^ n ≤ 6 ^ 4 := Nat.pow_le_pow_right (by omega) (by omega)
    omega
  simp only [List.length_map, List.length_range] at h2 h3
  omega
structure GOk (n : Nat) (es : List E3) : Prop where
  g : yat n es = 0
  c : yde n es = true
  el : es.length ≤ 40
  n1 : 1 ≤ n
  n5 : n ≤ 5
  su : (es.map (·.2.2)).sum ≤ 9
section
variable {n : Nat} {es : List E3}
theorem GOk.E (G : GOk n es) : EOk n es := (yc9 G.g).1
theorem GOk.C (G : GOk n es) : ∀ q, q < n → Conn n es q := conn_all G.g G.c
theorem GOk.tot (G : GOk n es) : tot n es ≤ 18 := tot_few G.E G.n1 (by have := G.n5; omega) G.su
theorem GOk.giv (G : GOk n es) {d : List Int} (hd : d.length = n) (hb : ∀ v, v < n → -1000000 ≤ gi d v ∧ gi d v ≤ 1000000) : yaD n es 0 d = 0 := by
  have := G.n1
  have := G.n5
  unfold yaD; rw [if_pos G.g, if_pos G.c, if_pos ⟨by omega, by omega⟩]
  exact yfN hd (by omega) (by omega) fun v hv => by have := hb v hv; omega
theorem GOk.small (G : GOk n es) {d : List Int} (hb : ∀ v, v < n → -200 ≤ gi d v ∧ gi d v ≤ 200) : Small (n : Int) es d :=
  ⟨G.el, fun _ => ⟨by have := G.n5; omega, G.su⟩, fun _ v hv => hb v (by omega)⟩
theorem set_back {r : List Int} {k : Nat} (hk : k < r.length) : (r.set k (gi r k - 1)).set k (gi (r.set k (gi r k - 1)) k + 1) = r := by
  refine yfe (by simp) fun i hi => ?_
  rw [ybV (by simpa using hk), ybV hk, ybV hk]
  split
  · rename_i e; subst e; simp
  · rfl
theorem RkOk.few (hn : 1 ≤ n) {d : List Int} (hd : d.length = n) {k : Int} (h : RkOk n es d k) : -1 ≤ k ∧ (k = -1 ∨ k ≤ dg d) := by
  refine ⟨h.lo, ?_⟩
  by_cases hw : Win n es d
  · exact .inr (h.top hn hd hw)
  · exact .inl (h.eq hn (rk_lose hw))
theorem fr_find {Rec : Int → List (Int × Int × Int) → Int → List (List Int × Int) → List Int → (Int → Int → List (List Int × Int) → Prop) → Prop} (G : GOk n es) {d : List Int} {m : List (List Int × Int)} {R : Int → Int → List (List Int × Int) → Prop}
    (hd : d.length = n) (hb : ∀ v, v < n → -200 ≤ gi d v ∧ gi d v ≤ 200) (h5 : dg d ≤ 5) (hm : MOk n es m)
    (hrec : ∀ (d' : List Int) (m' : List (List Int × Int)) (R' : Int → Int → List (List Int × Int) → Prop), d'.length = n → (∀ v, v < n → -200 ≤ gi d' v ∧ gi d' v ≤ 200) → dg d' = dg d - 1 → 0 ≤ dg d → MOk n es m' → (∀ k m'', RkOk n es d' k → MOk n es m'' → R' k 0 m'') → Rec n es (yje es + 1 - n) m' d' R')
    (h : ∀ k m', RkOk n es d k → MOk n es m' → R k 0 m') : yiY Rec n es (yje es + 1 - n) m d R := by
  have hn1 := G.n1
  have hn5 := G.n5
  have hpm : 0 ≤ 2 * yje es ∧ 2 * yje es ≤ 18 := by
    have h1 := yj5 G.E
    have h2 := G.tot
    have h3 : 0 ≤ tot n es := ya6 fun v _ => ya6 fun u _ => ybq G.E v u
    omega
  have hdb : -1000 ≤ dg d ∧ dg d ≤ 5 := by
    have := yhw (f := gi d) (B := 200) (by omega) (n := n) (fun i hi => by have := hb i hi; omega)
    rw [dg_n hd] at h5 ⊢
    omega
  unfold yiY
  refine yjS ⟨hn1, by omega⟩ hd (fun j hj => by have := hb j hj; omega) ⟨fun _ => ⟨fun hneg => h _ _ (rk_lose fun q => by have := win_dg hd q; omega) hm, fun hnn => ⟨i64 (by omega), i64 (by omega), fun hbig => ⟨i64 (by omega), h _ _ (rk_big G.g G.C hn1 (by omega) hd hb (by omega) G.tot (by omega)) hm⟩, fun hsm => ?_⟩⟩, fun q => absurd rfl q⟩
  refine ye3 (.inl (G.small hb)) (by omega) (fun q => absurd (G.giv hd fun v hv => by have := hb v hv; omega) q) fun _ r s hr b hbw => ⟨fun _ => ⟨fun hbt => ?_, fun hbf => h _ _ (rk_lose fun q => hbf (hbw.2 (by simpa using q))) hm⟩, fun q => absurd rfl q⟩
  simp only [Int.toNat_natCast] at hr hbw
  have hw := hbw.1 hbt
  have hrl : r.length = n := hr.dl
  have hrq : 0 ≤ gi r 0 := (yll G.E (by omega) hr.red hr.lp).1 hw
  have hrd : dg r = dg d := dg_lp hrl hd hr.lp
  have heff : Eff n r (dg r) := ⟨hrl, fun v hv => by
    by_cases e : v = 0
    · subst e; exact hrq
    · exact hr.pos v hv e, rfl⟩
  have hrw : Win n es r := (win_eqv hr.lp).1 hw
  have hre : ∀ v, v < n → 0 ≤ gi r v ∧ gi r v ≤ 5 := fun v hv => by have := heff.pos v hv; have := heff.le hv; omega
  have back : ∀ {k : Int}, RkOk n es r k → RkOk n es d k := fun q => (rk_eqv hr.lp).2 q
  refine ⟨by omega, hm.keys, ygP heff (by omega), fun hsome => ?_, fun hnone => ⟨fun hfull => absurd hfull (by have := hm.len hn1 hn5; omega), fun _ => ?_⟩⟩
  · obtain ⟨v, hv⟩ := Option.isSome_iff_exists.1 hsome
    rw [hv]
    exact h _ _ (back (hm.get (by omega) hrl hv)) hm
  refine ⟨fun c least i m' r' => Cnt n (fun k => MOk n es m' ∧ r' = r ∧ ∃ κ : Nat → Int, (∀ u, u < k → RkOk n es (ycD r u (-1)) (κ u)) ∧ (∀ u, u < k → least ≤ κ u + 1) ∧ (least = dg d ∨ ∃ u, u < k ∧ least = κ u + 1)) c i,
    Cnt.start ⟨hm, rfl, fun _ => 0, fun u hu => absurd hu (by omega), fun u hu => absurd hu (by omega), .inl rfl⟩, ?_⟩
  rintro c least _ m' r' ⟨k, rfl, rfl, hk, hm', rfl, κ, hκ, hle, hat⟩
  simp only [Int.toNat_natCast]
  have hal : ∀ u, (ycD r' u (-1)).length = n := fun u => by rw [ybP, hrl]
  have hadg : ∀ u, u < n → dg (ycD r' u (-1)) = dg d - 1 := fun u hu => by rw [ymN (by omega), hrd]; omega
  have hse : ∀ {x : Int}, dg d = x → 0 ≤ x := fun e => by have := heff.nonneg; omega
  refine ⟨fun hlt => ⟨by omega, i64 (by have := hre k (by omega); omega), ?_⟩, fun hge => ⟨hm'.keys, ?_⟩⟩
  · refine hrec (ycD r' k (-1)) m' _ (hal k) (fun v hv => ?_) (hadg k (by omega)) (hse rfl) hm' fun j m'' hj hm'' => ?_
    · rw [yct (by omega)]
      have := hre v hv
      have := hre k (by omega)
      split <;> omega
    · have hj2 := hj.few hn1 (hal k)
      rw [hadg k (by omega)] at hj2
      have hgk := hre k (by omega)
      refine ⟨by rw [List.length_set]; omega, ?_, fun _ => ⟨i64 (by omega), ?_⟩, fun q => absurd rfl q⟩
      · rw [ybV (by omega), if_pos rfl]
        exact i64 (by omega)
      · refine Cnt.next (by omega) (by omega) ⟨hm'', set_back (by omega), fun u => if u = k then j else κ u, fun u hu => ?_, fun u hu => ?_, ?_⟩
        · show RkOk n es (ycD r' u (-1)) (if u = k then j else κ u)
          by_cases e : u = k
          · subst e; rw [if_pos rfl]; exact hj
          · rw [if_neg e]; exact hκ u (by omega)
        · show mnF least (j + 1) ≤ (if u = k then j else κ u) + 1
          rw [ymf]
          by_cases e : u = k
          · rw [if_pos e]; omega
          · rw [if_neg e]; have := hle u (by omega); omega
        · rw [ymf]
          rcases Int.le_total least (j + 1) with q | q
          · rw [Int.min_eq_left q]
            rcases hat with a | ⟨u, hu, a⟩
            · exact .inl a
            · refine .inr ⟨u, by omega, ?_⟩
              show least = (if u = k then j else κ u) + 1
              rw [if_neg (by omega)]; exact a
          · rw [Int.min_eq_right q]
            refine .inr ⟨k, by omega, ?_⟩
            show j + 1 = (if k = k then j else κ k) + 1
            rw [if_pos rfl]
  · have e : k = n := by omega
    subst e
    have hk0 := hκ 0 (by omega)
    have hst : RkOk k es r' least := rk_step hn1 hrl hrw hκ hle (by
      rcases hat with a | a
      · refine ⟨0, by omega, ?_⟩
        have h1 := hle 0 (by omega)
        have h2 := hk0.few hn1 (hal 0)
        rw [hadg 0 (by omega)] at h2
        have h3 := heff.nonneg
        omega
      · exact a)
    exact h _ _ (back hst) (hm'.put heff (by omega) hst)
theorem p_find2 (G : GOk n es) : ∀ (fu : Nat) {d : List Int} {m : List (List Int × Int)} {R : Int → Int → List (List Int × Int) → Prop}, dg d + 1 < fu → -1 ≤ dg d → d.length = n → (∀ v, v < n → -200 ≤ gi d v ∧ gi d v ≤ 200) → dg d ≤ 5 → MOk n es m →
    (∀ k m', RkOk n es d k → MOk n es m' → R k 0 m') → yi0 fu n es (yje es + 1 - n) m d R
  | 0, _, _, _, hf, h1, _, _, _, _, _ => by omega
  | fu + 1, d, m, R, hf, h1, hd, hb, h5, hm, h => by
    show yiY (yi0 fu) n es (yje es + 1 - n) m d R
    exact fr_find G hd hb h5 hm (fun d' m' R' hd' hb' hdg h0 hm' h' => p_find2 G fu (by omega) (by omega) hd' hb' (by omega) hm' h') h
theorem p_find (G : GOk n es) {d : List Int} {m : List (List Int × Int)} {R : Int → Int → List (List Int × Int) → Prop} (hd : d.length = n) (hb : ∀ v, v < n → -200 ≤ gi d v ∧ gi d v ≤ 200) (h5 : dg d ≤ 5) (hm : MOk n es m)
    (h : ∀ k m', RkOk n es d k → MOk n es m' → R k 0 m') : ∃ fu, yi9 fu n es (yje es + 1 - n) m d R := by
  refine ⟨1, ?_⟩
  show yiY (fun a b c e f R' => ∃ fu, yi0 fu a b c e f R') n es (yje es + 1 - n) m d R
  exact fr_find G hd hb h5 hm (fun d' m' R' hd' hb' hdg h0 hm' h' => ⟨8, p_find2 G 8 (by omega) (by omega) hd' hb' (by omega) hm' h'⟩) h
end
end Go.Proofs.YtncilechkclmbaaGreat

/- What graph.Loopless and graph.Genus come to. -/
namespace Go.Proofs.YtncilechkclmbaaGreat
open Go Go.Proofs.Tryz
set_option linter.unusedVariables false
set_option linter.unusedSimpArgs false
def yjy (es : List E3) : List E3 := es.filter fun x => decide (x.1 ≠ x.2.1)
theorem yku {es : List E3} {k : Nat} (hk : k < es.length) : yjy (es.take (k + 1)) = yjy (es.take k) ++ if (ge es k).1 = (ge es k).2.1 then [] else [ge es k] := by
  have e : es.take (k + 1) = es.take k ++ [ge es k] := by rw [List.take_add_one, List.getElem?_eq_getElem hk, ydL hk]; rfl
  unfold yjy
  rw [e, List.filter_append]
  congr 1
  by_cases q : (ge es k).1 = (ge es k).2.1
  · rw [if_pos q]; simp [q]
  · rw [if_neg q]; simp [q]
theorem W_plainL : ∀ (es : List E3) (v u : Nat), W (yjy es) v u = W es v u
  | [], v, u => rfl
  | x :: es, v, u => by
    unfold yjy
    rw [List.filter_cons, yfb]
    by_cases q : x.1 = x.2.1
    · have : w1 x v u = 0 := by unfold w1; rw [if_neg (fun h => h.1 q)]
      rw [if_neg (by simpa using q), this]
      have := W_plainL es v u
      unfold yjy at this
      rw [this]; omega
    · rw [if_pos (by simpa using q), yfb]
      have := W_plainL es v u
      unfold yjy at this
      rw [this]
theorem pcmp_le {a b c d : Int} : yiU a b c d ≤ 0 ↔ a < c ∨ (a = c ∧ b ≤ d) := by
  unfold yiU orF cmpF
  (repeat' split) <;> omega
theorem pcmp_trans {a b c d e f : Int} (h1 : yiU a b c d ≤ 0) (h2 : yiU c d e f < 0) : yiU a b e f < 0 := by
  have h1 := pcmp_le.1 h1
  have h2 := (yfo _ _ _ _).1 h2
  exact (yfo _ _ _ _).2 (by omega)
theorem yjX {n : Int} {p : E3 → Bool} : ∀ (es : List E3) (a b a' b' : Int), yiU a' b' a b ≤ 0 → gchk n a b es = 0 → gchk n a' b' (es.filter p) = 0
  | [], a, b, a', b', _, _ => rfl
  | x :: t, a, b, a', b', h, hg => by
    unfold gchk at hg
    by_cases c1 : (0 ≤ x.1 ∧ x.1 < n) ∧ (0 ≤ x.2.1 ∧ x.2.1 < n) ∧ 1 ≤ x.2.2 ∧ x.2.2 ≤ 50
    · rw [if_pos c1] at hg
      by_cases c2 : x.1 ≤ x.2.1 ∧ yiU a b x.1 x.2.1 < 0
      · rw [if_pos c2] at hg
        have h3 := pcmp_trans h c2.2
        rw [List.filter_cons]
        split
        · unfold gchk
          rw [if_pos c1, if_pos ⟨c2.1, h3⟩]
          exact yjX t _ _ _ _ (pcmp_le.2 (by omega)) hg
        · exact yjX t _ _ _ _ (by omega) hg
      · rw [if_neg c2] at hg; omega
    · rw [if_neg c1] at hg; omega
theorem gcheck_plain {n : Int} {es : List E3} (h : yat n es = 0) : yat n (yjy es) = 0 := by
  unfold yat at h ⊢
  split
  · rename_i c
    rw [if_pos c] at h
    exact yjX es _ _ _ _ (by decide) h
  · rename_i c; rw [if_neg c] at h; exact h
theorem ykm {n : Nat} {es : List E3} {R : Int → List E3 → Int → Prop} (hl : es.length ≤ 1000) (hg : yat n es = 0) (h : R n (yjy es) 0) : yi7 n es R := by
  unfold yi7 yjh
  refine yj0 (by omega) ⟨fun _ => ?_, fun q => absurd hg q⟩
  refine ⟨fun m v out => Cnt es.length (fun k => out = yjy (es.take k) ∧ out.length ≤ k) m v, Cnt.start ⟨rfl, Nat.le_refl _⟩, ?_⟩
  rintro m _ out ⟨k, rfl, rfl, hk, hout, hol⟩
  simp only [Int.toNat_natCast]
  refine ⟨fun hlt => ⟨by omega, fun q => Cnt.next (by omega) (by omega) ⟨?_, by omega⟩, fun q => ⟨by omega, Cnt.next (by omega) (by omega) ⟨?_, by simpa using hol⟩⟩⟩, fun hge => ?_⟩
  · rw [yku (by omega), if_pos q, List.append_nil]; exact hout
  · rw [yku (by omega), if_neg q, hout]
    have hx := (yc9 hg).1 _ (List.mem_of_getElem? (yd6 (show k < es.length by omega)))
    have e : mnF (ge es k).2.2 50 = (ge es k).2.2 := by rw [ymf]; omega
    rw [e]
  · have e : k = es.length := by omega
    rw [e, List.take_length] at hout
    rw [hout]; exact h
def sF : List E3 → List E3
  | [] => []
  | x :: t => List.replicate x.2.2.toNat (x.1, x.2.1, 1) ++ sF t
theorem ykD : ∀ (a b : List E3), sF (a ++ b) = sF a ++ sF b
  | [], b => rfl
  | x :: t, b => by rw [List.cons_append, sF, sF, ykD t b, List.append_assoc]
theorem sF_take {es : List E3} {k : Nat} (hk : k < es.length) : sF (es.take (k + 1)) = sF (es.take k) ++ List.replicate (ge es k).2.2.toNat ((ge es k).1, (ge es k).2.1, 1) := by
  rw [List.take_add_one, List.getElem?_eq_getElem hk, ← ydL hk, ykD]
  simp [sF]
theorem sF_pre {es : List E3} {k : Nat} (hk : k < es.length) {j : Nat} (hj : j ≤ (ge es k).2.2.toNat) : sF (es.take k) ++ List.replicate j ((ge es k).1, (ge es k).2.1, 1) <+: sF es := by
  have h1 : es = es.take (k + 1) ++ es.drop (k + 1) := (List.take_append_drop _ _).symm
  have h2 : sF es = sF (es.take k) ++ List.replicate (ge es k).2.2.toNat ((ge es k).1, (ge es k).2.1, 1) ++ sF (es.drop (k + 1)) := by
    conv => lhs; rw [h1]
    rw [ykD, sF_take hk]
  obtain ⟨i, hi⟩ : ∃ i, (ge es k).2.2.toNat = j + i := ⟨(ge es k).2.2.toNat - j, by omega⟩
  rw [h2, hi, ← List.replicate_append_replicate]
  exact ⟨List.replicate i ((ge es k).1, (ge es k).2.1, 1) ++ sF (es.drop (k + 1)), by simp only [List.append_assoc]⟩
theorem sF_ok {n : Nat} : ∀ {es : List E3}, EOk n es → EOk n (sF es)
  | [], _ => fun x hx => by simp [sF] at hx
  | y :: t, h => fun x hx => by
    rw [sF, List.mem_append] at hx
    rcases hx with q | q
    · have := h y (by simp)
      have e := (List.mem_replicate.1 q).2
      subst e
      simp only
      omega
    · exact sF_ok (fun z hz => h z (by simp [hz])) x q
theorem W_rep (a b : Int) (l : List E3) (v u : Nat) : ∀ k : Nat, W (List.replicate k (a, b, 1) ++ l) v u = (k : Int) * w1 (a, b, 1) v u + W l v u
  | 0 => by simp
  | k + 1 => by
    rw [List.replicate_succ, List.cons_append, yfb, W_rep a b l v u k, Int.natCast_add, Int.add_mul]
    omega
theorem W_sF {n : Nat} (v u : Nat) : ∀ {es : List E3}, EOk n es → W (sF es) v u = W es v u
  | [], _ => rfl
  | x :: t, h => by
    have hx := h x (by simp)
    rw [sF, W_rep, yfb, W_sF v u (fun z hz => h z (by simp [hz]))]
    have : ((x.2.2.toNat : Nat) : Int) * w1 (x.1, x.2.1, 1) v u = w1 x v u := by
      unfold w1
      simp only
      split
      · omega
      · omega
    omega
theorem sF_len {n : Nat} : ∀ {es : List E3}, EOk n es → ((sF es).length : Int) = (es.map (·.2.2)).sum
  | [], _ => rfl
  | x :: t, h => by
    have hx := h x (by simp)
    have := sF_len (es := t) fun z hz => h z (by simp [hz])
    rw [sF, List.length_append, List.length_replicate, List.map_cons, List.sum_cons, ← this]
    omega
theorem plainL_sum : ∀ (es : List E3), ((yjy es).map (·.2.2)).sum = yje es
  | [] => rfl
  | x :: t => by
    have ih := plainL_sum t
    unfold yjy yje at *
    rw [List.filter_cons, List.map_cons, List.sum_cons]
    by_cases q : x.1 = x.2.1
    · rw [if_neg (by simpa using q), if_pos q, ih]; omega
    · rw [if_pos (by simpa using q), if_neg q, List.map_cons, List.sum_cons, ih]
theorem sF_few {n : Nat} : ∀ {es : List E3}, EOk n es → (sF es).length ≤ 50 * es.length
  | [], _ => Nat.le_refl _
  | x :: t, h => by
    have hx := h x (by simp)
    have := sF_few (es := t) fun z hz => h z (by simp [hz])
    rw [sF, List.length_append, List.length_replicate, List.length_cons]
    omega
def gmap (y : Int × Int × Int) : E3 := (y.2.1, y.2.2, 1)
theorem yke {n : Nat} {es : List E3} (hE : EOk n es) (hl : es.length ≤ 1000) : yi6 (n : Int) es (fun l => l.map gmap <+: sF es) (fun l => l.map gmap = sF es) := by
  unfold yi6
  refine ⟨fun m pre e2 v => Cnt es.length (fun k => pre.map gmap = sF (es.take k) ∧ 0 ≤ e2 ∧ e2 ≤ 50 * k) m v, Cnt.start ⟨rfl, by omega, by omega⟩, ?_⟩
  rintro m pre e2 _ ⟨k, rfl, rfl, hk, hpre, he0, he1⟩
  simp only [Int.toNat_natCast]
  refine ⟨fun hlt => ⟨by omega, ?_⟩, fun hge => ?_⟩
  · have hkl : k < es.length := by omega
    have hx := hE _ (List.mem_of_getElem? (yd6 hkl))
    refine ⟨fun m pre e3 v => Cnt (ge es k).2.2.toNat (fun j => pre.map gmap = sF (es.take k) ++ List.replicate j ((ge es k).1, (ge es k).2.1, 1) ∧ 0 ≤ e3 ∧ e3 ≤ 50 * k + j) m v, Cnt.start ⟨by simpa using hpre, he0, by omega⟩, ?_⟩
    rintro m3 pre3 e3 _ ⟨j, rfl, rfl, hj, hp3, h30, h31⟩
    have hstep : ∀ e : Int, (pre3 ++ [(e, (ge es k).1, (ge es k).2.1)]).map gmap = sF (es.take k) ++ List.replicate (j + 1) ((ge es k).1, (ge es k).2.1, 1) := fun e => by
      rw [List.map_append, hp3, List.replicate_succ', List.append_assoc]; rfl
    refine ⟨fun h1 => ⟨?_, ⟨i64 (by omega), Cnt.next (by omega) (by omega) ⟨hstep e3, by omega, by omega⟩⟩, trivial⟩, fun h1 => Cnt.next (by omega) (by omega) ⟨?_, by omega, by omega⟩⟩
    · show (pre3 ++ [(e3, (ge es k).1, (ge es k).2.1)]).map gmap <+: sF es
      rw [hstep]; exact sF_pre hkl (by omega)
    · have e : j = (ge es k).2.2.toNat := by omega
      rw [sF_take hkl, hp3, e]
  · have e : k = es.length := by omega
    rw [e, List.take_length] at hpre
    exact hpre
def castF (F : List Nat) : List Int := F.map fun v : Nat => (v : Int)
theorem gi_castF {F : List Nat} {v : Nat} (hv : v < F.length) : gi (castF F) v = (gn F v : Int) := by
  unfold castF
  rw [yaY (by simpa using hv), yjP hv]; simp
theorem yj3 {F : List Nat} (hF : ycM F) {v : Nat} (hv : v < 12) {R : Int → Prop} (h : R (root F v)) : yi2 (castF F) (v : Int) R := by
  unfold yi2
  refine ⟨fun m x => ∃ u : Nat, x = u ∧ m = u ∧ u < 12 ∧ root F u = root F v, ⟨v, v, rfl, rfl, hv, rfl⟩, ?_⟩
  rintro m _ ⟨u, rfl, hm, hu, hr⟩
  have hg : gi (castF F) u = (gn F u : Int) := gi_castF (by rw [hF.1]; exact hu)
  have hle := hF.2 u hu
  simp only [Int.toNat_natCast, hg]
  refine ⟨by omega, fun e => ?_, fun e => ⟨gn F u, by omega, gn F u, rfl, rfl, by omega, ?_⟩⟩
  · rw [ycI (F := F) (v := u) (by omega)] at hr
    rw [hr]; exact h
  · rw [← yeF hF hu (by omega)]; exact hr
theorem ykC {F : List Nat} (hF : ycM F) {a b : Nat} (ha : a < 12) (hb : b < 12) (hne : root F a ≠ root F b) : ∀ k, k ≤ 12 → yaE (ycQ F a b) k + (if max (root F a) (root F b) < k then 1 else 0) = yaE F k
  | 0, _ => by simp [yaE]
  | k + 1, hk => by
    have ih := ykC hF ha hb hne k (by omega)
    have hj := yjN hF ha hb k (by omega)
    have ra := ygC hF ha
    have rb := ygC hF hb
    rw [yaE, yaE]
    have hM : root F (max (root F a) (root F b)) = max (root F a) (root F b) := by
      rcases Nat.le_total (root F a) (root F b) with q | q
      · rw [Nat.max_eq_right q]; exact rb
      · rw [Nat.max_eq_left q]; exact ra
    have hm : root F (min (root F a) (root F b)) = min (root F a) (root F b) := by
      rcases Nat.le_total (root F a) (root F b) with q | q
      · rw [Nat.min_eq_left q]; exact ra
      · rw [Nat.min_eq_right q]; exact rb
    by_cases e1 : k = max (root F a) (root F b)
    · have h1 : root F k = k := by rw [e1]; exact hM
      rw [if_pos (h1.trans e1)] at hj
      rw [if_neg (by omega : ¬ root (ycQ F a b) k = k), if_pos h1, if_pos (by omega)]
      rw [if_neg (by omega)] at ih
      omega
    · have h2 : root (ycQ F a b) k = k ↔ root F k = k := by
        rw [hj]
        split
        · rename_i e2
          constructor
          · intro e3; rw [← e3] at e2; rw [hm] at e2; omega
          · intro e3; omega
        · exact Iff.rfl
      by_cases e3 : root F k = k
      · rw [if_pos (h2.2 e3), if_pos e3]
        by_cases e4 : max (root F a) (root F b) < k
        · rw [if_pos e4] at ih; rw [if_pos (by omega)]; omega
        · rw [if_neg e4] at ih; rw [if_neg (by omega)]; omega
      · rw [if_neg (fun q => e3 (h2.1 q)), if_neg e3]
        by_cases e4 : max (root F a) (root F b) < k
        · rw [if_pos e4] at ih; rw [if_pos (by omega)]; omega
        · rw [if_neg e4] at ih; rw [if_neg (by omega)]; omega
theorem ykE {F : List Nat} (hF : ycM F) {a b : Nat} (ha : a < 12) (hb : b < 12) (he : root F a = root F b) : ∀ k, k ≤ 12 → yaE (ycQ F a b) k = yaE F k
  | 0, _ => rfl
  | k + 1, hk => by
    have ih := ykE hF ha hb he k (by omega)
    have hj := yjN hF ha hb k (by omega)
    rw [yaE, yaE, ih, hj, he]
    simp only [Nat.max_self, Nat.min_self]
    congr 2
    split
    · rename_i e; rw [e]
    · rfl
theorem yki : ∀ k, k ≤ 12 → yaE yek k = k
  | 0, _ => rfl
  | k + 1, hk => by
    rw [yaE, yki k (by omega), if_pos]
    exact ycI (by rw [yjP (by simpa [yek] using (by omega : k < 12))]; simp [yek])
theorem joinedF_snoc (l : List E3) (x : E3) : yay (l ++ [x]) = ycQ (yay l) x.1.toNat x.2.1.toNat := by
  unfold yay; rw [List.foldl_append]; rfl
theorem castF_join {F : List Nat} {a b : Nat} : (castF F).set (mxF (root F a) (root F b)).toNat (mnF (root F a) (root F b)) = castF (ycQ F a b) := by
  unfold castF ycQ
  rw [List.map_set, yma, ymf]
  congr 1
  · omega
  · omega
theorem p_graph_Genus {n : Nat} {es : List E3} {R : Int → Int → Prop} (hl : es.length ≤ 1000) (hg : yat n es = 0) (hc : ∀ q, q < n → Conn n es q) (h : R ((es.map (·.2.2)).sum + 1 - n) 0) : yjg n es R := by
  obtain ⟨hE, hn1, hn12⟩ := yc9 hg
  unfold yjg
  refine yj0 (by omega) ⟨fun _ => ?_, fun q => absurd hg q⟩
  refine ⟨fun m v f => Cnt 12 (fun k => f.length = 12 ∧ ∀ i, i < k → gi f i = (i : Int)) m v, Cnt.start ⟨by simp, fun i hi => absurd hi (by omega)⟩, ?_⟩
  rintro m _ f ⟨k, rfl, rfl, hk, hfl, hf⟩
  simp only [Int.toNat_natCast]
  refine ⟨fun hlt => ⟨by omega, Cnt.next (by omega) (by omega) ⟨by simpa using hfl, fun i hi => ?_⟩⟩, fun hge => ?_⟩
  · rw [ybV (by omega)]
    split
    · omega
    · exact hf i (by omega)
  have e12 : k = 12 := by omega
  subst e12
  have hf0 : f = castF yek := yfe (by rw [hfl]; rfl) fun i hi => by
    rw [hf i (by omega), gi_castF (by show i < (List.range 12).length; simpa using (by omega : i < 12)), yjP (by simpa [yek] using (by omega : i < 12))]
    simp [yek]
  show ∃ Pr Rr : List (Int × Int × Int) → Prop, _
  refine ⟨_, _, yke hE hl, fun pre f2 genus => pre.map gmap <+: sF es ∧ f2 = castF (yay (pre.map gmap)) ∧ genus + n - (yaE (yay (pre.map gmap)) n : Int) = pre.length ∧ 0 ≤ genus ∧ genus ≤ pre.length, ⟨List.nil_prefix, hf0, ?_, by omega, by simp⟩, ?_, ?_⟩
  · show (0 : Int) + n - (yaE yek n : Int) = 0
    rw [yki n hn12]; omega
  · rintro pre e a b f2 genus ⟨hp, rfl, hcount, h0, h1⟩ hPr
    have hPr : (pre ++ [(e, a, b)]).map gmap <+: sF es := hPr
    have hE2 := sF_ok hE
    have hmem : (a, b, 1) ∈ sF es := hPr.subset (by simp [gmap])
    have hx := hE2 _ hmem
    simp only at hx
    obtain ⟨a, rfl⟩ : ∃ k : Nat, a = (k : Int) := ⟨a.toNat, by omega⟩
    obtain ⟨b, rfl⟩ : ∃ k : Nat, b = (k : Int) := ⟨b.toNat, by omega⟩
    have hF : ycM (yay (pre.map gmap)) := yb0 _ fun x hx => by
      have := hE2 x (hp.subset hx)
      omega
    have hplen : pre.length ≤ 50 * es.length := by
      have h2 := hp.length_le
      have h3 := sF_few hE
      rw [List.length_map] at h2
      omega
    have hsn : (pre ++ [(e, (a : Int), (b : Int))]).map gmap = pre.map gmap ++ [((a : Int), (b : Int), 1)] := by rw [List.map_append]; rfl
    have hjs : yay ((pre ++ [(e, (a : Int), (b : Int))]).map gmap) = ycQ (yay (pre.map gmap)) a b := by rw [hsn, joinedF_snoc]; simp
    have ra := ydQ hF a (by omega)
    have rb := ydQ hF b (by omega)
    have hrl : ∀ v, v < n → root (yay (pre.map gmap)) v < n := fun v hv => by have := (ydQ hF v (by omega)).1; omega
    have hra := hrl a (by omega)
    have hrb := hrl b (by omega)
    refine yj3 hF (by omega) (yj3 hF (by omega) ?_)
    have hmx : 0 ≤ mxF (root (yay (pre.map gmap)) a : Int) (root (yay (pre.map gmap)) b) ∧ mxF (root (yay (pre.map gmap)) a : Int) (root (yay (pre.map gmap)) b) < 12 := by rw [yma]; omega
    refine ⟨fun g2 => g2 = genus + if root (yay (pre.map gmap)) a = root (yay (pre.map gmap)) b then 1 else 0, fun g2 hg2 => ⟨hmx, hPr, by rw [hjs]; exact castF_join, ?_, ?_, ?_⟩, fun q => ⟨i64 (by omega), by rw [if_pos (by omega)]⟩, fun q => by rw [if_neg (by omega)]; omega⟩
    · rw [hjs, hg2, List.length_append, List.length_singleton]
      by_cases q : root (yay (pre.map gmap)) a = root (yay (pre.map gmap)) b
      · rw [if_pos q, ykE hF (by omega) (by omega) q n hn12]; omega
      · have := ykC hF (by omega) (by omega) q n hn12
        rw [if_pos (by omega)] at this
        rw [if_neg q]; omega
    · rw [hg2]; split <;> omega
    · rw [hg2, List.length_append, List.length_singleton]; split <;> omega
  · rintro ys f2 genus ⟨hp, rfl, hcount, h0, h1⟩ hR
    have hR : ys.map gmap = sF es := hR
    have hE2 := sF_ok hE
    have hc2 : yde n (sF es) = true := (yko hE2 hn1 hn12 (q := 0) (by omega)).2 fun S h0 h1 => by
      obtain ⟨v, u, a, b, c, d, e⟩ := hc 0 (by omega) S h0 h1
      exact ⟨v, u, a, b, c, d, by rw [W_sF v u hE]; exact e⟩
    unfold yde at hc2
    rw [beq_iff_eq, Int.toNat_natCast] at hc2
    rw [hR, hc2] at hcount
    have hlen := sF_len hE
    rw [← hR, List.length_map] at hlen
    have e : genus = (es.map (·.2.2)).sum + 1 - n := by omega
    rw [e]; exact h
theorem p_rank_of {n : Nat} {es : List E3} {R0 : Int → Prop} {R1 : Int → List E3 → Int → List (List Int × Int) → Int → Prop} (G : GOk n es) (h : R1 n es (yje es + 1 - n) [] 0) : yjw n es R0 R1 := by
  have := G.el
  unfold yjw
  refine ykm (by omega) G.g ⟨fun _ => ?_, fun q => absurd rfl q⟩
  refine p_graph_Genus (by have := List.length_filter_le (fun x : E3 => decide (x.1 ≠ x.2.1)) es; unfold yjy; omega) (gcheck_plain G.g) (fun q hq S h0 h1 => ?_) (by rw [plainL_sum]; exact h)
  obtain ⟨v, u, a, b, c, d, e⟩ := G.C q hq S h0 h1
  exact ⟨v, u, a, b, c, d, by rw [W_plainL]; exact e⟩
theorem yjU {n : Int} {es : List E3} {d : List Int} {R : Int → Int → Prop} (hl : es.length ≤ 1000) (h0 : yaD n es 0 d ≠ 0 → R 0 (yaD n es 0 d)) (h1 : yaD n es 0 d = 0 → GOk n.toNat es ∧ (∀ v, v < n.toNat → -200 ≤ gi d v ∧ gi d v ≤ 200) ∧ dg d ≤ 5 ∧ ∀ k, RkOk n.toNat es d k → R k 0) : yiZ n es d R := by
  unfold yiZ
  refine yjH hl (by simp) ?_
  rw [givL_one]
  refine ⟨fun hg => ?_, fun hg => h0 hg⟩
  obtain ⟨n, rfl⟩ : ∃ n' : Nat, n = (n' : Int) := ⟨n.toNat, by have := yb7 hg; omega⟩
  obtain ⟨G, hb, h5, hk⟩ := h1 hg
  simp only [Int.toNat_natCast] at G hb h5 hk
  have hd := (ydT (q := 0) hg).2.2.2.2.2.2.1
  exact p_rank_of G ⟨fun _ => p_find G hd hb h5 (MOk.nil n es) fun k m' hk' _ => hk k hk', fun q => absurd rfl q⟩
end Go.Proofs.YtncilechkclmbaaGreat

/- What chips.Next, rank.taken, rank.Witness and rank.AtLeast come to. -/
namespace Go.Proofs.YtncilechkclmbaaGreat
open Go Go.Proofs.Tryz
set_option linter.unusedVariables false
set_option linter.unusedSimpArgs false
theorem drop_zero {d : List Int} {k : Nat} (h : ∀ i, k ≤ i → i < d.length → gi d i = 0) : (d.drop k).sum = 0 := by
  rw [sum_dg]
  unfold dg
  rw [yau (g := fun _ => 0) fun i hi => ?_]
  · exact ycf _
  · rw [gi_drop]
    rw [List.length_drop] at hi
    exact h _ (by omega) (by omega)
structure FailAt (n : Nat) (es : List E3) (d : List Int) (k : Nat) (w : List Int) : Prop where
  at_ : ∃ A B, ydb n k = A ++ w :: B ∧ ∀ e ∈ A, Win n es (sb n d e)
  no : ¬ Win n es (sb n d w)
def WitOk (n : Nat) (es : List E3) (d w : List Int) : Prop := ∃ k, RkOk n es d k ∧ FailAt n es d (k + 1).toNat w
structure DOk (n : Nat) (es : List E3) (d : List Int) : Prop where
  G : GOk n es
  b : ∀ v, v < n → -150 ≤ gi d v ∧ gi d v ≤ 150
  d5 : dg d ≤ 5
end Go.Proofs.YtncilechkclmbaaGreat

/- Riemann and Roch for graphs, plainly: orders, the canonical divisor, what is left of it. -/
namespace Go.Proofs.YtncilechkclmbaaGreat
open Go Go.Proofs.Tryz
set_option linter.unusedVariables false
set_option linter.unusedSimpArgs false
section
variable {n : Nat} {es : List E3} {d : List Int}
end
end Go.Proofs.YtncilechkclmbaaGreat

/- What the reference of ranks comes to. -/
namespace Go.Proofs.YtncilechkclmbaaGreat
open Go Go.Proofs.Tryz
set_option linter.unusedVariables false
set_option linter.unusedSimpArgs false
section
variable {N : Nat} {es : List E3} {d : List Int}
end
structure FewOk (n : Int) (es : List E3) (d : List Int) (most : Int) : Prop where
  s : ynl n es 5 7 = true
  l : d.length ≤ 100
  g : yaD n es 0 d = 0 → lowF n d = true ∧ dg d ≤ most
theorem FewOk.el {n : Int} {es : List E3} {d : List Int} {most : Int} (h : FewOk n es d most) : es.length ≤ 40 := (of_decide_eq_true h.s).1
end Go.Proofs.YtncilechkclmbaaGreat

/- The examples of the chapter on ranks come out right; what the law's small functions come to. -/
namespace Go.Proofs.YtncilechkclmbaaGreat
open Go Go.Proofs.Tryz
set_option linter.unusedVariables false
set_option linter.unusedSimpArgs false
def tri : List E3 := [(0, 1, 1), (0, 2, 1), (1, 2, 1)]
def k4 : List E3 := [(0, 1, 1), (0, 2, 1), (0, 3, 1), (1, 2, 1), (1, 3, 1), (2, 3, 1)]
theorem ykj : GOk 3 tri := ⟨by decide, by decide, by decide, by decide, by decide, by decide⟩
theorem al_dec {N k : Nat} {es : List E3} {d : List Int} (S : List (List Int)) (h : ∀ e ∈ ydb (N + 1) k, ∃ s ∈ S, ∀ v, v < N + 1 → 0 ≤ gi (sb (N + 1) d e) v - Lp (N + 1) es (gi s) v) : AL (N + 1) es d (k : Int) := fun e he => by
  obtain ⟨s, -, hs⟩ := h e (ykr he)
  exact ⟨gi s, hs⟩
theorem yjv {n : Nat} {es : List E3} {d : List Int} (G : GOk n es) (q : Nat) (hq : q < n) (h1 : ∀ v, v < n → v ≠ q → 0 ≤ gi d v) (h2 : ∀ m, m < 2 ^ n → 1 ≤ m → m.testBit q = false → ¬ (∀ v, v < n → m.testBit v = true → outS n es m.testBit v ≤ gi d v)) (hneg : gi d q < 0) : ¬ Win n es d := fun hw => by
  have := (yll (d := d) (r := d) (s := fun _ => 0) G.E hq (red_of_dec hq h1 h2) fun v hv => by rw [yeW]; omega).1 hw
  omega
theorem no_dec {N k : Nat} {es : List E3} {d : List Int} (e : List Int) (he : e ∈ ydb (N + 1) k) (h : ¬ Win (N + 1) es (sb (N + 1) d e)) : ¬ AL (N + 1) es d (k : Int) := fun q => h (q e (yj7 he))
theorem ex2 : RkOk 3 tri [0, 1, 0] 0 := ⟨by omega, al_dec (N := 2) (k := 0) [[0, 0, 0]] (by decide), no_dec (N := 2) (k := 1) [0, 0, 1] (by decide) (yjv ykj 2 (by decide) (by decide) (by decide) (by decide))⟩
theorem wx2 : WitOk 3 tri [0, 1, 0] [0, 0, 1] := ⟨0, ex2, ⟨[], [[0, 1, 0], [1, 0, 0]], by decide, fun e he => by simp at he⟩, yjv ykj 2 (by decide) (by decide) (by decide) (by decide)⟩
end Go.Proofs.YtncilechkclmbaaGreat
