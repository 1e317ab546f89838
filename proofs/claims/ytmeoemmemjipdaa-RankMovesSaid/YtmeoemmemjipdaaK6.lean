/- Texts laid together: PRa, PRb, SpA, Bor, Gen, SpB, SpC, SpT, SpE, SpG, L34, SpW, SpP, SpF, L36, SpN. -/
import Derived.Test.YtmeoemmemjipdaaK5
/- Pure forms of functions, made by program (pf.py), each with the proof that the code does so. -/
namespace Go.Proofs.Ytmeoemmemjipdaa
open Go Go.RowKit Go.Shelf Go.Proofs.Try
set_option linter.unusedVariables false
set_option maxRecDepth 100000
set_option maxHeartbeats 1000000
def ycv (g : Int) (g2 : List E3) (most : Int) (R : Int → (List E3) → Int → Prop) : Prop :=
yb2 g g2 (fun r =>
((r = 0 →
(∃ I2 : Nat → Int → (List E3) → Prop, (∃ m0, I2 m0 0 ([])) ∧ ∀ m2 v out, I2 m2 v out → 
((v < ((g2.length : Nat) : Int) →
((0 ≤ v ∧ v < ((g2.length : Nat) : Int)) ∧
((((ge g2 v.toNat).1) = ((ge g2 v.toNat).2.1) →
(In64 (v + 1) ∧
∃ m3, m3 < m2 ∧ I2 m3 (v + 1) out)) ∧
(¬ (((ge g2 v.toNat).1) = ((ge g2 v.toNat).2.1)) →
(out.length + 1 ≤ 1000000000 ∧
(In64 (v + 1) ∧
∃ m4, m4 < m2 ∧ I2 m4 (v + 1) (out ++ [((ge g2 v.toNat).1, (ge g2 v.toNat).2.1, mnF ((ge g2 v.toNat).2.2) most)]))))))) ∧
(¬ (v < ((g2.length : Nat) : Int)) →
R g out 0)))) ∧
(¬ (r = 0) →
R 0 ([]) r)))
theorem yf6 {O : Nat → Prop} {w : World} {g g2 most Ag lg cg} {R : Int → (List E3) → Int → Prop} (h : ycv g g2 most R) (hO : ∀ k, O k → k < w.heap.size) (hA0 : (FP.sl c3 Ag lg cg g2).P O w) :
    Calls Try.prog 123 #[(.agg #[(ii g), (.slice Ag lg cg)]), (ii most)] w fun e w' => ∃ r2 r3 r4 Ar lr cr, e = .returned (.tuple #[(.agg #[(ii r2), (.slice Ar lr cr)]), (ii r4)]) ∧ Sep w no O w' (rl [Res.own c3 83 Ar lr cr r3]) ∧ R r2 r3 r4 := by
  unfold ycv at h; have hS : Sep w no O w (rl [Res.ro (FP.sl c3 Ag lg cg g2)]) := Sep.startl hO [(FP.sl c3 Ag lg cg g2)] ⟨hA0, trivial⟩; refine yap (l := [(.agg #[(ii g), (.slice Ag lg cg)]), (ii most)]) func123 rfl ntmps123 (Nat.le_of_ble_eq_true rfl) (zs (zn (ybq (v := (.agg #[(ii g), (.slice Ag lg cg)])) rfl ?_))); intro g3 w2 hN; replace hS : Sep w no O w2 (stl _ 1 (Res.box 24 g3 [(ii g), (.slice Ag lg cg)])) := hS.new 1 rfl hN; clear hN; refine zb (zn (ya7 yaq ?_)); intro g4 w3 hN; replace hS : Sep w no O w3 (stl _ 2 (Res.box 24 g4 [(ii 0), (.slice none 0 0)])) := hS.new 2 rfl hN; clear hN; refine zb (zq (za (ii 0)) (yaa (yae (zs (zq (yas (vs := [(ii g), (.slice Ag lg cg)]) rfl underlying24 rfl yaq ⟨Row.cell (hS.bx 1 rfl) (i := 0) rfl, Row.cell (hS.bx 1 rfl) (i := 1) rfl, trivial⟩) (zn (yan rfl (am1 rfl) yiI ((yeU h (yaK _) (hS.rdr 0 rfl)).mono ?_)))))))); rintro _ w4 ⟨r, rfl, hC, h⟩; replace hS := hS.pur hC.pure; clear hC; refine ⟨_, rfl, ?_⟩; refine zb (zq (za (ii r)) (yaa (zs (zq (zm (ii r)) (zq zN (yaa ?_)))))); by_cases hp : r = 0
  · replace h := h.1 hp; refine ze hp (yai (zs (zq (yaj rfl underlying24 rfl yah) (zq (zl underlying3 (Row.cell (hS.bx 1 rfl) (i := 0) rfl)) (zn (ybp (l := [(0, (ii g))]) (cells := [(ii g), (.slice none 0 0)]) (places := [(0, 1), (1, 1)]) (bp1 rfl) underlying24 yaq (by kernel_rfl) rfl ?_)))))); refine zb (zn (ya7 yaq ?_)); intro g5 w5 hN; replace hS : Sep w no O w5 (stl _ 3 (Res.box 24 g5 [(ii 0), (.slice none 0 0)])) := hS.new 3 rfl hN; clear hN; refine zb (zo (ybr (b := g5) (o := 0) (cells := #[(ii g), (.slice none 0 0)]) rfl rfl yaq rfl rfl (yaY (hS.bx 3 rfl) (Nat.le_of_ble_eq_true rfl)) ?_)); intro w6 e1; replace hS := hS.bstn 3 rfl 0 [(ii g), (.slice none 0 0)] e1; clear e1; refine zb (yaa (yae (zs (zq (yaj rfl underlying24 rfl yca) (zq (zl underlying22 (Row.cell (hS.bx 1 rfl) (i := 1) rfl)) (zq (yaZ (n := g2.length) rfl underlying22 (yaS (hS.rdr 0 rfl))) (zq (zm (ii 0)) (yaa (yam ?_))))))))); replace hS := hS.nil 4 rfl c3 83; obtain ⟨I2, ⟨m0, h0⟩, hr⟩ := h; refine yaC (fun m E ds w' => ∃ v out Aout lout cout, I2 m v out ∧ ds = [] ∧ E 1 = (ii most) ∧ E 4 = (Value.pointer (some (⟨g4, 0, none⟩ : Addr))) ∧ E 7 = (Value.pointer (some (⟨g5, 0, none⟩ : Addr))) ∧ E 20 = (Value.slice Ag lg cg) ∧ E 21 = (ii ((g2.length : Nat) : Int)) ∧ E 22 = (ii v) ∧ Sep w no O w' (rl [Res.box 24 g4 [(ii 0), (.slice none 0 0)], Res.box 24 g5 [(ii g), (.slice Aout lout cout)], Res.own c3 83 Aout lout cout out, Res.ro (FP.sl c3 Ag lg cg g2)])) m0 ⟨_, _, _, _, _, h0, rfl, rfl, rfl, rfl, rfl, rfl, rfl, (hS.sel [2, 3, 4, 0] (by decide))⟩ ?_; clear h0 hS; rintro m2 E ds w7 ⟨v, out, Aout, lout, cout, h, rfl, hE1, hE4, hE7, hE20, hE21, hE22, hS⟩ again; replace h := hr m2 v out h; clear hr; refine zs (zq (yaP hE22 hE21) (yaa (yae ?_))); by_cases hp2 : v < ((g2.length : Nat) : Int)
    · replace h := h.1 hp2; refine zc hp2 (yai (yae (yam (zs ?_)))); obtain ⟨hx, h⟩ := h; refine zq (yao hE20 hE22 underlying22 yaF (yaM (hS.rdr 3 rfl) hx)) (zq (yas (vs := [(ii ((ge g2 v.toNat).1)), (ii ((ge g2 v.toNat).2.1)), (ii ((ge g2 v.toNat).2.2))]) rfl underlying83 rfl yaF (rd_fs (hS.rdr 3 rfl) hx (fun q => ycL q))) ?_); refine zn (ya7 yaF ?_); intro g6 w8 hN; replace hS : Sep w no O w8 (stl _ 4 (Res.box 83 g6 [(ii 0), (ii 0), (ii 0)])) := hS.new 4 rfl hN; clear hN; refine zb (zo (ybr (b := g6) (o := 0) (cells := #[(ii ((ge g2 v.toNat).1)), (ii ((ge g2 v.toNat).2.1)), (ii ((ge g2 v.toNat).2.2))]) rfl rfl yaF rfl rfl (yaY (hS.bx 4 rfl) (Nat.le_of_ble_eq_true rfl)) ?_)); intro w9 e1; replace hS := hS.bstn 4 rfl 0 [(ii ((ge g2 v.toNat).1)), (ii ((ge g2 v.toNat).2.1)), (ii ((ge g2 v.toNat).2.2))] e1; clear e1; refine zb (yaa (zs (zq (yaj rfl underlying83 rfl yah) (zq (zl underlying3 (Row.cell (hS.bx 4 rfl) (i := 0) rfl)) (zq (yaj rfl underlying83 rfl yah) (zq (zl underlying3 (Row.cell (hS.bx 4 rfl) (i := 1) rfl)) (zq zN (yaa ?_)))))))); by_cases hp3 : ((ge g2 v.toNat).1) = ((ge g2 v.toNat).2.1)
      · replace h := h.1 hp3; refine ze hp3 (yai (yal (zr ?_))); obtain ⟨hi, h⟩ := h; refine zq (yaG hE22 rfl hi) (zq (zm (ii (v + 1))) (yaa ?_)); obtain ⟨mq, hlt, h⟩ := h; exact again mq _ _ _ ⟨_, _, _, _, _, h, rfl, hE1, hE4, hE7, hE20, hE21, rfl, (hS.sel [0, 1, 2, 3] (by decide))⟩ hlt
      · replace h := h.2 hp3; refine zf hp3 (zs (zq (yaj rfl underlying83 rfl yah) (zq (zl underlying3 (Row.cell (hS.bx 4 rfl) (i := 2) rfl)) (zq (yac hE1) (zq (v_min2 rfl rfl) (zq (yaj rfl underlying83 rfl yah) (zo (zt (ii (mnF ((ge g2 v.toNat).2.2) most)) yah (hS.bwr 4 rfl (j := 2) rfl) ?_)))))))); intro w10 e1; replace hS := hS.bst 4 rfl 2 (ii (mnF ((ge g2 v.toNat).2.2) most)) e1; clear e1; refine zb (yaa (zr (zq (yaj hE7 underlying24 rfl yca) (zq (zl underlying22 (Row.cell (hS.bx 1 rfl) (i := 1) rfl)) (zq (yas (vs := [(ii ((ge g2 v.toNat).1)), (ii ((ge g2 v.toNat).2.1)), (ii (mnF ((ge g2 v.toNat).2.2) most))]) rfl underlying83 rfl yaF ⟨Row.cell (hS.bx 4 rfl) (i := 0) rfl, Row.cell (hS.bx 4 rfl) (i := 1) rfl, Row.cell (hS.bx 4 rfl) (i := 2) rfl, trivial⟩) (zn (ya8 (l := [(0, (.agg #[(ii ((ge g2 v.toNat).1)), (ii ((ge g2 v.toNat).2.1)), (ii (mnF ((ge g2 v.toNat).2.2) most))]))]) (cells := [(ii ((ge g2 v.toNat).1)), (ii ((ge g2 v.toNat).2.1)), (ii (mnF ((ge g2 v.toNat).2.2) most))]) (bp1 rfl) underlying22 yaF rfl rfl ?_))))))); intro g7 w11 hN; replace hS := hS.litf (n := 1) 5 rfl (fP (fI .i64) (fP (fI .i64) (fI .i64))) hN ([((ge g2 v.toNat).1, (ge g2 v.toNat).2.1, mnF ((ge g2 v.toNat).2.2) most)] : List E3) rfl (by decide) rfl; clear hN; refine zb ?_; obtain ⟨hx2, h⟩ := h; refine zn (n_app (c := c3) rfl rfl underlying22 underlying22 yaF rfl rfl (by decide) hS 2 rfl (hS.yo 5 rfl) hx2 ?_); clear hS; intro A c w12 hS; refine zb (zq (yaj hE7 underlying24 rfl yca) (zo (zt (.slice A (lout + 1) c) yca (hS.bwr 1 rfl (j := 1) rfl) ?_))); intro w13 e1; replace hS := hS.bst 1 rfl 1 (.slice A (lout + 1) c) e1; clear e1; refine zb (yaa (yal (zr ?_))); obtain ⟨hi2, h⟩ := h; refine zq (yaG hE22 rfl hi2) (zq (zm (ii (v + 1))) (yaa ?_)); obtain ⟨mq, hlt, h⟩ := h; exact again mq _ _ _ ⟨_, _, _, _, _, h, rfl, hE1, hE4, hE7, hE20, hE21, rfl, (hS.sel [0, 1, 2, 3] (by decide))⟩ hlt
    · replace h := h.2 hp2; refine zd hp2 (yaA rfl (zs (zq (yas (vs := [(ii g), (.slice Aout lout cout)]) hE7 underlying24 rfl yaq ⟨Row.cell (hS.bx 1 rfl) (i := 0) rfl, Row.cell (hS.bx 1 rfl) (i := 1) rfl, trivial⟩) (zo (ybr (b := g4) (o := 0) (cells := #[(ii g), (.slice Aout lout cout)]) hE4 rfl yaq rfl rfl (yaY (hS.bx 0 rfl) (Nat.le_of_ble_eq_true rfl)) ?_))))); intro w14 e1; replace hS := hS.bstn 0 rfl 0 [(ii g), (.slice Aout lout cout)] e1; clear e1; exact zb (zq (za (ii 0)) (yaa (wt_retx2 rfl (rv_n (vs := [(ii g), (.slice Aout lout cout)]) hE4 underlying24 rfl yaq ⟨Row.cell (hS.bx 0 rfl) (i := 0) rfl, Row.cell (hS.bx 0 rfl) (i := 1) rfl, trivial⟩) (rv_t rfl) ⟨_, _, _, _, _, _, rfl, (hS.sel [2] (by decide)), h⟩)))
  · replace h := h.2 hp; refine zf hp (zs (zn (ybp (l := []) (cells := [(ii 0), (.slice none 0 0)]) (places := [(0, 1), (1, 1)]) (bp0) underlying24 yaq (by kernel_rfl) rfl ?_))); refine zb (zq (zm (ii r)) (zo (ybr (b := g4) (o := 0) (cells := #[(ii 0), (.slice none 0 0)]) rfl rfl yaq rfl rfl (yaY (hS.bx 2 rfl) (Nat.le_of_ble_eq_true rfl)) ?_))); intro w15 e1; replace hS := hS.bstn 2 rfl 0 [(ii 0), (.slice none 0 0)] e1; clear e1; refine zb (zq (za (ii r)) (yaa ?_)); replace hS := hS.nil 3 rfl c3 83; exact wt_retx2 rfl (rv_n (vs := [(ii 0), (.slice none 0 0)]) rfl underlying24 rfl yaq ⟨Row.cell (hS.bx 2 rfl) (i := 0) rfl, Row.cell (hS.bx 2 rfl) (i := 1) rfl, trivial⟩) (rv_t rfl) ⟨_, _, _, _, _, _, rfl, (hS.sel [3] (by decide)), h⟩
def ybR (g : Int) (g2 : List E3) (R : Int → (List E3) → Int → Prop) : Prop :=
ycv g g2 50 (fun r r2 r3 =>
R r r2 r3)
theorem yfC {O : Nat → Prop} {w : World} {g g2 Ag lg cg} {R : Int → (List E3) → Int → Prop} (h : ybR g g2 R) (hO : ∀ k, O k → k < w.heap.size) (hA0 : (FP.sl c3 Ag lg cg g2).P O w) :
    Calls Try.prog 85 #[(.agg #[(ii g), (.slice Ag lg cg)])] w fun e w' => ∃ r4 r5 r6 Ar2 lr2 cr2, e = .returned (.tuple #[(.agg #[(ii r4), (.slice Ar2 lr2 cr2)]), (ii r6)]) ∧ Sep w no O w' (rl [Res.own c3 83 Ar2 lr2 cr2 r5]) ∧ R r4 r5 r6 := by
  unfold ybR at h; have hS : Sep w no O w (rl [Res.ro (FP.sl c3 Ag lg cg g2)]) := Sep.startl hO [(FP.sl c3 Ag lg cg g2)] ⟨hA0, trivial⟩; refine yap (l := [(.agg #[(ii g), (.slice Ag lg cg)])]) func85 rfl ntmps85 (Nat.le_of_ble_eq_true rfl) (zs (zn (ybq (v := (.agg #[(ii g), (.slice Ag lg cg)])) rfl ?_))); intro g3 w2 hN; replace hS : Sep w no O w2 (stl _ 1 (Res.box 24 g3 [(ii g), (.slice Ag lg cg)])) := hS.new 1 rfl hN; clear hN; refine zb (zn (ya7 yaq ?_)); intro g4 w3 hN; replace hS : Sep w no O w3 (stl _ 2 (Res.box 24 g4 [(ii 0), (.slice none 0 0)])) := hS.new 2 rfl hN; clear hN; refine zb (zq (za (ii 0)) (yaa (zs (zq (yas (vs := [(ii g), (.slice Ag lg cg)]) rfl underlying24 rfl yaq ⟨Row.cell (hS.bx 1 rfl) (i := 0) rfl, Row.cell (hS.bx 1 rfl) (i := 1) rfl, trivial⟩) (zn (yan rfl (am2 rfl rfl) enter_123 ((yf6 h (yaK _) (hS.rdr 0 rfl)).mono ?_))))))); rintro _ w4 ⟨r, r2, r3, Ar, lr, cr, rfl, hC, h⟩; replace hS := hS.call1 (hC.widen (yeo (ybk (fP (fI .i64) (fP (fI .i64) (fI .i64))) _ _ _ _ _) yfi) hS.blt) 3 0 rfl; clear hC; refine ⟨_, rfl, ?_⟩; refine zb (zq (zx (.agg #[(ii r), (.slice Ar lr cr)])) (zq (zx (ii r3)) (zo (ybr (b := g4) (o := 0) (cells := #[(ii r), (.slice Ar lr cr)]) rfl rfl yaq rfl rfl (yaY (hS.bx 2 rfl) (Nat.le_of_ble_eq_true rfl)) ?_)))); intro w5 e1; replace hS := hS.bstn 2 rfl 0 [(ii r), (.slice Ar lr cr)] e1; clear e1; exact zb (zq (za (ii r3)) (yaa (wt_retx2 rfl (rv_n (vs := [(ii r), (.slice Ar lr cr)]) rfl underlying24 rfl yaq ⟨Row.cell (hS.bx 2 rfl) (i := 0) rfl, Row.cell (hS.bx 2 rfl) (i := 1) rfl, trivial⟩) (rv_t rfl) ⟨_, _, _, _, _, _, rfl, (hS.sel [3] (by decide)), h⟩)))
def ydq (g : Int) (g2 : List E3) (R : Prop) : Prop :=
R
theorem ygb {O : Nat → Prop} {w : World} {g g2 Ag lg cg} {R : Prop} (h : ydq g g2 R) (hO : ∀ k, O k → k < w.heap.size) (hA0 : (FP.sl c3 Ag lg cg g2).P O w) :
    Calls Try.prog 124 #[(.agg #[(ii g), (.slice Ag lg cg)])] w fun e w' => ∃ gr, e = .returned (.func (Fn.func 157) #[] #[(.pointer (some (⟨gr, 0, none⟩ : Addr)))]) ∧ Sep w no O w' (rl [Res.box 24 gr [(ii g), (.slice Ag lg cg)]]) ∧ R := by
  unfold ydq at h; have hS : Sep w no O w (rl [Res.ro (FP.sl c3 Ag lg cg g2)]) := Sep.startl hO [(FP.sl c3 Ag lg cg g2)] ⟨hA0, trivial⟩; refine yap (l := [(.agg #[(ii g), (.slice Ag lg cg)])]) func124 rfl ntmps124 (Nat.le_of_ble_eq_true rfl) (zs (zn (ybq (v := (.agg #[(ii g), (.slice Ag lg cg)])) rfl ?_))); intro g3 w2 hN; replace hS : Sep w no O w2 (stl _ 1 (Res.box 24 g3 [(ii g), (.slice Ag lg cg)])) := hS.new 1 rfl hN; clear hN; exact zb (zq (za Value.nilFunc) (yaa (zs (zq (yiL (am0) (am1 rfl)) (zq (za (.func (Fn.func 157) #[] #[(.pointer (some (⟨g3, 0, none⟩ : Addr)))])) (yaa (yak rfl rfl ⟨_, rfl, (hS.sel [1] (by decide)), h⟩)))))))
def ybD (cap : Int) (cap2 : List E3) (Pr R : List E3 → Prop) : Prop :=
(∃ I2 : Nat → (List E3) → Int → Int → Prop, (∃ m0, I2 m0 ([]) 0 0) ∧ ∀ m2 pre2 e2 v, I2 m2 pre2 e2 v → 
((v < ((cap2.length : Nat) : Int) →
((0 ≤ v ∧ v < ((cap2.length : Nat) : Int)) ∧
(∃ I3 : Nat → (List E3) → Int → Int → Prop, (∃ m0, I3 m0 pre2 e2 0) ∧ ∀ m3 pre3 e3 v2, I3 m3 pre3 e3 v2 → 
((v2 < ((ge cap2 v.toNat).2.2) →
(Pr (pre3 ++ [(e3, (ge cap2 v.toNat).1, (ge cap2 v.toNat).2.1)]) ∧
((In64 (e3 + 1) ∧
(In64 (v2 + 1) ∧
∃ m4, m4 < m3 ∧ I3 m4 (pre3 ++ [(e3, (ge cap2 v.toNat).1, (ge cap2 v.toNat).2.1)]) (e3 + 1) (v2 + 1))) ∧
True))) ∧
(¬ (v2 < ((ge cap2 v.toNat).2.2)) →
(In64 (v + 1) ∧
∃ m5, m5 < m2 ∧ I2 m5 pre3 e3 (v + 1))))))) ∧
(¬ (v < ((cap2.length : Nat) : Int)) →
R pre2)))
theorem yfp {w : World} {T0 G0 : BS} {cap cap2 gc Acap lcap ccap} {Pr R : List E3 → Prop} (h : ybD cap cap2 Pr R) (hS0 : Sep w G0 T0 w (rl [Res.box 24 gc [(Value.int .i64 cap), (Value.slice Acap lcap ccap)], Res.ro (FP.sl c3 Acap lcap ccap cap2)])) :
    yg7 Try.prog 157 #[(.pointer (some (⟨gc, 0, none⟩ : Addr)))] (fun (x : E3) => #[(ii x.1), (.agg #[(ii x.2.1), (ii x.2.2)])]) (fun _ => FP.tt) Pr R T0 G0 w := by
  unfold ybD at h; intro l J Jx T1 w1 hs hJ hp hT; obtain ⟨G, hJ, hS⟩ := gen_start hS0 hs hJ hp hT; clear hS0 hp hT; refine yhh (l := [(.func (.yield l) #[] #[]), (.pointer (some (⟨gc, 0, none⟩ : Addr)))]) func157 rfl ntmps157 (Nat.le_of_ble_eq_true rfl) rfl (zs (zq (za (ii 0)) (yaa (zs (zq (yaj rfl underlying24 rfl yca) (zq (zl underlying22 (Row.cell (hS.bx 0 rfl) (i := 1) rfl)) (zq (yaZ (n := cap2.length) rfl underlying22 (yaS (hS.rdr 1 rfl))) (zq (zm (ii 0)) (yaa (yam ?_)))))))))); obtain ⟨I2, ⟨m0, h0⟩, hr⟩ := h; refine yaC (fun m E ds w' => ∃ pre2 e2 v, ∃ T2 : BS, ∃ G2 : BS, ∃ wb2 : World, I2 m pre2 e2 v ∧ ds = [] ∧ E 0 = (Value.func (.yield l) #[] #[]) ∧ E 3 = (ii e2) ∧ E 7 = (Value.slice Acap lcap ccap) ∧ E 8 = (ii ((cap2.length : Nat) : Int)) ∧ E 9 = (ii v) ∧ J T2 G2 pre2 wb2 ∧ Sep wb2 G2 T2 w' (rl [Res.ro (FP.sl c3 Acap lcap ccap cap2)])) m0 ⟨_, _, _, _, _, _, h0, rfl, rfl, rfl, rfl, rfl, rfl, hJ, (hS.sel [1] (by decide))⟩ ?_; clear h0 hS hJ; rintro m2 E ds w2 ⟨pre2, e2, v, T2, G2, wb2, h, rfl, hE0, hE3, hE7, hE8, hE9, hJ, hS⟩ again; replace h := hr m2 pre2 e2 v h; clear hr; refine zs (zq (yaP hE9 hE8) (yaa (yae ?_))); by_cases hp : v < ((cap2.length : Nat) : Int)
  · replace h := h.1 hp; refine zc hp (yai (yae (yam (zs ?_)))); obtain ⟨hx, h⟩ := h; refine zq (yao hE7 hE9 underlying22 yaF (yaM (hS.rdr 0 rfl) hx)) (zq (yas (vs := [(ii ((ge cap2 v.toNat).1)), (ii ((ge cap2 v.toNat).2.1)), (ii ((ge cap2 v.toNat).2.2))]) rfl underlying83 rfl yaF (rd_fs (hS.rdr 0 rfl) hx (fun q => ycL q))) ?_); refine zn (ya7 yaF ?_); intro g w3 hN; replace hS : Sep wb2 G2 T2 w3 (stl _ 1 (Res.box 83 g [(ii 0), (ii 0), (ii 0)])) := hS.new 1 rfl hN; clear hN; refine zb (zo (ybr (b := g) (o := 0) (cells := #[(ii ((ge cap2 v.toNat).1)), (ii ((ge cap2 v.toNat).2.1)), (ii ((ge cap2 v.toNat).2.2))]) rfl rfl yaF rfl rfl (yaY (hS.bx 1 rfl) (Nat.le_of_ble_eq_true rfl)) ?_)); intro w4 e1; replace hS := hS.bstn 1 rfl 0 [(ii ((ge cap2 v.toNat).1)), (ii ((ge cap2 v.toNat).2.1)), (ii ((ge cap2 v.toNat).2.2))] e1; clear e1; refine zb (yaa (zs (zq (yaj rfl underlying83 rfl yah) (zq (zl underlying3 (Row.cell (hS.bx 1 rfl) (i := 2) rfl)) (zq (zm (ii 0)) (yaa (yam ?_))))))); obtain ⟨I3, ⟨m0, h0⟩, hr⟩ := h; refine yaC (fun m E ds w' => ∃ pre3 e3 v2, ∃ T3 : BS, ∃ G3 : BS, ∃ wb3 : World, I3 m pre3 e3 v2 ∧ ds = [] ∧ E 0 = (Value.func (.yield l) #[] #[]) ∧ E 3 = (ii e3) ∧ E 5 = (Value.pointer (some (⟨g, 0, none⟩ : Addr))) ∧ E 7 = (Value.slice Acap lcap ccap) ∧ E 8 = (ii ((cap2.length : Nat) : Int)) ∧ E 9 = (ii v) ∧ E 14 = (ii ((ge cap2 v.toNat).2.2)) ∧ E 15 = (ii v2) ∧ J T3 G3 pre3 wb3 ∧ Sep wb3 G3 T3 w' (rl [Res.box 83 g [(ii ((ge cap2 v.toNat).1)), (ii ((ge cap2 v.toNat).2.1)), (ii ((ge cap2 v.toNat).2.2))], Res.ro (FP.sl c3 Acap lcap ccap cap2)])) m0 ⟨_, _, _, _, _, _, h0, rfl, hE0, hE3, rfl, hE7, hE8, hE9, rfl, rfl, hJ, (hS.sel [1, 0] (by decide))⟩ ?_; clear h0 hS hJ; rintro m3 E ds w5 ⟨pre3, e3, v2, T3, G3, wb3, h, rfl, hE0, hE3, hE5, hE7, hE8, hE9, hE14, hE15, hJ, hS⟩ again2; replace h := hr m3 pre3 e3 v2 h; clear hr; refine zs (zq (yaP hE15 hE14) (yaa (yae ?_))); by_cases hp2 : v2 < ((ge cap2 v.toNat).2.2)
    · replace h := h.1 hp2; refine zc hp2 (yai (yae (yam (yae (zs (zq (yac hE0) (zq (yac hE3) (zq (yaj hE5 underlying83 rfl yah) (zq (zl underlying3 (Row.cell (hS.bx 0 rfl) (i := 0) rfl)) (zq (yaj hE5 underlying83 rfl yah) (zq (zl underlying3 (Row.cell (hS.bx 0 rfl) (i := 1) rfl)) (zn (ybp (l := [(0, (ii ((ge cap2 v.toNat).1))), (1, (ii ((ge cap2 v.toNat).2.1)))]) (cells := [(ii ((ge cap2 v.toNat).1)), (ii ((ge cap2 v.toNat).2.1))]) (places := [(0, 1), (1, 1)]) (bp2 rfl rfl) underlying167 ycg (by kernel_rfl) rfl ?_))))))))))))); refine zb ?_; obtain ⟨hPr, hyes, hno⟩ := h; refine zn (n_yield (m := 1) rfl (am2 rfl rfl) (gen_yield (x := (e3, (ge cap2 v.toNat).1, (ge cap2 v.toNat).2.1)) hs hJ hS hPr trivial ?_ ?_))
      · clear hno hJ hS; have h := hyes; clear hyes; intro T4 w6 hJ hS; generalize OwnB _ = G4 at hJ hS; refine ⟨_, rfl, ?_⟩; refine zb (zq (ycV rfl) (yaa (yaz (congrArg Value.bool (congrArg Bool.not rfl)) (yai (zr (zq (yac hE3) ?_)))))); obtain ⟨hi, h⟩ := h; refine zq (zA hi) (zq (za (ii (e3 + 1))) (yaa (yal (zr ?_)))); obtain ⟨hi2, h⟩ := h; refine zq (yaG hE15 rfl hi2) (zq (zm (ii (v2 + 1))) (yaa ?_)); obtain ⟨mq, hlt, h⟩ := h; exact again2 mq _ _ _ ⟨_, _, _, _, _, _, h, rfl, hE0, rfl, hE5, hE7, hE8, hE9, hE14, rfl, hJ, (hS.sel [0, 1] (by decide))⟩ hlt
      · clear hyes hJ hS; have h := hno; clear hno; intro T5 w7 hJ hS; generalize OwnB _ = G5 at hJ hS; refine ⟨_, rfl, ?_⟩; exact zb (zq (ycV rfl) (yaa (yau (congrArg Value.bool (congrArg Bool.not rfl)) (wt_ret0 rfl ⟨⟨_, rfl⟩, gen_endx hs hJ hS⟩))))
    · replace h := h.2 hp2; refine zd hp2 (yaA rfl (yal (zr ?_))); obtain ⟨hi3, h⟩ := h; refine zq (yaG hE9 rfl hi3) (zq (zm (ii (v + 1))) (yaa ?_)); obtain ⟨mq, hlt, h⟩ := h; exact again mq _ _ _ ⟨_, _, _, _, _, _, h, rfl, hE0, hE3, hE7, hE8, rfl, hJ, (hS.sel [1] (by decide))⟩ hlt
  · replace h := h.2 hp; exact zd hp (yaA rfl (yhG rfl ⟨⟨_, rfl⟩, gen_end hs hJ hS h⟩))
def ya9 (f : List Int) (v : Int) (R : Int → Prop) : Prop :=
(∃ I2 : Nat → Int → Prop, (∃ m0, I2 m0 v) ∧ ∀ m2 v2, I2 m2 v2 → 
((0 ≤ v2 ∧ v2 < 12) ∧
(((gi f v2.toNat) = v2 →
R v2) ∧
(¬ ((gi f v2.toNat) = v2) →
∃ m3, m3 < m2 ∧ I2 m3 (gi f v2.toNat)))))
theorem yde {S O : Nat → Prop} {w : World} {f v gc} {R : Int → Prop} (h : ya9 f v R) (hS : Sep w S O w (rl [Res.own cI 162 (some ⟨gc, 0, none⟩) 12 12 f])) :
    Calls Try.prog 125 #[(.pointer (some (⟨gc, 0, none⟩ : Addr))), (ii v)] w fun e w' => ∃ r, e = .returned (ii r) ∧ Sep w S O w' (rl [Res.own cI 162 (some ⟨gc, 0, none⟩) 12 12 f]) ∧ R r := by
  unfold ya9 at h; refine yap (l := [(.pointer (some (⟨gc, 0, none⟩ : Addr))), (ii v)]) func125 rfl ntmps125 (Nat.le_of_ble_eq_true rfl) (zs (zq (za (ii 0)) (yaa (yae (yam ?_))))); obtain ⟨I2, ⟨m0, h0⟩, hr⟩ := h; refine yaC (fun m E ds w' => ∃ v2, I2 m v2 ∧ ds = [] ∧ E 0 = (Value.pointer (some (⟨gc, 0, none⟩ : Addr))) ∧ E 1 = (ii v2) ∧ Sep w S O w' (rl [Res.own cI 162 (some ⟨gc, 0, none⟩) 12 12 f])) m0 ⟨_, h0, rfl, rfl, rfl, (hS.sel [0] (by decide))⟩ ?_; clear h0 hS; rintro m2 E ds w2 ⟨v2, h, rfl, hE0, hE1, hS⟩ again; replace h := hr m2 v2 h; clear hr; refine yae (zs (zq (yac (v := (.pointer (some (⟨gc, 0, none⟩ : Addr)))) hE0) (zq (yac hE1) (zq (ybz rfl) ?_)))); obtain ⟨hx, h⟩ := h; have hy := arr_ix (hS.rdo 0 rfl) hx; refine zq (ygX rfl rfl underlying162 yah hx) (zq (yag (v := (ii (gi f v2.toNat))) rfl underlying3 rfl (rd_1 (hS.rdo 0 rfl) hy (fun q => yaH q) rfl)) ?_); refine zq (yac hE1) (zq zN (yaa ?_)); by_cases hp : (gi f v2.toNat) = v2
  · replace h := h.1 hp; exact ze hp (yaA rfl (zs (zq (yac hE1) (zq (za (ii v2)) (yaa (yak rfl rfl ⟨_, rfl, (hS.sel [0] (by decide)), h⟩))))))
  · replace h := h.2 hp; refine zf hp (yai (yam (zr (zq (yac (v := (.pointer (some (⟨gc, 0, none⟩ : Addr)))) hE0) (zq (yac hE1) (zq (ybz rfl) ?_)))))); have hy2 := arr_ix (hS.rdo 0 rfl) hx; refine zq (ygX rfl rfl underlying162 yah hx) (zq (yag (v := (ii (gi f v2.toNat))) rfl underlying3 rfl (rd_1 (hS.rdo 0 rfl) hy2 (fun q => yaH q) rfl)) ?_); refine zq (za (ii (gi f v2.toNat))) (yaa (yal ?_)); obtain ⟨mq, hlt, h⟩ := h; exact again mq _ _ _ ⟨_, h, rfl, hE0, rfl, (hS.sel [0] (by decide))⟩ hlt
def ycs (g : Int) (g2 : List E3) (R : Int → Int → Prop) : Prop :=
yb2 g g2 (fun r =>
((r = 0 →
(∃ I2 : Nat → Int → (List Int) → Prop, (∃ m0, I2 m0 0 (List.replicate 12 (0 : Int))) ∧ ∀ m2 v f, I2 m2 v f → 
((v < 12 →
((0 ≤ v ∧ v < 12) ∧
(In64 (v + 1) ∧
∃ m3, m3 < m2 ∧ I2 m3 (v + 1) (f.set v.toNat v)))) ∧
(¬ (v < 12) →
ydq g g2 ((∃ Pr Rr : List E3 → Prop, ybD g g2 Pr Rr ∧
(∃ I3 : List E3 → (List Int) → Int → Prop, I3 [] f 0 ∧
(∀ pre y y2 y3 f2 genus, I3 pre f2 genus → Pr (pre ++ [(y, y2, y3)]) →
ya9 f2 y2 (fun r2 =>
ya9 f2 y3 (fun r3 =>
(∃ J2 : Int → Prop, (∀ (genus2 : Int), J2 genus2 → ((0 ≤ (mxF r2 r3) ∧ (mxF r2 r3) < 12) ∧
I3 (pre ++ [(y, y2, y3)]) (f2.set (mxF r2 r3).toNat (mnF r2 r3)) genus2)) ∧
((r2 = r3 →
(In64 (genus + 1) ∧
J2 (genus + 1))) ∧
(¬ (r2 = r3) →
J2 genus)))))) ∧
(∀ ys f2 genus, I3 ys f2 genus → Rr ys →
R genus 0)))))))) ∧
(¬ (r = 0) →
R 0 r)))
theorem yhv {O : Nat → Prop} {w : World} {g g2 Ag lg cg} {R : Int → Int → Prop} (h : ycs g g2 R) (hO : ∀ k, O k → k < w.heap.size) (hA0 : (FP.sl c3 Ag lg cg g2).P O w) :
    Calls Try.prog 86 #[(.agg #[(ii g), (.slice Ag lg cg)])] w fun e w' => ∃ r4 r5, e = .returned (.tuple #[(ii r4), (ii r5)]) ∧ Sep w no O w' (rl []) ∧ R r4 r5 := by
  unfold ycs at h; have hS : Sep w no O w (rl [Res.ro (FP.sl c3 Ag lg cg g2)]) := Sep.startl hO [(FP.sl c3 Ag lg cg g2)] ⟨hA0, trivial⟩; refine yfE (l := [(.agg #[(ii g), (.slice Ag lg cg)])]) func86 rfl ntmps86 (Nat.le_of_ble_eq_true rfl) (zs (zn (ybq (v := (.agg #[(ii g), (.slice Ag lg cg)])) rfl ?_))); intro g3 w2 hN; replace hS : Sep w no O w2 (stl _ 1 (Res.box 24 g3 [(ii g), (.slice Ag lg cg)])) := hS.new 1 rfl hN; clear hN; refine zb (zq (za (ii 0)) (zq (za (ii 0)) (yaa (yae (zs (zq (yas (vs := [(ii g), (.slice Ag lg cg)]) rfl underlying24 rfl yaq ⟨Row.cell (hS.bx 1 rfl) (i := 0) rfl, Row.cell (hS.bx 1 rfl) (i := 1) rfl, trivial⟩) (zn (yan rfl (am1 rfl) yiI ((yeU h (yaK _) (hS.rdr 0 rfl)).mono ?_))))))))); rintro _ w3 ⟨r, rfl, hC, h⟩; replace hS := hS.pur hC.pure; clear hC; refine ⟨_, rfl, ?_⟩; refine zb (zq (za (ii r)) (yaa (zs (zq (zm (ii r)) (zq zN (yaa ?_)))))); by_cases hp : r = 0
  · replace h := h.1 hp; refine ze hp (yai (zs (zn (ya7 info_162 ?_)))); intro g4 w4 hN; replace hS := hS.made (n := 12) 2 rfl cI (ii 0) (0 : Int) (fun _ _ => rfl) (hN : New _ _ _ (Array.replicate 12 (ii 0)) 162) (by decide); clear hN; refine zb (yaa (yae (zs (zq (zm (ii 0)) (yaa (yam ?_)))))); obtain ⟨I2, ⟨m0, h0⟩, hr⟩ := h; refine yaC (fun m E ds w' => ∃ v f, I2 m v f ∧ ds = [] ∧ E 1 = (Value.pointer (some (⟨g3, 0, none⟩ : Addr))) ∧ E 5 = (Value.pointer (some (⟨g4, 0, none⟩ : Addr))) ∧ E 17 = (ii v) ∧ Sep w no O w' (rl [Res.box 24 g3 [(ii g), (.slice Ag lg cg)], Res.ro (FP.sl c3 Ag lg cg g2), Res.own cI 162 (some ⟨g4, 0, none⟩) 12 12 f])) m0 ⟨_, _, h0, rfl, rfl, rfl, rfl, (hS.sel [1, 0, 2] (by decide))⟩ ?_; clear h0 hS; rintro m2 E ds w5 ⟨v, f, h, rfl, hE1, hE5, hE17, hS⟩ again; replace h := hr m2 v f h; clear hr; refine zs (zq (yaP hE17 rfl) (yaa (yae ?_))); by_cases hp2 : v < 12
    · replace h := h.1 hp2; refine zc hp2 (yai (yae (yam (zs (zq (yac hE17) (zq (za (ii v)) (yaa (zr (zq (zm (ii v)) (zq (zm (ii v)) ?_)))))))))); obtain ⟨hx, h⟩ := h; have hy := arr_ix (hS.rdo 2 rfl) hx; refine zq (ygX hE5 rfl underlying162 yah hx) (zo (zt (ii v) yah (hS.wr 2 rfl rfl hy) ?_)); intro w6 e1; replace hS := hS.st 2 rfl rfl hy (x := v) rfl e1; clear e1; refine zb (yaa (yal (zr ?_))); obtain ⟨hi, h⟩ := h; refine zq (yaG hE17 rfl hi) (zq (zm (ii (v + 1))) (yaa ?_)); obtain ⟨mq, hlt, h⟩ := h; exact again mq _ _ _ ⟨_, _, h, rfl, hE1, hE5, rfl, (hS.sel [0, 1, 2] (by decide))⟩ hlt
    · replace h := h.2 hp2; refine zd hp2 (yaA rfl (zs (zn (ya7 yah ?_)))); intro g5 w7 hN; replace hS : Sep w no O w7 (stl _ 3 (Res.box 3 g5 [(ii 0)])) := hS.new 3 rfl hN; clear hN; refine zb (zo (zt (ii 0) yah (hS.bwr 3 rfl (j := 0) rfl) ?_)); intro w8 e1; replace hS := hS.bst 3 rfl 0 (ii 0) e1; clear e1; refine zb (yaa (yae (zs (zq (yas (vs := [(ii g), (.slice Ag lg cg)]) hE1 underlying24 rfl yaq ⟨Row.cell (hS.bx 0 rfl) (i := 0) rfl, Row.cell (hS.bx 0 rfl) (i := 1) rfl, trivial⟩) (zn (yan rfl (am1 rfl) enter_124 ((ygb h hS.blt (hS.ro 1 rfl)).mono ?_))))))); rintro _ w9 ⟨gc, rfl, hC, h⟩; replace hS := hS.call1 hC 4 0 rfl; clear hC; refine ⟨_, rfl, ?_⟩; refine zb (yaa (yam ?_)); obtain ⟨Pr, Rr, hgp, I3, h0, hb, h⟩ := h; refine wt_iterS hS [2, 3] [4, 1] (by decide) (by decide) ⟨.inl (by decide), .inr rfl, trivial⟩ rfl enter_157 (val := (fun (x : E3) => #[(ii x.1), (.agg #[(ii x.2.1), (ii x.2.2)])])) (pass := (fun _ => FP.tt)) (Pr := Pr) (R := Rr) (fun _ => rfl) rfl (fun pr LL => ∃ f2 genus, I3 pr f2 genus ∧ LL = [Res.own cI 162 (some ⟨g4, 0, none⟩) 12 12 f2, Res.box 3 g5 [(ii genus)]]) (fun _ _ _ => False) ⟨_, _, h0, rfl⟩ (fun T G hG => yfp hgp hG) ?_ ?_ (fun _ _ _ _ _ hx => hx.elim)
      · clear h h0 hS hgp; rintro ll rdy busy S O2 pre ⟨y, y2, y3⟩ w10 _ ⟨f2, genus, hI, rfl⟩ hPr hpass hS; have h := hb pre y y2 y3 f2 genus hI hPr; clear hb hI hPr; clear hpass; refine ybg (ybe ll) (zn (ya7 ycg ?_)); intro g6 w12 hN; replace hS : Sep w10 S O2 w12 (stl _ 3 (Res.box 167 g6 [(ii 0), (ii 0)])) := hS.new 3 rfl hN; clear hN; refine zb (zo (ybr (b := g6) (o := 0) (cells := #[(ii y2), (ii y3)]) rfl rfl ycg rfl rfl (yaY (hS.bx 3 rfl) (Nat.le_of_ble_eq_true rfl)) ?_)); intro w13 e1; replace hS := hS.bstn 3 rfl 0 [(ii y2), (ii y3)] e1; clear e1; refine zb (yaa (yfF fun a ra => ⟨rfl, _, _, ra, hS, ⟨2, rfl⟩, ?_⟩)); intro w14 hw; replace hS := hS.flip 2 rfl busy hw; clear hw ra a; refine yam (yae (yba [0, 1, 3, 4, 2, 5, 6, 7] (fun i => match i with | 2 => [3, 4] | _ => []) (ybe ll) (by kernel_rfl) (by kernel_rfl) ?_)); replace hS := hS.drew; refine zp (yaj rfl underlying167 rfl yah) (zp (zl underlying3 (Row.cell (hS.bx 3 rfl) (i := 0) rfl)) (zp (yaj rfl underlying167 rfl yah) (zp (zl underlying3 (Row.cell (hS.bx 3 rfl) (i := 1) rfl)) ?_))); have hB := hS.lend (asc [(0, 0)]) [0] (by decide) ⟨.inl (ydN rfl), trivial⟩; refine rp_n rfl rfl rfl rfl (yhs (vs := #[(.pointer (some (⟨g4, 0, none⟩ : Addr))), (ii y2)]) (us := #[]) rfl (am2 hE5 rfl) enter_125 ((ydD (by simp) (yde h hB)).mono ?_)); rintro _ w15 ⟨r2, rfl, hC, h⟩; replace hS := hS.back (asc [(0, 0)]) (yf9 (by decide)) hC; clear hC hB; refine ⟨_, rfl, ?_⟩; refine ⟨⟨fun _ => (zl underlying3 (Row.cell (hS.bx 3 rfl) (i := 1) rfl)), ⟨fun _ => (yaj rfl underlying167 rfl yah), ⟨fun hh => Bool.noConfusion (show false = true from hh), ⟨fun hh => Bool.noConfusion (show false = true from hh), trivial⟩⟩⟩⟩, ?_⟩; have hB := hS.lend (asc [(0, 0)]) [0] (by decide) ⟨.inl (ydN rfl), trivial⟩; refine rp_n rfl rfl rfl rfl (yhs (vs := #[(.pointer (some (⟨g4, 0, none⟩ : Addr))), (ii y3)]) (us := #[]) rfl (am2 hE5 rfl) enter_125 ((ydD (by simp) (yde h hB)).mono ?_)); rintro _ w16 ⟨r3, rfl, hC, h⟩; replace hS := hS.back (asc [(0, 0)]) (yf9 (by decide)) hC; clear hC hB; refine ⟨_, rfl, ?_⟩; refine zb (zp (za (ii r2)) (zp (za (ii r3)) (ybs (yae (yae (ybg (ybe ll) (zq (zm (ii r2)) (zq (zm (ii r3)) (zq zE (yaa ?_)))))))))); obtain ⟨J2, hJ, h⟩ := h; refine ygT (fun E ds w' => ∃ genus2, J2 genus2 ∧ ds = [] ∧ E 5 = (Value.pointer (some (⟨g4, 0, none⟩ : Addr))) ∧ E 7 = (Value.pointer (some (⟨g5, 0, none⟩ : Addr))) ∧ E 10 = (ii r2) ∧ E 11 = (ii r3) ∧ Sep w10 S O2 w' (rl [Res.obj ll busy, Res.own cI 162 (some ⟨g4, 0, none⟩) 12 12 f2, Res.box 3 g5 [(ii genus2)]])) ?_ ?_
        · clear h hS; rintro E ds w17 ⟨genus2, h, rfl, hE5, hE7, hE10, hE11, hS⟩; replace h := hJ genus2 h; refine ybg (ybe ll) (zq (yac hE10) (zq (yac hE11) (zq (v_max2 rfl rfl) (zq (yac hE10) (zq (yac hE11) (zq (v_min2 rfl rfl) ?_)))))); obtain ⟨hx2, h⟩ := h; have hy2 := arr_ix (hS.rdo 1 rfl) hx2; refine zq (ygX hE5 rfl underlying162 yah hx2) (zo (zt (ii (mnF r2 r3)) yah (hS.wr 1 rfl rfl hy2) ?_)); intro w18 e1; replace hS := hS.st 1 rfl rfl hy2 (x := mnF r2 r3) rfl e1; clear e1; exact zb (yaa (yal (yfF fun a r => ⟨_, ⟨_, _, h, rfl⟩, (hS.sel [1, 2, 0] (by decide))⟩)))
        clear hJ; intro j; by_cases hp3 : r2 = r3
        · replace h := h.1 hp3; refine zc hp3 (ybg (ybe ll) (zq (zl underlying3 (Row.cell (hS.bx 1 rfl) (i := 0) rfl)) ?_)); obtain ⟨hi2, h⟩ := h; refine zq (zA hi2) (zo (zt (ii (genus + 1)) yah (hS.bwr 1 rfl (j := 0) rfl) ?_)); intro w19 e1; replace hS := hS.bst 1 rfl 0 (ii (genus + 1)) e1; clear e1; exact zb (yaa (j _ _ _ ⟨_, h, rfl, hE5, rfl, rfl, rfl, (hS.sel [2, 0, 1] (by decide))⟩))
        · replace h := h.2 hp3; exact zd hp3 (yai (j _ _ _ ⟨_, h, rfl, hE5, rfl, rfl, rfl, (hS.sel [2, 0, 1] (by decide))⟩))
      · clear hb h0 hS hgp; rintro D ys w11 _ hRr ⟨f2, genus, hI, rfl⟩ hS; replace h := h ys f2 genus hI hRr; clear hI hRr; exact yal (zs (zq (zl underlying3 (Row.cell (hS.bx 1 rfl) (i := 0) rfl)) (zq (za (ii genus)) (zq (za (ii 0)) (yaa (wt_retk2 (rs := [D]) (by simp) (hS.marked 2 rfl) rfl rfl rfl (fun w9 hk => ⟨_, _, rfl, (hS.unmark [2] [] (by decide) (by decide) (yhe 2 rfl) hk), h⟩)))))))
  · replace h := h.2 hp; exact zf hp (zs (zq (zm (ii r)) (zq (za (ii 0)) (zq (za (ii r)) (yaa (wt_retk2 (rs := []) (by simp) (by simp) rfl rfl rfl (fun w9 hk => ⟨_, _, rfl, (hS.unmark [] [] (by decide) (by decide) (by simp) hk), h⟩)))))))
def ycM (d : List Int) (R : Bool → (List Int) → Prop) : Prop :=
(In64 (((d.length : Nat) : Int) - 1) ∧
(∃ I2 : Nat → Int → Prop, (∃ m0, I2 m0 (((d.length : Nat) : Int) - 1)) ∧ ∀ m2 j, I2 m2 j → 
((0 < j →
((0 ≤ j ∧ j < ((d.length : Nat) : Int)) ∧
(((gi d j.toNat) = 0 →
(In64 (j - 1) ∧
∃ m3, m3 < m2 ∧ I2 m3 (j - 1))) ∧
(¬ ((gi d j.toNat) = 0) →
((j = 0 →
R false d) ∧
(¬ (j = 0) →
(In64 ((gi d j.toNat) - 1) ∧
(In64 (j - 1) ∧
((0 ≤ (j - 1) ∧ (j - 1) < (((d.set j.toNat 0).length : Nat) : Int)) ∧
(In64 ((gi (d.set j.toNat 0) (j - 1).toNat) + 1) ∧
((0 ≤ (((d.length : Nat) : Int) - 1) ∧ (((d.length : Nat) : Int) - 1) < ((((d.set j.toNat 0).set (j - 1).toNat ((gi (d.set j.toNat 0) (j - 1).toNat) + 1)).length : Nat) : Int)) ∧
R true (((d.set j.toNat 0).set (j - 1).toNat ((gi (d.set j.toNat 0) (j - 1).toNat) + 1)).set (((d.length : Nat) : Int) - 1).toNat ((gi d j.toNat) - 1))))))))))))) ∧
(¬ (0 < j) →
((j = 0 →
R false d) ∧
(¬ (j = 0) →
((0 ≤ j ∧ j < ((d.length : Nat) : Int)) ∧
(In64 ((gi d j.toNat) - 1) ∧
(In64 (j - 1) ∧
((0 ≤ (j - 1) ∧ (j - 1) < (((d.set j.toNat 0).length : Nat) : Int)) ∧
(In64 ((gi (d.set j.toNat 0) (j - 1).toNat) + 1) ∧
((0 ≤ (((d.length : Nat) : Int) - 1) ∧ (((d.length : Nat) : Int) - 1) < ((((d.set j.toNat 0).set (j - 1).toNat ((gi (d.set j.toNat 0) (j - 1).toNat) + 1)).length : Nat) : Int)) ∧
R true (((d.set j.toNat 0).set (j - 1).toNat ((gi (d.set j.toNat 0) (j - 1).toNat) + 1)).set (((d.length : Nat) : Int) - 1).toNat ((gi d j.toNat) - 1))))))))))))))
theorem pok_chips_step {S O : Nat → Prop} {w : World} {d Ad ld cd} {R : Bool → (List Int) → Prop} (h : ycM d R) (hS : Sep w S O w (rl [Res.own cI 3 Ad ld cd d])) :
    Calls Try.prog 126 #[(.slice Ad ld cd)] w fun e w' => ∃ r z, e = .returned (.bool (r)) ∧ Sep w S O w' (rl [Res.own cI 3 Ad ld cd z]) ∧ R r z := by
  unfold ycM at h; refine yap (l := [(.slice Ad ld cd)]) func126 rfl ntmps126 (Nat.le_of_ble_eq_true rfl) (zs (zq (za (.bool (false))) (yaa (zs (zq (zm (.slice Ad ld cd)) (zq (yaZ (n := d.length) rfl underlying26 (yaS (hS.rdo 0 rfl))) ?_)))))); obtain ⟨hi, h⟩ := h; refine zq (zS hi) (zq (za (ii (((d.length : Nat) : Int) - 1))) (yaa (zs (zq (zm (ii (((d.length : Nat) : Int) - 1))) (zq (za (ii (((d.length : Nat) : Int) - 1))) (yaa (yae (yam ?_)))))))); obtain ⟨I2, ⟨m0, h0⟩, hr⟩ := h; refine yaC (fun m E ds w' => ∃ j, I2 m j ∧ ds = [] ∧ E 0 = (Value.slice Ad ld cd) ∧ E 3 = (ii (((d.length : Nat) : Int) - 1)) ∧ E 4 = (ii j) ∧ Sep w S O w' (rl [Res.own cI 3 Ad ld cd d])) m0 ⟨_, h0, rfl, rfl, rfl, rfl, (hS.sel [0] (by decide))⟩ ?_; clear h0 hS; rintro m2 E ds w2 ⟨j, h, rfl, hE0, hE3, hE4, hS⟩ again; replace h := hr m2 j h; clear hr; refine yae (zs (zq (yac hE4) (zq zG (zq (zm (.bool (decide (0 < j)))) ?_)))); by_cases hp : 0 < j
  · replace h := h.1 hp; refine rl_q (yad rfl (yaf rfl (congrArg Value.bool (decide_eq_true hp)))) rfl rfl (yac hE0) (rl_q (yad rfl (yaf rfl (congrArg Value.bool (decide_eq_true hp)))) rfl rfl (yac hE4) ?_); obtain ⟨hx, h⟩ := h; refine rl_q (yad rfl (yaf rfl (congrArg Value.bool (decide_eq_true hp)))) rfl rfl (zi underlying26 yah (yaM (hS.rdo 0 rfl) hx)) (rl_q (yad rfl (yaf rfl (congrArg Value.bool (decide_eq_true hp)))) rfl rfl (yag (v := (ii (gi d j.toNat))) rfl underlying3 rfl (rd_1 (hS.rdo 0 rfl) hx (fun q => yaH q) rfl)) ?_); refine rl_q (yad rfl (yaf rfl (congrArg Value.bool (decide_eq_true hp)))) rfl rfl zE (zq (yaw (v := (.bool (decide ((gi d j.toNat) = 0)))) (congrArg Value.bool (decide_eq_true hp)) rfl) (yaa ?_)); by_cases hp2 : (gi d j.toNat) = 0
    · replace h := h.1 hp2; refine zc hp2 (yai (yam (zr (zq (yac hE4) ?_)))); obtain ⟨hi2, h⟩ := h; refine zq (zS hi2) (zq (za (ii (j - 1))) (yaa (yal ?_))); obtain ⟨mq, hlt, h⟩ := h; exact again mq _ _ _ ⟨_, h, rfl, hE0, hE3, rfl, (hS.sel [0] (by decide))⟩ hlt
    · replace h := h.2 hp2; refine zd hp2 (yaA rfl (yae (zs (zq (yac hE4) (zq zE (yaa ?_)))))); by_cases hp3 : j = 0
      · replace h := h.1 hp3; exact zc hp3 (zs (zq (za (.bool (false))) (yaa (yak rfl rfl ⟨_, _, rfl, (hS.sel [0] (by decide)), h⟩))))
      · replace h := h.2 hp3; refine zd hp3 (yai (zs (zq (yac hE0) (zq (yac hE4) (zq (zi underlying26 yah (yaM (hS.rdo 0 rfl) hx)) (zq (yag (v := (ii (gi d j.toNat))) rfl underlying3 rfl (rd_1 (hS.rdo 0 rfl) hx (fun q => yaH q) rfl)) ?_)))))); obtain ⟨hi3, h⟩ := h; refine zq (zS hi3) (zq (za (ii ((gi d j.toNat) - 1))) (yaa (zs (zq (yac hE0) (zq (yac hE4) (zq (zi underlying26 yah (yaM (hS.rdo 0 rfl) hx)) (zo (zt (ii 0) yah (hS.wr 0 rfl rfl hx) ?_)))))))); intro w3 e1; replace hS := hS.st 0 rfl rfl hx (x := 0) rfl e1; clear e1; refine zb (yaa (zs (zq (yac hE0) (zq (yac hE4) ?_)))); obtain ⟨hi4, h⟩ := h; refine zq (zS hi4) ?_; obtain ⟨hx2, h⟩ := h; refine zq (zi underlying26 yah (yaM (hS.rdo 0 rfl) hx2)) (zq (yag (v := (ii (gi (d.set j.toNat 0) (j - 1).toNat))) rfl underlying3 rfl (rd_1 (hS.rdo 0 rfl) hx2 (fun q => yaH q) rfl)) ?_); obtain ⟨hi5, h⟩ := h; refine zq (zA hi5) (zq (zi underlying26 yah (yaM (hS.rdo 0 rfl) hx2)) (zo (zt (ii ((gi (d.set j.toNat 0) (j - 1).toNat) + 1)) yah (hS.wr 0 rfl rfl hx2) ?_))); intro w4 e1; replace hS := hS.st 0 rfl rfl hx2 (x := (gi (d.set j.toNat 0) (j - 1).toNat) + 1) rfl e1; clear e1; refine zb (yaa (zs (zq (yac hE0) (zq (yac (v := (ii (((d.length : Nat) : Int) - 1))) hE3) (zq (zm (ii ((gi d j.toNat) - 1))) ?_))))); obtain ⟨hx3, h⟩ := h; refine zq (zi underlying26 yah (yaM (hS.rdo 0 rfl) hx3)) (zo (zt (ii ((gi d j.toNat) - 1)) yah (hS.wr 0 rfl rfl hx3) ?_)); intro w5 e1; replace hS := hS.st 0 rfl rfl hx3 (x := (gi d j.toNat) - 1) rfl e1; clear e1; exact zb (yaa (zs (zq (za (.bool (true))) (yaa (yak rfl rfl ⟨_, _, rfl, (hS.sel [0] (by decide)), h⟩)))))
  · replace h := h.2 hp; refine rl_p (yab rfl (yaf rfl (congrArg Value.bool (decide_eq_false hp))) rfl) rfl (rl_p (yab rfl (yaf rfl (congrArg Value.bool (decide_eq_false hp))) rfl) rfl (rl_p (yab rfl (yaf rfl (congrArg Value.bool (decide_eq_false hp))) rfl) rfl (rl_p (yab rfl (yaf rfl (congrArg Value.bool (decide_eq_false hp))) rfl) rfl (rl_p (yab rfl (yaf rfl (congrArg Value.bool (decide_eq_false hp))) rfl) rfl (zq (yay (v := (.bool (false))) (congrArg Value.bool (decide_eq_false hp)) rfl) (yaa (yaz rfl (yaA rfl (yae (zs (zq (yac hE4) (zq zE (yaa ?_))))))))))))); by_cases hp4 : j = 0
    · replace h := h.1 hp4; exact zc hp4 (zs (zq (za (.bool (false))) (yaa (yak rfl rfl ⟨_, _, rfl, (hS.sel [0] (by decide)), h⟩))))
    · replace h := h.2 hp4; refine zd hp4 (yai (zs (zq (yac hE0) (zq (yac hE4) ?_)))); obtain ⟨hx4, h⟩ := h; refine zq (zi underlying26 yah (yaM (hS.rdo 0 rfl) hx4)) (zq (yag (v := (ii (gi d j.toNat))) rfl underlying3 rfl (rd_1 (hS.rdo 0 rfl) hx4 (fun q => yaH q) rfl)) ?_); obtain ⟨hi6, h⟩ := h; refine zq (zS hi6) (zq (za (ii ((gi d j.toNat) - 1))) (yaa (zs (zq (yac hE0) (zq (yac hE4) (zq (zi underlying26 yah (yaM (hS.rdo 0 rfl) hx4)) (zo (zt (ii 0) yah (hS.wr 0 rfl rfl hx4) ?_)))))))); intro w6 e1; replace hS := hS.st 0 rfl rfl hx4 (x := 0) rfl e1; clear e1; refine zb (yaa (zs (zq (yac hE0) (zq (yac hE4) ?_)))); obtain ⟨hi7, h⟩ := h; refine zq (zS hi7) ?_; obtain ⟨hx5, h⟩ := h; refine zq (zi underlying26 yah (yaM (hS.rdo 0 rfl) hx5)) (zq (yag (v := (ii (gi (d.set j.toNat 0) (j - 1).toNat))) rfl underlying3 rfl (rd_1 (hS.rdo 0 rfl) hx5 (fun q => yaH q) rfl)) ?_); obtain ⟨hi8, h⟩ := h; refine zq (zA hi8) (zq (zi underlying26 yah (yaM (hS.rdo 0 rfl) hx5)) (zo (zt (ii ((gi (d.set j.toNat 0) (j - 1).toNat) + 1)) yah (hS.wr 0 rfl rfl hx5) ?_))); intro w7 e1; replace hS := hS.st 0 rfl rfl hx5 (x := (gi (d.set j.toNat 0) (j - 1).toNat) + 1) rfl e1; clear e1; refine zb (yaa (zs (zq (yac hE0) (zq (yac (v := (ii (((d.length : Nat) : Int) - 1))) hE3) (zq (zm (ii ((gi d j.toNat) - 1))) ?_))))); obtain ⟨hx6, h⟩ := h; refine zq (zi underlying26 yah (yaM (hS.rdo 0 rfl) hx6)) (zo (zt (ii ((gi d j.toNat) - 1)) yah (hS.wr 0 rfl rfl hx6) ?_)); intro w8 e1; replace hS := hS.st 0 rfl rfl hx6 (x := (gi d j.toNat) - 1) rfl e1; clear e1; exact zb (yaa (zs (zq (za (.bool (true))) (yaa (yak rfl rfl ⟨_, _, rfl, (hS.sel [0] (by decide)), h⟩)))))
def ycD (d : List Int) (R : (List Int) → Bool → Int → Prop) : Prop :=
ybx d (fun r r2 =>
((r2 = 0 →
ya3 d (fun r3 =>
((r3 < 0 →
R ([]) false 15) ∧
(¬ (r3 < 0) →
((1048576 < r →
R ([]) false 11) ∧
(¬ (1048576 < r) →
yaU d (fun r4 =>
ycM r4 (fun r5 y =>
((r5 = true →
R y true 0) ∧
(¬ (r5 = true) →
R ([]) false 0)))))))))) ∧
(¬ (r2 = 0) →
R ([]) false r2)))
theorem pok_chips_Next {O : Nat → Prop} {w : World} {d Ad ld cd} {R : (List Int) → Bool → Int → Prop} (h : ycD d R) (hO : ∀ k, O k → k < w.heap.size) (hA0 : (FP.sl cI Ad ld cd d).P O w) :
    Calls Try.prog 89 #[(.slice Ad ld cd)] w fun e w' => ∃ r6 r7 r8 Ar2 lr2 cr2, e = .returned (.tuple #[(.slice Ar2 lr2 cr2), (.bool (r7)), (ii r8)]) ∧ Sep w no O w' (rl [Res.own cI 3 Ar2 lr2 cr2 r6]) ∧ R r6 r7 r8 := by
  unfold ycD at h; have hS : Sep w no O w (rl [Res.ro (FP.sl cI Ad ld cd d)]) := Sep.startl hO [(FP.sl cI Ad ld cd d)] ⟨hA0, trivial⟩; refine yap (l := [(.slice Ad ld cd)]) func89 rfl ntmps89 (Nat.le_of_ble_eq_true rfl) (zs (zq (za (.slice none 0 0)) (zq (za (.bool (false))) (zq (za (ii 0)) (yaa (zs (zq (zm (.slice Ad ld cd)) (zn (yan rfl (am1 rfl) enter_87 ((ydo h (yaK _) (hS.rdr 0 rfl)).mono ?_)))))))))); rintro _ w2 ⟨r, r2, rfl, hC, h⟩; replace hS := hS.pur hC.pure; clear hC; refine ⟨_, rfl, ?_⟩; refine zb (zq (zm (.tuple #[(ii r), (ii r2)])) (zq (zx (ii r)) (zq (zx (ii r2)) (zq (za (ii r)) (zq (za (ii r2)) (yaa (yae (yam (zs (zq (zm (ii r2)) (zq zN (zq (za (.bool (!(decide (r2 = 0))))) (yaa ?_))))))))))))); by_cases hp : r2 = 0
  · replace h := h.1 hp; refine ze hp (zs (zq (zm (.slice Ad ld cd)) (zn (yan rfl (am1 rfl) enter_58 ((ycY h (yaK _) (hS.rdr 0 rfl)).mono ?_))))); rintro _ w3 ⟨r3, rfl, hC, h⟩; replace hS := hS.pur hC.pure; clear hC; refine ⟨_, rfl, ?_⟩; refine zb (zq zL (zq (za (.bool (decide (r3 < 0)))) (yaa ?_))); by_cases hp2 : r3 < 0
    · replace h := h.1 hp2; refine zc hp2 (zs (zq (za (.slice none 0 0)) (zq (za (.bool (false))) (zq (za (ii 15)) (yaa ?_))))); replace hS := hS.nil 1 rfl cI 3; exact ydF rfl rfl rfl rfl ⟨_, _, _, _, _, _, rfl, (hS.sel [1] (by decide)), h⟩
    · replace h := h.2 hp2; refine zd hp2 (zs (zq (zm (ii r)) (zq zG (zq (za (.bool (decide (1048576 < r)))) (yaa ?_))))); by_cases hp3 : 1048576 < r
      · replace h := h.1 hp3; refine zc hp3 (zs (zq (za (.slice none 0 0)) (zq (za (.bool (false))) (zq (za (ii 11)) (yaa ?_))))); replace hS := hS.nil 1 rfl cI 3; exact ydF rfl rfl rfl rfl ⟨_, _, _, _, _, _, rfl, (hS.sel [1] (by decide)), h⟩
      · replace h := h.2 hp3; refine zd hp3 (yai (yal (zs (zq (zm (.slice Ad ld cd)) (zn (yan rfl (am1 rfl) enter_22 ((ycy h (yaK _) (hS.rdr 0 rfl)).mono ?_))))))); rintro _ w4 ⟨r4, Ar, lr, cr, rfl, hC, h⟩; replace hS := hS.call1 (hC.widen (yeo (ybk (fI .i64) _ _ _ _ _) yfi) hS.blt) 1 0 rfl; clear hC; refine ⟨_, rfl, ?_⟩; refine zb (zq (za (.slice Ar lr cr)) (yaa (yae (zs (zq (zm (.slice Ar lr cr)) ?_))))); have hB := hS.lend (asc [(1, 0)]) [1] (by decide) ⟨.inl (ydN rfl), trivial⟩; refine zn (yhs (vs := #[(.slice Ar lr cr)]) (us := #[]) rfl (am1 rfl) enter_126 ((ydD (by simp) (pok_chips_step h hB)).mono ?_)); rintro _ w5 ⟨r5, y, rfl, hC, h⟩; replace hS := hS.back (asc [(1, 0)]) (yf9 (by decide)) hC; clear hC hB; refine ⟨_, rfl, ?_⟩; refine zb (zq (ycV rfl) (yaa ?_)); by_cases hp4 : r5 = true
        · replace h := h.1 hp4; exact yaz (congrArg Value.bool (congrArg Bool.not hp4)) (yai (zs (zq (zm (.slice Ar lr cr)) (zq (za (.slice Ar lr cr)) (zq (za (.bool (true))) (zq (za (ii 0)) (yaa (ydF rfl rfl rfl rfl ⟨_, _, _, _, _, _, rfl, (hS.sel [1] (by decide)), h⟩))))))))
        · replace h := h.2 hp4; refine yau (congrArg Value.bool (congrArg Bool.not (Bool.eq_false_iff.2 hp4))) (zs (zq (za (.slice none 0 0)) (zq (za (.bool (false))) (zq (za (ii 0)) (yaa ?_))))); replace hS := hS.nil 2 rfl cI 3; exact ydF rfl rfl rfl rfl ⟨_, _, _, _, _, _, rfl, (hS.sel [2] (by decide)), h⟩
  · replace h := h.2 hp; refine zf hp (zs (zq (zm (ii r2)) (zq (za (.slice none 0 0)) (zq (za (.bool (false))) (zq (za (ii r2)) (yaa ?_)))))); replace hS := hS.nil 1 rfl cI 3; exact ydF rfl rfl rfl rfl ⟨_, _, _, _, _, _, rfl, (hS.sel [1] (by decide)), h⟩
def ycf (g : Int) (g2 : List E3) (l : List (List Int)) (R : Int → Prop) : Prop :=
ydw g g2 (fun r r2 =>
((r2 = 0 →
((r = true →
(∃ I2 : Nat → Int → Prop, (∃ m0, I2 m0 0) ∧ ∀ m2 v, I2 m2 v → 
((v < ((l.length : Nat) : Int) →
((0 ≤ v ∧ v < ((l.length : Nat) : Int)) ∧
ybO (gx l v.toNat) g (fun r3 =>
((r3 = 0 →
(In64 (v + 1) ∧
∃ m3, m3 < m2 ∧ I2 m3 (v + 1))) ∧
(¬ (r3 = 0) →
R r3))))) ∧
(¬ (v < ((l.length : Nat) : Int)) →
R 0)))) ∧
(¬ (r = true) →
R 13))) ∧
(¬ (r2 = 0) →
R r2)))
theorem yfk {O : Nat → Prop} {w : World} {g g2 l Ag lg cg Al ll cl} {R : Int → Prop} (h : ycf g g2 l R) (hO : ∀ k, O k → k < w.heap.size) (hA0 : (FP.sl c3 Ag lg cg g2).P O w) (hA1 : (FP.sl (cL cI) Al ll cl l).P O w) :
    Calls Try.prog 44 #[(.agg #[(ii g), (.slice Ag lg cg)]), (.slice Al ll cl)] w fun e w' => ∃ r4, e = .returned (ii r4) ∧ Sep w no O w' (rl []) ∧ R r4 := by
  unfold ycf at h; have hS : Sep w no O w (rl [Res.ro (FP.sl c3 Ag lg cg g2), Res.ro (FP.sl (cL cI) Al ll cl l)]) := Sep.startl hO [(FP.sl c3 Ag lg cg g2), (FP.sl (cL cI) Al ll cl l)] ⟨hA0, hA1, trivial⟩; refine yap (l := [(.agg #[(ii g), (.slice Ag lg cg)]), (.slice Al ll cl)]) func44 rfl ntmps44 (Nat.le_of_ble_eq_true rfl) (zs (zn (ybq (v := (.agg #[(ii g), (.slice Ag lg cg)])) rfl ?_))); intro g3 w2 hN; replace hS : Sep w no O w2 (stl _ 2 (Res.box 24 g3 [(ii g), (.slice Ag lg cg)])) := hS.new 2 rfl hN; clear hN; refine zb (zq (za (ii 0)) (yaa (zs (zq (yas (vs := [(ii g), (.slice Ag lg cg)]) rfl underlying24 rfl yaq ⟨Row.cell (hS.bx 2 rfl) (i := 0) rfl, Row.cell (hS.bx 2 rfl) (i := 1) rfl, trivial⟩) (zn (yan rfl (am1 rfl) enter_84 ((yeQ h (yaK _) (hS.rdr 0 rfl)).mono ?_))))))); rintro _ w3 ⟨r, r2, rfl, hC, h⟩; replace hS := hS.pur hC.pure; clear hC; refine ⟨_, rfl, ?_⟩; refine zb (zq (zm (.tuple #[(.bool (r)), (ii r2)])) (zq (zx (.bool (r))) (zq (zx (ii r2)) (zq (za (.bool (r))) (zq (za (ii r2)) (yaa (yae (zs (zq (zm (ii r2)) (zq zN (yaa ?_))))))))))); by_cases hp : r2 = 0
  · replace h := h.1 hp; refine ze hp (yai (yae (zs (zq (zm (.bool (r))) (zq (ycV rfl) (yaa ?_)))))); by_cases hp2 : r = true
    · replace h := h.1 hp2; refine yaz (congrArg Value.bool (congrArg Bool.not hp2)) (yai (yae (zs (zq (zm (.slice Al ll cl)) (zq (yaZ (n := l.length) rfl underlying97 (yaS (hS.rdr 1 rfl))) (zq (zm (ii 0)) (yaa (yam ?_)))))))); obtain ⟨I2, ⟨m0, h0⟩, hr⟩ := h; refine yaC (fun m E ds w' => ∃ v, I2 m v ∧ ds = [] ∧ E 2 = (Value.pointer (some (⟨g3, 0, none⟩ : Addr))) ∧ E 20 = (Value.slice Al ll cl) ∧ E 21 = (ii ((l.length : Nat) : Int)) ∧ E 22 = (ii v) ∧ Sep w no O w' (rl [Res.box 24 g3 [(ii g), (.slice Ag lg cg)], Res.ro (FP.sl c3 Ag lg cg g2), Res.ro (FP.sl (cL cI) Al ll cl l)])) m0 ⟨_, h0, rfl, rfl, rfl, rfl, rfl, (hS.sel [2, 0, 1] (by decide))⟩ ?_; clear h0 hS; rintro m2 E ds w4 ⟨v, h, rfl, hE2, hE20, hE21, hE22, hS⟩ again; replace h := hr m2 v h; clear hr; refine zs (zq (yaP hE22 hE21) (yaa (yae ?_))); by_cases hp3 : v < ((l.length : Nat) : Int)
      · replace h := h.1 hp3; refine zc hp3 (yai (yae (yam (zs ?_)))); obtain ⟨hx, h⟩ := h; refine zq (yao hE20 hE22 underlying97 ybb (yaM (hS.rdr 2 rfl) hx)) ?_; obtain ⟨A, l2, c, hc, hq⟩ := hS.el 2 rfl hx 3 4 rfl rfl (by decide); replace hS := hq; clear hq; refine zq (yag (v := (.slice A l2 c)) rfl underlying26 rfl (hS.clr 4 rfl)) (zq (za (.slice A l2 c)) (yaa (zs (zq (zm (.slice A l2 c)) (zq (yaj hE2 underlying24 rfl yah) (zq (zl underlying3 (Row.cell (hS.bx 0 rfl) (i := 0) rfl)) (zn (yan rfl (am2 rfl rfl) yfY ((ydS h (yaK _) (hS.rdr 3 rfl)).mono ?_))))))))); rintro _ w5 ⟨r3, rfl, hC, h⟩; replace hS := hS.pur hC.pure; clear hC; refine ⟨_, rfl, ?_⟩; refine zb (zq (za (ii r3)) (yaa (zs (zq (zm (ii r3)) (zq zN (yaa ?_)))))); by_cases hp4 : r3 = 0
        · replace h := h.1 hp4; refine ze hp4 (yai (yal (zr ?_))); obtain ⟨hi, h⟩ := h; refine zq (yaG hE22 rfl hi) (zq (zm (ii (v + 1))) (yaa ?_)); obtain ⟨mq, hlt, h⟩ := h; exact again mq _ _ _ ⟨_, h, rfl, hE2, hE20, hE21, rfl, (hS.sel [0, 1, 2] (by decide))⟩ hlt
        · replace h := h.2 hp4; exact zf hp4 (zs (zq (zm (ii r3)) (zq (za (ii r3)) (yaa (yak rfl rfl ⟨_, rfl, (hS.sel [] (by decide)), h⟩)))))
      · replace h := h.2 hp3; exact zd hp3 (yaA rfl (zs (zq (za (ii 0)) (yaa (yak rfl rfl ⟨_, rfl, (hS.sel [] (by decide)), h⟩)))))
    · replace h := h.2 hp2; exact yau (congrArg Value.bool (congrArg Bool.not (Bool.eq_false_iff.2 hp2))) (zs (zq (za (ii 13)) (yaa (yak rfl rfl ⟨_, rfl, (hS.sel [] (by decide)), h⟩))))
  · replace h := h.2 hp; exact zf hp (zs (zq (zm (ii r2)) (zq (za (ii r2)) (yaa (yak rfl rfl ⟨_, rfl, (hS.sel [] (by decide)), h⟩)))))
def yey (e2 : Int) (R : Int → Prop) : Prop :=
((e2 = 2 →
R 11) ∧
(¬ (e2 = 2) →
R e2))
theorem yi9 {O : Nat → Prop} {w : World} {e2} {R : Int → Prop} (h : yey e2 R) (hO : ∀ k, O k → k < w.heap.size) :
    Calls Try.prog 49 #[(ii e2)] w fun e w' => ∃ r, e = .returned (ii r) ∧ Sep w no O w' (rl []) ∧ R r := by
  unfold yey at h; have hS : Sep w no O w (rl []) := Sep.start w hO; refine yap (l := [(ii e2)]) func49 rfl ntmps49 (Nat.le_of_ble_eq_true rfl) (zs (zq (za (ii 0)) (yaa (yae (zs (zq (zm (ii e2)) (zq zE (yaa ?_)))))))); by_cases hp : e2 = 2
  · replace h := h.1 hp; exact zc hp (zs (zq (za (ii 11)) (yaa (yak rfl rfl ⟨_, rfl, (hS.sel [] (by decide)), h⟩))))
  · replace h := h.2 hp; exact zd hp (yai (zs (zq (zm (ii e2)) (zq (za (ii e2)) (yaa (yak rfl rfl ⟨_, rfl, (hS.sel [] (by decide)), h⟩))))))
def yea (g : Int) (g2 : List E3) (R0 : Int → Prop) (R1 : Int → (List E3) → Int → (List (List Int × Int)) → Int → Prop) : Prop :=
ybR g g2 (fun r r2 r3 =>
((r3 = 0 →
ycs r r2 (fun r4 r5 =>
R1 g g2 r4 ([]) r5)) ∧
(¬ (r3 = 0) →
R0 r3)))
theorem pok_rank_of {O : Nat → Prop} {w : World} {g g2 Ag lg cg} {R0 : Int → Prop} {R1 : Int → (List E3) → Int → (List (List Int × Int)) → Int → Prop} (h : yea g g2 R0 R1) (hO : ∀ k, O k → k < w.heap.size) (hA0 : (FP.sl c3 Ag lg cg g2).P O w) :
    Calls Try.prog 45 #[(.agg #[(ii g), (.slice Ag lg cg)])] w fun e w' => (∃ r6, e = .returned (.tuple #[(.pointer none), (ii r6)]) ∧ Sep w no O w' (rl []) ∧ R0 r6) ∨ (∃ f f2 f3 m2 r7 gr Af lf cf gm, e = .returned (.tuple #[(.pointer (some (⟨gr, 0, none⟩ : Addr))), (ii r7)]) ∧ Sep w no O w' (rl [Res.box 129 gr [(ii f), (.slice Af lf cf), (ii f3), (Value.map (some gm))], Res.ro (FP.sl c3 Af lf cf f2), Res.obj gm (mapO (.int .i64) m2)]) ∧ R1 f f2 f3 m2 r7) := by
  unfold yea at h; have hS : Sep w no O w (rl [Res.ro (FP.sl c3 Ag lg cg g2)]) := Sep.startl hO [(FP.sl c3 Ag lg cg g2)] ⟨hA0, trivial⟩; refine yap (l := [(.agg #[(ii g), (.slice Ag lg cg)])]) func45 rfl ntmps45 (Nat.le_of_ble_eq_true rfl) (zs (zn (ybq (v := (.agg #[(ii g), (.slice Ag lg cg)])) rfl ?_))); intro g3 w2 hN; replace hS : Sep w no O w2 (stl _ 1 (Res.box 24 g3 [(ii g), (.slice Ag lg cg)])) := hS.new 1 rfl hN; clear hN; refine zb (zq (za (.pointer none)) (zq (za (ii 0)) (yaa (zs (zq (yas (vs := [(ii g), (.slice Ag lg cg)]) rfl underlying24 rfl yaq ⟨Row.cell (hS.bx 1 rfl) (i := 0) rfl, Row.cell (hS.bx 1 rfl) (i := 1) rfl, trivial⟩) (zn (yan rfl (am1 rfl) enter_85 ((yfC h (yaK _) (hS.rdr 0 rfl)).mono ?_)))))))); rintro _ w3 ⟨r, r2, r3, Ar, lr, cr, rfl, hC, h⟩; replace hS := hS.call1 (hC.widen (yeo (ybk (fP (fI .i64) (fP (fI .i64) (fI .i64))) _ _ _ _ _) yfi) hS.blt) 2 0 rfl; clear hC; refine ⟨_, rfl, ?_⟩; refine zb (zq (zm (.tuple #[(.agg #[(ii r), (.slice Ar lr cr)]), (ii r3)])) (zq (zx (.agg #[(ii r), (.slice Ar lr cr)])) (zq (zx (ii r3)) (zn (ya7 yaq ?_))))); intro g4 w4 hN; replace hS : Sep w no O w4 (stl _ 3 (Res.box 24 g4 [(ii 0), (.slice none 0 0)])) := hS.new 3 rfl hN; clear hN; refine zb (zo (ybr (b := g4) (o := 0) (cells := #[(ii r), (.slice Ar lr cr)]) rfl rfl yaq rfl rfl (yaY (hS.bx 3 rfl) (Nat.le_of_ble_eq_true rfl)) ?_)); intro w5 e1; replace hS := hS.bstn 3 rfl 0 [(ii r), (.slice Ar lr cr)] e1; clear e1; refine zb (zq (za (ii r3)) (yaa (yae (zs (zq (zm (ii r3)) (zq zN (yaa ?_))))))); by_cases hp : r3 = 0
  · replace h := h.1 hp; refine ze hp (yai (zs (zq (yas (vs := [(ii r), (.slice Ar lr cr)]) rfl underlying24 rfl yaq ⟨Row.cell (hS.bx 3 rfl) (i := 0) rfl, Row.cell (hS.bx 3 rfl) (i := 1) rfl, trivial⟩) (zn (yan rfl (am1 rfl) enter_86 ((yhv h (yaK _) (hS.rdo 2 rfl)).mono ?_)))))); rintro _ w6 ⟨r4, r5, rfl, hC, h⟩; replace hS := hS.pur hC.pure; clear hC; refine ⟨_, rfl, ?_⟩; refine zb (zq (zm (.tuple #[(ii r4), (ii r5)])) (zq (zx (ii r4)) (zq (zx (ii r5)) (zq (za (ii r4)) (zq (za (ii r5)) (yaa (zs (zq (yas (vs := [(ii g), (.slice Ag lg cg)]) rfl underlying24 rfl yaq ⟨Row.cell (hS.bx 1 rfl) (i := 0) rfl, Row.cell (hS.bx 1 rfl) (i := 1) rfl, trivial⟩) (zq (zm (ii r4)) (zn (n_mkmap (vE := (.int .i64)) rfl ?_))))))))))); intro g5 w7 e1 e2; replace hS : Sep w no O w7 (stl _ 4 (Res.obj g5 (mapO (.int .i64) ([])))) := hS.newm 4 rfl e1 e2; clear e1 e2; refine zb (zn (ybp (l := [(0, (.agg #[(ii g), (.slice Ag lg cg)])), (1, (ii r4)), (2, (Value.map (some g5)))]) (cells := [(ii g), (.slice Ag lg cg), (ii r4), (Value.map (some g5))]) (places := [(0, 2), (2, 1), (3, 1)]) (bp3 rfl rfl rfl) underlying129 info_129 (by kernel_rfl) rfl ?_)); refine zb (zn (ybq (v := (.agg #[(ii g), (.slice Ag lg cg), (ii r4), (Value.map (some g5))])) rfl ?_)); intro g6 w8 hN; replace hS : Sep w no O w8 (stl _ 5 (Res.box 129 g6 [(ii g), (.slice Ag lg cg), (ii r4), (Value.map (some g5))])) := hS.new 5 rfl hN; clear hN; exact zb (zq (zm (ii r5)) (zq (za (.pointer (some (⟨g6, 0, none⟩ : Addr)))) (zq (za (ii r5)) (yaa (ya2 rfl rfl rfl (.inr ⟨_, _, _, _, _, _, _, _, _, _, rfl, (hS.sel [5, 0, 4] (by decide)), h⟩))))))
  · replace h := h.2 hp; exact zf hp (zs (zq (zm (ii r3)) (zq (za (.pointer none)) (zq (za (ii r3)) (yaa (ya2 rfl rfl rfl (.inl ⟨_, rfl, (hS.sel [] (by decide)), h⟩)))))))
def yaO (Rec : Int → (List E3) → Int → (List (List Int × Int)) → (List Int) → (Int → Int → (List (List Int × Int)) → Prop) → Prop) (d : Int) (d2 : List E3) (d3 : Int) (d4 : List (List Int × Int)) (i : List Int) (R : Int → Int → (List (List Int × Int)) → Prop) : Prop :=
ybx i (fun r r2 =>
((r2 = 0 →
((r < 0 →
R (-1) 0 d4) ∧
(¬ (r < 0) →
(In64 (2 * d3) ∧
(In64 ((2 * d3) - 2) ∧
((((2 * d3) - 2) < r →
(In64 (r - d3) ∧
R (r - d3) 0 d4)) ∧
(¬ (((2 * d3) - 2) < r) →
yaQ d d2 i (fun r3 r4 r5 r6 =>
((r6 = 0 →
((r3 = true →
(0 < r4.length ∧
(KOk 12 d4 ∧
yg8 12 (cpy (List.replicate 12 (0 : Int)) r4) ∧
(((mget d4 (cpy (List.replicate 12 (0 : Int)) r4)).isSome = true →
R ((mget d4 (cpy (List.replicate 12 (0 : Int)) r4)).getD (0 : Int)) 0 d4) ∧
(¬ ((mget d4 (cpy (List.replicate 12 (0 : Int)) r4)).isSome = true) →
((((d4.length : Nat) : Int) = 16384 →
R 0 12 d4) ∧
(¬ (((d4.length : Nat) : Int) = 16384) →
(∃ I2 : Nat → Int → Int → (List (List Int × Int)) → (List Int) → Prop, (∃ m0, I2 m0 r 0 d4 r4) ∧ ∀ m2 v v2 d5 v3, I2 m2 v v2 d5 v3 → 
((v2 < ((r4.length : Nat) : Int) →
((0 ≤ v2 ∧ v2 < ((v3.length : Nat) : Int)) ∧
(In64 ((gi v3 v2.toNat) - 1) ∧
Rec d d2 d3 d5 (v3.set v2.toNat ((gi v3 v2.toNat) - 1)) (fun r7 r8 y =>
((0 ≤ v2 ∧ v2 < (((v3.set v2.toNat ((gi v3 v2.toNat) - 1)).length : Nat) : Int)) ∧
(In64 ((gi (v3.set v2.toNat ((gi v3 v2.toNat) - 1)) v2.toNat) + 1) ∧
((r8 = 0 →
(In64 (r7 + 1) ∧
(In64 (v2 + 1) ∧
∃ m3, m3 < m2 ∧ I2 m3 (mnF v (r7 + 1)) (v2 + 1) y ((v3.set v2.toNat ((gi v3 v2.toNat) - 1)).set v2.toNat ((gi (v3.set v2.toNat ((gi v3 v2.toNat) - 1)) v2.toNat) + 1))))) ∧
(¬ (r8 = 0) →
R 0 r8 y)))))))) ∧
(¬ (v2 < ((r4.length : Nat) : Int)) →
(KOk 12 d5 ∧
R v 0 (mput d5 (cpy (List.replicate 12 (0 : Int)) r4) v)))))))))))) ∧
(¬ (r3 = true) →
R (-1) 0 d4))) ∧
(¬ (r6 = 0) →
R 0 r6 d4)))))))))) ∧
(¬ (r2 = 0) →
R 0 r2 d4)))
def yaX : Nat → Int → (List E3) → Int → (List (List Int × Int)) → (List Int) → (Int → Int → (List (List Int × Int)) → Prop) → Prop
  | 0 => fun _ _ _ _ _ _ => False
  | nf + 1 => fun d d2 d3 d4 i R => yaO (yaX nf) d d2 d3 d4 i R
theorem yem {Rec : Int → (List E3) → Int → (List (List Int × Int)) → (List Int) → (Int → Int → (List (List Int × Int)) → Prop) → Prop} (hrec : ∀ {S O : Nat → Prop} {w : World} {d d2 d3 d4 i gc Ad ld cd gm Ai li ci} {R : Int → Int → (List (List Int × Int)) → Prop} (h : Rec d d2 d3 d4 i R) (hS : Sep w S O w (rl [Res.box 129 gc [(Value.int .i64 d), (Value.slice Ad ld cd), (Value.int .i64 d3), (Value.map (some gm))], Res.ro (FP.sl c3 Ad ld cd d2), Res.obj gm (mapO (Value.int .i64) d4), Res.own cI 3 Ai li ci i])), Calls Try.prog 46 #[(Value.pointer (some (⟨gc, 0, none⟩ : Addr))), (Value.slice Ai li ci)] w fun e w' => ∃ r9 r10 z, e = .returned (Value.tuple #[(Value.int .i64 r9), (Value.int .i64 r10)]) ∧ Sep w S O w' (rl [Res.box 129 gc [(Value.int .i64 d), (Value.slice Ad ld cd), (Value.int .i64 d3), (Value.map (some gm))], Res.obj gm (mapO (Value.int .i64) z), Res.own cI 3 Ai li ci i]) ∧ R r9 r10 z) {S O : Nat → Prop} {w : World} {d d2 d3 d4 i gc Ad ld cd gm Ai li ci} {R : Int → Int → (List (List Int × Int)) → Prop} (h : yaO Rec d d2 d3 d4 i R) (hS : Sep w S O w (rl [Res.box 129 gc [(Value.int .i64 d), (Value.slice Ad ld cd), (Value.int .i64 d3), (Value.map (some gm))], Res.ro (FP.sl c3 Ad ld cd d2), Res.obj gm (mapO (Value.int .i64) d4), Res.own cI 3 Ai li ci i])) :
    Calls Try.prog 46 #[(.pointer (some (⟨gc, 0, none⟩ : Addr))), (.slice Ai li ci)] w fun e w' => ∃ r9 r10 z, e = .returned (.tuple #[(ii r9), (ii r10)]) ∧ Sep w S O w' (rl [Res.box 129 gc [(ii d), (.slice Ad ld cd), (ii d3), (Value.map (some gm))], Res.obj gm (mapO (.int .i64) z), Res.own cI 3 Ai li ci i]) ∧ R r9 r10 z := by
  unfold yaO at h; refine yap (l := [(.pointer (some (⟨gc, 0, none⟩ : Addr))), (.slice Ai li ci)]) func46 rfl ntmps46 (Nat.le_of_ble_eq_true rfl) (zs (zq (za (ii 0)) (zq (za (ii 0)) (yaa (zs (zq (zm (.slice Ai li ci)) (zn (yan rfl (am1 rfl) enter_87 ((ydo h (yaK _) (hS.rdo 3 rfl)).mono ?_))))))))); rintro _ w2 ⟨r, r2, rfl, hC, h⟩; replace hS := hS.pur hC.pure; clear hC; refine ⟨_, rfl, ?_⟩; refine zb (zq (zm (.tuple #[(ii r), (ii r2)])) (zq (zx (ii r)) (zq (zx (ii r2)) (zq (za (ii r)) (zq (za (ii r2)) (yaa (yae (zs (zq (zm (ii r2)) (zq zN (yaa ?_))))))))))); by_cases hp : r2 = 0
  · replace h := h.1 hp; refine ze hp (yai (yae (zs (zq (zm (ii r)) (zq zL (yaa ?_)))))); by_cases hp2 : r < 0
    · replace h := h.1 hp2; exact zc hp2 (zs (zq (za (ii (-1))) (zq (za (ii 0)) (yaa (ya2 rfl rfl rfl ⟨_, _, _, rfl, (hS.sel [0, 2, 3] (by decide)), h⟩)))))
    · replace h := h.2 hp2; refine zd hp2 (yai (yae (zs (zq (zm (ii r)) (zq (zm (.pointer (some (⟨gc, 0, none⟩ : Addr)))) (zq (ybz rfl) (zq (yaj rfl underlying129 rfl yah) (zq (zl underlying3 (Row.cell (hS.bx 0 rfl) (i := 2) rfl)) ?_)))))))); obtain ⟨hi, h⟩ := h; refine zq (v_mul rfl rfl hi) ?_; obtain ⟨hi2, h⟩ := h; refine zq (zS hi2) (zq zG (yaa ?_)); by_cases hp3 : ((2 * d3) - 2) < r
      · replace h := h.1 hp3; refine zc hp3 (zs (zq (zm (ii r)) (zq (zm (.pointer (some (⟨gc, 0, none⟩ : Addr)))) (zq (ybz rfl) (zq (yaj rfl underlying129 rfl yah) (zq (zl underlying3 (Row.cell (hS.bx 0 rfl) (i := 2) rfl)) ?_)))))); obtain ⟨hi3, h⟩ := h; exact zq (zS hi3) (zq (za (ii (r - d3))) (zq (za (ii 0)) (yaa (ya2 rfl rfl rfl ⟨_, _, _, rfl, (hS.sel [0, 2, 3] (by decide)), h⟩))))
      · replace h := h.2 hp3; refine zd hp3 (yai (zs (zq (zm (.pointer (some (⟨gc, 0, none⟩ : Addr)))) (zq (ybz rfl) (zq (yaj rfl underlying129 rfl yaq) (zq (yas (vs := [(ii d), (.slice Ad ld cd)]) rfl underlying24 rfl yaq ⟨Row.cell (hS.bx 0 rfl) (i := 0) rfl, Row.cell (hS.bx 0 rfl) (i := 1) rfl, trivial⟩) (zq (zm (.slice Ai li ci)) (zn (yan rfl (am2 rfl rfl) yjd ((yb5 h (yaK _) (hS.rdr 1 rfl) (hS.rdo 3 rfl)).mono ?_)))))))))); rintro _ w3 ⟨r3, r4, r5, r6, Ar, lr, cr, Ar2, lr2, cr2, rfl, hC, h⟩; replace hS := hS.call2 (hC.widen (yeo (ybk (fI .i64) _ _ _ _ _) (yeo (ybk (fI .i64) _ _ _ _ _) yfi)) hS.blt) 4 0 5 1 rfl rfl (by decide) (by decide); clear hC; refine ⟨_, rfl, ?_⟩; refine zb (zq (zm (.tuple #[(.bool (r3)), (.slice Ar lr cr), (.slice Ar2 lr2 cr2), (ii r6)])) (zq (zx (.bool (r3))) (zq (zx (.slice Ar lr cr)) (zq (zx (.slice Ar2 lr2 cr2)) (zq (zx (ii r6)) (zq (za (.bool (r3))) (zq (za (.slice Ar lr cr)) (zq (za (.slice Ar2 lr2 cr2)) (zq (za (ii r6)) (yaa (yae (zs (zq (zm (ii r6)) (zq zN (yaa ?_))))))))))))))); by_cases hp4 : r6 = 0
        · replace h := h.1 hp4; refine ze hp4 (yai (yae (zs (zq (zm (.bool (r3))) (zq (ycV rfl) (yaa ?_)))))); by_cases hp5 : r3 = true
          · replace h := h.1 hp5; refine yaz (congrArg Value.bool (congrArg Bool.not hp5)) (yai (zs (zn (ya7 ye9 ?_)))); intro g w4 hN; replace hS := hS.made (n := 12) 6 rfl cI (ii 0) (0 : Int) (fun _ _ => rfl) (hN : New _ _ _ (Array.replicate 12 (ii 0)) 131) (by decide); clear hN; refine zb (yaa (zs (zq (v_slice_a rfl underlying131 yah) (zq (zm (.slice Ar lr cr)) ?_)))); obtain ⟨hx, h⟩ := h; refine zn (n_cpy rfl rfl underlying25 yah hS 6 rfl (hS.rdo 4 rfl) hx ?_); clear hS; intro w5 hS; refine zb (yaa (yae (yae (yba [0, 1, 2, 3, 4, 5, 6, 7, 8, 9, 10] st0 ybn (by kernel_rfl) (by kernel_rfl) ?_)))); replace hS := hS.drew; refine zp (zm (.pointer (some (⟨gc, 0, none⟩ : Addr)))) (zp (ybz rfl) (zp (yaj rfl underlying129 rfl yfa) (zp (zl underlying127 (Row.cell (hS.bx 0 rfl) (i := 3) rfl)) (zp (yas (vs := (cpy (List.replicate 12 (0 : Int)) r4).map (.int .i64)) rfl underlying131 rfl (ygQ ye9 (hS.rdo 6 rfl)) (yfD (hS.rdo 6 rfl))) ?_)))); obtain ⟨hx2, h⟩ := h; obtain ⟨hx3, h⟩ := h; refine rp_n rfl rfl rfl rfl (n_val (v_mget (vE := (.int .i64)) (x0 := (0 : Int)) (ygP) hx2 hx3 rfl rfl underlying127 yah (hS.mp 2 rfl)) ?_); refine zb (zp (zm (.tuple #[(ii ((mget d4 (cpy (List.replicate 12 (0 : Int)) r4)).getD (0 : Int))), (.bool ((mget d4 (cpy (List.replicate 12 (0 : Int)) r4)).isSome))])) (zp (zx (ii ((mget d4 (cpy (List.replicate 12 (0 : Int)) r4)).getD (0 : Int)))) (zp (zx (.bool ((mget d4 (cpy (List.replicate 12 (0 : Int)) r4)).isSome))) (zp (za (ii ((mget d4 (cpy (List.replicate 12 (0 : Int)) r4)).getD (0 : Int)))) (zp (za (.bool ((mget d4 (cpy (List.replicate 12 (0 : Int)) r4)).isSome))) (ybs (zs (zq (zm (.bool ((mget d4 (cpy (List.replicate 12 (0 : Int)) r4)).isSome))) (yaa ?_))))))))); by_cases hp6 : (mget d4 (cpy (List.replicate 12 (0 : Int)) r4)).isSome = true
            · replace h := h.1 hp6; exact yau (congrArg Value.bool hp6) (zs (zq (zm (ii ((mget d4 (cpy (List.replicate 12 (0 : Int)) r4)).getD (0 : Int)))) (zq (za (ii ((mget d4 (cpy (List.replicate 12 (0 : Int)) r4)).getD (0 : Int)))) (zq (za (ii 0)) (yaa (ya2 rfl rfl rfl ⟨_, _, _, rfl, (hS.sel [0, 2, 3] (by decide)), h⟩))))))
            · replace h := h.2 hp6; refine yaz (congrArg Value.bool (Bool.eq_false_iff.2 hp6)) (yai (yae (zs (zq (zm (.pointer (some (⟨gc, 0, none⟩ : Addr)))) (zq (ybz rfl) (zq (yaj rfl underlying129 rfl yfa) (zq (zl underlying127 (Row.cell (hS.bx 0 rfl) (i := 3) rfl)) (zq (v_mlen rfl underlying127 (hS.mp 2 rfl)) (zq zE (yaa ?_)))))))))); by_cases hp7 : ((d4.length : Nat) : Int) = 16384
              · replace h := h.1 hp7; exact zc hp7 (zs (zq (za (ii 0)) (zq (za (ii 12)) (yaa (ya2 rfl rfl rfl ⟨_, _, _, rfl, (hS.sel [0, 2, 3] (by decide)), h⟩)))))
              · replace h := h.2 hp7; refine zd hp7 (yai (zs (zq (zm (ii r)) (zq (za (ii r)) (yaa (yae (zs (zq (zm (.slice Ar lr cr)) (zq (yaZ (n := r4.length) rfl underlying26 (yaS (hS.rdo 4 rfl))) (zq (zm (ii 0)) (yaa (yam ?_)))))))))))); obtain ⟨I2, ⟨m0, h0⟩, hr⟩ := h; refine yaC (fun m E ds w' => ∃ v v2 d5 v3 Av lv cv, I2 m v v2 d5 v3 ∧ ds = [] ∧ E 0 = (Value.pointer (some (⟨gc, 0, none⟩ : Addr))) ∧ E 1 = (Value.slice Ai li ci) ∧ E 9 = (Value.slice Av lv cv) ∧ E 11 = (Value.pointer (some (⟨g, 0, none⟩ : Addr))) ∧ E 14 = (ii v) ∧ E 80 = (ii ((r4.length : Nat) : Int)) ∧ E 81 = (ii v2) ∧ Sep w S O w' (rl [Res.box 129 gc [(ii d), (.slice Ad ld cd), (ii d3), (Value.map (some gm))], Res.ro (FP.sl c3 Ad ld cd d2), Res.obj gm (mapO (.int .i64) d5), Res.own cI 3 Ai li ci i, Res.own cI 3 Av lv cv v3, Res.own cI 131 (some ⟨g, 0, none⟩) 12 12 (cpy (List.replicate 12 (0 : Int)) r4)])) m0 ⟨_, _, _, _, _, _, _, h0, rfl, rfl, rfl, rfl, rfl, rfl, rfl, rfl, (hS.sel [0, 1, 2, 3, 4, 6] (by decide))⟩ ?_; clear h0 hS; rintro m2 E ds w6 ⟨v, v2, d5, v3, Av, lv, cv, h, rfl, hE0, hE1, hE9, hE11, hE14, hE80, hE81, hS⟩ again; replace h := hr m2 v v2 d5 v3 h; clear hr; refine zs (zq (yaP hE81 hE80) (yaa (yae ?_))); by_cases hp8 : v2 < ((r4.length : Nat) : Int)
                · replace h := h.1 hp8; refine zc hp8 (yai (yae (yam (zs (zq (yac hE81) (zq (za (ii v2)) (yaa (zs (zq (yac hE9) (zq (zm (ii v2)) ?_)))))))))); obtain ⟨hx4, h⟩ := h; refine zq (zi underlying26 yah (yaM (hS.rdo 4 rfl) hx4)) (zq (yag (v := (ii (gi v3 v2.toNat))) rfl underlying3 rfl (rd_1 (hS.rdo 4 rfl) hx4 (fun q => yaH q) rfl)) ?_); obtain ⟨hi4, h⟩ := h; refine zq (zS hi4) (zq (zi underlying26 yah (yaM (hS.rdo 4 rfl) hx4)) (zo (zt (ii ((gi v3 v2.toNat) - 1)) yah (hS.wr 4 rfl rfl hx4) ?_))); intro w7 e1; replace hS := hS.st 4 rfl rfl hx4 (x := (gi v3 v2.toNat) - 1) rfl e1; clear e1; refine zb (yaa (zs (zq (yac (v := (.pointer (some (⟨gc, 0, none⟩ : Addr)))) hE0) (zq (yac hE9) ?_)))); have hB := hS.lend (asc [(0, 0), (2, 1), (4, 2)]) [0, 1, 2, 4] (by decide) ⟨.inl (ydN rfl), .inr rfl, .inl (ydN rfl), .inl (ydN rfl), trivial⟩; refine zn (yhs (vs := #[(.pointer (some (⟨gc, 0, none⟩ : Addr))), (.slice Av lv cv)]) (us := #[]) rfl (am2 rfl rfl) enter_46 ((ydD (by simp) (hrec h hB)).mono ?_)); rintro _ w8 ⟨r7, r8, y, rfl, hC, h⟩; replace hS := hS.back (asc [(0, 0), (2, 1), (4, 2)]) (yf9 (by decide)) hC; clear hC hB; refine ⟨_, rfl, ?_⟩; refine zb (zq (zm (.tuple #[(ii r7), (ii r8)])) (zq (zx (ii r7)) (zq (zx (ii r8)) (zq (za (ii r7)) (zq (za (ii r8)) (yaa (zs (zq (yac hE9) (zq (zm (ii v2)) ?_))))))))); obtain ⟨hx5, h⟩ := h; refine zq (zi underlying26 yah (yaM (hS.rdo 4 rfl) hx5)) (zq (yag (v := (ii (gi (v3.set v2.toNat ((gi v3 v2.toNat) - 1)) v2.toNat))) rfl underlying3 rfl (rd_1 (hS.rdo 4 rfl) hx5 (fun q => yaH q) rfl)) ?_); obtain ⟨hi5, h⟩ := h; refine zq (zA hi5) (zq (zi underlying26 yah (yaM (hS.rdo 4 rfl) hx5)) (zo (zt (ii ((gi (v3.set v2.toNat ((gi v3 v2.toNat) - 1)) v2.toNat) + 1)) yah (hS.wr 4 rfl rfl hx5) ?_))); intro w9 e1; replace hS := hS.st 4 rfl rfl hx5 (x := (gi (v3.set v2.toNat ((gi v3 v2.toNat) - 1)) v2.toNat) + 1) rfl e1; clear e1; refine zb (yaa (yae (zs (zq (zm (ii r8)) (zq zN (yaa ?_)))))); by_cases hp9 : r8 = 0
                  · replace h := h.1 hp9; refine ze hp9 (yai (zr (zq (yac hE14) (zq (zm (ii r7)) ?_)))); obtain ⟨hi6, h⟩ := h; refine zq (zA hi6) (zq (v_min2 rfl rfl) (zq (za (ii (mnF v (r7 + 1)))) (yaa (yal (zr ?_))))); obtain ⟨hi7, h⟩ := h; refine zq (yaG hE81 rfl hi7) (zq (zm (ii (v2 + 1))) (yaa ?_)); obtain ⟨mq, hlt, h⟩ := h; exact again mq _ _ _ ⟨_, _, _, _, _, _, _, h, rfl, hE0, hE1, hE9, hE11, rfl, hE80, rfl, (hS.sel [0, 1, 2, 3, 4, 5] (by decide))⟩ hlt
                  · replace h := h.2 hp9; exact zf hp9 (zs (zq (zm (ii r8)) (zq (za (ii 0)) (zq (za (ii r8)) (yaa (ya2 rfl rfl rfl ⟨_, _, _, rfl, (hS.sel [0, 2, 3] (by decide)), h⟩))))))
                · replace h := h.2 hp8; refine zd hp8 (yaA rfl (yae (yba [0, 1, 2, 3, 4, 5, 6] st0 ybn (by kernel_rfl) (by kernel_rfl) ?_))); replace hS := hS.drew; refine zp (yac (v := (.pointer (some (⟨gc, 0, none⟩ : Addr)))) hE0) (zp (ybz rfl) (zp (yaj rfl underlying129 rfl yfa) (zp (zl underlying127 (Row.cell (hS.bx 0 rfl) (i := 3) rfl)) (zp (yas (vs := (cpy (List.replicate 12 (0 : Int)) r4).map (.int .i64)) hE11 underlying131 rfl (ygQ ye9 (hS.rdo 5 rfl)) (yfD (hS.rdo 5 rfl))) (zp (yac hE14) ?_))))); obtain ⟨hx6, h⟩ := h; refine ygJ rfl rfl rfl (n_mput (vE := (.int .i64)) (ygP) hx6 hx3 (v := v) rfl rfl rfl underlying127 (hS.mp 2 rfl) ?_); intro w10 e1 e2; replace hS := hS.mst 2 rfl e1 e2; clear e1 e2; exact zb (ybs (zs (zq (yac hE14) (zq (za (ii v)) (zq (za (ii 0)) (yaa (ya2 rfl rfl rfl ⟨_, _, _, rfl, (hS.sel [0, 2, 3] (by decide)), h⟩)))))))
          · replace h := h.2 hp5; exact yau (congrArg Value.bool (congrArg Bool.not (Bool.eq_false_iff.2 hp5))) (zs (zq (za (ii (-1))) (zq (za (ii 0)) (yaa (ya2 rfl rfl rfl ⟨_, _, _, rfl, (hS.sel [0, 2, 3] (by decide)), h⟩)))))
        · replace h := h.2 hp4; exact zf hp4 (zs (zq (zm (ii r6)) (zq (za (ii 0)) (zq (za (ii r6)) (yaa (ya2 rfl rfl rfl ⟨_, _, _, rfl, (hS.sel [0, 2, 3] (by decide)), h⟩))))))
  · replace h := h.2 hp; exact zf hp (zs (zq (zm (ii r2)) (zq (za (ii 0)) (zq (za (ii r2)) (yaa (ya2 rfl rfl rfl ⟨_, _, _, rfl, (hS.sel [0, 2, 3] (by decide)), h⟩))))))
theorem yeC {nf} : ∀ {S O : Nat → Prop} {w : World} {d d2 d3 d4 i gc Ad ld cd gm Ai li ci} {R : Int → Int → (List (List Int × Int)) → Prop} (h : yaX nf d d2 d3 d4 i R) (hS : Sep w S O w (rl [Res.box 129 gc [(Value.int .i64 d), (Value.slice Ad ld cd), (Value.int .i64 d3), (Value.map (some gm))], Res.ro (FP.sl c3 Ad ld cd d2), Res.obj gm (mapO (Value.int .i64) d4), Res.own cI 3 Ai li ci i])), Calls Try.prog 46 #[(Value.pointer (some (⟨gc, 0, none⟩ : Addr))), (Value.slice Ai li ci)] w fun e w' => ∃ r9 r10 z, e = .returned (Value.tuple #[(Value.int .i64 r9), (Value.int .i64 r10)]) ∧ Sep w S O w' (rl [Res.box 129 gc [(Value.int .i64 d), (Value.slice Ad ld cd), (Value.int .i64 d3), (Value.map (some gm))], Res.obj gm (mapO (Value.int .i64) z), Res.own cI 3 Ai li ci i]) ∧ R r9 r10 z := by
  induction nf with
  | zero => intros; rename_i h _; exact h.elim
  | succ nf ih => intro S O w d d2 d3 d4 i gc Ad ld cd gm Ai li ci R h hS; exact yem ih h hS
def ycm (Rec : Int → (List E3) → Int → (List (List Int × Int)) → (List Int) → (Int → Int → (List (List Int × Int)) → Prop) → Prop) (d : Int) (d2 : List E3) (d3 : Int) (d4 : List (List Int × Int)) (i : List Int) (R : Int → Int → (List (List Int × Int)) → Prop) : Prop :=
ybx i (fun r r2 =>
((r2 = 0 →
((r < 0 →
R (-1) 0 d4) ∧
(¬ (r < 0) →
(In64 (2 * d3) ∧
(In64 ((2 * d3) - 2) ∧
((((2 * d3) - 2) < r →
(In64 (r - d3) ∧
R (r - d3) 0 d4)) ∧
(¬ (((2 * d3) - 2) < r) →
yaQ d d2 i (fun r3 r4 r5 r6 =>
((r6 = 0 →
((r3 = true →
(0 < r4.length ∧
(KOk 12 d4 ∧
yg8 12 (cpy (List.replicate 12 (0 : Int)) r4) ∧
(((mget d4 (cpy (List.replicate 12 (0 : Int)) r4)).isSome = true →
R ((mget d4 (cpy (List.replicate 12 (0 : Int)) r4)).getD (0 : Int)) 0 d4) ∧
(¬ ((mget d4 (cpy (List.replicate 12 (0 : Int)) r4)).isSome = true) →
((((d4.length : Nat) : Int) = 16384 →
R 0 12 d4) ∧
(¬ (((d4.length : Nat) : Int) = 16384) →
(∃ I2 : Nat → Int → Int → (List (List Int × Int)) → (List Int) → Prop, (∃ m0, I2 m0 r 0 d4 r4) ∧ ∀ m2 v v2 d5 v3, I2 m2 v v2 d5 v3 → 
((v2 < ((r4.length : Nat) : Int) →
((0 ≤ v2 ∧ v2 < ((v3.length : Nat) : Int)) ∧
(In64 ((gi v3 v2.toNat) - 1) ∧
(∃ fu, yaX fu d d2 d3 d5 (v3.set v2.toNat ((gi v3 v2.toNat) - 1)) (fun r7 r8 y =>
((0 ≤ v2 ∧ v2 < (((v3.set v2.toNat ((gi v3 v2.toNat) - 1)).length : Nat) : Int)) ∧
(In64 ((gi (v3.set v2.toNat ((gi v3 v2.toNat) - 1)) v2.toNat) + 1) ∧
((r8 = 0 →
(In64 (r7 + 1) ∧
(In64 (v2 + 1) ∧
∃ m3, m3 < m2 ∧ I2 m3 (mnF v (r7 + 1)) (v2 + 1) y ((v3.set v2.toNat ((gi v3 v2.toNat) - 1)).set v2.toNat ((gi (v3.set v2.toNat ((gi v3 v2.toNat) - 1)) v2.toNat) + 1))))) ∧
(¬ (r8 = 0) →
R 0 r8 y))))))))) ∧
(¬ (v2 < ((r4.length : Nat) : Int)) →
(KOk 12 d5 ∧
R v 0 (mput d5 (cpy (List.replicate 12 (0 : Int)) r4) v)))))))))))) ∧
(¬ (r3 = true) →
R (-1) 0 d4))) ∧
(¬ (r6 = 0) →
R 0 r6 d4)))))))))) ∧
(¬ (r2 = 0) →
R 0 r2 d4)))
def ybV : Nat → Int → (List E3) → Int → (List (List Int × Int)) → (List Int) → (Int → Int → (List (List Int × Int)) → Prop) → Prop
  | 0 => fun _ _ _ _ _ _ => False
  | nf + 1 => fun d d2 d3 d4 i R => ycm (ybV nf) d d2 d3 d4 i R
theorem ye5 {Rec : Int → (List E3) → Int → (List (List Int × Int)) → (List Int) → (Int → Int → (List (List Int × Int)) → Prop) → Prop} (hrec : ∀ {S O : Nat → Prop} {w : World} {d d2 d3 d4 i gc Ad ld cd gm Ai li ci} {R : Int → Int → (List (List Int × Int)) → Prop} (h : Rec d d2 d3 d4 i R) (hS : Sep w S O w (rl [Res.box 129 gc [(Value.int .i64 d), (Value.slice Ad ld cd), (Value.int .i64 d3), (Value.map (some gm))], Res.ro (FP.sl c3 Ad ld cd d2), Res.obj gm (mapO (Value.int .i64) d4), Res.ro (FP.sl cI Ai li ci i)])), Calls Try.prog 46 #[(Value.pointer (some (⟨gc, 0, none⟩ : Addr))), (Value.slice Ai li ci)] w fun e w' => ∃ r9 r10 z, e = .returned (Value.tuple #[(Value.int .i64 r9), (Value.int .i64 r10)]) ∧ Sep w S O w' (rl [Res.box 129 gc [(Value.int .i64 d), (Value.slice Ad ld cd), (Value.int .i64 d3), (Value.map (some gm))], Res.obj gm (mapO (Value.int .i64) z)]) ∧ R r9 r10 z) {S O : Nat → Prop} {w : World} {d d2 d3 d4 i gc Ad ld cd gm Ai li ci} {R : Int → Int → (List (List Int × Int)) → Prop} (h : ycm Rec d d2 d3 d4 i R) (hS : Sep w S O w (rl [Res.box 129 gc [(Value.int .i64 d), (Value.slice Ad ld cd), (Value.int .i64 d3), (Value.map (some gm))], Res.ro (FP.sl c3 Ad ld cd d2), Res.obj gm (mapO (Value.int .i64) d4), Res.ro (FP.sl cI Ai li ci i)])) :
    Calls Try.prog 46 #[(.pointer (some (⟨gc, 0, none⟩ : Addr))), (.slice Ai li ci)] w fun e w' => ∃ r9 r10 z, e = .returned (.tuple #[(ii r9), (ii r10)]) ∧ Sep w S O w' (rl [Res.box 129 gc [(ii d), (.slice Ad ld cd), (ii d3), (Value.map (some gm))], Res.obj gm (mapO (.int .i64) z)]) ∧ R r9 r10 z := by
  unfold ycm at h; refine yap (l := [(.pointer (some (⟨gc, 0, none⟩ : Addr))), (.slice Ai li ci)]) func46 rfl ntmps46 (Nat.le_of_ble_eq_true rfl) (zs (zq (za (ii 0)) (zq (za (ii 0)) (yaa (zs (zq (zm (.slice Ai li ci)) (zn (yan rfl (am1 rfl) enter_87 ((ydo h (yaK _) (hS.rdr 3 rfl)).mono ?_))))))))); rintro _ w2 ⟨r, r2, rfl, hC, h⟩; replace hS := hS.pur hC.pure; clear hC; refine ⟨_, rfl, ?_⟩; refine zb (zq (zm (.tuple #[(ii r), (ii r2)])) (zq (zx (ii r)) (zq (zx (ii r2)) (zq (za (ii r)) (zq (za (ii r2)) (yaa (yae (zs (zq (zm (ii r2)) (zq zN (yaa ?_))))))))))); by_cases hp : r2 = 0
  · replace h := h.1 hp; refine ze hp (yai (yae (zs (zq (zm (ii r)) (zq zL (yaa ?_)))))); by_cases hp2 : r < 0
    · replace h := h.1 hp2; exact zc hp2 (zs (zq (za (ii (-1))) (zq (za (ii 0)) (yaa (ya2 rfl rfl rfl ⟨_, _, _, rfl, (hS.sel [0, 2] (by decide)), h⟩)))))
    · replace h := h.2 hp2; refine zd hp2 (yai (yae (zs (zq (zm (ii r)) (zq (zm (.pointer (some (⟨gc, 0, none⟩ : Addr)))) (zq (ybz rfl) (zq (yaj rfl underlying129 rfl yah) (zq (zl underlying3 (Row.cell (hS.bx 0 rfl) (i := 2) rfl)) ?_)))))))); obtain ⟨hi, h⟩ := h; refine zq (v_mul rfl rfl hi) ?_; obtain ⟨hi2, h⟩ := h; refine zq (zS hi2) (zq zG (yaa ?_)); by_cases hp3 : ((2 * d3) - 2) < r
      · replace h := h.1 hp3; refine zc hp3 (zs (zq (zm (ii r)) (zq (zm (.pointer (some (⟨gc, 0, none⟩ : Addr)))) (zq (ybz rfl) (zq (yaj rfl underlying129 rfl yah) (zq (zl underlying3 (Row.cell (hS.bx 0 rfl) (i := 2) rfl)) ?_)))))); obtain ⟨hi3, h⟩ := h; exact zq (zS hi3) (zq (za (ii (r - d3))) (zq (za (ii 0)) (yaa (ya2 rfl rfl rfl ⟨_, _, _, rfl, (hS.sel [0, 2] (by decide)), h⟩))))
      · replace h := h.2 hp3; refine zd hp3 (yai (zs (zq (zm (.pointer (some (⟨gc, 0, none⟩ : Addr)))) (zq (ybz rfl) (zq (yaj rfl underlying129 rfl yaq) (zq (yas (vs := [(ii d), (.slice Ad ld cd)]) rfl underlying24 rfl yaq ⟨Row.cell (hS.bx 0 rfl) (i := 0) rfl, Row.cell (hS.bx 0 rfl) (i := 1) rfl, trivial⟩) (zq (zm (.slice Ai li ci)) (zn (yan rfl (am2 rfl rfl) yjd ((yb5 h (yaK _) (hS.rdr 1 rfl) (hS.rdr 3 rfl)).mono ?_)))))))))); rintro _ w3 ⟨r3, r4, r5, r6, Ar, lr, cr, Ar2, lr2, cr2, rfl, hC, h⟩; replace hS := hS.call2 (hC.widen (yeo (ybk (fI .i64) _ _ _ _ _) (yeo (ybk (fI .i64) _ _ _ _ _) yfi)) hS.blt) 4 0 5 1 rfl rfl (by decide) (by decide); clear hC; refine ⟨_, rfl, ?_⟩; refine zb (zq (zm (.tuple #[(.bool (r3)), (.slice Ar lr cr), (.slice Ar2 lr2 cr2), (ii r6)])) (zq (zx (.bool (r3))) (zq (zx (.slice Ar lr cr)) (zq (zx (.slice Ar2 lr2 cr2)) (zq (zx (ii r6)) (zq (za (.bool (r3))) (zq (za (.slice Ar lr cr)) (zq (za (.slice Ar2 lr2 cr2)) (zq (za (ii r6)) (yaa (yae (zs (zq (zm (ii r6)) (zq zN (yaa ?_))))))))))))))); by_cases hp4 : r6 = 0
        · replace h := h.1 hp4; refine ze hp4 (yai (yae (zs (zq (zm (.bool (r3))) (zq (ycV rfl) (yaa ?_)))))); by_cases hp5 : r3 = true
          · replace h := h.1 hp5; refine yaz (congrArg Value.bool (congrArg Bool.not hp5)) (yai (zs (zn (ya7 ye9 ?_)))); intro g w4 hN; replace hS := hS.made (n := 12) 6 rfl cI (ii 0) (0 : Int) (fun _ _ => rfl) (hN : New _ _ _ (Array.replicate 12 (ii 0)) 131) (by decide); clear hN; refine zb (yaa (zs (zq (v_slice_a rfl underlying131 yah) (zq (zm (.slice Ar lr cr)) ?_)))); obtain ⟨hx, h⟩ := h; refine zn (n_cpy rfl rfl underlying25 yah hS 6 rfl (hS.rdo 4 rfl) hx ?_); clear hS; intro w5 hS; refine zb (yaa (yae (yae (yba [0, 1, 2, 3, 4, 5, 6, 7, 8, 9, 10] st0 ybn (by kernel_rfl) (by kernel_rfl) ?_)))); replace hS := hS.drew; refine zp (zm (.pointer (some (⟨gc, 0, none⟩ : Addr)))) (zp (ybz rfl) (zp (yaj rfl underlying129 rfl yfa) (zp (zl underlying127 (Row.cell (hS.bx 0 rfl) (i := 3) rfl)) (zp (yas (vs := (cpy (List.replicate 12 (0 : Int)) r4).map (.int .i64)) rfl underlying131 rfl (ygQ ye9 (hS.rdo 6 rfl)) (yfD (hS.rdo 6 rfl))) ?_)))); obtain ⟨hx2, h⟩ := h; obtain ⟨hx3, h⟩ := h; refine rp_n rfl rfl rfl rfl (n_val (v_mget (vE := (.int .i64)) (x0 := (0 : Int)) (ygP) hx2 hx3 rfl rfl underlying127 yah (hS.mp 2 rfl)) ?_); refine zb (zp (zm (.tuple #[(ii ((mget d4 (cpy (List.replicate 12 (0 : Int)) r4)).getD (0 : Int))), (.bool ((mget d4 (cpy (List.replicate 12 (0 : Int)) r4)).isSome))])) (zp (zx (ii ((mget d4 (cpy (List.replicate 12 (0 : Int)) r4)).getD (0 : Int)))) (zp (zx (.bool ((mget d4 (cpy (List.replicate 12 (0 : Int)) r4)).isSome))) (zp (za (ii ((mget d4 (cpy (List.replicate 12 (0 : Int)) r4)).getD (0 : Int)))) (zp (za (.bool ((mget d4 (cpy (List.replicate 12 (0 : Int)) r4)).isSome))) (ybs (zs (zq (zm (.bool ((mget d4 (cpy (List.replicate 12 (0 : Int)) r4)).isSome))) (yaa ?_))))))))); by_cases hp6 : (mget d4 (cpy (List.replicate 12 (0 : Int)) r4)).isSome = true
            · replace h := h.1 hp6; exact yau (congrArg Value.bool hp6) (zs (zq (zm (ii ((mget d4 (cpy (List.replicate 12 (0 : Int)) r4)).getD (0 : Int)))) (zq (za (ii ((mget d4 (cpy (List.replicate 12 (0 : Int)) r4)).getD (0 : Int)))) (zq (za (ii 0)) (yaa (ya2 rfl rfl rfl ⟨_, _, _, rfl, (hS.sel [0, 2] (by decide)), h⟩))))))
            · replace h := h.2 hp6; refine yaz (congrArg Value.bool (Bool.eq_false_iff.2 hp6)) (yai (yae (zs (zq (zm (.pointer (some (⟨gc, 0, none⟩ : Addr)))) (zq (ybz rfl) (zq (yaj rfl underlying129 rfl yfa) (zq (zl underlying127 (Row.cell (hS.bx 0 rfl) (i := 3) rfl)) (zq (v_mlen rfl underlying127 (hS.mp 2 rfl)) (zq zE (yaa ?_)))))))))); by_cases hp7 : ((d4.length : Nat) : Int) = 16384
              · replace h := h.1 hp7; exact zc hp7 (zs (zq (za (ii 0)) (zq (za (ii 12)) (yaa (ya2 rfl rfl rfl ⟨_, _, _, rfl, (hS.sel [0, 2] (by decide)), h⟩)))))
              · replace h := h.2 hp7; refine zd hp7 (yai (zs (zq (zm (ii r)) (zq (za (ii r)) (yaa (yae (zs (zq (zm (.slice Ar lr cr)) (zq (yaZ (n := r4.length) rfl underlying26 (yaS (hS.rdo 4 rfl))) (zq (zm (ii 0)) (yaa (yam ?_)))))))))))); obtain ⟨I2, ⟨m0, h0⟩, hr⟩ := h; refine yaC (fun m E ds w' => ∃ v v2 d5 v3 Av lv cv, I2 m v v2 d5 v3 ∧ ds = [] ∧ E 0 = (Value.pointer (some (⟨gc, 0, none⟩ : Addr))) ∧ E 9 = (Value.slice Av lv cv) ∧ E 11 = (Value.pointer (some (⟨g, 0, none⟩ : Addr))) ∧ E 14 = (ii v) ∧ E 80 = (ii ((r4.length : Nat) : Int)) ∧ E 81 = (ii v2) ∧ Sep w S O w' (rl [Res.box 129 gc [(ii d), (.slice Ad ld cd), (ii d3), (Value.map (some gm))], Res.ro (FP.sl c3 Ad ld cd d2), Res.obj gm (mapO (.int .i64) d5), Res.own cI 3 Av lv cv v3, Res.own cI 131 (some ⟨g, 0, none⟩) 12 12 (cpy (List.replicate 12 (0 : Int)) r4)])) m0 ⟨_, _, _, _, _, _, _, h0, rfl, rfl, rfl, rfl, rfl, rfl, rfl, (hS.sel [0, 1, 2, 4, 6] (by decide))⟩ ?_; clear h0 hS; rintro m2 E ds w6 ⟨v, v2, d5, v3, Av, lv, cv, h, rfl, hE0, hE9, hE11, hE14, hE80, hE81, hS⟩ again; replace h := hr m2 v v2 d5 v3 h; clear hr; refine zs (zq (yaP hE81 hE80) (yaa (yae ?_))); by_cases hp8 : v2 < ((r4.length : Nat) : Int)
                · replace h := h.1 hp8; refine zc hp8 (yai (yae (yam (zs (zq (yac hE81) (zq (za (ii v2)) (yaa (zs (zq (yac hE9) (zq (zm (ii v2)) ?_)))))))))); obtain ⟨hx4, h⟩ := h; refine zq (zi underlying26 yah (yaM (hS.rdo 3 rfl) hx4)) (zq (yag (v := (ii (gi v3 v2.toNat))) rfl underlying3 rfl (rd_1 (hS.rdo 3 rfl) hx4 (fun q => yaH q) rfl)) ?_); obtain ⟨hi4, h⟩ := h; refine zq (zS hi4) (zq (zi underlying26 yah (yaM (hS.rdo 3 rfl) hx4)) (zo (zt (ii ((gi v3 v2.toNat) - 1)) yah (hS.wr 3 rfl rfl hx4) ?_))); intro w7 e1; replace hS := hS.st 3 rfl rfl hx4 (x := (gi v3 v2.toNat) - 1) rfl e1; clear e1; refine zb (yaa (zs (zq (yac (v := (.pointer (some (⟨gc, 0, none⟩ : Addr)))) hE0) (zq (yac hE9) ?_)))); obtain ⟨fu, h⟩ := h; have hB := hS.lend (asc [(0, 0), (2, 1), (3, 2)]) [0, 1, 2, 3] (by decide) ⟨.inl (ydN rfl), .inr rfl, .inl (ydN rfl), .inl (ydN rfl), trivial⟩; refine zn (yhs (vs := #[(.pointer (some (⟨gc, 0, none⟩ : Addr))), (.slice Av lv cv)]) (us := #[]) rfl (am2 rfl rfl) enter_46 ((ydD (by simp) (yeC h hB)).mono ?_)); rintro _ w8 ⟨r7, r8, y, rfl, hC, h⟩; replace hS := hS.back (asc [(0, 0), (2, 1), (3, 2)]) (yf9 (by decide)) hC; clear hC hB; refine ⟨_, rfl, ?_⟩; refine zb (zq (zm (.tuple #[(ii r7), (ii r8)])) (zq (zx (ii r7)) (zq (zx (ii r8)) (zq (za (ii r7)) (zq (za (ii r8)) (yaa (zs (zq (yac hE9) (zq (zm (ii v2)) ?_))))))))); obtain ⟨hx5, h⟩ := h; refine zq (zi underlying26 yah (yaM (hS.rdo 3 rfl) hx5)) (zq (yag (v := (ii (gi (v3.set v2.toNat ((gi v3 v2.toNat) - 1)) v2.toNat))) rfl underlying3 rfl (rd_1 (hS.rdo 3 rfl) hx5 (fun q => yaH q) rfl)) ?_); obtain ⟨hi5, h⟩ := h; refine zq (zA hi5) (zq (zi underlying26 yah (yaM (hS.rdo 3 rfl) hx5)) (zo (zt (ii ((gi (v3.set v2.toNat ((gi v3 v2.toNat) - 1)) v2.toNat) + 1)) yah (hS.wr 3 rfl rfl hx5) ?_))); intro w9 e1; replace hS := hS.st 3 rfl rfl hx5 (x := (gi (v3.set v2.toNat ((gi v3 v2.toNat) - 1)) v2.toNat) + 1) rfl e1; clear e1; refine zb (yaa (yae (zs (zq (zm (ii r8)) (zq zN (yaa ?_)))))); by_cases hp9 : r8 = 0
                  · replace h := h.1 hp9; refine ze hp9 (yai (zr (zq (yac hE14) (zq (zm (ii r7)) ?_)))); obtain ⟨hi6, h⟩ := h; refine zq (zA hi6) (zq (v_min2 rfl rfl) (zq (za (ii (mnF v (r7 + 1)))) (yaa (yal (zr ?_))))); obtain ⟨hi7, h⟩ := h; refine zq (yaG hE81 rfl hi7) (zq (zm (ii (v2 + 1))) (yaa ?_)); obtain ⟨mq, hlt, h⟩ := h; exact again mq _ _ _ ⟨_, _, _, _, _, _, _, h, rfl, hE0, hE9, hE11, rfl, hE80, rfl, (hS.sel [0, 1, 2, 3, 4] (by decide))⟩ hlt
                  · replace h := h.2 hp9; exact zf hp9 (zs (zq (zm (ii r8)) (zq (za (ii 0)) (zq (za (ii r8)) (yaa (ya2 rfl rfl rfl ⟨_, _, _, rfl, (hS.sel [0, 2] (by decide)), h⟩))))))
                · replace h := h.2 hp8; refine zd hp8 (yaA rfl (yae (yba [0, 1, 2, 3, 4, 5, 6] st0 ybn (by kernel_rfl) (by kernel_rfl) ?_))); replace hS := hS.drew; refine zp (yac (v := (.pointer (some (⟨gc, 0, none⟩ : Addr)))) hE0) (zp (ybz rfl) (zp (yaj rfl underlying129 rfl yfa) (zp (zl underlying127 (Row.cell (hS.bx 0 rfl) (i := 3) rfl)) (zp (yas (vs := (cpy (List.replicate 12 (0 : Int)) r4).map (.int .i64)) hE11 underlying131 rfl (ygQ ye9 (hS.rdo 4 rfl)) (yfD (hS.rdo 4 rfl))) (zp (yac hE14) ?_))))); obtain ⟨hx6, h⟩ := h; refine ygJ rfl rfl rfl (n_mput (vE := (.int .i64)) (ygP) hx6 hx3 (v := v) rfl rfl rfl underlying127 (hS.mp 2 rfl) ?_); intro w10 e1 e2; replace hS := hS.mst 2 rfl e1 e2; clear e1 e2; exact zb (ybs (zs (zq (yac hE14) (zq (za (ii v)) (zq (za (ii 0)) (yaa (ya2 rfl rfl rfl ⟨_, _, _, rfl, (hS.sel [0, 2] (by decide)), h⟩)))))))
          · replace h := h.2 hp5; exact yau (congrArg Value.bool (congrArg Bool.not (Bool.eq_false_iff.2 hp5))) (zs (zq (za (ii (-1))) (zq (za (ii 0)) (yaa (ya2 rfl rfl rfl ⟨_, _, _, rfl, (hS.sel [0, 2] (by decide)), h⟩)))))
        · replace h := h.2 hp4; exact zf hp4 (zs (zq (zm (ii r6)) (zq (za (ii 0)) (zq (za (ii r6)) (yaa (ya2 rfl rfl rfl ⟨_, _, _, rfl, (hS.sel [0, 2] (by decide)), h⟩))))))
  · replace h := h.2 hp; exact zf hp (zs (zq (zm (ii r2)) (zq (za (ii 0)) (zq (za (ii r2)) (yaa (ya2 rfl rfl rfl ⟨_, _, _, rfl, (hS.sel [0, 2] (by decide)), h⟩))))))
theorem yfj {nf} : ∀ {S O : Nat → Prop} {w : World} {d d2 d3 d4 i gc Ad ld cd gm Ai li ci} {R : Int → Int → (List (List Int × Int)) → Prop} (h : ybV nf d d2 d3 d4 i R) (hS : Sep w S O w (rl [Res.box 129 gc [(Value.int .i64 d), (Value.slice Ad ld cd), (Value.int .i64 d3), (Value.map (some gm))], Res.ro (FP.sl c3 Ad ld cd d2), Res.obj gm (mapO (Value.int .i64) d4), Res.ro (FP.sl cI Ai li ci i)])), Calls Try.prog 46 #[(Value.pointer (some (⟨gc, 0, none⟩ : Addr))), (Value.slice Ai li ci)] w fun e w' => ∃ r9 r10 z, e = .returned (Value.tuple #[(Value.int .i64 r9), (Value.int .i64 r10)]) ∧ Sep w S O w' (rl [Res.box 129 gc [(Value.int .i64 d), (Value.slice Ad ld cd), (Value.int .i64 d3), (Value.map (some gm))], Res.obj gm (mapO (Value.int .i64) z)]) ∧ R r9 r10 z := by
  induction nf with
  | zero => intros; rename_i h _; exact h.elim
  | succ nf ih => intro S O w d d2 d3 d4 i gc Ad ld cd gm Ai li ci R h hS; exact ye5 ih h hS
def ya4 (g : Int) (g2 : List E3) (d : List Int) (R : Int → Int → Prop) : Prop :=
ycf g g2 ([d]) (fun r =>
((r = 0 →
yea g g2 (fun r2 =>
((r2 = 0 →
False) ∧
(¬ (r2 = 0) →
R 0 r2)))
(fun f f2 f3 m2 r3 =>
((r3 = 0 →
(∃ fu, ybV fu f f2 f3 m2 d (fun r4 r5 y =>
R r4 r5))) ∧
(¬ (r3 = 0) →
R 0 r3)))) ∧
(¬ (r = 0) →
R 0 r)))
theorem yf0 {O : Nat → Prop} {w : World} {g g2 d Ag lg cg Ad ld cd} {R : Int → Int → Prop} (h : ya4 g g2 d R) (hO : ∀ k, O k → k < w.heap.size) (hA0 : (FP.sl c3 Ag lg cg g2).P O w) (hA1 : (FP.sl cI Ad ld cd d).P O w) :
    Calls Try.prog 12 #[(.agg #[(ii g), (.slice Ag lg cg)]), (.slice Ad ld cd)] w fun e w' => ∃ r6 r7, e = .returned (.tuple #[(ii r6), (ii r7)]) ∧ Sep w no O w' (rl []) ∧ R r6 r7 := by
  unfold ya4 at h; have hS : Sep w no O w (rl [Res.ro (FP.sl c3 Ag lg cg g2), Res.ro (FP.sl cI Ad ld cd d)]) := Sep.startl hO [(FP.sl c3 Ag lg cg g2), (FP.sl cI Ad ld cd d)] ⟨hA0, hA1, trivial⟩; refine yap (l := [(.agg #[(ii g), (.slice Ag lg cg)]), (.slice Ad ld cd)]) func12 rfl ntmps12 (Nat.le_of_ble_eq_true rfl) (zs (zn (ybq (v := (.agg #[(ii g), (.slice Ag lg cg)])) rfl ?_))); intro g3 w2 hN; replace hS : Sep w no O w2 (stl _ 2 (Res.box 24 g3 [(ii g), (.slice Ag lg cg)])) := hS.new 2 rfl hN; clear hN; refine zb (zq (za (ii 0)) (zq (za (ii 0)) (yaa (yae (zs (zq (yas (vs := [(ii g), (.slice Ag lg cg)]) rfl underlying24 rfl yaq ⟨Row.cell (hS.bx 2 rfl) (i := 0) rfl, Row.cell (hS.bx 2 rfl) (i := 1) rfl, trivial⟩) (zq (zm (.slice Ad ld cd)) (zn (ya8 (l := [(0, (.slice Ad ld cd))]) (cells := [(.slice Ad ld cd)]) (bp1 rfl) underlying97 ybb rfl rfl ?_))))))))); intro g4 w3 hN; replace hS := hS.lit (n := 1) (c := (cL cI)) 3 rfl hN ([d] : List (List Int)) rfl (by decide) ⟨[(.slice Ad ld cd)], _, rfl, (ro_R (hS.ro 1 rfl)), rfl⟩; clear hN; refine zb (zn (yan rfl (am2 rfl rfl) yjc ((yfk h (yaK _) (hS.rdr 0 rfl) (hS.rdo 3 rfl)).mono ?_))); rintro _ w4 ⟨r, rfl, hC, h⟩; replace hS := hS.pur hC.pure; clear hC; refine ⟨_, rfl, ?_⟩; refine zb (zq (za (ii r)) (yaa (zs (zq (zm (ii r)) (zq zN (yaa ?_)))))); by_cases hp : r = 0
  · replace h := h.1 hp; refine ze hp (yai (zs (zq (yas (vs := [(ii g), (.slice Ag lg cg)]) rfl underlying24 rfl yaq ⟨Row.cell (hS.bx 2 rfl) (i := 0) rfl, Row.cell (hS.bx 2 rfl) (i := 1) rfl, trivial⟩) (zn (yan rfl (am1 rfl) enter_45 ((pok_rank_of h hS.blt (hS.ro 0 rfl)).mono ?_)))))); rintro _ w5 (⟨r2, rfl, hC, h⟩ | ⟨f, f2, f3, m2, r3, gr, Af, lf, cf, gm, rfl, hC, h⟩)
    · replace hS := hS.pur hC.pure; clear hC; refine ⟨_, rfl, ?_⟩; refine zb (zq (zm (.tuple #[(.pointer none), (ii r2)])) (zq (zx (.pointer none)) (zq (zx (ii r2)) (zq (za (.pointer none)) (zq (za (ii r2)) (yaa (yae (zs (zq (zm (ii r2)) (zq zN (yaa ?_))))))))))); by_cases hp2 : r2 = 0
      · replace h := h.1 hp2; exact ze hp2 (yai (zs (zq (zm (.pointer none)) (zq (zm (.slice Ad ld cd)) h.elim))))
      · replace h := h.2 hp2; exact zf hp2 (zs (zq (zm (ii r2)) (zq (za (ii 0)) (zq (za (ii r2)) (yaa (ya2 rfl rfl rfl ⟨_, _, rfl, (hS.sel [] (by decide)), h⟩))))))
    · replace hS := hS.call3 hC 4 5 6 rfl rfl rfl (by decide) (by decide) (by decide); clear hC; refine ⟨_, rfl, ?_⟩; refine zb (zq (zm (.tuple #[(.pointer (some (⟨gr, 0, none⟩ : Addr))), (ii r3)])) (zq (zx (.pointer (some (⟨gr, 0, none⟩ : Addr)))) (zq (zx (ii r3)) (zq (za (.pointer (some (⟨gr, 0, none⟩ : Addr)))) (zq (za (ii r3)) (yaa (yae (zs (zq (zm (ii r3)) (zq zN (yaa ?_))))))))))); by_cases hp3 : r3 = 0
      · replace h := h.1 hp3; refine ze hp3 (yai (zs (zq (zm (.pointer (some (⟨gr, 0, none⟩ : Addr)))) (zq (zm (.slice Ad ld cd)) ?_)))); obtain ⟨fu, h⟩ := h; have hB := hS.lend (asc [(4, 0), (6, 1)]) [4, 5, 6, 1] (by decide) ⟨.inl (ydN rfl), .inr rfl, .inl (ydN rfl), .inr rfl, trivial⟩; refine zn (yhs (vs := #[(.pointer (some (⟨gr, 0, none⟩ : Addr))), (.slice Ad ld cd)]) (us := #[]) rfl (am2 rfl rfl) enter_46 ((ydD (by simp) (yfj h hB)).mono ?_)); rintro _ w6 ⟨r4, r5, y, rfl, hC, h⟩; replace hS := hS.back (asc [(4, 0), (6, 1)]) (yf9 (by decide)) hC; clear hC hB; refine ⟨_, rfl, ?_⟩; exact zb (zq (zx (ii r4)) (zq (zx (ii r5)) (zq (za (ii r4)) (zq (za (ii r5)) (yaa (ya2 rfl rfl rfl ⟨_, _, rfl, (hS.sel [] (by decide)), h⟩))))))
      · replace h := h.2 hp3; exact zf hp3 (zs (zq (zm (ii r3)) (zq (za (ii 0)) (zq (za (ii r3)) (yaa (ya2 rfl rfl rfl ⟨_, _, rfl, (hS.sel [] (by decide)), h⟩))))))
  · replace h := h.2 hp; exact zf hp (zs (zq (zm (ii r)) (zq (za (ii 0)) (zq (za (ii r)) (yaa (ya2 rfl rfl rfl ⟨_, _, rfl, (hS.sel [] (by decide)), h⟩))))))
def yez (d : List Int) (degree : Int) (R : Prop) : Prop :=
R
theorem yi5 {O : Nat → Prop} {w : World} {d degree Ad ld cd} {R : Prop} (h : yez d degree R) (hO : ∀ k, O k → k < w.heap.size) (hA0 : (FP.sl cI Ad ld cd d).P O w) :
    Calls Try.prog 48 #[(.slice Ad ld cd), (ii degree)] w fun e w' => ∃ gr gr2, e = .returned (.func (Fn.func 88) #[] #[(.pointer (some (⟨gr, 0, none⟩ : Addr))), (.pointer (some (⟨gr2, 0, none⟩ : Addr)))]) ∧ Sep w no O w' (rl [Res.box 26 gr [(.slice Ad ld cd)], Res.box 3 gr2 [(ii degree)]]) ∧ R := by
  unfold yez at h; have hS : Sep w no O w (rl [Res.ro (FP.sl cI Ad ld cd d)]) := Sep.startl hO [(FP.sl cI Ad ld cd d)] ⟨hA0, trivial⟩; refine yap (l := [(.slice Ad ld cd), (ii degree)]) func48 rfl ntmps48 (Nat.le_of_ble_eq_true rfl) (zs (zn (ybq (v := (.slice Ad ld cd)) rfl ?_))); intro g w2 hN; replace hS : Sep w no O w2 (stl _ 1 (Res.box 26 g [(.slice Ad ld cd)])) := hS.new 1 rfl hN; clear hN; refine zb (zn (ybq (v := (ii degree)) rfl ?_)); intro g2 w3 hN; replace hS : Sep w no O w3 (stl _ 2 (Res.box 3 g2 [(ii degree)])) := hS.new 2 rfl hN; clear hN; exact zb (zq (za Value.nilFunc) (yaa (zs (zq (yiL (am0) (am2 rfl rfl)) (zq (za (.func (Fn.func 88) #[] #[(.pointer (some (⟨g, 0, none⟩ : Addr))), (.pointer (some (⟨g2, 0, none⟩ : Addr)))])) (yaa (yak rfl rfl ⟨_, _, rfl, (hS.sel [1, 2] (by decide)), h⟩)))))))
def ycc (cap : List Int) (cap2 : Int) (Pr R : List (List Int × List Int) → Prop) : Prop :=
((0 ≤ ((cap.length : Nat) : Int) ∧ ((cap.length : Nat) : Int) ≤ 1000000) ∧
(In64 (((cap.length : Nat) : Int) - 1) ∧
((0 ≤ (((cap.length : Nat) : Int) - 1) ∧ (((cap.length : Nat) : Int) - 1) < (((List.replicate ((cap.length : Nat) : Int).toNat (0 : Int)).length : Nat) : Int)) ∧
(∃ I2 : Nat → (List (List Int × List Int)) → (List Int) → Bool → Prop, (∃ m0, I2 m0 ([]) ((List.replicate ((cap.length : Nat) : Int).toNat (0 : Int)).set (((cap.length : Nat) : Int) - 1).toNat cap2) true) ∧ ∀ m2 pre2 e2 more, I2 m2 pre2 e2 more → 
((more = true →
(∃ I3 : Nat → (List (List Int × List Int)) → Int → (List Int) → Prop, (∃ m0, I3 m0 pre2 0 (List.replicate ((cap.length : Nat) : Int).toNat (0 : Int))) ∧ ∀ m3 pre3 v left, I3 m3 pre3 v left → 
((v < (((List.replicate ((cap.length : Nat) : Int).toNat (0 : Int)).length : Nat) : Int) →
((0 ≤ v ∧ v < ((cap.length : Nat) : Int)) ∧
((0 ≤ v ∧ v < ((e2.length : Nat) : Int)) ∧
(In64 ((gi cap v.toNat) - (gi e2 v.toNat)) ∧
((0 ≤ v ∧ v < ((left.length : Nat) : Int)) ∧
(In64 (v + 1) ∧
∃ m4, m4 < m3 ∧ I3 m4 pre3 (v + 1) (left.set v.toNat ((gi cap v.toNat) - (gi e2 v.toNat))))))))) ∧
(¬ (v < (((List.replicate ((cap.length : Nat) : Int).toNat (0 : Int)).length : Nat) : Int)) →
(Pr (pre3 ++ [(e2, left)]) ∧
(ycD e2 (fun r r2 r3 =>
∃ m5, m5 < m2 ∧ I2 m5 (pre3 ++ [(e2, left)]) r r2) ∧
True)))))) ∧
(¬ (more = true) →
R pre2))))))
theorem ygG {w : World} {T0 G0 : BS} {cap cap2 gc Acap lcap ccap gc2} {Pr R : List (List Int × List Int) → Prop} (h : ycc cap cap2 Pr R) (hS0 : Sep w G0 T0 w (rl [Res.box 26 gc [(Value.slice Acap lcap ccap)], Res.ro (FP.sl cI Acap lcap ccap cap), Res.box 3 gc2 [(Value.int .i64 cap2)]])) :
    yg1 Try.prog 88 #[(.pointer (some (⟨gc, 0, none⟩ : Addr))), (.pointer (some (⟨gc2, 0, none⟩ : Addr)))] (fun (x : List Int × List Int) (b : (Option Addr × Nat × Nat) × (Option Addr × Nat × Nat)) => #[(.slice b.1.1 b.1.2.1 b.1.2.2), (.slice b.2.1 b.2.2.1 b.2.2.2)]) (fun (x : List Int × List Int) (b : (Option Addr × Nat × Nat) × (Option Addr × Nat × Nat)) => (FP.and (FP.sl cI b.1.1 b.1.2.1 b.1.2.2 x.1) (FP.sl cI b.2.1 b.2.2.1 b.2.2.2 x.2))) Pr R T0 G0 w := by
  unfold ycc at h; intro l J Jx T1 w1 hs hJ hp hT; obtain ⟨G, hJ, hS⟩ := gen_startP hS0 hs hJ hp hT; clear hS0 hp hT; refine yhh (l := [(.func (.yield l) #[] #[]), (.pointer (some (⟨gc, 0, none⟩ : Addr))), (.pointer (some (⟨gc2, 0, none⟩ : Addr)))]) func88 rfl ntmps88 (Nat.le_of_ble_eq_true rfl) rfl (zs (zq (zl underlying26 (Row.cell (hS.bx 0 rfl) (i := 0) rfl)) (zq (yaZ (n := cap.length) rfl underlying26 (yaS (hS.rdr 1 rfl))) ?_))); obtain ⟨hx, h⟩ := h; refine zn (yfK rfl rfl underlying26 yah (by decide) rfl hx ?_); intro g w2 hN; replace hS := hS.made 3 rfl cI (ii 0) (0 : Int) (fun _ _ => rfl) hN (by omega); clear hN; refine zb (zq (za (.slice (some ⟨g, 0, none⟩) (((cap.length : Nat) : Int).toNat) (((cap.length : Nat) : Int).toNat))) (yaa (zs (zq (zm (.slice (some ⟨g, 0, none⟩) (((cap.length : Nat) : Int).toNat) (((cap.length : Nat) : Int).toNat))) (zq (zl underlying26 (Row.cell (hS.bx 0 rfl) (i := 0) rfl)) (zq (yaZ (n := cap.length) rfl underlying26 (yaS (hS.rdr 1 rfl))) ?_)))))); obtain ⟨hi, h⟩ := h; refine zq (zS hi) (zq (zl underlying3 (Row.cell (hS.bx 2 rfl) (i := 0) rfl)) ?_); obtain ⟨hx2, h⟩ := h; refine zq (zi underlying26 yah (yaM (hS.rdo 3 rfl) hx2)) (zo (zt (ii cap2) yah (hS.wr 3 rfl rfl hx2) ?_)); intro w3 e1; replace hS := hS.st 3 rfl rfl hx2 (x := cap2) rfl e1; clear e1; refine zb (yaa (zs (zq (za (.bool (true))) (yaa (yam ?_))))); obtain ⟨I2, ⟨m0, h0⟩, hr⟩ := h; refine yaC (fun m E ds w' => ∃ pre2 e2 more, ∃ T2 : BS, ∃ G2 : BS, ∃ wb2 : World, ∃ Ae le ce, I2 m pre2 e2 more ∧ ds = [] ∧ E 0 = (Value.func (.yield l) #[] #[]) ∧ E 1 = (Value.pointer (some (⟨gc, 0, none⟩ : Addr))) ∧ E 4 = (Value.slice Ae le ce) ∧ E 5 = (Value.bool (more)) ∧ J T2 G2 pre2 wb2 ∧ Sep wb2 G2 T2 w' (rl [Res.own cI 3 Ae le ce e2, Res.box 26 gc [(.slice Acap lcap ccap)], Res.ro (FP.sl cI Acap lcap ccap cap)])) m0 ⟨_, _, _, _, _, _, _, _, _, h0, rfl, rfl, rfl, rfl, rfl, hJ, (hS.sel [3, 0, 1] (by decide))⟩ ?_; clear h0 hS hJ; rintro m2 E ds w4 ⟨pre2, e2, more, T2, G2, wb2, Ae, le, ce, h, rfl, hE0, hE1, hE4, hE5, hJ, hS⟩ again; replace h := hr m2 pre2 e2 more h; clear hr; refine yae (zs (zq (yac hE5) (yaa ?_))); by_cases hp : more = true
  · replace h := h.1 hp; refine yau (congrArg Value.bool hp) (yai (yam (zs (zq (yag hE1 underlying26 rfl (Row.cell (hS.bx 1 rfl) (i := 0) rfl)) (zq (yaZ (n := cap.length) rfl underlying26 (yaS (hS.rdr 2 rfl))) (zn (yfK rfl rfl underlying26 yah (by decide) rfl hx ?_))))))); intro g2 w5 hN; replace hS := hS.made 3 rfl cI (ii 0) (0 : Int) (fun _ _ => rfl) hN (by omega); clear hN; refine zb (zq (za (.slice (some ⟨g2, 0, none⟩) (((cap.length : Nat) : Int).toNat) (((cap.length : Nat) : Int).toNat))) (yaa (yae (zs (zq (zm (.slice (some ⟨g2, 0, none⟩) (((cap.length : Nat) : Int).toNat) (((cap.length : Nat) : Int).toNat))) (zq (yaZ (n := (List.replicate ((cap.length : Nat) : Int).toNat (0 : Int)).length) rfl underlying26 (yaS (hS.rdo 3 rfl))) (zq (zm (ii 0)) (yaa (yam ?_))))))))); obtain ⟨I3, ⟨m0, h0⟩, hr⟩ := h; refine yaC (fun m E ds w' => ∃ pre3 v left, ∃ T3 : BS, ∃ G3 : BS, ∃ wb3 : World, ∃ Aleft lleft cleft, I3 m pre3 v left ∧ ds = [] ∧ E 0 = (Value.func (.yield l) #[] #[]) ∧ E 1 = (Value.pointer (some (⟨gc, 0, none⟩ : Addr))) ∧ E 4 = (Value.slice Ae le ce) ∧ E 6 = (Value.slice Aleft lleft cleft) ∧ E 22 = (ii (((List.replicate ((cap.length : Nat) : Int).toNat (0 : Int)).length : Nat) : Int)) ∧ E 23 = (ii v) ∧ J T3 G3 pre3 wb3 ∧ Sep wb3 G3 T3 w' (rl [Res.box 26 gc [(.slice Acap lcap ccap)], Res.ro (FP.sl cI Acap lcap ccap cap), Res.own cI 3 Ae le ce e2, Res.own cI 3 Aleft lleft cleft left])) m0 ⟨_, _, _, _, _, _, _, _, _, h0, rfl, hE0, hE1, hE4, rfl, rfl, rfl, hJ, (hS.sel [1, 2, 0, 3] (by decide))⟩ ?_; clear h0 hS hJ; rintro m3 E ds w6 ⟨pre3, v, left, T3, G3, wb3, Aleft, lleft, cleft, h, rfl, hE0, hE1, hE4, hE6, hE22, hE23, hJ, hS⟩ again2; replace h := hr m3 pre3 v left h; clear hr; refine zs (zq (yaP hE23 hE22) (yaa (yae ?_))); by_cases hp2 : v < (((List.replicate ((cap.length : Nat) : Int).toNat (0 : Int)).length : Nat) : Int)
    · replace h := h.1 hp2; refine zc hp2 (yai (yae (yam (zs (zq (yac hE23) (zq (za (ii v)) (yaa (yba [0, 1, 2, 3, 4, 5, 6, 7, 8, 9, 10, 11, 12] st0 ybn (by kernel_rfl) (by kernel_rfl) ?_)))))))); replace hS := hS.drew; refine zp (yac hE6) (zp (zm (ii v)) (zp (yag hE1 underlying26 rfl (Row.cell (hS.bx 0 rfl) (i := 0) rfl)) (zp (zm (ii v)) ?_))); obtain ⟨hx3, h⟩ := h; refine zp (zi underlying26 yah (yaM (hS.rdr 1 rfl) hx3)) (zp (yag (v := (ii (gi cap v.toNat))) rfl underlying3 rfl (rd_1 (hS.rdr 1 rfl) hx3 (fun q => yaH q) rfl)) ?_); refine zp (yac hE4) (zp (zm (ii v)) ?_); obtain ⟨hx4, h⟩ := h; refine zp (zi underlying26 yah (yaM (hS.rdo 2 rfl) hx4)) (zp (yag (v := (ii (gi e2 v.toNat))) rfl underlying3 rfl (rd_1 (hS.rdo 2 rfl) hx4 (fun q => yaH q) rfl)) ?_); obtain ⟨hi2, h⟩ := h; refine zp (zS hi2) ?_; obtain ⟨hx5, h⟩ := h; refine zp (zi underlying26 yah (yaM (hS.rdo 3 rfl) hx5)) (ygJ rfl rfl rfl (zt (ii ((gi cap v.toNat) - (gi e2 v.toNat))) yah (hS.wr 3 rfl rfl hx5) ?_)); intro w7 e1; replace hS := hS.st 3 rfl rfl hx5 (x := (gi cap v.toNat) - (gi e2 v.toNat)) rfl e1; clear e1; refine zb (ybs (yal (zr ?_))); obtain ⟨hi3, h⟩ := h; refine zq (yaG hE23 rfl hi3) (zq (zm (ii (v + 1))) (yaa ?_)); obtain ⟨mq, hlt, h⟩ := h; exact again2 mq _ _ _ ⟨_, _, _, _, _, _, _, _, _, h, rfl, hE0, hE1, hE4, hE6, hE22, rfl, hJ, (hS.sel [0, 1, 2, 3] (by decide))⟩ hlt
    · replace h := h.2 hp2; refine zd hp2 (yaA rfl (yae (zs (zq (yac hE0) (zq (yac hE4) (zq (yac hE6) ?_)))))); replace hS := hS.frz 2 rfl; replace hS := hS.frz 3 rfl; obtain ⟨hPr, hyes, hno⟩ := h; refine zn (n_yield (m := 1) rfl (am2 rfl rfl) (gen_yieldP (x := (e2, left)) (b := ((Ae, le, ce), (Aleft, lleft, cleft))) hs hJ hS hPr ⟨(hS.ro 2 rfl), (hS.ro 3 rfl)⟩ ?_ ?_))
      · clear hno hJ hS; have h := hyes; clear hyes; intro T4 w8 hJ hS; generalize OwnB _ = G4 at hJ hS; refine ⟨_, rfl, ?_⟩; refine zb (zq (ycV rfl) (yaa (yaz (congrArg Value.bool (congrArg Bool.not rfl)) (yai (zr (zq (yac hE4) (zn (yan rfl (am1 rfl) enter_89 ((pok_chips_Next h (yaK _) (hS.rdr 2 rfl)).mono ?_))))))))); rintro _ w9 ⟨r, r2, r3, Ar, lr, cr, rfl, hC, h⟩; replace hS := hS.call1 (hC.widen (yeo (ybk (fI .i64) _ _ _ _ _) yfi) hS.blt) 4 0 rfl; clear hC; refine ⟨_, rfl, ?_⟩; refine zb (zq (zm (.tuple #[(.slice Ar lr cr), (.bool (r2)), (ii r3)])) (zq (zx (.slice Ar lr cr)) (zq (zx (.bool (r2))) (zq (zx (ii r3)) (zq (za (.slice Ar lr cr)) (zq (za (.bool (r2))) (yaa (yal ?_)))))))); obtain ⟨mq, hlt, h⟩ := h; exact again mq _ _ _ ⟨_, _, _, _, _, _, _, _, _, h, rfl, hE0, hE1, rfl, rfl, hJ, (hS.sel [4, 0, 1] (by decide))⟩ hlt
      · clear hyes hJ hS; have h := hno; clear hno; intro T5 w10 hJ hS; generalize OwnB _ = G5 at hJ hS; refine ⟨_, rfl, ?_⟩; exact zb (zq (ycV rfl) (yaa (yau (congrArg Value.bool (congrArg Bool.not rfl)) (wt_ret0 rfl ⟨⟨_, rfl⟩, gen_endxP hs hJ hS⟩))))
  · replace h := h.2 hp; exact yaz (congrArg Value.bool (Bool.eq_false_iff.2 hp)) (yaA rfl (yhG rfl ⟨⟨_, rfl⟩, gen_endP hs hJ hS h⟩))
def ybw (g : Int) (g2 : List E3) (d : List Int) (R : (List Int) → Int → Prop) : Prop :=
ya4 g g2 d (fun r r2 =>
((r2 = 0 →
(In64 (r + 1) ∧
yez d (r + 1) ((∃ Pr Rr : List (List Int × List Int) → Prop, ycc d (r + 1) Pr Rr ∧
(∃ I2 : List (List Int × List Int) → Int → Prop, I2 [] 0 ∧
(∀ pre y y2 n, I2 pre n → Pr (pre ++ [(y, y2)]) →
(In64 (n + 1) ∧
((16384 < (n + 1) →
R ([]) 12) ∧
(¬ (16384 < (n + 1)) →
yaQ g g2 y2 (fun r5 r6 r7 r8 =>
((r8 = 0 →
((r5 = true →
I2 (pre ++ [(y, y2)]) (n + 1)) ∧
(¬ (r5 = true) →
R y 0))) ∧
(¬ (r8 = 0) →
yey r8 (fun r11 =>
R ([]) r11)))))))) ∧
(∀ ys n, I2 ys n → Rr ys →
R ([]) 12)))))) ∧
(¬ (r2 = 0) →
R ([]) r2)))
theorem yeJ {O : Nat → Prop} {w : World} {g g2 d Ag lg cg Ad ld cd} {R : (List Int) → Int → Prop} (h : ybw g g2 d R) (hO : ∀ k, O k → k < w.heap.size) (hA0 : (FP.sl c3 Ag lg cg g2).P O w) (hA1 : (FP.sl cI Ad ld cd d).P O w) :
    Calls Try.prog 14 #[(.agg #[(ii g), (.slice Ag lg cg)]), (.slice Ad ld cd)] w fun e w' => ∃ r16 r17 Ar7 lr7 cr7, e = .returned (.tuple #[(.slice Ar7 lr7 cr7), (ii r17)]) ∧ Sep w no O w' (rl [Res.ro (FP.sl cI Ar7 lr7 cr7 r16)]) ∧ R r16 r17 := by
  unfold ybw at h; have hS : Sep w no O w (rl [Res.ro (FP.sl c3 Ag lg cg g2), Res.ro (FP.sl cI Ad ld cd d)]) := Sep.startl hO [(FP.sl c3 Ag lg cg g2), (FP.sl cI Ad ld cd d)] ⟨hA0, hA1, trivial⟩; refine yfE (l := [(.agg #[(ii g), (.slice Ag lg cg)]), (.slice Ad ld cd)]) func14 rfl ntmps14 (Nat.le_of_ble_eq_true rfl) (zs (zn (ybq (v := (.agg #[(ii g), (.slice Ag lg cg)])) rfl ?_))); intro g3 w2 hN; replace hS : Sep w no O w2 (stl _ 2 (Res.box 24 g3 [(ii g), (.slice Ag lg cg)])) := hS.new 2 rfl hN; clear hN; refine zb (zn (ya7 ybb ?_)); intro g4 w3 hN; replace hS : Sep w no O w3 (stl _ 3 (Res.box 26 g4 [(.slice none 0 0)])) := hS.new 3 rfl hN; clear hN; refine zb (zn (ya7 yc4 ?_)); intro g5 w4 hN; replace hS : Sep w no O w4 (stl _ 4 (Res.box 29 g5 [(ii 0)])) := hS.new 4 rfl hN; clear hN; refine zb (yaa (zs (zq (yas (vs := [(ii g), (.slice Ag lg cg)]) rfl underlying24 rfl yaq ⟨Row.cell (hS.bx 2 rfl) (i := 0) rfl, Row.cell (hS.bx 2 rfl) (i := 1) rfl, trivial⟩) (zq (zm (.slice Ad ld cd)) (zn (yan rfl (am2 rfl rfl) yiE ((yf0 h (yaK _) (hS.rdr 0 rfl) (hS.rdr 1 rfl)).mono ?_))))))); rintro _ w5 ⟨r, r2, rfl, hC, h⟩; replace hS := hS.pur hC.pure; clear hC; refine ⟨_, rfl, ?_⟩; refine zb (zq (zm (.tuple #[(ii r), (ii r2)])) (zq (zx (ii r)) (zq (zx (ii r2)) (zq (za (ii r)) (zq (za (ii r2)) (yaa (yae (zs (zq (zm (ii r2)) (zq zN (yaa ?_))))))))))); by_cases hp : r2 = 0
  · replace h := h.1 hp; refine ze hp (yai (zs (zn (ya7 yah ?_)))); intro g6 w6 hN; replace hS : Sep w no O w6 (stl _ 5 (Res.box 3 g6 [(ii 0)])) := hS.new 5 rfl hN; clear hN; refine zb (zo (zt (ii 0) yah (hS.bwr 5 rfl (j := 0) rfl) ?_)); intro w7 e1; replace hS := hS.bst 5 rfl 0 (ii 0) e1; clear e1; refine zb (yaa (yae (zs (zq (zm (.slice Ad ld cd)) (zq (zm (ii r)) ?_))))); obtain ⟨hi, h⟩ := h; refine zq (zA hi) (zn (yan rfl (am2 rfl rfl) enter_48 ((yi5 h hS.blt (hS.ro 1 rfl)).mono ?_))); rintro _ w8 ⟨gc, gc2, rfl, hC, h⟩; replace hS := hS.call2 hC 6 0 7 1 rfl rfl (by decide) (by decide); clear hC; refine ⟨_, rfl, ?_⟩; refine zb (yaa (yam ?_)); obtain ⟨Pr, Rr, hgp, I2, h0, hb, h⟩ := h; refine yjn hS [2, 0, 3, 4, 5] [6, 1, 7] (by decide) (by decide) ⟨.inl (by decide), .inr rfl, .inl (by decide), trivial⟩ rfl enter_88 (val := (fun (x : List Int × List Int) (b : (Option Addr × Nat × Nat) × (Option Addr × Nat × Nat)) => #[(.slice b.1.1 b.1.2.1 b.1.2.2), (.slice b.2.1 b.2.2.1 b.2.2.2)])) (pass := (fun (x : List Int × List Int) (b : (Option Addr × Nat × Nat) × (Option Addr × Nat × Nat)) => (FP.and (FP.sl cI b.1.1 b.1.2.1 b.1.2.2 x.1) (FP.sl cI b.2.1 b.2.2.1 b.2.2.2 x.2)))) (Pr := Pr) (R := Rr) (fun _ _ => rfl) rfl (fun pr LL => ∃ n, I2 pr n ∧ LL = [Res.box 24 g3 [(ii g), (.slice Ag lg cg)], Res.ro (FP.sl c3 Ag lg cg g2), Res.box 26 g4 [(.slice none 0 0)], Res.box 29 g5 [(ii 0)], Res.box 3 g6 [(ii n)]]) (fun c ys LL => c = none ∧ ∃ r14 r15 Ar6 lr6 cr6, LL = [Res.box 26 g4 [(.slice Ar6 lr6 cr6)], Res.box 29 g5 [(ii r15)], Res.ro (FP.sl cI Ar6 lr6 cr6 r14)] ∧ R r14 r15) ⟨_, h0, rfl⟩ (fun T G hG => ygG hgp hG) ?_ ?_ ?_
    · clear h h0 hS hgp; rintro ll rdy busy S O2 pre ⟨y, y2⟩ ⟨⟨A, l, c⟩, ⟨A2, l2, c2⟩⟩ w9 _ ⟨n, hI, rfl⟩ hPr hpass hS; have h := hb pre y y2 n hI hPr; clear hb hI hPr; replace hS := hS.addro2 6 7 rfl rfl (by decide) _ _ hpass; clear hpass; refine yae (ybg (ybe ll) (zq (za (.slice A l c)) (yaa (ybg (ybe ll) (zq (za (.slice A2 l2 c2)) (yaa (yfF fun a ra => ⟨rfl, _, _, ra, hS, ⟨5, rfl⟩, ?_⟩))))))); intro w11 hw; replace hS := hS.flip 5 rfl busy hw; clear hw ra a; refine yam (yae (yae (ybg (ybe ll) (zq (zl underlying3 (Row.cell (hS.bx 4 rfl) (i := 0) rfl)) ?_)))); obtain ⟨hi2, h⟩ := h; refine zq (zA hi2) (zo (zt (ii (n + 1)) yah (hS.bwr 4 rfl (j := 0) rfl) ?_)); intro w12 e1; replace hS := hS.bst 4 rfl 0 (ii (n + 1)) e1; clear e1; refine zb (yaa (yae (ybg (ybe ll) (zq (zl underlying3 (Row.cell (hS.bx 4 rfl) (i := 0) rfl)) (zq zG (yaa ?_)))))); by_cases hp2 : 16384 < (n + 1)
      · replace h := h.1 hp2; refine zc hp2 (yae (ybg (ybe ll) (zo (zt (.slice none 0 0) ybb (hS.bwr 2 rfl (j := 0) rfl) ?_)))); intro w13 e1; replace hS := hS.bst 2 rfl 0 (.slice none 0 0) e1; clear e1; refine zb (zo (zt (ii 12) yc4 (hS.bwr 3 rfl (j := 0) rfl) ?_)); intro w14 e1; replace hS := hS.bst 3 rfl 0 (ii 12) e1; clear e1; refine zb (yaa ?_); replace hS := hS.addro 8 rfl _ (yiJ cI _ _); exact yen fun a r => ⟨_, ⟨rfl, ([]), 12, none, 0, 0, rfl, h⟩, (hS.sel [2, 3, 8, 5] (by decide))⟩
      · replace h := h.2 hp2; refine zd hp2 (yai (yae (ybg (ybe ll) (zq (yas (vs := [(ii g), (.slice Ag lg cg)]) rfl underlying24 rfl yaq ⟨Row.cell (hS.bx 0 rfl) (i := 0) rfl, Row.cell (hS.bx 0 rfl) (i := 1) rfl, trivial⟩) (zq (zm (.slice A2 l2 c2)) (zn (yan rfl (am2 rfl rfl) yjd ((yb5 h (yaK _) (hS.rdr 1 rfl) (hS.rdr 7 rfl)).mono ?_)))))))); rintro _ w15 ⟨r5, r6, r7, r8, Ar2, lr2, cr2, Ar3, lr3, cr3, rfl, hC, h⟩; replace hS := hS.call2 (hC.widen (yeo (ybk (fI .i64) _ _ _ _ _) (yeo (ybk (fI .i64) _ _ _ _ _) yfi)) hS.blt) 8 0 9 1 rfl rfl (by decide) (by decide); clear hC; refine ⟨_, rfl, ?_⟩; refine zb (zq (zm (.tuple #[(.bool (r5)), (.slice Ar2 lr2 cr2), (.slice Ar3 lr3 cr3), (ii r8)])) (zq (zx (.bool (r5))) (zq (zx (.slice Ar2 lr2 cr2)) (zq (zx (.slice Ar3 lr3 cr3)) (zq (zx (ii r8)) (zq (za (.bool (r5))) (zq (za (.slice Ar2 lr2 cr2)) (zq (za (.slice Ar3 lr3 cr3)) (zq (za (ii r8)) (yaa (yae (yae (ybg (ybe ll) (zq (zm (ii r8)) (zq zN (yaa ?_)))))))))))))))); by_cases hp3 : r8 = 0
        · replace h := h.1 hp3; refine ze hp3 (yai (yae (ybg (ybe ll) (zq (zm (.bool (r5))) (zq (ycV rfl) (yaa ?_)))))); by_cases hp4 : r5 = true
          · replace h := h.1 hp4; exact yaz (congrArg Value.bool (congrArg Bool.not hp4)) (yai (yal (yfF fun a r => ⟨_, ⟨_, h, rfl⟩, (hS.sel [0, 1, 2, 3, 4, 5] (by decide))⟩)))
          · replace h := h.2 hp4; refine yau (congrArg Value.bool (congrArg Bool.not (Bool.eq_false_iff.2 hp4))) (yae (ybg (ybe ll) (zq (zm (.slice A l c)) (zo (zt (.slice A l c) ybb (hS.bwr 2 rfl (j := 0) rfl) ?_))))); intro w16 e1; replace hS := hS.bst 2 rfl 0 (.slice A l c) e1; clear e1; refine zb (zo (zt (ii 0) yc4 (hS.bwr 3 rfl (j := 0) rfl) ?_)); intro w17 e1; replace hS := hS.bst 3 rfl 0 (ii 0) e1; clear e1; exact zb (yaa (yen fun a r => ⟨_, ⟨rfl, y, 0, A, l, c, rfl, h⟩, (hS.sel [2, 3, 6, 5] (by decide))⟩))
        · replace h := h.2 hp3; refine zf hp3 (yae (ybg (ybe ll) (zq (zm (ii r8)) (zn (yan rfl (am1 rfl) enter_49 ((yi9 h (yaK _)).mono ?_)))))); rintro _ w18 ⟨r11, rfl, hC, h⟩; replace hS := hS.pur hC.pure; clear hC; refine ⟨_, rfl, ?_⟩; refine zb (zo (zt (.slice none 0 0) ybb (hS.bwr 2 rfl (j := 0) rfl) ?_)); intro w19 e1; replace hS := hS.bst 2 rfl 0 (.slice none 0 0) e1; clear e1; refine zb (zo (zt (ii r11) yc4 (hS.bwr 3 rfl (j := 0) rfl) ?_)); intro w20 e1; replace hS := hS.bst 3 rfl 0 (ii r11) e1; clear e1; refine zb (yaa ?_); replace hS := hS.addro 10 rfl _ (yiJ cI _ _); exact yen fun a r => ⟨_, ⟨rfl, ([]), r11, none, 0, 0, rfl, h⟩, (hS.sel [2, 3, 10, 5] (by decide))⟩
    · clear hb h0 hS hgp; rintro D ys w10 _ hRr ⟨n, hI, rfl⟩ hS; replace h := h ys n hI hRr; clear hI hRr; refine yal (zs (zo (zt (.slice none 0 0) ybb (hS.bwr 2 rfl (j := 0) rfl) ?_))); intro w21 e1; replace hS := hS.bst 2 rfl 0 (.slice none 0 0) e1; clear e1; refine zb (zo (zt (ii 12) yc4 (hS.bwr 3 rfl (j := 0) rfl) ?_)); intro w22 e1; replace hS := hS.bst 3 rfl 0 (ii 12) e1; clear e1; refine zb (yaa ?_); replace hS := hS.addro 6 rfl _ (yiJ cI _ _); exact yen (yi7 (rs := [D]) hS 2 3 rfl rfl [5] (yhe 5 rfl) (by decide) (by decide) (by simp) (hS.marked 5 rfl) rfl rfl rfl underlying26 rfl underlying29 rfl (fun w9 hk => ⟨_, _, _, _, _, rfl, (hS.unmark [5] [6] (by decide) (by decide) (yhe 5 rfl) hk), h⟩))
    · clear h hb h0 hS hgp; rintro D2 c ys W9 _ ⟨rfl, r14, r15, Ar6, lr6, cr6, rfl, h⟩ hS; exact yi7 (rs := [D2]) hS 0 1 rfl rfl [3] (yhe 3 rfl) (by decide) (by decide) (by simp) (hS.marked 3 rfl) rfl rfl rfl underlying26 rfl underlying29 rfl (fun w9 hk => ⟨_, _, _, _, _, rfl, (hS.unmark [3] [2] (by decide) (by decide) (yhe 3 rfl) hk), h⟩)
  · replace h := h.2 hp; refine zf hp (zs (zq (zm (ii r2)) (zo (zt (.slice none 0 0) ybb (hS.bwr 3 rfl (j := 0) rfl) ?_)))); intro w23 e1; replace hS := hS.bst 3 rfl 0 (.slice none 0 0) e1; clear e1; refine zb (zo (zt (ii r2) yc4 (hS.bwr 4 rfl (j := 0) rfl) ?_)); intro w24 e1; replace hS := hS.bst 4 rfl 0 (ii r2) e1; clear e1; refine zb (yaa ?_); replace hS := hS.addro 5 rfl _ (yiJ cI _ _); exact yen (yi7 (rs := []) hS 3 4 rfl rfl [] (by simp) (by decide) (by decide) (by simp) (by simp) rfl rfl rfl underlying26 rfl underlying29 rfl (fun w9 hk => ⟨_, _, _, _, _, rfl, (hS.unmark [] [5] (by decide) (by decide) (by simp) hk), h⟩))
def yil (g : Int) (g2 : List E3) (d : List Int) (most : Int) (R : Bool → Prop) : Prop :=
(∃ J2 : Prop, (J2 → ydf g g2 d (fun r =>
((r = 0 →
yik g g2 d (fun r2 =>
((r2 = true →
yh9 d (fun r3 =>
R (decide (r3 ≤ most)))) ∧
(¬ (r2 = true) →
R false)))) ∧
(¬ (r = 0) →
R true)))) ∧
yih g g2 (fun r4 =>
((r4 = true →
((100 < ((d.length : Nat) : Int) →
R false) ∧
(¬ (100 < ((d.length : Nat) : Int)) →
J2))) ∧
(¬ (r4 = true) →
R false))))
theorem pok_r38_Few {O : Nat → Prop} {w : World} {g g2 d most Ag lg cg Ad ld cd} {R : Bool → Prop} (h : yil g g2 d most R) (hO : ∀ k, O k → k < w.heap.size) (hA0 : (FP.sl c3 Ag lg cg g2).P O w) (hA1 : (FP.sl cI Ad ld cd d).P O w) :
    Calls Try.prog 10 #[(.agg #[(ii g), (.slice Ag lg cg)]), (.slice Ad ld cd), (ii most)] w fun e w' => ∃ r5, e = .returned (.bool (r5)) ∧ Sep w no O w' (rl []) ∧ R r5 := by
  unfold yil at h; have hS : Sep w no O w (rl [Res.ro (FP.sl c3 Ag lg cg g2), Res.ro (FP.sl cI Ad ld cd d)]) := Sep.startl hO [(FP.sl c3 Ag lg cg g2), (FP.sl cI Ad ld cd d)] ⟨hA0, hA1, trivial⟩; refine yap (l := [(.agg #[(ii g), (.slice Ag lg cg)]), (.slice Ad ld cd), (ii most)]) func10 rfl ntmps10 (Nat.le_of_ble_eq_true rfl) (zs (zn (ybq (v := (.agg #[(ii g), (.slice Ag lg cg)])) rfl ?_))); intro g3 w2 hN; replace hS : Sep w no O w2 (stl _ 2 (Res.box 24 g3 [(ii g), (.slice Ag lg cg)])) := hS.new 2 rfl hN; clear hN; refine zb (zq (za (.bool (false))) (yaa (yae (yae ?_)))); obtain ⟨J2, hJ, h⟩ := h; refine ydX (fun E ds w' => J2 ∧ ds = [] ∧ E 1 = (Value.slice Ad ld cd) ∧ E 2 = (ii most) ∧ E 3 = (Value.pointer (some (⟨g3, 0, none⟩ : Addr))) ∧ Sep w no O w' (rl [Res.ro (FP.sl cI Ad ld cd d), Res.box 24 g3 [(ii g), (.slice Ag lg cg)], Res.ro (FP.sl c3 Ag lg cg g2)])) ?_ ?_
  · clear h hS; rintro E ds w3 ⟨h, rfl, hE1, hE2, hE3, hS⟩; replace h := hJ h; refine zs (zq (yas (vs := [(ii g), (.slice Ag lg cg)]) hE3 underlying24 rfl yaq ⟨Row.cell (hS.bx 1 rfl) (i := 0) rfl, Row.cell (hS.bx 1 rfl) (i := 1) rfl, trivial⟩) (zq (yac hE1) (zn (yan rfl (am2 rfl rfl) enter_42 ((pok_r35_Given h (yaK _) (hS.rdr 2 rfl) (hS.rdr 0 rfl)).mono ?_))))); rintro _ w4 ⟨r, rfl, hC, h⟩; replace hS := hS.pur hC.pure; clear hC; refine ⟨_, rfl, ?_⟩; refine zb (zq zN (zq (zm (.bool (!(decide (r = 0))))) ?_)); by_cases hp : r = 0
    · replace h := h.1 hp; refine rl_q (yad rfl (yaf rfl (congrArg Value.bool (congrArg Bool.not (decide_eq_true hp))))) rfl rfl (yas (vs := [(ii g), (.slice Ag lg cg)]) hE3 underlying24 rfl yaq ⟨Row.cell (hS.bx 1 rfl) (i := 0) rfl, Row.cell (hS.bx 1 rfl) (i := 1) rfl, trivial⟩) (rl_q (yad rfl (yaf rfl (congrArg Value.bool (congrArg Bool.not (decide_eq_true hp))))) rfl rfl (yac hE1) (rl_n (yad rfl (yaf rfl (congrArg Value.bool (congrArg Bool.not (decide_eq_true hp))))) rfl rfl rfl (yan rfl (am2 rfl rfl) enter_43 ((pok_r34_Low h (yaK _) (hS.rdr 2 rfl) (hS.rdr 0 rfl)).mono ?_)))); rintro _ w5 ⟨r2, rfl, hC, h⟩; replace hS := hS.pur hC.pure; clear hC; refine ⟨_, rfl, ?_⟩; refine zb (rl_q (yad rfl (yaf rfl (congrArg Value.bool (congrArg Bool.not (decide_eq_true hp))))) rfl rfl (zm (.bool (r2))) ?_); by_cases hp2 : r2 = true
      · replace h := h.1 hp2; refine rl_q (yad rfl (yaf rfl (congrArg Value.bool hp2))) rfl rfl (yac hE1) (rl_n (yad rfl (yaf rfl (congrArg Value.bool hp2))) rfl rfl rfl (yan rfl (am1 rfl) enter_20 ((yiR h (yaK _) (hS.rdr 0 rfl)).mono ?_))); rintro _ w6 ⟨r3, rfl, hC, h⟩; replace hS := hS.pur hC.pure; clear hC; refine ⟨_, rfl, ?_⟩; exact zb (rl_q (yad rfl (yaf rfl (congrArg Value.bool hp2))) rfl rfl (yac hE2) (rl_q (yad rfl (yaf rfl (congrArg Value.bool hp2))) rfl rfl (v_leq rfl rfl) (rl_q (yad rfl (yaf rfl (congrArg Value.bool (congrArg Bool.not (decide_eq_true hp))))) rfl rfl (yaw (v := (.bool (decide (r3 ≤ most)))) (congrArg Value.bool hp2) rfl) (zq (yay (v := (.bool (decide (r3 ≤ most)))) (congrArg Value.bool (congrArg Bool.not (decide_eq_true hp))) rfl) (zq (za (.bool (decide (r3 ≤ most)))) (yaa (yak rfl rfl ⟨_, rfl, (hS.sel [] (by decide)), h⟩)))))))
      · replace h := h.2 hp2; exact rl_p (yab rfl (yaf rfl (congrArg Value.bool (Bool.eq_false_iff.2 hp2))) rfl) rfl (rl_p (yab rfl (yaf rfl (congrArg Value.bool (Bool.eq_false_iff.2 hp2))) rfl) rfl (rl_p (yab rfl (yaf rfl (congrArg Value.bool (Bool.eq_false_iff.2 hp2))) rfl) rfl (rl_p (yab rfl (yaf rfl (congrArg Value.bool (Bool.eq_false_iff.2 hp2))) rfl) rfl (rl_q (yad rfl (yaf rfl (congrArg Value.bool (congrArg Bool.not (decide_eq_true hp))))) rfl rfl (yay (v := (.bool (false))) (congrArg Value.bool (Bool.eq_false_iff.2 hp2)) rfl) (zq (yay (v := (.bool (false))) (congrArg Value.bool (congrArg Bool.not (decide_eq_true hp))) rfl) (zq (za (.bool (false))) (yaa (yak rfl rfl ⟨_, rfl, (hS.sel [] (by decide)), h⟩))))))))
    · replace h := h.2 hp; exact rl_p (yab rfl (yaf rfl (congrArg Value.bool (congrArg Bool.not (decide_eq_false hp)))) rfl) rfl (rl_p (yab rfl (yaf rfl (congrArg Value.bool (congrArg Bool.not (decide_eq_false hp)))) rfl) rfl (rl_p (yab rfl (yaf rfl (congrArg Value.bool (congrArg Bool.not (decide_eq_false hp)))) rfl) rfl (rl_p (yab rfl (yaf rfl (congrArg Value.bool (congrArg Bool.not (decide_eq_false hp)))) rfl) rfl (rl_p (yfB rfl rfl) rfl (rl_p (yfB rfl rfl) rfl (rl_p (yfB rfl rfl) rfl (rl_p (yfB rfl rfl) rfl (rl_p (yab rfl (yaf rfl (congrArg Value.bool (congrArg Bool.not (decide_eq_false hp)))) rfl) rfl (zq (yaw (v := (.bool (true))) (congrArg Value.bool (congrArg Bool.not (decide_eq_false hp))) rfl) (zq (za (.bool (true))) (yaa (yak rfl rfl ⟨_, rfl, (hS.sel [] (by decide)), h⟩))))))))))))
  clear hJ; intro j; refine zr (zq (yas (vs := [(ii g), (.slice Ag lg cg)]) rfl underlying24 rfl yaq ⟨Row.cell (hS.bx 2 rfl) (i := 0) rfl, Row.cell (hS.bx 2 rfl) (i := 1) rfl, trivial⟩) (zn (yan rfl (am1 rfl) enter_36 ((yiB h (yaK _) (hS.rdr 0 rfl)).mono ?_)))); rintro _ w7 ⟨r4, rfl, hC, h⟩; replace hS := hS.pur hC.pure; clear hC; refine ⟨_, rfl, ?_⟩; refine zb (zq (ycV rfl) (zq (zm (.bool (!(r4)))) ?_)); by_cases hp3 : r4 = true
  · replace h := h.1 hp3; refine rl_q (yad rfl (yaf rfl (congrArg Value.bool (congrArg Bool.not hp3)))) rfl rfl (zm (.slice Ad ld cd)) (rl_q (yad rfl (yaf rfl (congrArg Value.bool (congrArg Bool.not hp3)))) rfl rfl (yaZ (n := d.length) rfl underlying25 (yaS (hS.rdr 1 rfl))) (rl_q (yad rfl (yaf rfl (congrArg Value.bool (congrArg Bool.not hp3)))) rfl rfl zG (zq (yay (v := (.bool (decide (100 < ((d.length : Nat) : Int))))) (congrArg Value.bool (congrArg Bool.not hp3)) rfl) (yaa ?_)))); by_cases hp4 : 100 < ((d.length : Nat) : Int)
    · replace h := h.1 hp4; exact zc hp4 (zs (zq (za (.bool (false))) (yaa (yak rfl rfl ⟨_, rfl, (hS.sel [] (by decide)), h⟩))))
    · replace h := h.2 hp4; exact zd hp4 (yai (j _ _ _ ⟨h, rfl, rfl, rfl, rfl, (hS.sel [1, 2, 0] (by decide))⟩))
  · replace h := h.2 hp3; exact rl_p (yab rfl (yaf rfl (congrArg Value.bool (congrArg Bool.not (Bool.eq_false_iff.2 hp3)))) rfl) rfl (rl_p (yab rfl (yaf rfl (congrArg Value.bool (congrArg Bool.not (Bool.eq_false_iff.2 hp3)))) rfl) rfl (rl_p (yab rfl (yaf rfl (congrArg Value.bool (congrArg Bool.not (Bool.eq_false_iff.2 hp3)))) rfl) rfl (zq (yaw (v := (.bool (true))) (congrArg Value.bool (congrArg Bool.not (Bool.eq_false_iff.2 hp3))) rfl) (yaa (yau rfl (zs (zq (za (.bool (false))) (yaa (yak rfl rfl ⟨_, rfl, (hS.sel [] (by decide)), h⟩)))))))))
end Go.Proofs.Ytmeoemmemjipdaa

/- Pure forms of functions, made by program (pf.py), each with the proof that the code does so. -/
namespace Go.Proofs.Ytmeoemmemjipdaa
open Go Go.RowKit Go.Shelf Go.Proofs.Try
set_option linter.unusedVariables false
set_option maxRecDepth 100000
set_option maxHeartbeats 1000000
def ybI (R : Bool → Prop) : Prop :=
(∃ I2 : Nat → Int → Prop, (∃ m0, I2 m0 0) ∧ ∀ m2 v, I2 m2 v → 
((v < ((([(3, [(0, 1, 1), (0, 2, 1), (1, 2, 1)], [1, 1, 0], 1), (3, [(0, 1, 1), (0, 2, 1), (1, 2, 1)], [0, 1, 0], 0), (4, [(0, 1, 1), (0, 2, 1), (0, 3, 1), (1, 2, 1), (1, 3, 1), (2, 3, 1)], [1, 1, 0, 0], 0), (4, [(0, 1, 1), (0, 2, 1), (0, 3, 1), (1, 2, 1), (1, 3, 1), (2, 3, 1)], [1, 1, 1, 0], 1), (4, [(0, 1, 1), (0, 2, 1), (0, 3, 1), (1, 2, 1), (1, 3, 1), (2, 3, 1)], [1, 1, 1, 1], 2), (1, [], [3], 3)] : List (Int × (List E3) × (List Int) × Int)).length : Nat) : Int) →
((0 ≤ v ∧ v < ((([(3, [(0, 1, 1), (0, 2, 1), (1, 2, 1)], [1, 1, 0], 1), (3, [(0, 1, 1), (0, 2, 1), (1, 2, 1)], [0, 1, 0], 0), (4, [(0, 1, 1), (0, 2, 1), (0, 3, 1), (1, 2, 1), (1, 3, 1), (2, 3, 1)], [1, 1, 0, 0], 0), (4, [(0, 1, 1), (0, 2, 1), (0, 3, 1), (1, 2, 1), (1, 3, 1), (2, 3, 1)], [1, 1, 1, 0], 1), (4, [(0, 1, 1), (0, 2, 1), (0, 3, 1), (1, 2, 1), (1, 3, 1), (2, 3, 1)], [1, 1, 1, 1], 2), (1, [], [3], 3)] : List (Int × (List E3) × (List Int) × Int)).length : Nat) : Int)) ∧
ya4 ((gx ([(3, [(0, 1, 1), (0, 2, 1), (1, 2, 1)], [1, 1, 0], 1), (3, [(0, 1, 1), (0, 2, 1), (1, 2, 1)], [0, 1, 0], 0), (4, [(0, 1, 1), (0, 2, 1), (0, 3, 1), (1, 2, 1), (1, 3, 1), (2, 3, 1)], [1, 1, 0, 0], 0), (4, [(0, 1, 1), (0, 2, 1), (0, 3, 1), (1, 2, 1), (1, 3, 1), (2, 3, 1)], [1, 1, 1, 0], 1), (4, [(0, 1, 1), (0, 2, 1), (0, 3, 1), (1, 2, 1), (1, 3, 1), (2, 3, 1)], [1, 1, 1, 1], 2), (1, [], [3], 3)] : List (Int × (List E3) × (List Int) × Int)) v.toNat).1) ((gx ([(3, [(0, 1, 1), (0, 2, 1), (1, 2, 1)], [1, 1, 0], 1), (3, [(0, 1, 1), (0, 2, 1), (1, 2, 1)], [0, 1, 0], 0), (4, [(0, 1, 1), (0, 2, 1), (0, 3, 1), (1, 2, 1), (1, 3, 1), (2, 3, 1)], [1, 1, 0, 0], 0), (4, [(0, 1, 1), (0, 2, 1), (0, 3, 1), (1, 2, 1), (1, 3, 1), (2, 3, 1)], [1, 1, 1, 0], 1), (4, [(0, 1, 1), (0, 2, 1), (0, 3, 1), (1, 2, 1), (1, 3, 1), (2, 3, 1)], [1, 1, 1, 1], 2), (1, [], [3], 3)] : List (Int × (List E3) × (List Int) × Int)) v.toNat).2.1) ((gx ([(3, [(0, 1, 1), (0, 2, 1), (1, 2, 1)], [1, 1, 0], 1), (3, [(0, 1, 1), (0, 2, 1), (1, 2, 1)], [0, 1, 0], 0), (4, [(0, 1, 1), (0, 2, 1), (0, 3, 1), (1, 2, 1), (1, 3, 1), (2, 3, 1)], [1, 1, 0, 0], 0), (4, [(0, 1, 1), (0, 2, 1), (0, 3, 1), (1, 2, 1), (1, 3, 1), (2, 3, 1)], [1, 1, 1, 0], 1), (4, [(0, 1, 1), (0, 2, 1), (0, 3, 1), (1, 2, 1), (1, 3, 1), (2, 3, 1)], [1, 1, 1, 1], 2), (1, [], [3], 3)] : List (Int × (List E3) × (List Int) × Int)) v.toNat).2.2.1) (fun r r2 =>
((r2 = 0 →
((r = ((gx ([(3, [(0, 1, 1), (0, 2, 1), (1, 2, 1)], [1, 1, 0], 1), (3, [(0, 1, 1), (0, 2, 1), (1, 2, 1)], [0, 1, 0], 0), (4, [(0, 1, 1), (0, 2, 1), (0, 3, 1), (1, 2, 1), (1, 3, 1), (2, 3, 1)], [1, 1, 0, 0], 0), (4, [(0, 1, 1), (0, 2, 1), (0, 3, 1), (1, 2, 1), (1, 3, 1), (2, 3, 1)], [1, 1, 1, 0], 1), (4, [(0, 1, 1), (0, 2, 1), (0, 3, 1), (1, 2, 1), (1, 3, 1), (2, 3, 1)], [1, 1, 1, 1], 2), (1, [], [3], 3)] : List (Int × (List E3) × (List Int) × Int)) v.toNat).2.2.2) →
(In64 (v + 1) ∧
∃ m3, m3 < m2 ∧ I2 m3 (v + 1))) ∧
(¬ (r = ((gx ([(3, [(0, 1, 1), (0, 2, 1), (1, 2, 1)], [1, 1, 0], 1), (3, [(0, 1, 1), (0, 2, 1), (1, 2, 1)], [0, 1, 0], 0), (4, [(0, 1, 1), (0, 2, 1), (0, 3, 1), (1, 2, 1), (1, 3, 1), (2, 3, 1)], [1, 1, 0, 0], 0), (4, [(0, 1, 1), (0, 2, 1), (0, 3, 1), (1, 2, 1), (1, 3, 1), (2, 3, 1)], [1, 1, 1, 0], 1), (4, [(0, 1, 1), (0, 2, 1), (0, 3, 1), (1, 2, 1), (1, 3, 1), (2, 3, 1)], [1, 1, 1, 1], 2), (1, [], [3], 3)] : List (Int × (List E3) × (List Int) × Int)) v.toNat).2.2.2)) →
R false))) ∧
(¬ (r2 = 0) →
R false))))) ∧
(¬ (v < ((([(3, [(0, 1, 1), (0, 2, 1), (1, 2, 1)], [1, 1, 0], 1), (3, [(0, 1, 1), (0, 2, 1), (1, 2, 1)], [0, 1, 0], 0), (4, [(0, 1, 1), (0, 2, 1), (0, 3, 1), (1, 2, 1), (1, 3, 1), (2, 3, 1)], [1, 1, 0, 0], 0), (4, [(0, 1, 1), (0, 2, 1), (0, 3, 1), (1, 2, 1), (1, 3, 1), (2, 3, 1)], [1, 1, 1, 0], 1), (4, [(0, 1, 1), (0, 2, 1), (0, 3, 1), (1, 2, 1), (1, 3, 1), (2, 3, 1)], [1, 1, 1, 1], 2), (1, [], [3], 3)] : List (Int × (List E3) × (List Int) × Int)).length : Nat) : Int)) →
ybw 3 ([(0, 1, 1), (0, 2, 1), (1, 2, 1)]) ([1, 1, 0]) (fun r3 r4 =>
ybw 3 ([(0, 1, 1), (0, 2, 1), (1, 2, 1)]) ([0, 1, 0]) (fun r5 r6 =>
((r4 = 0 →
((r6 = 0 →
yaT r3 ([0, 1, 1]) (fun r7 =>
((r7 = true →
yaT r5 ([0, 0, 1]) (fun r8 =>
R r8)) ∧
(¬ (r7 = true) →
R false)))) ∧
(¬ (r6 = 0) →
R false))) ∧
(¬ (r4 = 0) →
R false)))))))
theorem ycK {O : Nat → Prop} {w : World} {R : Bool → Prop} (h : ybI R) (hO : ∀ k, O k → k < w.heap.size) :
    Calls Try.prog 11 #[] w fun e w' => ∃ r9, e = .returned (.bool (r9)) ∧ Sep w no O w' (rl []) ∧ R r9 := by
  unfold ybI at h; have hS : Sep w no O w (rl []) := Sep.start w hO; refine yap (l := []) func11 rfl ntmps11 (Nat.le_of_ble_eq_true rfl) (zs (zq (za (.bool (false))) (yaa (zs (zn (ybp (l := [(0, (ii 0)), (1, (ii 1)), (2, (ii 1))]) (cells := [(ii 0), (ii 1), (ii 1)]) (places := [(0, 1), (1, 1), (2, 1)]) (bp3 rfl rfl rfl) underlying83 yaF (by kernel_rfl) rfl ?_)))))); refine zb (zn (ybp (l := [(0, (ii 0)), (1, (ii 2)), (2, (ii 1))]) (cells := [(ii 0), (ii 2), (ii 1)]) (places := [(0, 1), (1, 1), (2, 1)]) (bp3 rfl rfl rfl) underlying83 yaF (by kernel_rfl) rfl ?_)); refine zb (zn (ybp (l := [(0, (ii 1)), (1, (ii 2)), (2, (ii 1))]) (cells := [(ii 1), (ii 2), (ii 1)]) (places := [(0, 1), (1, 1), (2, 1)]) (bp3 rfl rfl rfl) underlying83 yaF (by kernel_rfl) rfl ?_)); refine zb (zn (ya8 (l := [(0, (.agg #[(ii 0), (ii 1), (ii 1)])), (1, (.agg #[(ii 0), (ii 2), (ii 1)])), (2, (.agg #[(ii 1), (ii 2), (ii 1)]))]) (cells := [(ii 0), (ii 1), (ii 1), (ii 0), (ii 2), (ii 1), (ii 1), (ii 2), (ii 1)]) (bp3 rfl rfl rfl) underlying22 yaF rfl rfl ?_)); intro g w2 hN; replace hS := hS.litf (n := 3) 0 rfl (fP (fI .i64) (fP (fI .i64) (fI .i64))) hN ([(0, 1, 1), (0, 2, 1), (1, 2, 1)] : List E3) rfl (by decide) rfl; clear hN; refine zb (zn (ybp (l := [(0, (ii 3)), (1, (.slice (some ⟨g, 0, none⟩) 3 3))]) (cells := [(ii 3), (.slice (some ⟨g, 0, none⟩) 3 3)]) (places := [(0, 1), (1, 1)]) (bp2 rfl rfl) underlying24 yaq (by kernel_rfl) rfl ?_)); refine zb (zn (ya7 yaq ?_)); intro g2 w3 hN; replace hS : Sep w no O w3 (stl _ 1 (Res.box 24 g2 [(ii 0), (.slice none 0 0)])) := hS.new 1 rfl hN; clear hN; refine zb (zo (ybr (b := g2) (o := 0) (cells := #[(ii 3), (.slice (some ⟨g, 0, none⟩) 3 3)]) rfl rfl yaq rfl rfl (yaY (hS.bx 1 rfl) (Nat.le_of_ble_eq_true rfl)) ?_)); intro w4 e1; replace hS := hS.bstn 1 rfl 0 [(ii 3), (.slice (some ⟨g, 0, none⟩) 3 3)] e1; clear e1; refine zb (yaa (zs (zn (ybp (l := [(0, (ii 0)), (1, (ii 1)), (2, (ii 1))]) (cells := [(ii 0), (ii 1), (ii 1)]) (places := [(0, 1), (1, 1), (2, 1)]) (bp3 rfl rfl rfl) underlying83 yaF (by kernel_rfl) rfl ?_)))); refine zb (zn (ybp (l := [(0, (ii 0)), (1, (ii 2)), (2, (ii 1))]) (cells := [(ii 0), (ii 2), (ii 1)]) (places := [(0, 1), (1, 1), (2, 1)]) (bp3 rfl rfl rfl) underlying83 yaF (by kernel_rfl) rfl ?_)); refine zb (zn (ybp (l := [(0, (ii 0)), (1, (ii 3)), (2, (ii 1))]) (cells := [(ii 0), (ii 3), (ii 1)]) (places := [(0, 1), (1, 1), (2, 1)]) (bp3 rfl rfl rfl) underlying83 yaF (by kernel_rfl) rfl ?_)); refine zb (zn (ybp (l := [(0, (ii 1)), (1, (ii 2)), (2, (ii 1))]) (cells := [(ii 1), (ii 2), (ii 1)]) (places := [(0, 1), (1, 1), (2, 1)]) (bp3 rfl rfl rfl) underlying83 yaF (by kernel_rfl) rfl ?_)); refine zb (zn (ybp (l := [(0, (ii 1)), (1, (ii 3)), (2, (ii 1))]) (cells := [(ii 1), (ii 3), (ii 1)]) (places := [(0, 1), (1, 1), (2, 1)]) (bp3 rfl rfl rfl) underlying83 yaF (by kernel_rfl) rfl ?_)); refine zb (zn (ybp (l := [(0, (ii 2)), (1, (ii 3)), (2, (ii 1))]) (cells := [(ii 2), (ii 3), (ii 1)]) (places := [(0, 1), (1, 1), (2, 1)]) (bp3 rfl rfl rfl) underlying83 yaF (by kernel_rfl) rfl ?_)); refine zb (zn (ya8 (l := [(0, (.agg #[(ii 0), (ii 1), (ii 1)])), (1, (.agg #[(ii 0), (ii 2), (ii 1)])), (2, (.agg #[(ii 0), (ii 3), (ii 1)])), (3, (.agg #[(ii 1), (ii 2), (ii 1)])), (4, (.agg #[(ii 1), (ii 3), (ii 1)])), (5, (.agg #[(ii 2), (ii 3), (ii 1)]))]) (cells := [(ii 0), (ii 1), (ii 1), (ii 0), (ii 2), (ii 1), (ii 0), (ii 3), (ii 1), (ii 1), (ii 2), (ii 1), (ii 1), (ii 3), (ii 1), (ii 2), (ii 3), (ii 1)]) (bp6 rfl rfl rfl rfl rfl rfl) underlying22 yaF rfl rfl ?_)); intro g3 w5 hN; replace hS := hS.litf (n := 6) 2 rfl (fP (fI .i64) (fP (fI .i64) (fI .i64))) hN ([(0, 1, 1), (0, 2, 1), (0, 3, 1), (1, 2, 1), (1, 3, 1), (2, 3, 1)] : List E3) rfl (by decide) rfl; clear hN; refine zb (zn (ybp (l := [(0, (ii 4)), (1, (.slice (some ⟨g3, 0, none⟩) 6 6))]) (cells := [(ii 4), (.slice (some ⟨g3, 0, none⟩) 6 6)]) (places := [(0, 1), (1, 1)]) (bp2 rfl rfl) underlying24 yaq (by kernel_rfl) rfl ?_)); refine zb (zn (ya7 yaq ?_)); intro g4 w6 hN; replace hS : Sep w no O w6 (stl _ 3 (Res.box 24 g4 [(ii 0), (.slice none 0 0)])) := hS.new 3 rfl hN; clear hN; refine zb (zo (ybr (b := g4) (o := 0) (cells := #[(ii 4), (.slice (some ⟨g3, 0, none⟩) 6 6)]) rfl rfl yaq rfl rfl (yaY (hS.bx 3 rfl) (Nat.le_of_ble_eq_true rfl)) ?_)); intro w7 e1; replace hS := hS.bstn 3 rfl 0 [(ii 4), (.slice (some ⟨g3, 0, none⟩) 6 6)] e1; clear e1; refine zb (yaa (yae (zs (zq (yas (vs := [(ii 3), (.slice (some ⟨g, 0, none⟩) 3 3)]) rfl underlying24 rfl yaq ⟨Row.cell (hS.bx 1 rfl) (i := 0) rfl, Row.cell (hS.bx 1 rfl) (i := 1) rfl, trivial⟩) (zn (ya8 (l := [(0, (ii 1)), (1, (ii 1)), (2, (ii 0))]) (cells := [(ii 1), (ii 1), (ii 0)]) (bp3 rfl rfl rfl) underlying26 yah rfl rfl ?_)))))); intro g5 w8 hN; replace hS := hS.litf (n := 3) 4 rfl (fI .i64) hN ([1, 1, 0] : List Int) rfl (by decide) rfl; clear hN; refine zb (zn (ybp (l := [(0, (.agg #[(ii 3), (.slice (some ⟨g, 0, none⟩) 3 3)])), (1, (.slice (some ⟨g5, 0, none⟩) 3 3)), (2, (ii 1))]) (cells := [(ii 3), (.slice (some ⟨g, 0, none⟩) 3 3), (.slice (some ⟨g5, 0, none⟩) 3 3), (ii 1)]) (places := [(0, 2), (2, 1), (3, 1)]) (bp3 rfl rfl rfl) underlying84 ydP (by kernel_rfl) rfl ?_)); refine zb (zq (yas (vs := [(ii 3), (.slice (some ⟨g, 0, none⟩) 3 3)]) rfl underlying24 rfl yaq ⟨Row.cell (hS.bx 1 rfl) (i := 0) rfl, Row.cell (hS.bx 1 rfl) (i := 1) rfl, trivial⟩) (zn (ya8 (l := [(0, (ii 0)), (1, (ii 1)), (2, (ii 0))]) (cells := [(ii 0), (ii 1), (ii 0)]) (bp3 rfl rfl rfl) underlying26 yah rfl rfl ?_))); intro g6 w9 hN; replace hS := hS.litf (n := 3) 5 rfl (fI .i64) hN ([0, 1, 0] : List Int) rfl (by decide) rfl; clear hN; refine zb (zn (ybp (l := [(0, (.agg #[(ii 3), (.slice (some ⟨g, 0, none⟩) 3 3)])), (1, (.slice (some ⟨g6, 0, none⟩) 3 3)), (2, (ii 0))]) (cells := [(ii 3), (.slice (some ⟨g, 0, none⟩) 3 3), (.slice (some ⟨g6, 0, none⟩) 3 3), (ii 0)]) (places := [(0, 2), (2, 1), (3, 1)]) (bp3 rfl rfl rfl) underlying84 ydP (by kernel_rfl) rfl ?_)); refine zb (zq (yas (vs := [(ii 4), (.slice (some ⟨g3, 0, none⟩) 6 6)]) rfl underlying24 rfl yaq ⟨Row.cell (hS.bx 3 rfl) (i := 0) rfl, Row.cell (hS.bx 3 rfl) (i := 1) rfl, trivial⟩) (zn (ya8 (l := [(0, (ii 1)), (1, (ii 1)), (2, (ii 0)), (3, (ii 0))]) (cells := [(ii 1), (ii 1), (ii 0), (ii 0)]) (bp4 rfl rfl rfl rfl) underlying26 yah rfl rfl ?_))); intro g7 w10 hN
  replace hS := hS.litf (n := 4) 6 rfl (fI .i64) hN ([1, 1, 0, 0] : List Int) rfl (by decide) rfl; clear hN; refine zb (zn (ybp (l := [(0, (.agg #[(ii 4), (.slice (some ⟨g3, 0, none⟩) 6 6)])), (1, (.slice (some ⟨g7, 0, none⟩) 4 4)), (2, (ii 0))]) (cells := [(ii 4), (.slice (some ⟨g3, 0, none⟩) 6 6), (.slice (some ⟨g7, 0, none⟩) 4 4), (ii 0)]) (places := [(0, 2), (2, 1), (3, 1)]) (bp3 rfl rfl rfl) underlying84 ydP (by kernel_rfl) rfl ?_)); refine zb (zq (yas (vs := [(ii 4), (.slice (some ⟨g3, 0, none⟩) 6 6)]) rfl underlying24 rfl yaq ⟨Row.cell (hS.bx 3 rfl) (i := 0) rfl, Row.cell (hS.bx 3 rfl) (i := 1) rfl, trivial⟩) (zn (ya8 (l := [(0, (ii 1)), (1, (ii 1)), (2, (ii 1)), (3, (ii 0))]) (cells := [(ii 1), (ii 1), (ii 1), (ii 0)]) (bp4 rfl rfl rfl rfl) underlying26 yah rfl rfl ?_))); intro g8 w11 hN; replace hS := hS.litf (n := 4) 7 rfl (fI .i64) hN ([1, 1, 1, 0] : List Int) rfl (by decide) rfl; clear hN; refine zb (zn (ybp (l := [(0, (.agg #[(ii 4), (.slice (some ⟨g3, 0, none⟩) 6 6)])), (1, (.slice (some ⟨g8, 0, none⟩) 4 4)), (2, (ii 1))]) (cells := [(ii 4), (.slice (some ⟨g3, 0, none⟩) 6 6), (.slice (some ⟨g8, 0, none⟩) 4 4), (ii 1)]) (places := [(0, 2), (2, 1), (3, 1)]) (bp3 rfl rfl rfl) underlying84 ydP (by kernel_rfl) rfl ?_)); refine zb (zq (yas (vs := [(ii 4), (.slice (some ⟨g3, 0, none⟩) 6 6)]) rfl underlying24 rfl yaq ⟨Row.cell (hS.bx 3 rfl) (i := 0) rfl, Row.cell (hS.bx 3 rfl) (i := 1) rfl, trivial⟩) (zn (ya8 (l := [(0, (ii 1)), (1, (ii 1)), (2, (ii 1)), (3, (ii 1))]) (cells := [(ii 1), (ii 1), (ii 1), (ii 1)]) (bp4 rfl rfl rfl rfl) underlying26 yah rfl rfl ?_))); intro g9 w12 hN; replace hS := hS.litf (n := 4) 8 rfl (fI .i64) hN ([1, 1, 1, 1] : List Int) rfl (by decide) rfl; clear hN; refine zb (zn (ybp (l := [(0, (.agg #[(ii 4), (.slice (some ⟨g3, 0, none⟩) 6 6)])), (1, (.slice (some ⟨g9, 0, none⟩) 4 4)), (2, (ii 2))]) (cells := [(ii 4), (.slice (some ⟨g3, 0, none⟩) 6 6), (.slice (some ⟨g9, 0, none⟩) 4 4), (ii 2)]) (places := [(0, 2), (2, 1), (3, 1)]) (bp3 rfl rfl rfl) underlying84 ydP (by kernel_rfl) rfl ?_)); refine zb (zn (ybp (l := [(0, (ii 1))]) (cells := [(ii 1), (.slice none 0 0)]) (places := [(0, 1), (1, 1)]) (bp1 rfl) underlying24 yaq (by kernel_rfl) rfl ?_)); refine zb (zn (ya8 (l := [(0, (ii 3))]) (cells := [(ii 3)]) (bp1 rfl) underlying26 yah rfl rfl ?_)); intro g10 w13 hN; replace hS := hS.litf (n := 1) 9 rfl (fI .i64) hN ([3] : List Int) rfl (by decide) rfl; clear hN; refine zb (zn (ybp (l := [(0, (.agg #[(ii 1), (.slice none 0 0)])), (1, (.slice (some ⟨g10, 0, none⟩) 1 1)), (2, (ii 3))]) (cells := [(ii 1), (.slice none 0 0), (.slice (some ⟨g10, 0, none⟩) 1 1), (ii 3)]) (places := [(0, 2), (2, 1), (3, 1)]) (bp3 rfl rfl rfl) underlying84 ydP (by kernel_rfl) rfl ?_)); refine zb ?_; replace hS := hS.frz 0 rfl; replace hS := hS.frz 4 rfl; replace hS := hS.frz 5 rfl; replace hS := hS.frz 2 rfl; replace hS := hS.frz 6 rfl; replace hS := hS.frz 7 rfl; replace hS := hS.frz 8 rfl; replace hS := hS.frz 9 rfl; refine zn (ya8 (l := [(0, (.agg #[(ii 3), (.slice (some ⟨g, 0, none⟩) 3 3), (.slice (some ⟨g5, 0, none⟩) 3 3), (ii 1)])), (1, (.agg #[(ii 3), (.slice (some ⟨g, 0, none⟩) 3 3), (.slice (some ⟨g6, 0, none⟩) 3 3), (ii 0)])), (2, (.agg #[(ii 4), (.slice (some ⟨g3, 0, none⟩) 6 6), (.slice (some ⟨g7, 0, none⟩) 4 4), (ii 0)])), (3, (.agg #[(ii 4), (.slice (some ⟨g3, 0, none⟩) 6 6), (.slice (some ⟨g8, 0, none⟩) 4 4), (ii 1)])), (4, (.agg #[(ii 4), (.slice (some ⟨g3, 0, none⟩) 6 6), (.slice (some ⟨g9, 0, none⟩) 4 4), (ii 2)])), (5, (.agg #[(ii 1), (.slice none 0 0), (.slice (some ⟨g10, 0, none⟩) 1 1), (ii 3)]))]) (cells := [(ii 3), (.slice (some ⟨g, 0, none⟩) 3 3), (.slice (some ⟨g5, 0, none⟩) 3 3), (ii 1), (ii 3), (.slice (some ⟨g, 0, none⟩) 3 3), (.slice (some ⟨g6, 0, none⟩) 3 3), (ii 0), (ii 4), (.slice (some ⟨g3, 0, none⟩) 6 6), (.slice (some ⟨g7, 0, none⟩) 4 4), (ii 0), (ii 4), (.slice (some ⟨g3, 0, none⟩) 6 6), (.slice (some ⟨g8, 0, none⟩) 4 4), (ii 1), (ii 4), (.slice (some ⟨g3, 0, none⟩) 6 6), (.slice (some ⟨g9, 0, none⟩) 4 4), (ii 2), (ii 1), (.slice none 0 0), (.slice (some ⟨g10, 0, none⟩) 1 1), (ii 3)]) (bp6 rfl rfl rfl rfl rfl rfl) underlying85 ydP rfl (by kernel_rfl) ?_); intro g11 w14 hN; replace hS := hS.lit (n := 6) (c := (cPr cI (cPr (cL c3) (cPr (cL cI) cI)))) 10 rfl hN (([(3, [(0, 1, 1), (0, 2, 1), (1, 2, 1)], [1, 1, 0], 1), (3, [(0, 1, 1), (0, 2, 1), (1, 2, 1)], [0, 1, 0], 0), (4, [(0, 1, 1), (0, 2, 1), (0, 3, 1), (1, 2, 1), (1, 3, 1), (2, 3, 1)], [1, 1, 0, 0], 0), (4, [(0, 1, 1), (0, 2, 1), (0, 3, 1), (1, 2, 1), (1, 3, 1), (2, 3, 1)], [1, 1, 1, 0], 1), (4, [(0, 1, 1), (0, 2, 1), (0, 3, 1), (1, 2, 1), (1, 3, 1), (2, 3, 1)], [1, 1, 1, 1], 2), (1, [], [3], 3)] : List (Int × (List E3) × (List Int) × Int)) : List (Int × (List E3) × (List Int) × Int)) rfl (by decide) ⟨[(ii 3), (.slice (some ⟨g, 0, none⟩) 3 3), (.slice (some ⟨g5, 0, none⟩) 3 3), (ii 1)], _, rfl, ⟨[(ii 3)], [(.slice (some ⟨g, 0, none⟩) 3 3), (.slice (some ⟨g5, 0, none⟩) 3 3), (ii 1)], rfl, rfl, ⟨[(.slice (some ⟨g, 0, none⟩) 3 3)], [(.slice (some ⟨g5, 0, none⟩) 3 3), (ii 1)], rfl, (ro_R (hS.ro 0 rfl)), ⟨[(.slice (some ⟨g5, 0, none⟩) 3 3)], [(ii 1)], rfl, (ro_R (hS.ro 4 rfl)), rfl⟩⟩⟩, ⟨[(ii 3), (.slice (some ⟨g, 0, none⟩) 3 3), (.slice (some ⟨g6, 0, none⟩) 3 3), (ii 0)], _, rfl, ⟨[(ii 3)], [(.slice (some ⟨g, 0, none⟩) 3 3), (.slice (some ⟨g6, 0, none⟩) 3 3), (ii 0)], rfl, rfl, ⟨[(.slice (some ⟨g, 0, none⟩) 3 3)], [(.slice (some ⟨g6, 0, none⟩) 3 3), (ii 0)], rfl, (ro_R (hS.ro 0 rfl)), ⟨[(.slice (some ⟨g6, 0, none⟩) 3 3)], [(ii 0)], rfl, (ro_R (hS.ro 5 rfl)), rfl⟩⟩⟩, ⟨[(ii 4), (.slice (some ⟨g3, 0, none⟩) 6 6), (.slice (some ⟨g7, 0, none⟩) 4 4), (ii 0)], _, rfl, ⟨[(ii 4)], [(.slice (some ⟨g3, 0, none⟩) 6 6), (.slice (some ⟨g7, 0, none⟩) 4 4), (ii 0)], rfl, rfl, ⟨[(.slice (some ⟨g3, 0, none⟩) 6 6)], [(.slice (some ⟨g7, 0, none⟩) 4 4), (ii 0)], rfl, (ro_R (hS.ro 2 rfl)), ⟨[(.slice (some ⟨g7, 0, none⟩) 4 4)], [(ii 0)], rfl, (ro_R (hS.ro 6 rfl)), rfl⟩⟩⟩, ⟨[(ii 4), (.slice (some ⟨g3, 0, none⟩) 6 6), (.slice (some ⟨g8, 0, none⟩) 4 4), (ii 1)], _, rfl, ⟨[(ii 4)], [(.slice (some ⟨g3, 0, none⟩) 6 6), (.slice (some ⟨g8, 0, none⟩) 4 4), (ii 1)], rfl, rfl, ⟨[(.slice (some ⟨g3, 0, none⟩) 6 6)], [(.slice (some ⟨g8, 0, none⟩) 4 4), (ii 1)], rfl, (ro_R (hS.ro 2 rfl)), ⟨[(.slice (some ⟨g8, 0, none⟩) 4 4)], [(ii 1)], rfl, (ro_R (hS.ro 7 rfl)), rfl⟩⟩⟩, ⟨[(ii 4), (.slice (some ⟨g3, 0, none⟩) 6 6), (.slice (some ⟨g9, 0, none⟩) 4 4), (ii 2)], _, rfl, ⟨[(ii 4)], [(.slice (some ⟨g3, 0, none⟩) 6 6), (.slice (some ⟨g9, 0, none⟩) 4 4), (ii 2)], rfl, rfl, ⟨[(.slice (some ⟨g3, 0, none⟩) 6 6)], [(.slice (some ⟨g9, 0, none⟩) 4 4), (ii 2)], rfl, (ro_R (hS.ro 2 rfl)), ⟨[(.slice (some ⟨g9, 0, none⟩) 4 4)], [(ii 2)], rfl, (ro_R (hS.ro 8 rfl)), rfl⟩⟩⟩, ⟨[(ii 1), (.slice none 0 0), (.slice (some ⟨g10, 0, none⟩) 1 1), (ii 3)], _, rfl, ⟨[(ii 1)], [(.slice none 0 0), (.slice (some ⟨g10, 0, none⟩) 1 1), (ii 3)], rfl, rfl, ⟨[(.slice none 0 0)], [(.slice (some ⟨g10, 0, none⟩) 1 1), (ii 3)], rfl, ⟨_, _, _, rfl, rfl, Nat.le_refl _, Sl.nil _ _ _ _⟩, ⟨[(.slice (some ⟨g10, 0, none⟩) 1 1)], [(ii 3)], rfl, (ro_R (hS.ro 9 rfl)), rfl⟩⟩⟩, rfl⟩⟩⟩⟩⟩⟩; clear hN; refine zb ?_
  refine zq (yaZ (n := ([(3, [(0, 1, 1), (0, 2, 1), (1, 2, 1)], [1, 1, 0], 1), (3, [(0, 1, 1), (0, 2, 1), (1, 2, 1)], [0, 1, 0], 0), (4, [(0, 1, 1), (0, 2, 1), (0, 3, 1), (1, 2, 1), (1, 3, 1), (2, 3, 1)], [1, 1, 0, 0], 0), (4, [(0, 1, 1), (0, 2, 1), (0, 3, 1), (1, 2, 1), (1, 3, 1), (2, 3, 1)], [1, 1, 1, 0], 1), (4, [(0, 1, 1), (0, 2, 1), (0, 3, 1), (1, 2, 1), (1, 3, 1), (2, 3, 1)], [1, 1, 1, 1], 2), (1, [], [3], 3)] : List (Int × (List E3) × (List Int) × Int)).length) rfl underlying85 (yaS (hS.rdo 10 rfl))) (zq (zm (ii 0)) (yaa (yam ?_))); replace hS := hS.frz 10 rfl; obtain ⟨I2, ⟨m0, h0⟩, hr⟩ := h; refine yaC (fun m E ds w' => ∃ v, I2 m v ∧ ds = [] ∧ E 1 = (Value.pointer (some (⟨g2, 0, none⟩ : Addr))) ∧ E 42 = (Value.slice (some ⟨g11, 0, none⟩) 6 6) ∧ E 43 = (ii ((([(3, [(0, 1, 1), (0, 2, 1), (1, 2, 1)], [1, 1, 0], 1), (3, [(0, 1, 1), (0, 2, 1), (1, 2, 1)], [0, 1, 0], 0), (4, [(0, 1, 1), (0, 2, 1), (0, 3, 1), (1, 2, 1), (1, 3, 1), (2, 3, 1)], [1, 1, 0, 0], 0), (4, [(0, 1, 1), (0, 2, 1), (0, 3, 1), (1, 2, 1), (1, 3, 1), (2, 3, 1)], [1, 1, 1, 0], 1), (4, [(0, 1, 1), (0, 2, 1), (0, 3, 1), (1, 2, 1), (1, 3, 1), (2, 3, 1)], [1, 1, 1, 1], 2), (1, [], [3], 3)] : List (Int × (List E3) × (List Int) × Int)).length : Nat) : Int)) ∧ E 44 = (ii v) ∧ Sep w no O w' (rl [Res.box 24 g2 [(ii 3), (.slice (some ⟨g, 0, none⟩) 3 3)], Res.ro (FP.sl c3 (some ⟨g, 0, none⟩) 3 3 ([(0, 1, 1), (0, 2, 1), (1, 2, 1)])), Res.ro (FP.sl (cPr cI (cPr (cL c3) (cPr (cL cI) cI))) (some ⟨g11, 0, none⟩) 6 6 ([(3, [(0, 1, 1), (0, 2, 1), (1, 2, 1)], [1, 1, 0], 1), (3, [(0, 1, 1), (0, 2, 1), (1, 2, 1)], [0, 1, 0], 0), (4, [(0, 1, 1), (0, 2, 1), (0, 3, 1), (1, 2, 1), (1, 3, 1), (2, 3, 1)], [1, 1, 0, 0], 0), (4, [(0, 1, 1), (0, 2, 1), (0, 3, 1), (1, 2, 1), (1, 3, 1), (2, 3, 1)], [1, 1, 1, 0], 1), (4, [(0, 1, 1), (0, 2, 1), (0, 3, 1), (1, 2, 1), (1, 3, 1), (2, 3, 1)], [1, 1, 1, 1], 2), (1, [], [3], 3)] : List (Int × (List E3) × (List Int) × Int)))])) m0 ⟨_, h0, rfl, rfl, rfl, rfl, rfl, (hS.sel [1, 0, 10] (by decide))⟩ ?_; clear h0 hS; rintro m2 E ds w15 ⟨v, h, rfl, hE1, hE42, hE43, hE44, hS⟩ again; replace h := hr m2 v h; clear hr; refine zs (zq (yaP hE44 hE43) (yaa (yae ?_))); by_cases hp : v < ((([(3, [(0, 1, 1), (0, 2, 1), (1, 2, 1)], [1, 1, 0], 1), (3, [(0, 1, 1), (0, 2, 1), (1, 2, 1)], [0, 1, 0], 0), (4, [(0, 1, 1), (0, 2, 1), (0, 3, 1), (1, 2, 1), (1, 3, 1), (2, 3, 1)], [1, 1, 0, 0], 0), (4, [(0, 1, 1), (0, 2, 1), (0, 3, 1), (1, 2, 1), (1, 3, 1), (2, 3, 1)], [1, 1, 1, 0], 1), (4, [(0, 1, 1), (0, 2, 1), (0, 3, 1), (1, 2, 1), (1, 3, 1), (2, 3, 1)], [1, 1, 1, 1], 2), (1, [], [3], 3)] : List (Int × (List E3) × (List Int) × Int)).length : Nat) : Int)
  · replace h := h.1 hp; refine zc hp (yai (yae (yam (zs ?_)))); obtain ⟨hx, h⟩ := h; refine zq (yao hE42 hE44 underlying85 ydP (yaM (hS.rdr 2 rfl) hx)) ?_; obtain ⟨vs_, hR, _, hc⟩ := rd_cell (hS.ro 2 rfl) hx (fun q => yiK q); obtain ⟨u_, v_, rfl, hq2, hR⟩ := hR; replace hq2 : u_ = [(ii ((gx ([(3, [(0, 1, 1), (0, 2, 1), (1, 2, 1)], [1, 1, 0], 1), (3, [(0, 1, 1), (0, 2, 1), (1, 2, 1)], [0, 1, 0], 0), (4, [(0, 1, 1), (0, 2, 1), (0, 3, 1), (1, 2, 1), (1, 3, 1), (2, 3, 1)], [1, 1, 0, 0], 0), (4, [(0, 1, 1), (0, 2, 1), (0, 3, 1), (1, 2, 1), (1, 3, 1), (2, 3, 1)], [1, 1, 1, 0], 1), (4, [(0, 1, 1), (0, 2, 1), (0, 3, 1), (1, 2, 1), (1, 3, 1), (2, 3, 1)], [1, 1, 1, 1], 2), (1, [], [3], 3)] : List (Int × (List E3) × (List Int) × Int)) v.toNat).1))] := hq2; subst hq2; obtain ⟨u_, v_, rfl, hq3, hR⟩ := hR; obtain ⟨A, l, c, rfl, hp2⟩ := R_ro hq3; clear hq3; obtain ⟨u_, v_, rfl, hq4, hR⟩ := hR; obtain ⟨A2, l2, c2, rfl, hp3⟩ := R_ro hq4; clear hq4; have hq5 := hR; replace hq5 : v_ = [(ii ((gx ([(3, [(0, 1, 1), (0, 2, 1), (1, 2, 1)], [1, 1, 0], 1), (3, [(0, 1, 1), (0, 2, 1), (1, 2, 1)], [0, 1, 0], 0), (4, [(0, 1, 1), (0, 2, 1), (0, 3, 1), (1, 2, 1), (1, 3, 1), (2, 3, 1)], [1, 1, 0, 0], 0), (4, [(0, 1, 1), (0, 2, 1), (0, 3, 1), (1, 2, 1), (1, 3, 1), (2, 3, 1)], [1, 1, 1, 0], 1), (4, [(0, 1, 1), (0, 2, 1), (0, 3, 1), (1, 2, 1), (1, 3, 1), (2, 3, 1)], [1, 1, 1, 1], 2), (1, [], [3], 3)] : List (Int × (List E3) × (List Int) × Int)) v.toNat).2.2.2))] := hq5; subst hq5; have hc_ : Cells _ _ 0 [(ii ((gx ([(3, [(0, 1, 1), (0, 2, 1), (1, 2, 1)], [1, 1, 0], 1), (3, [(0, 1, 1), (0, 2, 1), (1, 2, 1)], [0, 1, 0], 0), (4, [(0, 1, 1), (0, 2, 1), (0, 3, 1), (1, 2, 1), (1, 3, 1), (2, 3, 1)], [1, 1, 0, 0], 0), (4, [(0, 1, 1), (0, 2, 1), (0, 3, 1), (1, 2, 1), (1, 3, 1), (2, 3, 1)], [1, 1, 1, 0], 1), (4, [(0, 1, 1), (0, 2, 1), (0, 3, 1), (1, 2, 1), (1, 3, 1), (2, 3, 1)], [1, 1, 1, 1], 2), (1, [], [3], 3)] : List (Int × (List E3) × (List Int) × Int)) v.toNat).1)), (.slice A l c), (.slice A2 l2 c2), (ii ((gx ([(3, [(0, 1, 1), (0, 2, 1), (1, 2, 1)], [1, 1, 0], 1), (3, [(0, 1, 1), (0, 2, 1), (1, 2, 1)], [0, 1, 0], 0), (4, [(0, 1, 1), (0, 2, 1), (0, 3, 1), (1, 2, 1), (1, 3, 1), (2, 3, 1)], [1, 1, 0, 0], 0), (4, [(0, 1, 1), (0, 2, 1), (0, 3, 1), (1, 2, 1), (1, 3, 1), (2, 3, 1)], [1, 1, 1, 0], 1), (4, [(0, 1, 1), (0, 2, 1), (0, 3, 1), (1, 2, 1), (1, 3, 1), (2, 3, 1)], [1, 1, 1, 1], 2), (1, [], [3], 3)] : List (Int × (List E3) × (List Int) × Int)) v.toNat).2.2.2))] := ⟨hc 0 _ rfl, hc 1 _ rfl, hc 2 _ rfl, hc 3 _ rfl, trivial⟩; have hq_0 := hS.addro 3 rfl _ hp2; replace hp3 := fpl_ro (Φ := (FP.sl c3 A l c ((gx ([(3, [(0, 1, 1), (0, 2, 1), (1, 2, 1)], [1, 1, 0], 1), (3, [(0, 1, 1), (0, 2, 1), (1, 2, 1)], [0, 1, 0], 0), (4, [(0, 1, 1), (0, 2, 1), (0, 3, 1), (1, 2, 1), (1, 3, 1), (2, 3, 1)], [1, 1, 0, 0], 0), (4, [(0, 1, 1), (0, 2, 1), (0, 3, 1), (1, 2, 1), (1, 3, 1), (2, 3, 1)], [1, 1, 1, 0], 1), (4, [(0, 1, 1), (0, 2, 1), (0, 3, 1), (1, 2, 1), (1, 3, 1), (2, 3, 1)], [1, 1, 1, 1], 2), (1, [], [3], 3)] : List (Int × (List E3) × (List Int) × Int)) v.toNat).2.1))) hp3 (i := 3) rfl; replace hS := hq_0; clear hq_0; have hq_1 := hS.addro 4 rfl _ hp3; replace hS := hq_1; clear hq_1; refine zq (yas (vs := [(ii ((gx ([(3, [(0, 1, 1), (0, 2, 1), (1, 2, 1)], [1, 1, 0], 1), (3, [(0, 1, 1), (0, 2, 1), (1, 2, 1)], [0, 1, 0], 0), (4, [(0, 1, 1), (0, 2, 1), (0, 3, 1), (1, 2, 1), (1, 3, 1), (2, 3, 1)], [1, 1, 0, 0], 0), (4, [(0, 1, 1), (0, 2, 1), (0, 3, 1), (1, 2, 1), (1, 3, 1), (2, 3, 1)], [1, 1, 1, 0], 1), (4, [(0, 1, 1), (0, 2, 1), (0, 3, 1), (1, 2, 1), (1, 3, 1), (2, 3, 1)], [1, 1, 1, 1], 2), (1, [], [3], 3)] : List (Int × (List E3) × (List Int) × Int)) v.toNat).1)), (.slice A l c), (.slice A2 l2 c2), (ii ((gx ([(3, [(0, 1, 1), (0, 2, 1), (1, 2, 1)], [1, 1, 0], 1), (3, [(0, 1, 1), (0, 2, 1), (1, 2, 1)], [0, 1, 0], 0), (4, [(0, 1, 1), (0, 2, 1), (0, 3, 1), (1, 2, 1), (1, 3, 1), (2, 3, 1)], [1, 1, 0, 0], 0), (4, [(0, 1, 1), (0, 2, 1), (0, 3, 1), (1, 2, 1), (1, 3, 1), (2, 3, 1)], [1, 1, 1, 0], 1), (4, [(0, 1, 1), (0, 2, 1), (0, 3, 1), (1, 2, 1), (1, 3, 1), (2, 3, 1)], [1, 1, 1, 1], 2), (1, [], [3], 3)] : List (Int × (List E3) × (List Int) × Int)) v.toNat).2.2.2))]) rfl underlying84 rfl ydP hc_) (zn (ya7 ydP ?_)); intro g12 w16 hN; replace hS : Sep w no O w16 (stl _ 5 (Res.box 84 g12 [(ii 0), (.slice none 0 0), (.slice none 0 0), (ii 0)])) := hS.new 5 rfl hN; clear hN; refine zb (zo (ybr (b := g12) (o := 0) (cells := #[(ii ((gx ([(3, [(0, 1, 1), (0, 2, 1), (1, 2, 1)], [1, 1, 0], 1), (3, [(0, 1, 1), (0, 2, 1), (1, 2, 1)], [0, 1, 0], 0), (4, [(0, 1, 1), (0, 2, 1), (0, 3, 1), (1, 2, 1), (1, 3, 1), (2, 3, 1)], [1, 1, 0, 0], 0), (4, [(0, 1, 1), (0, 2, 1), (0, 3, 1), (1, 2, 1), (1, 3, 1), (2, 3, 1)], [1, 1, 1, 0], 1), (4, [(0, 1, 1), (0, 2, 1), (0, 3, 1), (1, 2, 1), (1, 3, 1), (2, 3, 1)], [1, 1, 1, 1], 2), (1, [], [3], 3)] : List (Int × (List E3) × (List Int) × Int)) v.toNat).1)), (.slice A l c), (.slice A2 l2 c2), (ii ((gx ([(3, [(0, 1, 1), (0, 2, 1), (1, 2, 1)], [1, 1, 0], 1), (3, [(0, 1, 1), (0, 2, 1), (1, 2, 1)], [0, 1, 0], 0), (4, [(0, 1, 1), (0, 2, 1), (0, 3, 1), (1, 2, 1), (1, 3, 1), (2, 3, 1)], [1, 1, 0, 0], 0), (4, [(0, 1, 1), (0, 2, 1), (0, 3, 1), (1, 2, 1), (1, 3, 1), (2, 3, 1)], [1, 1, 1, 0], 1), (4, [(0, 1, 1), (0, 2, 1), (0, 3, 1), (1, 2, 1), (1, 3, 1), (2, 3, 1)], [1, 1, 1, 1], 2), (1, [], [3], 3)] : List (Int × (List E3) × (List Int) × Int)) v.toNat).2.2.2))]) rfl rfl ydP rfl rfl (yaY (hS.bx 5 rfl) (Nat.le_of_ble_eq_true rfl)) ?_)); intro w17 e1; replace hS := hS.bstn 5 rfl 0 [(ii ((gx ([(3, [(0, 1, 1), (0, 2, 1), (1, 2, 1)], [1, 1, 0], 1), (3, [(0, 1, 1), (0, 2, 1), (1, 2, 1)], [0, 1, 0], 0), (4, [(0, 1, 1), (0, 2, 1), (0, 3, 1), (1, 2, 1), (1, 3, 1), (2, 3, 1)], [1, 1, 0, 0], 0), (4, [(0, 1, 1), (0, 2, 1), (0, 3, 1), (1, 2, 1), (1, 3, 1), (2, 3, 1)], [1, 1, 1, 0], 1), (4, [(0, 1, 1), (0, 2, 1), (0, 3, 1), (1, 2, 1), (1, 3, 1), (2, 3, 1)], [1, 1, 1, 1], 2), (1, [], [3], 3)] : List (Int × (List E3) × (List Int) × Int)) v.toNat).1)), (.slice A l c), (.slice A2 l2 c2), (ii ((gx ([(3, [(0, 1, 1), (0, 2, 1), (1, 2, 1)], [1, 1, 0], 1), (3, [(0, 1, 1), (0, 2, 1), (1, 2, 1)], [0, 1, 0], 0), (4, [(0, 1, 1), (0, 2, 1), (0, 3, 1), (1, 2, 1), (1, 3, 1), (2, 3, 1)], [1, 1, 0, 0], 0), (4, [(0, 1, 1), (0, 2, 1), (0, 3, 1), (1, 2, 1), (1, 3, 1), (2, 3, 1)], [1, 1, 1, 0], 1), (4, [(0, 1, 1), (0, 2, 1), (0, 3, 1), (1, 2, 1), (1, 3, 1), (2, 3, 1)], [1, 1, 1, 1], 2), (1, [], [3], 3)] : List (Int × (List E3) × (List Int) × Int)) v.toNat).2.2.2))] e1; clear e1; refine zb (yaa (zs (zq (yaj rfl underlying84 rfl yaq) (zq (yas (vs := [(ii ((gx ([(3, [(0, 1, 1), (0, 2, 1), (1, 2, 1)], [1, 1, 0], 1), (3, [(0, 1, 1), (0, 2, 1), (1, 2, 1)], [0, 1, 0], 0), (4, [(0, 1, 1), (0, 2, 1), (0, 3, 1), (1, 2, 1), (1, 3, 1), (2, 3, 1)], [1, 1, 0, 0], 0), (4, [(0, 1, 1), (0, 2, 1), (0, 3, 1), (1, 2, 1), (1, 3, 1), (2, 3, 1)], [1, 1, 1, 0], 1), (4, [(0, 1, 1), (0, 2, 1), (0, 3, 1), (1, 2, 1), (1, 3, 1), (2, 3, 1)], [1, 1, 1, 1], 2), (1, [], [3], 3)] : List (Int × (List E3) × (List Int) × Int)) v.toNat).1)), (.slice A l c)]) rfl underlying24 rfl yaq ⟨Row.cell (hS.bx 5 rfl) (i := 0) rfl, Row.cell (hS.bx 5 rfl) (i := 1) rfl, trivial⟩) (zq (yaj rfl underlying84 rfl ybb) (zq (zl underlying26 (Row.cell (hS.bx 5 rfl) (i := 2) rfl)) (zn (yan rfl (am2 rfl rfl) yiE ((yf0 h (yaK _) (hS.rdr 3 rfl) (hS.rdr 4 rfl)).mono ?_))))))))); rintro _ w18 ⟨r, r2, rfl, hC, h⟩; replace hS := hS.pur hC.pure; clear hC; refine ⟨_, rfl, ?_⟩; refine zb (zq (zm (.tuple #[(ii r), (ii r2)])) (zq (zx (ii r)) (zq (zx (ii r2)) (zq (za (ii r)) (zq (za (ii r2)) (yaa (zs (zq (zm (ii r2)) (zq zN (zq (zm (.bool (!(decide (r2 = 0))))) ?_)))))))))); by_cases hp4 : r2 = 0
    · replace h := h.1 hp4; refine rl_q (yad rfl (yaf rfl (congrArg Value.bool (congrArg Bool.not (decide_eq_true hp4))))) rfl rfl (zm (ii r)) (rl_q (yad rfl (yaf rfl (congrArg Value.bool (congrArg Bool.not (decide_eq_true hp4))))) rfl rfl (yaj rfl underlying84 rfl yah) (rl_q (yad rfl (yaf rfl (congrArg Value.bool (congrArg Bool.not (decide_eq_true hp4))))) rfl rfl (zl underlying3 (Row.cell (hS.bx 5 rfl) (i := 3) rfl)) (rl_q (yad rfl (yaf rfl (congrArg Value.bool (congrArg Bool.not (decide_eq_true hp4))))) rfl rfl zN (zq (yay (v := (.bool (!(decide (r = ((gx ([(3, [(0, 1, 1), (0, 2, 1), (1, 2, 1)], [1, 1, 0], 1), (3, [(0, 1, 1), (0, 2, 1), (1, 2, 1)], [0, 1, 0], 0), (4, [(0, 1, 1), (0, 2, 1), (0, 3, 1), (1, 2, 1), (1, 3, 1), (2, 3, 1)], [1, 1, 0, 0], 0), (4, [(0, 1, 1), (0, 2, 1), (0, 3, 1), (1, 2, 1), (1, 3, 1), (2, 3, 1)], [1, 1, 1, 0], 1), (4, [(0, 1, 1), (0, 2, 1), (0, 3, 1), (1, 2, 1), (1, 3, 1), (2, 3, 1)], [1, 1, 1, 1], 2), (1, [], [3], 3)] : List (Int × (List E3) × (List Int) × Int)) v.toNat).2.2.2)))))) (congrArg Value.bool (congrArg Bool.not (decide_eq_true hp4))) rfl) (yaa ?_))))); by_cases hp5 : r = ((gx ([(3, [(0, 1, 1), (0, 2, 1), (1, 2, 1)], [1, 1, 0], 1), (3, [(0, 1, 1), (0, 2, 1), (1, 2, 1)], [0, 1, 0], 0), (4, [(0, 1, 1), (0, 2, 1), (0, 3, 1), (1, 2, 1), (1, 3, 1), (2, 3, 1)], [1, 1, 0, 0], 0), (4, [(0, 1, 1), (0, 2, 1), (0, 3, 1), (1, 2, 1), (1, 3, 1), (2, 3, 1)], [1, 1, 1, 0], 1), (4, [(0, 1, 1), (0, 2, 1), (0, 3, 1), (1, 2, 1), (1, 3, 1), (2, 3, 1)], [1, 1, 1, 1], 2), (1, [], [3], 3)] : List (Int × (List E3) × (List Int) × Int)) v.toNat).2.2.2)
      · replace h := h.1 hp5; refine ze hp5 (yai (yal (zr ?_))); obtain ⟨hi, h⟩ := h; refine zq (yaG hE44 rfl hi) (zq (zm (ii (v + 1))) (yaa ?_)); obtain ⟨mq, hlt, h⟩ := h; exact again mq _ _ _ ⟨_, h, rfl, hE1, hE42, hE43, rfl, (hS.sel [0, 1, 2] (by decide))⟩ hlt
      · replace h := h.2 hp5; exact zf hp5 (zs (zq (za (.bool (false))) (yaa (yak rfl rfl ⟨_, rfl, (hS.sel [] (by decide)), h⟩))))
    · replace h := h.2 hp4; exact rl_p (yab rfl (yaf rfl (congrArg Value.bool (congrArg Bool.not (decide_eq_false hp4)))) rfl) rfl (rl_p (yab rfl (yaf rfl (congrArg Value.bool (congrArg Bool.not (decide_eq_false hp4)))) rfl) rfl (rl_p (yab rfl (yaf rfl (congrArg Value.bool (congrArg Bool.not (decide_eq_false hp4)))) rfl) rfl (rl_p (yab rfl (yaf rfl (congrArg Value.bool (congrArg Bool.not (decide_eq_false hp4)))) rfl) rfl (zq (yaw (v := (.bool (true))) (congrArg Value.bool (congrArg Bool.not (decide_eq_false hp4))) rfl) (yaa (yau rfl (zs (zq (za (.bool (false))) (yaa (yak rfl rfl ⟨_, rfl, (hS.sel [] (by decide)), h⟩))))))))))
  · replace h := h.2 hp; refine zd hp (yaA rfl (zs (zq (yas (vs := [(ii 3), (.slice (some ⟨g, 0, none⟩) 3 3)]) hE1 underlying24 rfl yaq ⟨Row.cell (hS.bx 0 rfl) (i := 0) rfl, Row.cell (hS.bx 0 rfl) (i := 1) rfl, trivial⟩) (zn (ya8 (l := [(0, (ii 1)), (1, (ii 1)), (2, (ii 0))]) (cells := [(ii 1), (ii 1), (ii 0)]) (bp3 rfl rfl rfl) underlying26 yah rfl rfl ?_))))); intro g13 w19 hN; replace hS := hS.litf (n := 3) 3 rfl (fI .i64) hN ([1, 1, 0] : List Int) rfl (by decide) rfl; clear hN; refine zb ?_; replace hS := hS.frz 3 rfl; refine zn (yan rfl (am2 rfl rfl) yiD ((yeJ h hS.blt (hS.ro 1 rfl) (hS.ro 3 rfl)).mono ?_)); rintro _ w20 ⟨r3, r4, Ar, lr, cr, rfl, hC, h⟩; replace hS := hS.call1 hC 4 0 rfl; clear hC; refine ⟨_, rfl, ?_⟩; refine zb (zq (zm (.tuple #[(.slice Ar lr cr), (ii r4)])) (zq (zx (.slice Ar lr cr)) (zq (zx (ii r4)) (zq (za (.slice Ar lr cr)) (zq (za (ii r4)) (yaa (zs (zq (yas (vs := [(ii 3), (.slice (some ⟨g, 0, none⟩) 3 3)]) hE1 underlying24 rfl yaq ⟨Row.cell (hS.bx 0 rfl) (i := 0) rfl, Row.cell (hS.bx 0 rfl) (i := 1) rfl, trivial⟩) (zn (ya8 (l := [(0, (ii 0)), (1, (ii 1)), (2, (ii 0))]) (cells := [(ii 0), (ii 1), (ii 0)]) (bp3 rfl rfl rfl) underlying26 yah rfl rfl ?_)))))))))); intro g14 w21 hN; replace hS := hS.litf (n := 3) 5 rfl (fI .i64) hN ([0, 1, 0] : List Int) rfl (by decide) rfl; clear hN; refine zb ?_; replace hS := hS.frz 5 rfl; refine zn (yan rfl (am2 rfl rfl) yiD ((yeJ h hS.blt (hS.ro 1 rfl) (hS.ro 5 rfl)).mono ?_)); rintro _ w22 ⟨r5, r6, Ar2, lr2, cr2, rfl, hC, h⟩; replace hS := hS.call1 hC 6 0 rfl; clear hC; refine ⟨_, rfl, ?_⟩; refine zb (zq (zm (.tuple #[(.slice Ar2 lr2 cr2), (ii r6)])) (zq (zx (.slice Ar2 lr2 cr2)) (zq (zx (ii r6)) (zq (za (.slice Ar2 lr2 cr2)) (zq (za (ii r6)) (yaa (zs (zq (zm (ii r4)) (zq zE (zq (zm (.bool (decide (r4 = 0)))) ?_)))))))))); by_cases hp6 : r4 = 0
    · replace h := h.1 hp6; refine rl_q (yad rfl (yaf rfl (congrArg Value.bool (decide_eq_true hp6)))) rfl rfl (zm (ii r6)) (rl_q (yad rfl (yaf rfl (congrArg Value.bool (decide_eq_true hp6)))) rfl rfl zE (zq (yaw (v := (.bool (decide (r6 = 0)))) (congrArg Value.bool (decide_eq_true hp6)) rfl) (zq (zm (.bool (decide (r6 = 0)))) ?_))); by_cases hp7 : r6 = 0
      · replace h := h.1 hp7; refine rl_q (yad rfl (yaf rfl (congrArg Value.bool (decide_eq_true hp7)))) rfl rfl (zm (.slice Ar lr cr)) (rl_n (yad rfl (yaf rfl (congrArg Value.bool (decide_eq_true hp7)))) rfl rfl rfl (ya8 (l := [(0, (ii 0)), (1, (ii 1)), (2, (ii 1))]) (cells := [(ii 0), (ii 1), (ii 1)]) (bp3 rfl rfl rfl) underlying26 yah rfl rfl ?_)); intro g15 w23 hN; replace hS := hS.litf (n := 3) 7 rfl (fI .i64) hN ([0, 1, 1] : List Int) rfl (by decide) rfl; clear hN; refine zb (rl_n (yad rfl (yaf rfl (congrArg Value.bool (decide_eq_true hp7)))) rfl rfl rfl (yan rfl (am2 rfl rfl) enter_18 ((ycz h (yaK _) (hS.rdr 4 rfl) (hS.rdo 7 rfl)).mono ?_))); rintro _ w24 ⟨r7, rfl, hC, h⟩; replace hS := hS.pur hC.pure; clear hC; refine ⟨_, rfl, ?_⟩; refine zb (zq (yaw (v := (.bool (r7))) (congrArg Value.bool (decide_eq_true hp7)) rfl) (zq (zm (.bool (r7))) ?_)); by_cases hp8 : r7 = true
        · replace h := h.1 hp8; refine rl_q (yad rfl (yaf rfl (congrArg Value.bool hp8))) rfl rfl (zm (.slice Ar2 lr2 cr2)) (rl_n (yad rfl (yaf rfl (congrArg Value.bool hp8))) rfl rfl rfl (ya8 (l := [(0, (ii 0)), (1, (ii 0)), (2, (ii 1))]) (cells := [(ii 0), (ii 0), (ii 1)]) (bp3 rfl rfl rfl) underlying26 yah rfl rfl ?_)); intro g16 w25 hN; replace hS := hS.litf (n := 3) 8 rfl (fI .i64) hN ([0, 0, 1] : List Int) rfl (by decide) rfl; clear hN; refine zb (rl_n (yad rfl (yaf rfl (congrArg Value.bool hp8))) rfl rfl rfl (yan rfl (am2 rfl rfl) enter_18 ((ycz h (yaK _) (hS.rdr 6 rfl) (hS.rdo 8 rfl)).mono ?_))); rintro _ w26 ⟨r8, rfl, hC, h⟩; replace hS := hS.pur hC.pure; clear hC; refine ⟨_, rfl, ?_⟩; exact zb (zq (yaw (v := (.bool (r8))) (congrArg Value.bool hp8) rfl) (zq (za (.bool (r8))) (yaa (yak rfl rfl ⟨_, rfl, (hS.sel [] (by decide)), h⟩))))
        · replace h := h.2 hp8; exact rl_p (yab rfl (yaf rfl (congrArg Value.bool (Bool.eq_false_iff.2 hp8))) rfl) rfl (rl_p (yab rfl (yaf rfl (congrArg Value.bool (Bool.eq_false_iff.2 hp8))) rfl) rfl (rl_p (yab rfl (yaf rfl (congrArg Value.bool (Bool.eq_false_iff.2 hp8))) rfl) rfl (zq (yay (v := (.bool (false))) (congrArg Value.bool (Bool.eq_false_iff.2 hp8)) rfl) (zq (za (.bool (false))) (yaa (yak rfl rfl ⟨_, rfl, (hS.sel [] (by decide)), h⟩))))))
      · replace h := h.2 hp7; exact rl_p (yab rfl (yaf rfl (congrArg Value.bool (decide_eq_false hp7))) rfl) rfl (rl_p (yab rfl (yaf rfl (congrArg Value.bool (decide_eq_false hp7))) rfl) rfl (rl_p (yab rfl (yaf rfl (congrArg Value.bool (decide_eq_false hp7))) rfl) rfl (zq (yay (v := (.bool (false))) (congrArg Value.bool (decide_eq_false hp7)) rfl) (zq (zm (.bool (false))) (rl_p (yab rfl (yaf rfl rfl) rfl) rfl (rl_p (yab rfl (yaf rfl rfl) rfl) rfl (rl_p (yab rfl (yaf rfl rfl) rfl) rfl (zq (yay (v := (.bool (false))) rfl rfl) (zq (za (.bool (false))) (yaa (yak rfl rfl ⟨_, rfl, (hS.sel [] (by decide)), h⟩)))))))))))
    · replace h := h.2 hp6; exact rl_p (yab rfl (yaf rfl (congrArg Value.bool (decide_eq_false hp6))) rfl) rfl (rl_p (yab rfl (yaf rfl (congrArg Value.bool (decide_eq_false hp6))) rfl) rfl (zq (yay (v := (.bool (false))) (congrArg Value.bool (decide_eq_false hp6)) rfl) (zq (zm (.bool (false))) (rl_p (yab rfl (yaf rfl rfl) rfl) rfl (rl_p (yab rfl (yaf rfl rfl) rfl) rfl (rl_p (yab rfl (yaf rfl rfl) rfl) rfl (zq (yay (v := (.bool (false))) rfl rfl) (zq (zm (.bool (false))) (rl_p (yab rfl (yaf rfl rfl) rfl) rfl (rl_p (yab rfl (yaf rfl rfl) rfl) rfl (rl_p (yab rfl (yaf rfl rfl) rfl) rfl (zq (yay (v := (.bool (false))) rfl rfl) (zq (za (.bool (false))) (yaa (yak rfl rfl ⟨_, rfl, (hS.sel [] (by decide)), h⟩)))))))))))))))
def yh8 (d : List Int) (cap : Int) (cap2 : List E3) (cap3 : Int) (R : Bool → Prop) : Prop :=
ycB d cap (fun r =>
((r = 0 →
yil cap cap2 d cap3 (fun r2 =>
R (!(r2)))) ∧
(¬ (r = 0) →
R true)))
theorem yiG {O : Nat → Prop} {w : World} {d cap cap2 cap3 Ad ld cd gc Acap lcap ccap gc2} {R : Bool → Prop} (h : yh8 d cap cap2 cap3 R) (hO : ∀ k, O k → k < w.heap.size) (hA0 : (FP.sl cI Ad ld cd d).P O w) (hA1 : (FP.bx 24 gc [(Value.int .i64 cap), (Value.slice Acap lcap ccap)]).P O w) (hA2 : (FP.sl c3 Acap lcap ccap cap2).P O w) (hA3 : (FP.bx 3 gc2 [(Value.int .i64 cap3)]).P O w) :
    Calls Try.prog 53 #[(.slice Ad ld cd), (.pointer (some (⟨gc, 0, none⟩ : Addr))), (.pointer (some (⟨gc2, 0, none⟩ : Addr)))] w fun e w' => ∃ r3, e = .returned (.bool (r3)) ∧ Sep w no O w' (rl []) ∧ R r3 := by
  unfold yh8 at h; have hS : Sep w no O w (rl [Res.ro (FP.sl cI Ad ld cd d), Res.ro (FP.bx 24 gc [(ii cap), (.slice Acap lcap ccap)]), Res.ro (FP.sl c3 Acap lcap ccap cap2), Res.ro (FP.bx 3 gc2 [(ii cap3)])]) := Sep.startl hO [(FP.sl cI Ad ld cd d), (FP.bx 24 gc [(ii cap), (.slice Acap lcap ccap)]), (FP.sl c3 Acap lcap ccap cap2), (FP.bx 3 gc2 [(ii cap3)])] ⟨hA0, hA1, hA2, hA3, trivial⟩; refine yap (l := [(.slice Ad ld cd), (.pointer (some (⟨gc, 0, none⟩ : Addr))), (.pointer (some (⟨gc2, 0, none⟩ : Addr)))]) func53 rfl ntmps53 (Nat.le_of_ble_eq_true rfl) (zs (zq (za (.bool (false))) (yaa (zs (zq (zm (.slice Ad ld cd)) (zq (yaj rfl underlying24 rfl yah) (zq (zl underlying3 (Row.cell (hS.bxr 1 rfl) (i := 0) rfl)) (zn (yan rfl (am2 rfl rfl) yji ((yfL h (yaK _) (hS.rdr 0 rfl)).mono ?_)))))))))); rintro _ w2 ⟨r, rfl, hC, h⟩; replace hS := hS.pur hC.pure; clear hC; refine ⟨_, rfl, ?_⟩; refine zb (zq zN (zq (zm (.bool (!(decide (r = 0))))) ?_)); by_cases hp : r = 0
  · replace h := h.1 hp; refine rl_q (yad rfl (yaf rfl (congrArg Value.bool (congrArg Bool.not (decide_eq_true hp))))) rfl rfl (yas (vs := [(ii cap), (.slice Acap lcap ccap)]) rfl underlying24 rfl yaq ⟨Row.cell (hS.bxr 1 rfl) (i := 0) rfl, Row.cell (hS.bxr 1 rfl) (i := 1) rfl, trivial⟩) (rl_q (yad rfl (yaf rfl (congrArg Value.bool (congrArg Bool.not (decide_eq_true hp))))) rfl rfl (zm (.slice Ad ld cd)) (rl_q (yad rfl (yaf rfl (congrArg Value.bool (congrArg Bool.not (decide_eq_true hp))))) rfl rfl (zl underlying3 (Row.cell (hS.bxr 3 rfl) (i := 0) rfl)) (rl_n (yad rfl (yaf rfl (congrArg Value.bool (congrArg Bool.not (decide_eq_true hp))))) rfl rfl rfl (yan rfl (am3 rfl rfl rfl) enter_10 ((pok_r38_Few h (yaK _) (hS.rdr 2 rfl) (hS.rdr 0 rfl)).mono ?_))))); rintro _ w3 ⟨r2, rfl, hC, h⟩; replace hS := hS.pur hC.pure; clear hC; refine ⟨_, rfl, ?_⟩; exact zb (rl_q (yad rfl (yaf rfl (congrArg Value.bool (congrArg Bool.not (decide_eq_true hp))))) rfl rfl (ycV rfl) (zq (yay (v := (.bool (!(r2)))) (congrArg Value.bool (congrArg Bool.not (decide_eq_true hp))) rfl) (zq (za (.bool (!(r2)))) (yaa (yak rfl rfl ⟨_, rfl, (hS.sel [] (by decide)), h⟩)))))
  · replace h := h.2 hp; exact rl_p (yab rfl (yaf rfl (congrArg Value.bool (congrArg Bool.not (decide_eq_false hp)))) rfl) rfl (rl_p (yab rfl (yaf rfl (congrArg Value.bool (congrArg Bool.not (decide_eq_false hp)))) rfl) rfl (rl_p (yab rfl (yaf rfl (congrArg Value.bool (congrArg Bool.not (decide_eq_false hp)))) rfl) rfl (rl_p (yab rfl (yaf rfl (congrArg Value.bool (congrArg Bool.not (decide_eq_false hp)))) rfl) rfl (rl_p (yab rfl (yaf rfl (congrArg Value.bool (congrArg Bool.not (decide_eq_false hp)))) rfl) rfl (zq (yaw (v := (.bool (true))) (congrArg Value.bool (congrArg Bool.not (decide_eq_false hp))) rfl) (zq (za (.bool (true))) (yaa (yak rfl rfl ⟨_, rfl, (hS.sel [] (by decide)), h⟩))))))))
def yh4 (g : Int) (g2 : List E3) (most : Int) (l : List (List Int)) (R : Bool → Prop) : Prop :=
ycP g g2 (fun r =>
((r = 0 →
yes l (fun x R => yh8 x g g2 most R) (fun r2 =>
R (!(r2)))) ∧
(¬ (r = 0) →
R false)))
theorem yiw {O : Nat → Prop} {w : World} {g g2 most l Ag lg cg Al ll cl} {R : Bool → Prop} (h : yh4 g g2 most l R) (hO : ∀ k, O k → k < w.heap.size) (hA0 : (FP.sl c3 Ag lg cg g2).P O w) (hA1 : (FP.sl (cL cI) Al ll cl l).P O w) :
    Calls Try.prog 19 #[(.agg #[(ii g), (.slice Ag lg cg)]), (ii most), (.slice Al ll cl)] w fun e w' => ∃ r3, e = .returned (.bool (r3)) ∧ Sep w no O w' (rl []) ∧ R r3 := by
  unfold yh4 at h; have hS : Sep w no O w (rl [Res.ro (FP.sl c3 Ag lg cg g2), Res.ro (FP.sl (cL cI) Al ll cl l)]) := Sep.startl hO [(FP.sl c3 Ag lg cg g2), (FP.sl (cL cI) Al ll cl l)] ⟨hA0, hA1, trivial⟩; refine yap (l := [(.agg #[(ii g), (.slice Ag lg cg)]), (ii most), (.slice Al ll cl)]) func19 rfl ntmps19 (Nat.le_of_ble_eq_true rfl) (zs (zn (ybq (v := (.agg #[(ii g), (.slice Ag lg cg)])) rfl ?_))); intro g3 w2 hN; replace hS : Sep w no O w2 (stl _ 2 (Res.box 24 g3 [(ii g), (.slice Ag lg cg)])) := hS.new 2 rfl hN; clear hN; refine zb (zn (ybq (v := (ii most)) rfl ?_)); intro g4 w3 hN; replace hS : Sep w no O w3 (stl _ 3 (Res.box 3 g4 [(ii most)])) := hS.new 3 rfl hN; clear hN; refine zb (zq (za (.bool (false))) (yaa (zs (zq (yas (vs := [(ii g), (.slice Ag lg cg)]) rfl underlying24 rfl yaq ⟨Row.cell (hS.bx 2 rfl) (i := 0) rfl, Row.cell (hS.bx 2 rfl) (i := 1) rfl, trivial⟩) (zn (yan rfl (am1 rfl) enter_51 ((yir h (yaK _) (hS.rdr 0 rfl)).mono ?_))))))); rintro _ w4 ⟨r, rfl, hC, h⟩; replace hS := hS.pur hC.pure; clear hC; refine ⟨_, rfl, ?_⟩; refine zb (zq zE (zq (zm (.bool (decide (r = 0)))) ?_)); by_cases hp : r = 0
  · replace h := h.1 hp; refine rl_q (yad rfl (yaf rfl (congrArg Value.bool (decide_eq_true hp)))) rfl rfl (zm (.slice Al ll cl)) (rl_q (yad rfl (yaf rfl (congrArg Value.bool (decide_eq_true hp)))) rfl rfl (yiL (am0) (am2 rfl rfl)) ?_); replace hS := hS.frzb 2 rfl; replace hS := hS.frzb 3 rfl; refine rl_n (yad rfl (yaf rfl (congrArg Value.bool (decide_eq_true hp)))) rfl rfl rfl (yan rfl (am2 rfl rfl) enter_52 ((yh6 h (yaK _) (hS.rdr 1 rfl) (fun w' hk => ⟨53, #[(.pointer (some (⟨g3, 0, none⟩ : Addr))), (.pointer (some (⟨g4, 0, none⟩ : Addr)))], rfl, enter_53, fun x Ax lx cx R hF hz0 => ydD (by simp) (yiG hF (yaK _) hz0 (FP.sub _ (FP.keep _ (FP.sub _ (hS.ro 2 rfl) (fun _ _ h => h.elim) : FP.P _ no _) hk) fun _ _ h => h.elim) (FP.sub _ (FP.keep _ (FP.sub _ (hS.ro 0 rfl) (fun _ _ h => h.elim) : FP.P _ no _) hk) fun _ _ h => h.elim) (FP.sub _ (FP.keep _ (FP.sub _ (hS.ro 3 rfl) (fun _ _ h => h.elim) : FP.P _ no _) hk) fun _ _ h => h.elim))⟩)).mono ?_)); rintro _ w5 ⟨r2, rfl, hC, h⟩; replace hS := hS.pur hC.pure; clear hC; refine ⟨_, rfl, ?_⟩; exact zb (rl_q (yad rfl (yaf rfl (congrArg Value.bool (decide_eq_true hp)))) rfl rfl (ycV rfl) (zq (yaw (v := (.bool (!(r2)))) (congrArg Value.bool (decide_eq_true hp)) rfl) (zq (za (.bool (!(r2)))) (yaa (yak rfl rfl ⟨_, rfl, (hS.sel [] (by decide)), h⟩)))))
  · replace h := h.2 hp; exact rl_p (yab rfl (yaf rfl (congrArg Value.bool (decide_eq_false hp))) rfl) rfl (rl_p (yab rfl (yaf rfl (congrArg Value.bool (decide_eq_false hp))) rfl) rfl (rl_p (yab rfl (yaf rfl (congrArg Value.bool (decide_eq_false hp))) rfl) rfl (rl_p (yab rfl (yaf rfl (congrArg Value.bool (decide_eq_false hp))) rfl) rfl (zq (yay (v := (.bool (false))) (congrArg Value.bool (decide_eq_false hp)) rfl) (zq (za (.bool (false))) (yaa (yak rfl rfl ⟨_, rfl, (hS.sel [] (by decide)), h⟩)))))))
def yh0 (n : Int) (R : Bool → Prop) : Prop :=
((n < (-3) →
R true) ∧
(¬ (n < (-3)) →
R (decide (3 < n))))
theorem yiu {O : Nat → Prop} {w : World} {n} {R : Bool → Prop} (h : yh0 n R) (hO : ∀ k, O k → k < w.heap.size) :
    Calls Try.prog 27 #[(ii n)] w fun e w' => ∃ r, e = .returned (.bool (r)) ∧ Sep w no O w' (rl []) ∧ R r := by
  unfold yh0 at h; have hS : Sep w no O w (rl []) := Sep.start w hO; refine yap (l := [(ii n)]) func27 rfl ntmps27 (Nat.le_of_ble_eq_true rfl) (zs (zq (za (.bool (false))) (yaa (zs (zq (zm (ii n)) (zq zL (zq (zm (.bool (decide (n < (-3))))) ?_))))))); by_cases hp : n < (-3)
  · replace h := h.1 hp; exact rl_p (yab rfl (yaf rfl (congrArg Value.bool (decide_eq_true hp))) rfl) rfl (rl_p (yab rfl (yaf rfl (congrArg Value.bool (decide_eq_true hp))) rfl) rfl (zq (yaw (v := (.bool (true))) (congrArg Value.bool (decide_eq_true hp)) rfl) (zq (za (.bool (true))) (yaa (yak rfl rfl ⟨_, rfl, (hS.sel [] (by decide)), h⟩)))))
  · replace h := h.2 hp; exact rl_q (yad rfl (yaf rfl (congrArg Value.bool (decide_eq_false hp)))) rfl rfl (zm (ii n)) (rl_q (yad rfl (yaf rfl (congrArg Value.bool (decide_eq_false hp)))) rfl rfl zG (zq (yay (v := (.bool (decide (3 < n)))) (congrArg Value.bool (decide_eq_false hp)) rfl) (zq (za (.bool (decide (3 < n)))) (yaa (yak rfl rfl ⟨_, rfl, (hS.sel [] (by decide)), h⟩)))))
def yh3 (d : Int) (d2 : List E3) (i : List Int) (a : List Int) (R : Bool → Prop) : Prop :=
(∃ J2 : Prop, (J2 → yh1 d d2 i a (fun r r2 =>
(∃ J3 : Prop, (J3 → ya4 d d2 i (fun r3 r4 =>
ya4 d d2 r (fun r5 r6 =>
ybw d d2 i (fun r7 r8 =>
ybw d d2 r (fun r9 r10 =>
(In64 (r4 + r6) ∧
(In64 ((r4 + r6) + r8) ∧
(In64 (((r4 + r6) + r8) + r10) ∧
(((((r4 + r6) + r8) + r10) = 0 →
((r3 = r5 →
yaT r7 r9 (fun r11 =>
((r11 = true →
ybI (fun r12 =>
R r12)) ∧
(¬ (r11 = true) →
R false)))) ∧
(¬ (r3 = r5) →
R false))) ∧
(¬ ((((r4 + r6) + r8) + r10) = 0) →
R false)))))))))) ∧
∃ J4 : Prop, (J4 → ((r2 = 0 →
ybI (fun r13 =>
R r13)) ∧
(¬ (r2 = 0) →
R false))) ∧
((r2 = 0 →
yh4 d d2 5 ([r]) (fun r14 =>
((r14 = true →
J3) ∧
(¬ (r14 = true) →
J4)))) ∧
(¬ (r2 = 0) →
J4))))) ∧
yh4 d d2 5 ([i]) (fun r15 =>
((r15 = true →
((((a.length : Nat) : Int) = d →
yhS a (fun x R => yh0 x R) (fun r16 =>
((r16 = true →
ybI (fun r17 =>
R r17)) ∧
(¬ (r16 = true) →
J2)))) ∧
(¬ (((a.length : Nat) : Int) = d) →
ybI (fun r18 =>
R r18)))) ∧
(¬ (r15 = true) →
ybI (fun r19 =>
R r19)))))
theorem pok_l38_RankMoves {O : Nat → Prop} {w : World} {d d2 i a Ad ld cd Ai li ci Aa la ca} {R : Bool → Prop} (h : yh3 d d2 i a R) (hO : ∀ k, O k → k < w.heap.size) (hA0 : (FP.sl c3 Ad ld cd d2).P O w) (hA1 : (FP.sl cI Ai li ci i).P O w) (hA2 : (FP.sl cI Aa la ca a).P O w) :
    Calls Try.prog 6 #[(.agg #[(ii d), (.slice Ad ld cd)]), (.slice Ai li ci), (.slice Aa la ca)] w fun e w' => ∃ r20, e = .returned (.bool (r20)) ∧ Sep w no O w' (rl []) ∧ R r20 := by
  unfold yh3 at h; have hS : Sep w no O w (rl [Res.ro (FP.sl c3 Ad ld cd d2), Res.ro (FP.sl cI Ai li ci i), Res.ro (FP.sl cI Aa la ca a)]) := Sep.startl hO [(FP.sl c3 Ad ld cd d2), (FP.sl cI Ai li ci i), (FP.sl cI Aa la ca a)] ⟨hA0, hA1, hA2, trivial⟩; refine yap (l := [(.agg #[(ii d), (.slice Ad ld cd)]), (.slice Ai li ci), (.slice Aa la ca)]) func6 rfl ntmps6 (Nat.le_of_ble_eq_true rfl) (zs (zn (ybq (v := (.agg #[(ii d), (.slice Ad ld cd)])) rfl ?_))); intro g w2 hN; replace hS : Sep w no O w2 (stl _ 3 (Res.box 24 g [(ii d), (.slice Ad ld cd)])) := hS.new 3 rfl hN; clear hN; refine zb (zq (za (.bool (false))) (yaa (yae (yae ?_)))); obtain ⟨J2, hJ, h⟩ := h; refine ydX (fun E ds w' => J2 ∧ ds = [] ∧ E 1 = (Value.slice Ai li ci) ∧ E 2 = (Value.slice Aa la ca) ∧ E 3 = (Value.pointer (some (⟨g, 0, none⟩ : Addr))) ∧ Sep w no O w' (rl [Res.ro (FP.sl cI Ai li ci i), Res.ro (FP.sl cI Aa la ca a), Res.box 24 g [(ii d), (.slice Ad ld cd)], Res.ro (FP.sl c3 Ad ld cd d2)])) ?_ ?_
  · clear h hS; rintro E ds w3 ⟨h, rfl, hE1, hE2, hE3, hS⟩; replace h := hJ h; refine zs (zq (yas (vs := [(ii d), (.slice Ad ld cd)]) hE3 underlying24 rfl yaq ⟨Row.cell (hS.bx 2 rfl) (i := 0) rfl, Row.cell (hS.bx 2 rfl) (i := 1) rfl, trivial⟩) (zq (yac hE1) (zq (yac hE2) (zn (yan rfl (am3 rfl rfl rfl) enter_28 ((yiA h hS.blt (hS.ro 3 rfl) (hS.ro 0 rfl) (hS.ro 1 rfl)).mono ?_)))))); rintro _ w4 ⟨r, r2, Ar, lr, cr, rfl, hC, h⟩; replace hS := hS.call1 hC 4 0 rfl; clear hC; refine ⟨_, rfl, ?_⟩; refine zb (zq (zm (.tuple #[(.slice Ar lr cr), (ii r2)])) (zq (zx (.slice Ar lr cr)) (zq (zx (ii r2)) (zq (za (.slice Ar lr cr)) (zq (za (ii r2)) (yaa (yae (yae ?_)))))))); obtain ⟨J3, hJ, h⟩ := h; refine ydX (fun E ds w' => J3 ∧ ds = [] ∧ E 1 = (Value.slice Ai li ci) ∧ E 3 = (Value.pointer (some (⟨g, 0, none⟩ : Addr))) ∧ E 7 = (Value.slice Ar lr cr) ∧ Sep w no O w' (rl [Res.ro (FP.sl cI Ai li ci i), Res.box 24 g [(ii d), (.slice Ad ld cd)], Res.ro (FP.sl c3 Ad ld cd d2), Res.ro (FP.sl cI Ar lr cr r)])) ?_ ?_
    · clear h hS; rintro E ds w5 ⟨h, rfl, hE1, hE3, hE7, hS⟩; replace h := hJ h; refine zs (zq (yas (vs := [(ii d), (.slice Ad ld cd)]) hE3 underlying24 rfl yaq ⟨Row.cell (hS.bx 1 rfl) (i := 0) rfl, Row.cell (hS.bx 1 rfl) (i := 1) rfl, trivial⟩) (zq (yac hE1) (zn (yan rfl (am2 rfl rfl) yiE ((yf0 h (yaK _) (hS.rdr 2 rfl) (hS.rdr 0 rfl)).mono ?_))))); rintro _ w6 ⟨r3, r4, rfl, hC, h⟩; replace hS := hS.pur hC.pure; clear hC; refine ⟨_, rfl, ?_⟩; refine zb (zq (zm (.tuple #[(ii r3), (ii r4)])) (zq (zx (ii r3)) (zq (zx (ii r4)) (zq (za (ii r3)) (zq (za (ii r4)) (yaa (zs (zq (yas (vs := [(ii d), (.slice Ad ld cd)]) hE3 underlying24 rfl yaq ⟨Row.cell (hS.bx 1 rfl) (i := 0) rfl, Row.cell (hS.bx 1 rfl) (i := 1) rfl, trivial⟩) (zq (yac hE7) (zn (yan rfl (am2 rfl rfl) yiE ((yf0 h (yaK _) (hS.rdr 2 rfl) (hS.rdr 3 rfl)).mono ?_)))))))))))); rintro _ w7 ⟨r5, r6, rfl, hC, h⟩; replace hS := hS.pur hC.pure; clear hC; refine ⟨_, rfl, ?_⟩; refine zb (zq (zm (.tuple #[(ii r5), (ii r6)])) (zq (zx (ii r5)) (zq (zx (ii r6)) (zq (za (ii r5)) (zq (za (ii r6)) (yaa (zs (zq (yas (vs := [(ii d), (.slice Ad ld cd)]) hE3 underlying24 rfl yaq ⟨Row.cell (hS.bx 1 rfl) (i := 0) rfl, Row.cell (hS.bx 1 rfl) (i := 1) rfl, trivial⟩) (zq (yac hE1) (zn (yan rfl (am2 rfl rfl) yiD ((yeJ h hS.blt (hS.ro 2 rfl) (hS.ro 0 rfl)).mono ?_)))))))))))); rintro _ w8 ⟨r7, r8, Ar2, lr2, cr2, rfl, hC, h⟩; replace hS := hS.call1 hC 4 0 rfl; clear hC; refine ⟨_, rfl, ?_⟩; refine zb (zq (zm (.tuple #[(.slice Ar2 lr2 cr2), (ii r8)])) (zq (zx (.slice Ar2 lr2 cr2)) (zq (zx (ii r8)) (zq (za (.slice Ar2 lr2 cr2)) (zq (za (ii r8)) (yaa (zs (zq (yas (vs := [(ii d), (.slice Ad ld cd)]) hE3 underlying24 rfl yaq ⟨Row.cell (hS.bx 1 rfl) (i := 0) rfl, Row.cell (hS.bx 1 rfl) (i := 1) rfl, trivial⟩) (zq (yac hE7) (zn (yan rfl (am2 rfl rfl) yiD ((yeJ h hS.blt (hS.ro 2 rfl) (hS.ro 3 rfl)).mono ?_)))))))))))); rintro _ w9 ⟨r9, r10, Ar3, lr3, cr3, rfl, hC, h⟩; replace hS := hS.call1 hC 5 0 rfl; clear hC; refine ⟨_, rfl, ?_⟩; refine zb (zq (zm (.tuple #[(.slice Ar3 lr3 cr3), (ii r10)])) (zq (zx (.slice Ar3 lr3 cr3)) (zq (zx (ii r10)) (zq (za (.slice Ar3 lr3 cr3)) (zq (za (ii r10)) (yaa (zs (zq (zm (ii r4)) (zq (zm (ii r6)) ?_))))))))); obtain ⟨hi, h⟩ := h; refine zq (zA hi) (zq (zm (ii r8)) ?_); obtain ⟨hi2, h⟩ := h; refine zq (zA hi2) (zq (zm (ii r10)) ?_); obtain ⟨hi3, h⟩ := h; refine zq (zA hi3) (zq zE (zq (zm (.bool (decide ((((r4 + r6) + r8) + r10) = 0)))) ?_)); by_cases hp : (((r4 + r6) + r8) + r10) = 0
      · replace h := h.1 hp; refine rl_q (yad rfl (yaf rfl (congrArg Value.bool (decide_eq_true hp)))) rfl rfl (zm (ii r3)) (rl_q (yad rfl (yaf rfl (congrArg Value.bool (decide_eq_true hp)))) rfl rfl (zm (ii r5)) (rl_q (yad rfl (yaf rfl (congrArg Value.bool (decide_eq_true hp)))) rfl rfl zE (zq (yaw (v := (.bool (decide (r3 = r5)))) (congrArg Value.bool (decide_eq_true hp)) rfl) (zq (zm (.bool (decide (r3 = r5)))) ?_)))); by_cases hp2 : r3 = r5
        · replace h := h.1 hp2; refine rl_q (yad rfl (yaf rfl (congrArg Value.bool (decide_eq_true hp2)))) rfl rfl (zm (.slice Ar2 lr2 cr2)) (rl_q (yad rfl (yaf rfl (congrArg Value.bool (decide_eq_true hp2)))) rfl rfl (zm (.slice Ar3 lr3 cr3)) (rl_n (yad rfl (yaf rfl (congrArg Value.bool (decide_eq_true hp2)))) rfl rfl rfl (yan rfl (am2 rfl rfl) enter_18 ((ycz h (yaK _) (hS.rdr 4 rfl) (hS.rdr 5 rfl)).mono ?_)))); rintro _ w10 ⟨r11, rfl, hC, h⟩; replace hS := hS.pur hC.pure; clear hC; refine ⟨_, rfl, ?_⟩; refine zb (zq (yaw (v := (.bool (r11))) (congrArg Value.bool (decide_eq_true hp2)) rfl) (zq (zm (.bool (r11))) ?_)); by_cases hp3 : r11 = true
          · replace h := h.1 hp3; refine rl_n (yad rfl (yaf rfl (congrArg Value.bool hp3))) rfl rfl rfl (yan rfl (am0) yfz ((ycK h (yaK _)).mono ?_)); rintro _ w11 ⟨r12, rfl, hC, h⟩; replace hS := hS.pur hC.pure; clear hC; refine ⟨_, rfl, ?_⟩; exact zb (zq (yaw (v := (.bool (r12))) (congrArg Value.bool hp3) rfl) (zq (za (.bool (r12))) (yaa (yak rfl rfl ⟨_, rfl, (hS.sel [] (by decide)), h⟩))))
          · replace h := h.2 hp3; exact rl_p (yab rfl (yaf rfl (congrArg Value.bool (Bool.eq_false_iff.2 hp3))) rfl) rfl (zq (yay (v := (.bool (false))) (congrArg Value.bool (Bool.eq_false_iff.2 hp3)) rfl) (zq (za (.bool (false))) (yaa (yak rfl rfl ⟨_, rfl, (hS.sel [] (by decide)), h⟩))))
        · replace h := h.2 hp2; exact rl_p (yab rfl (yaf rfl (congrArg Value.bool (decide_eq_false hp2))) rfl) rfl (rl_p (yab rfl (yaf rfl (congrArg Value.bool (decide_eq_false hp2))) rfl) rfl (rl_p (yab rfl (yaf rfl (congrArg Value.bool (decide_eq_false hp2))) rfl) rfl (zq (yay (v := (.bool (false))) (congrArg Value.bool (decide_eq_false hp2)) rfl) (zq (zm (.bool (false))) (rl_p (yab rfl (yaf rfl rfl) rfl) rfl (zq (yay (v := (.bool (false))) rfl rfl) (zq (za (.bool (false))) (yaa (yak rfl rfl ⟨_, rfl, (hS.sel [] (by decide)), h⟩)))))))))
      · replace h := h.2 hp; exact rl_p (yab rfl (yaf rfl (congrArg Value.bool (decide_eq_false hp))) rfl) rfl (rl_p (yab rfl (yaf rfl (congrArg Value.bool (decide_eq_false hp))) rfl) rfl (rl_p (yab rfl (yaf rfl (congrArg Value.bool (decide_eq_false hp))) rfl) rfl (zq (yay (v := (.bool (false))) (congrArg Value.bool (decide_eq_false hp)) rfl) (zq (zm (.bool (false))) (rl_p (yab rfl (yaf rfl rfl) rfl) rfl (rl_p (yab rfl (yaf rfl rfl) rfl) rfl (rl_p (yab rfl (yaf rfl rfl) rfl) rfl (zq (yay (v := (.bool (false))) rfl rfl) (zq (zm (.bool (false))) (rl_p (yab rfl (yaf rfl rfl) rfl) rfl (zq (yay (v := (.bool (false))) rfl rfl) (zq (za (.bool (false))) (yaa (yak rfl rfl ⟨_, rfl, (hS.sel [] (by decide)), h⟩))))))))))))))
    clear hJ; intro j2; obtain ⟨J4, hJ, h⟩ := h; refine wt_cutA1 (fun E ds w' => J4 ∧ ds = [] ∧ E 8 = (ii r2) ∧ Sep w no O w' (rl [])) ?_ ?_
    · clear h hS; rintro E ds w12 ⟨h, rfl, hE8, hS⟩; replace h := hJ h; refine zs (zq (yac hE8) (zq zE (zq (zm (.bool (decide (r2 = 0)))) ?_))); by_cases hp4 : r2 = 0
      · replace h := h.1 hp4; refine rl_n (yad rfl (yaf rfl (congrArg Value.bool (decide_eq_true hp4)))) rfl rfl rfl (yan rfl (am0) yfz ((ycK h (yaK _)).mono ?_)); rintro _ w13 ⟨r13, rfl, hC, h⟩; replace hS := hS.pur hC.pure; clear hC; refine ⟨_, rfl, ?_⟩; exact zb (zq (yaw (v := (.bool (r13))) (congrArg Value.bool (decide_eq_true hp4)) rfl) (zq (za (.bool (r13))) (yaa (yak rfl rfl ⟨_, rfl, (hS.sel [] (by decide)), h⟩))))
      · replace h := h.2 hp4; exact rl_p (yab rfl (yaf rfl (congrArg Value.bool (decide_eq_false hp4))) rfl) rfl (zq (yay (v := (.bool (false))) (congrArg Value.bool (decide_eq_false hp4)) rfl) (zq (za (.bool (false))) (yaa (yak rfl rfl ⟨_, rfl, (hS.sel [] (by decide)), h⟩))))
    clear hJ; intro j3; refine zr (zq (zm (ii r2)) (zq zN (zq (zm (.bool (!(decide (r2 = 0))))) ?_))); by_cases hp5 : r2 = 0
    · replace h := h.1 hp5; refine rl_q (yad rfl (yaf rfl (congrArg Value.bool (congrArg Bool.not (decide_eq_true hp5))))) rfl rfl (yas (vs := [(ii d), (.slice Ad ld cd)]) hE3 underlying24 rfl yaq ⟨Row.cell (hS.bx 2 rfl) (i := 0) rfl, Row.cell (hS.bx 2 rfl) (i := 1) rfl, trivial⟩) (rl_q (yad rfl (yaf rfl (congrArg Value.bool (congrArg Bool.not (decide_eq_true hp5))))) rfl rfl (zm (.slice Ar lr cr)) (rl_n (yad rfl (yaf rfl (congrArg Value.bool (congrArg Bool.not (decide_eq_true hp5))))) rfl rfl rfl (ya8 (l := [(0, (.slice Ar lr cr))]) (cells := [(.slice Ar lr cr)]) (bp1 rfl) underlying97 ybb rfl rfl ?_))); intro g2 w14 hN; replace hS := hS.lit (n := 1) (c := (cL cI)) 5 rfl hN ([r] : List (List Int)) rfl (by decide) ⟨[(.slice Ar lr cr)], _, rfl, (ro_R (hS.ro 4 rfl)), rfl⟩; clear hN; refine zb (rl_n (yad rfl (yaf rfl (congrArg Value.bool (congrArg Bool.not (decide_eq_true hp5))))) rfl rfl rfl (yan rfl (am3 rfl rfl rfl) enter_19 ((yiw h (yaK _) (hS.rdr 3 rfl) (hS.rdo 5 rfl)).mono ?_))); rintro _ w15 ⟨r14, rfl, hC, h⟩; replace hS := hS.pur hC.pure; clear hC; refine ⟨_, rfl, ?_⟩; refine zb (rl_q (yad rfl (yaf rfl (congrArg Value.bool (congrArg Bool.not (decide_eq_true hp5))))) rfl rfl (ycV rfl) (zq (yay (v := (.bool (!(r14)))) (congrArg Value.bool (congrArg Bool.not (decide_eq_true hp5))) rfl) (yaa ?_))); by_cases hp6 : r14 = true
      · replace h := h.1 hp6; exact yaz (congrArg Value.bool (congrArg Bool.not hp6)) (yai (j2 _ _ _ ⟨h, rfl, hE1, hE3, rfl, (hS.sel [0, 2, 3, 4] (by decide))⟩))
      · replace h := h.2 hp6; exact yau (congrArg Value.bool (congrArg Bool.not (Bool.eq_false_iff.2 hp6))) (j3 _ _ _ ⟨h, rfl, rfl, (hS.sel [] (by decide))⟩)
    · replace h := h.2 hp5; exact rl_p (yab rfl (yaf rfl (congrArg Value.bool (congrArg Bool.not (decide_eq_false hp5)))) rfl) rfl (rl_p (yab rfl (yaf rfl (congrArg Value.bool (congrArg Bool.not (decide_eq_false hp5)))) rfl) rfl (rl_p (yab rfl (yaf rfl (congrArg Value.bool (congrArg Bool.not (decide_eq_false hp5)))) rfl) rfl (rl_p (yab rfl (yaf rfl (congrArg Value.bool (congrArg Bool.not (decide_eq_false hp5)))) rfl) rfl (rl_p (yab rfl (yaf rfl (congrArg Value.bool (congrArg Bool.not (decide_eq_false hp5)))) rfl) rfl (zq (yaw (v := (.bool (true))) (congrArg Value.bool (congrArg Bool.not (decide_eq_false hp5))) rfl) (yaa (yau rfl (j3 _ _ _ ⟨h, rfl, rfl, (hS.sel [] (by decide))⟩))))))))
  clear hJ; intro j; refine zr (zq (yas (vs := [(ii d), (.slice Ad ld cd)]) rfl underlying24 rfl yaq ⟨Row.cell (hS.bx 3 rfl) (i := 0) rfl, Row.cell (hS.bx 3 rfl) (i := 1) rfl, trivial⟩) (zq (zm (.slice Ai li ci)) (zn (ya8 (l := [(0, (.slice Ai li ci))]) (cells := [(.slice Ai li ci)]) (bp1 rfl) underlying97 ybb rfl rfl ?_)))); intro g3 w16 hN; replace hS := hS.lit (n := 1) (c := (cL cI)) 4 rfl hN ([i] : List (List Int)) rfl (by decide) ⟨[(.slice Ai li ci)], _, rfl, (ro_R (hS.ro 1 rfl)), rfl⟩; clear hN; refine zb (zn (yan rfl (am3 rfl rfl rfl) enter_19 ((yiw h (yaK _) (hS.rdr 0 rfl) (hS.rdo 4 rfl)).mono ?_))); rintro _ w17 ⟨r15, rfl, hC, h⟩; replace hS := hS.pur hC.pure; clear hC; refine ⟨_, rfl, ?_⟩; refine zb (zq (ycV rfl) (zq (zm (.bool (!(r15)))) ?_)); by_cases hp7 : r15 = true
  · replace h := h.1 hp7; refine rl_q (yad rfl (yaf rfl (congrArg Value.bool (congrArg Bool.not hp7)))) rfl rfl (zm (.slice Aa la ca)) (rl_q (yad rfl (yaf rfl (congrArg Value.bool (congrArg Bool.not hp7)))) rfl rfl (yaZ (n := a.length) rfl underlying55 (yaS (hS.rdr 2 rfl))) (rl_q (yad rfl (yaf rfl (congrArg Value.bool (congrArg Bool.not hp7)))) rfl rfl (yaj rfl underlying24 rfl yah) (rl_q (yad rfl (yaf rfl (congrArg Value.bool (congrArg Bool.not hp7)))) rfl rfl (zl underlying3 (Row.cell (hS.bx 3 rfl) (i := 0) rfl)) (rl_q (yad rfl (yaf rfl (congrArg Value.bool (congrArg Bool.not hp7)))) rfl rfl zN (zq (yay (v := (.bool (!(decide (((a.length : Nat) : Int) = d))))) (congrArg Value.bool (congrArg Bool.not hp7)) rfl) (zq (zm (.bool (!(decide (((a.length : Nat) : Int) = d))))) ?_)))))); by_cases hp8 : ((a.length : Nat) : Int) = d
    · replace h := h.1 hp8; refine rl_q (yad rfl (yaf rfl (congrArg Value.bool (congrArg Bool.not (decide_eq_true hp8))))) rfl rfl (zm (.slice Aa la ca)) (rl_n (yad rfl (yaf rfl (congrArg Value.bool (congrArg Bool.not (decide_eq_true hp8))))) rfl rfl rfl (yan rfl (am2 rfl rfl) enter_26 ((yia h (yaK _) (hS.rdr 2 rfl) (fun w' hk => ⟨27, #[], rfl, enter_27, fun x R hF => ydD (by simp) (yiu hF (yaK _))⟩)).mono ?_))); rintro _ w18 ⟨r16, rfl, hC, h⟩; replace hS := hS.pur hC.pure; clear hC; refine ⟨_, rfl, ?_⟩; refine zb (zq (yay (v := (.bool (r16))) (congrArg Value.bool (congrArg Bool.not (decide_eq_true hp8))) rfl) (yaa ?_)); by_cases hp9 : r16 = true
      · replace h := h.1 hp9; refine yau (congrArg Value.bool hp9) (zs (zn (yan rfl (am0) yfz ((ycK h (yaK _)).mono ?_)))); rintro _ w19 ⟨r17, rfl, hC, h⟩; replace hS := hS.pur hC.pure; clear hC; refine ⟨_, rfl, ?_⟩; exact zb (zq (za (.bool (r17))) (yaa (yak rfl rfl ⟨_, rfl, (hS.sel [] (by decide)), h⟩)))
      · replace h := h.2 hp9; exact yaz (congrArg Value.bool (Bool.eq_false_iff.2 hp9)) (yai (j _ _ _ ⟨h, rfl, rfl, rfl, rfl, (hS.sel [1, 2, 3, 0] (by decide))⟩))
    · replace h := h.2 hp8; refine rl_p (yab rfl (yaf rfl (congrArg Value.bool (congrArg Bool.not (decide_eq_false hp8)))) rfl) rfl (rl_p (yab rfl (yaf rfl (congrArg Value.bool (congrArg Bool.not (decide_eq_false hp8)))) rfl) rfl (zq (yaw (v := (.bool (true))) (congrArg Value.bool (congrArg Bool.not (decide_eq_false hp8))) rfl) (yaa (yau rfl (zs (zn (yan rfl (am0) yfz ((ycK h (yaK _)).mono ?_)))))))); rintro _ w20 ⟨r18, rfl, hC, h⟩; replace hS := hS.pur hC.pure; clear hC; refine ⟨_, rfl, ?_⟩; exact zb (zq (za (.bool (r18))) (yaa (yak rfl rfl ⟨_, rfl, (hS.sel [] (by decide)), h⟩)))
  · replace h := h.2 hp7; refine rl_p (yab rfl (yaf rfl (congrArg Value.bool (congrArg Bool.not (Bool.eq_false_iff.2 hp7)))) rfl) rfl (rl_p (yab rfl (yaf rfl (congrArg Value.bool (congrArg Bool.not (Bool.eq_false_iff.2 hp7)))) rfl) rfl (rl_p (yab rfl (yaf rfl (congrArg Value.bool (congrArg Bool.not (Bool.eq_false_iff.2 hp7)))) rfl) rfl (rl_p (yab rfl (yaf rfl (congrArg Value.bool (congrArg Bool.not (Bool.eq_false_iff.2 hp7)))) rfl) rfl (rl_p (yab rfl (yaf rfl (congrArg Value.bool (congrArg Bool.not (Bool.eq_false_iff.2 hp7)))) rfl) rfl (zq (yaw (v := (.bool (true))) (congrArg Value.bool (congrArg Bool.not (Bool.eq_false_iff.2 hp7))) rfl) (zq (zm (.bool (true))) (rl_p (yab rfl (yaf rfl rfl) rfl) rfl (rl_p (yab rfl (yaf rfl rfl) rfl) rfl (zq (yaw (v := (.bool (true))) rfl rfl) (yaa (yau rfl (zs (zn (yan rfl (am0) yfz ((ycK h (yaK _)).mono ?_))))))))))))))); rintro _ w21 ⟨r19, rfl, hC, h⟩; replace hS := hS.pur hC.pure; clear hC; refine ⟨_, rfl, ?_⟩; exact zb (zq (za (.bool (r19))) (yaa (yak rfl rfl ⟨_, rfl, (hS.sel [] (by decide)), h⟩)))
end Go.Proofs.Ytmeoemmemjipdaa

/- What the references' pure forms come to: graphs and divisors. -/
namespace Go.Proofs.Ytmeoemmemjipdaa
open Go Go.Proofs.Try
set_option linter.unusedVariables false
set_option linter.unusedSimpArgs false
theorem p_r17_In {k : Int} {R : Bool → Prop} (h : R (inF k)) : ye3 k R := by
  unfold ye3
  refine ⟨fun h1 => ?_, fun h1 => ?_⟩
  · have e : decide (k ≤ 1048576) = inF k := by unfold inF; simp [h1]
    rw [e]; exact h
  · have e : false = inF k := by unfold inF; simp [h1]
    rw [e]; exact h
theorem ygy {n v : Int} {es : List E3} {R : Bool → Prop} (h : R (decide (0 ≤ v ∧ v < n))) : yce n es v R := by
  unfold yce
  refine ⟨fun h1 => ?_, fun h1 => ?_⟩
  · have e : decide (v < n) = decide (0 ≤ v ∧ v < n) := by simp [h1]
    rw [e]; exact h
  · have e : false = decide (0 ≤ v ∧ v < n) := by simp [h1]
    rw [e]; exact h
theorem yhF {d : List Int} {n : Int} {R : Int → Prop} (h : R (yaD d n)) : ycB d n R := by
  unfold ycB
  have hout : ¬ (1 ≤ n ∧ n ≤ 12) → R 2 := fun q => by
    have : yaD d n = 2 := by unfold yaD yeI; rw [if_neg q, if_neg (by omega)]
    rwa [this] at h
  refine ⟨1 ≤ n ∧ n ≤ 12, fun hn => ?_, fun q => hout (by omega), fun q => ⟨fun q2 => hout (by omega), fun q2 => ⟨by omega, by omega⟩⟩⟩
  have hc : yaD d n = if (d.length : Int) = n then (if d.all inF then 0 else 2) else 8 := by unfold yaD; rw [if_pos (by unfold yeI; rw [if_pos hn])]
  rw [hc] at h
  refine ⟨fun hln => ?_, fun hln => by rwa [if_neg hln] at h⟩
  rw [if_pos hln] at h
  refine ⟨Cnt d.length (fun k => ∀ j, j < k → inF (gi d j) = true), Cnt.start (fun j hj => absurd hj (by omega)), ?_⟩
  rintro m _ ⟨k, rfl, rfl, hk, hinv⟩
  refine ⟨fun hlt => ⟨by omega, p_r17_In ⟨fun h1 => Cnt.next (by omega) (by omega) fun j hj => ?_, fun h1 => ?_⟩⟩, fun hge => ?_⟩
  · by_cases e : j = k
    · subst e; simpa using h1
    · exact hinv j (by omega)
  · rw [if_neg (fun hall => h1 ((yb3 inF d).1 hall _ (by omega)))] at h; exact h
  · rw [if_pos ((yb3 inF d).2 fun j hj => hinv j (by omega))] at h; exact h
theorem yiU {d : List Int} {R : Int → Prop} (hl : d.length ≤ 1000000) (hb : ∀ i, i < d.length → -1000000000000 ≤ gi d i ∧ gi d i ≤ 1000000000000) (h : R (dg d)) : yh9 d R := by
  unfold yh9
  refine ⟨fun m n v => Cnt d.length (fun k => n = sm k (gi d)) m v, Cnt.start rfl, ?_⟩
  rintro m n _ ⟨k, rfl, rfl, hk, rfl⟩
  refine ⟨fun hlt => ⟨by omega, ?_, Cnt.next (by omega) (by omega) rfl⟩, fun hge => ?_⟩
  · have := yd0 (f := gi d) (B := 1000000000000) (by omega) (n := k + 1) fun i hi => hb i (by omega)
    rw [sm] at this
    exact i64 (by simp only [Int.toNat_natCast]; omega)
  · have : k = d.length := by omega
    subst this; exact h
theorem p_r08_edge {n : Int} {es : List E3} {k : Nat} {R : Int → Prop} (hk : k < es.length) (hl : es.length ≤ 1000000000) (h : R (yfr n (pre es k).1 (pre es k).2 (ge es k))) : ydQ n es (k : Int) R := by
  unfold ydQ
  simp only [Int.toNat_natCast]
  generalize hx : ge es k = x at h ⊢
  refine ⟨by omega, (0 ≤ x.1 ∧ x.1 < n) ∧ (0 ≤ x.2.1 ∧ x.2.1 < n) ∧ 1 ≤ x.2.2 ∧ x.2.2 ≤ 50, fun hJ => ?_, ?_⟩
  · have hed : ∀ a b, yfr n a b x = if x.1 ≤ x.2.1 ∧ ye0 a b x.1 x.2.1 < 0 then 0 else 9 := fun a b => by unfold yfr; rw [if_pos hJ]
    rw [hed] at h
    refine ⟨fun q => by rw [if_neg (by omega)] at h; exact h, fun q => ⟨fun h0 => ?_, fun h0 => ?_⟩⟩
    · have e1 : ((k : Int) - 1).toNat = k - 1 := by omega
      rw [e1]
      have hp : pre es k = ((ge es (k - 1)).1, (ge es (k - 1)).2.1) := by unfold pre; rw [if_neg (by omega)]
      rw [hp] at h
      have hc := yhJ (ge es (k - 1)).1 (ge es (k - 1)).2.1 x.1 x.2.1
      refine ⟨i64 (by omega), by omega, fun q1 => ?_, fun q1 => ⟨fun q2 => ⟨fun q3 => ?_, fun q3 => ?_⟩, fun q2 => ?_⟩⟩
      · rw [if_neg (fun h => by have := hc.1 h.2; omega)] at h; exact h
      · rw [if_neg (fun h => by have := hc.1 h.2; omega)] at h; exact h
      · rw [if_pos ⟨by omega, hc.2 (by omega)⟩] at h; exact h
      · rw [if_pos ⟨by omega, hc.2 (by omega)⟩] at h; exact h
    · have hp : pre es k = (-1, -1) := by unfold pre; rw [if_pos (by omega)]
      rw [hp, if_pos ⟨by omega, (yhJ _ _ _ _).2 (.inl (by omega))⟩] at h
      exact h
  · have hed : ¬ ((0 ≤ x.1 ∧ x.1 < n) ∧ (0 ≤ x.2.1 ∧ x.2.1 < n) ∧ 1 ≤ x.2.2 ∧ x.2.2 ≤ 50) → R 2 := fun q => by unfold yfr at h; rwa [if_neg q] at h
    refine ygy ⟨fun h1 => ygy ⟨fun h2 => ⟨fun h3 => hed (by omega), fun h3 => ⟨fun h4 => hed (by omega), fun h4 => ?_⟩⟩, fun h2 => hed (by simp at h2; omega)⟩, fun h1 => hed (by simp at h1; omega)⟩
    simp only [decide_eq_true_eq] at h1 h2
    exact ⟨h1, h2, by omega, by omega⟩
theorem yhk {n : Int} {es : List E3} {R : Int → Prop} (hl : es.length ≤ 1000000000) (h : R (yar n es)) : ycA n es R := by
  unfold ycA
  have hout : ¬ (1 ≤ n ∧ n ≤ 12) → R 2 := fun q => by unfold yar at h; rwa [if_neg q] at h
  refine ⟨1 ≤ n ∧ n ≤ 12, fun hn => ?_, fun q => hout (by omega), fun q => ⟨fun q2 => hout (by omega), fun q2 => ⟨by omega, by omega⟩⟩⟩
  have hg : yar n es = gchk n (-1) (-1) es := by unfold yar; rw [if_pos hn]
  rw [hg] at h
  refine ⟨Cnt es.length (fun k => gchk n (-1) (-1) es = gchk n (pre es k).1 (pre es k).2 (es.drop k)), Cnt.start rfl, ?_⟩
  rintro m _ ⟨k, rfl, rfl, hk, hinv⟩
  refine ⟨fun hlt => p_r08_edge (by omega) hl ⟨fun h0 => Cnt.next (by omega) (by omega) ?_, fun h0 => ?_⟩, fun hge => ?_⟩
  · rw [ygd (by omega), ye6, if_pos h0] at hinv
    rw [hinv]; simp [pre]
  · rw [ygd (by omega), ye6, if_neg h0] at hinv
    rwa [hinv] at h
  · have hk2 : k = es.length := by omega
    rw [hinv, hk2, List.drop_length] at h
    exact h
theorem p_r08_Between' {n : Int} {es : List E3} {a b : Int} {R : Int → Prop} (hl : es.length ≤ 1000000000) (h : R (((es.find? fun x => decide (x.1 = mnF a b ∧ x.2.1 = mxF a b)).map (·.2.2)).getD 0)) : ybf n es a b R := by
  unfold ybf
  refine ⟨Cnt es.length (fun k => es.find? (fun x => decide (x.1 = mnF a b ∧ x.2.1 = mxF a b)) = (es.drop k).find? (fun x => decide (x.1 = mnF a b ∧ x.2.1 = mxF a b))), Cnt.start rfl, ?_⟩
  rintro m _ ⟨k, rfl, rfl, hk, hinv⟩
  refine ⟨fun hlt => ?_, fun hge => ?_⟩
  · have hlt : k < es.length := by omega
    rw [ygd hlt, List.find?_cons] at hinv
    simp only [Int.toNat_natCast]
    refine ⟨by omega, fun h1 => ⟨fun h2 => ?_, fun h2 => Cnt.next hlt (by omega) ?_⟩, fun h1 => Cnt.next hlt (by omega) ?_⟩
    · rw [hinv] at h; simpa [h1, h2] using h
    · rw [hinv]; simp [h2]
    · rw [hinv]; simp [h1]
  · have hk2 : k = es.length := by omega
    rw [hinv, hk2, List.drop_length] at h
    exact h
theorem yhH {n : Int} {es : List E3} (hg : yar n es = 0) (u v : Nat) : 0 ≤ W es u v ∧ W es u v ≤ 50 := by
  by_cases e : u = v
  · subst e; rw [yfW]; omega
  · have hok := gchk_ok es _ _ (yeB hg)
    rw [← yg6 u v e es (-1) (-1) (yeB hg)]
    cases hf : es.find? fun x => decide (x.1 = mnF (u : Int) v ∧ x.2.1 = mxF (u : Int) v) with
    | none => simp
    | some x => have := hok x (List.mem_of_find?_eq_some hf); simp; omega
theorem ydB {n : Int} {es : List E3} {u v : Nat} {R : Int → Prop} (hl : es.length ≤ 1000000000) (hg : yar n es = 0) (huv : u ≠ v) (h : R (W es u v)) : ybf n es (u : Int) (v : Int) R :=
  p_r08_Between' hl (by rw [yg6 u v huv es (-1) (-1) (yeB hg)]; exact h)
theorem yhL {n : Int} {es : List E3} (hg : yar n es = 0) (k v : Nat) : 0 ≤ sm k (fun u => W es v u) ∧ sm k (fun u => W es v u) ≤ k * 50 :=
  ⟨yaR fun i _ => (yhH hg v i).1, (yd0 (f := fun u => W es v u) (B := 50) (by omega) fun i _ => by have := yhH hg v i; omega).2⟩
def ygK (es : List E3) : List (Int × Int) := es.flatMap fun x => List.replicate x.2.2.toNat (x.1, x.2.1)
theorem endsF_take {es : List E3} {k : Nat} (hk : k < es.length) : ygK (es.take (k + 1)) = ygK (es.take k) ++ List.replicate (ge es k).2.2.toNat ((ge es k).1, (ge es k).2.1) := by
  unfold ygK
  rw [List.take_add_one, List.getElem?_eq_getElem hk, ycU hk, List.flatMap_append]
  simp
theorem ygs (es : List E3) (hE : ∀ x ∈ es, 1 ≤ x.2.2 ∧ x.2.2 ≤ 50) : ((ygK es).length : Int) = (es.map (·.2.2)).sum ∧ (ygK es).length ≤ 50 * es.length := by
  induction es with
  | nil => simp [ygK]
  | cons x t ih =>
    have hx := hE x (by simp)
    have := ih fun y hy => hE y (by simp [hy])
    unfold ygK at this ⊢
    rw [List.flatMap_cons, List.length_append, List.length_replicate, List.map_cons, List.sum_cons, List.length_cons]
    omega
theorem p_r08_Ends {n : Int} {es : List E3} {R : List (Int × Int) → Prop} (hl : es.length ≤ 1000) (hE : ∀ x ∈ es, 1 ≤ x.2.2 ∧ x.2.2 ≤ 50) (h : R (ygK es)) : ydE n es R := by
  unfold ydE
  have hlen : ∀ k, (ygK (es.take k)).length ≤ 50 * k := fun k => by
    have := (ygs (es.take k) fun x hx => hE x (List.mem_of_mem_take hx)).2
    rw [List.length_take] at this
    omega
  refine ⟨fun m out i => Cnt es.length (fun k => out = ygK (es.take k)) m i, Cnt.start (by simp [ygK]), ?_⟩
  rintro m out _ ⟨k, rfl, rfl, hk, rfl⟩
  refine ⟨fun hlt => ?_, fun hge => ?_⟩
  · have hlt : k < es.length := by omega
    have hmk := hE _ (yhg hlt)
    have hl2 := hlen k
    simp only [Int.toNat_natCast]
    refine ⟨fun m2 out2 j => Cnt (ge es k).2.2.toNat (fun i => out2 = ygK (es.take k) ++ List.replicate i ((ge es k).1, (ge es k).2.1)) m2 j, Cnt.start (by simp), ?_⟩
    rintro m2 out2 _ ⟨j, rfl, rfl, hj, rfl⟩
    refine ⟨by omega, fun h1 => ⟨?_, Cnt.next (by omega) (by omega) ?_⟩, fun h1 => Cnt.next hlt (by omega) ?_⟩
    · rw [List.length_append, List.length_replicate]; omega
    · rw [List.append_assoc, List.replicate_succ']
    · have : j = (ge es k).2.2.toNat := by omega
      rw [endsF_take hlt, this]
  · have hk2 : k = es.length := by omega
    rw [hk2, List.take_length]; exact h
theorem p_r08_Size {n : Int} {es : List E3} {R : Int → Prop} (hl : es.length ≤ 1000) (hE : ∀ x ∈ es, 1 ≤ x.2.2 ∧ x.2.2 ≤ 50) (h : R ((es.map (·.2.2)).sum)) : yeF n es R :=
  p_r08_Ends hl hE (by rw [(ygs es hE).1]; exact h)
theorem p_r08_small {n a b : Int} {es : List E3} {R : Bool → Prop} (h : R (yhq n es a b)) : ydn n es a b R := by
  unfold ydn
  unfold yhq at h
  refine ⟨fun h1 => ?_, fun h1 => yhk (by omega) ⟨fun h2 => ⟨fun h3 => ?_, fun h3 => ?_⟩, fun h2 => ?_⟩⟩
  · rwa [decide_eq_false (by omega)] at h
  · have hE := gchk_ok es _ _ (yeB h2)
    refine p_r08_Size (by omega) (fun x hx => (hE x hx).2.2.2.2) ?_
    have e : decide ((es.map (·.2.2)).sum ≤ b) = decide (es.length ≤ 40 ∧ (yar n es = 0 → n ≤ a ∧ (es.map (·.2.2)).sum ≤ b)) := by
      rw [decide_eq_decide]; constructor
      · intro q; exact ⟨by omega, fun _ => ⟨h3, q⟩⟩
      · intro q; exact (q.2 h2).2
    rw [e]; exact h
  · rwa [decide_eq_false (fun q => h3 (q.2 h2).1)] at h
  · rwa [decide_eq_true ⟨by omega, fun q => absurd q h2⟩] at h
end Go.Proofs.Ytmeoemmemjipdaa

/- Borrowing: a vertex in debt borrows from its neighbours, until there is no debt, or each vertex has borrowed. No program in sight. -/
namespace Go.Proofs.Ytmeoemmemjipdaa
open Go Go.Proofs.Try
set_option linter.unusedVariables false
set_option linter.unusedSectionVars false
set_option linter.unusedSimpArgs false
theorem Lp_few {n : Nat} {es : List E3} (hg : yar n es = 0) {s : Nat → Int} {B : Int} (hB : 0 ≤ B) (hs : ∀ j, j < n → -B ≤ s j ∧ s j ≤ B) {v : Nat} (hv : v < n) : -(1200 * B) ≤ Lp n es s v ∧ Lp n es s v ≤ 1200 * B := by
  obtain ⟨hE, hn1, hn12⟩ := yaV hg
  have h := yd0 (f := fun u => W es v u * (s v - s u)) (B := 100 * B) (by omega) (n := n) fun u hu => by
    have h1 := yhH hg v u
    have h2 := hs v hv
    have h3 := hs u hu
    have hx : -(2 * B) ≤ s v - s u ∧ s v - s u ≤ 2 * B := by omega
    show -(100 * B) ≤ W es v u * (s v - s u) ∧ W es v u * (s v - s u) ≤ 100 * B
    generalize W es v u = w at h1 ⊢
    generalize s v - s u = x at hx ⊢
    have h4 : w * x ≤ w * (2 * B) := Int.mul_le_mul_of_nonneg_left hx.2 h1.1
    have h5 : w * -(2 * B) ≤ w * x := Int.mul_le_mul_of_nonneg_left hx.1 h1.1
    have h6 : w * (2 * B) ≤ 50 * (2 * B) := Int.mul_le_mul_of_nonneg_right h1.2 (by omega)
    rw [Int.mul_neg] at h5
    omega
  have h2 : (n : Int) * (100 * B) ≤ 12 * (100 * B) := Int.mul_le_mul_of_nonneg_right (by omega) (by omega)
  unfold Lp
  omega
def Win (n : Nat) (es : List E3) (d : List Int) : Prop := ∃ s : Nat → Int, ∀ v, v < n → 0 ≤ gi d v - Lp n es s v
theorem Lp_unit {n : Nat} {es : List E3} {v : Nat} (hv : v < n) (i : Nat) : Lp n es (fun j => if j = v then 1 else 0) i = if i = v then deg n es v else - W es i v := by
  rw [Lp_ind]
  have h1 : sm n (fun u => (if u = v then (1 : Int) else 0) * W es u i) = W es v i := by
    rw [← ydi (W es v i) hv]
    refine yat fun u hu => ?_
    show (if u = v then (1 : Int) else 0) * W es u i = if u = v then W es v i else 0
    split
    · rename_i e; rw [e]; omega
    · omega
  rw [h1]
  by_cases e : i = v
  · subst e; rw [if_pos rfl, if_pos rfl, yfW]; omega
  · rw [if_neg e, if_neg e, yd3]; omega
structure Bor (n : Nat) (es : List E3) (d : List Int) (c : Nat → Int) (x : List Int) (b : List Bool) : Prop where
  xl : x.length = n
  bl : b.length = n
  val : ∀ v, v < n → gi x v = gi d v + Lp n es c v
  c0 : ∀ v, v < n → 0 ≤ c v
  bo : ∀ v, v < n → (gb b v = true ↔ 0 < c v)
  up : ∀ v, v < n → gi x v ≤ 1000
  least : ∀ t : Nat → Int, (∀ v, v < n → 0 ≤ t v) → (∀ v, v < n → 0 ≤ gi d v + Lp n es t v) → ∀ v, v < n → c v ≤ t v
section
variable {n : Nat} {es : List E3} {d : List Int}
theorem bor_start (hd : d.length = n) (hb : ∀ v, v < n → gi d v ≤ 1000) : Bor n es d (fun _ => 0) d (List.replicate n false) :=
  ⟨hd, by simp, fun v hv => by rw [yfV]; omega, fun v hv => Int.le_refl _, fun v hv => by rw [gb_rep]; simp, hb, fun t ht _ v hv => ht v hv⟩
theorem deg_le {m : Int} (hg : yar m es = 0) (hn : n ≤ 12) (v : Nat) : 0 ≤ deg n es v ∧ deg n es v ≤ 600 := by
  have := yhL hg n v
  unfold deg
  omega
theorem bor_step {m : Int} (hg : yar m es = 0) (hE : EOk n es) (hn : n ≤ 12) {c : Nat → Int} {x : List Int} {b : List Bool} (h : Bor n es d c x b) {v : Nat} (hv : v < n) (hneg : gi x v < 0) {y : List Int} (hyl : y.length = n)
    (hy : ∀ i, i < n → gi y i = if i = v then gi x v + deg n es v else gi x i - W es i v) : Bor n es d (fun j => c j + if j = v then 1 else 0) y (b.set v true) := by
  refine ⟨hyl, by rw [List.length_set, h.bl], fun i hi => ?_, fun i hi => ?_, fun i hi => ?_, fun i hi => ?_, fun t ht0 ht i hi => ?_⟩
  · rw [hy i hi, ygt c (fun j => if j = v then 1 else 0), Lp_unit hv, h.val i hi]
    by_cases e : i = v
    · subst e; rw [if_pos rfl, if_pos rfl, h.val i hi]; omega
    · rw [if_neg e, if_neg e]; omega
  · have := h.c0 i hi
    show 0 ≤ c i + if i = v then 1 else 0
    split <;> omega
  · rw [ydx (by rw [h.bl]; exact hv)]
    have := h.c0 i hi
    show _ ↔ 0 < c i + if i = v then 1 else 0
    by_cases e : i = v
    · rw [if_pos e, if_pos e]; simp; omega
    · rw [if_neg e, if_neg e, h.bo i hi]; simp
  · rw [hy i hi]
    have h1 := deg_le hg hn (n := n) v
    have h2 := h.up i hi
    have h3 := yaW hE i v
    split <;> omega
  · have h1 := h.least t ht0 ht i hi
    show c i + (if i = v then 1 else 0) ≤ t i
    by_cases e : i = v
    · subst e
      rw [if_pos rfl]
      apply Int.not_lt.1
      intro hlt
      have e2 : t i = c i := by omega
      have h3 : Lp n es t i ≤ Lp n es c i := by
        unfold Lp
        refine ycC fun u hu => ?_
        show W es i u * (t i - t u) ≤ W es i u * (c i - c u)
        exact Int.mul_le_mul_of_nonneg_left (by have := h.least t ht0 ht u hu; omega) (yaW hE i u)
      have := ht i hi
      have := h.val i hi
      omega
    · rw [if_neg e]; omega
theorem bor_few (hE : EOk n es) (hC : ∀ q, q < n → Conn n es q) (hn : n ≤ 12) (hdb : ∀ v, v < n → -1000 ≤ gi d v) {c : Nat → Int} {x : List Int} {b : List Bool} (h : Bor n es d c x b) {w : Nat} (hw : w < n) (h0 : gb b w ≠ true) : ∀ v, v < n → c v ≤ 288000 := by
  have cw : c w = 0 := by
    have h1 := h.c0 w hw
    have h2 := (h.bo w hw)
    have : ¬ 0 < c w := fun h3 => h0 (h2.2 h3)
    omega
  intro v hv
  have h1 := climb hE (hC w hw) hw (f := c) (G := 24000) (by omega) (fun S hS => ?_) v hv
  · have h2 := low_le (f := c) hv
    have h3 : low n c (c v) * 24000 ≤ 12 * 24000 := Int.mul_le_mul_of_nonneg_right (by omega) (by omega)
    omega
  · have h4 : sm n (fun v => if S v = true then Lp n es c v else 0) ≤ sm n (fun _ => 2000) := ycC fun u hu => by
      show (if S u = true then Lp n es c u else 0) ≤ 2000
      have h5 := h.val u hu
      have h6 := h.up u hu
      have h7 := hdb u hu
      split <;> omega
    rw [yc9] at h4
    omega
theorem bor_total (hn : n ≤ 12) {c : Nat → Int} (hc : ∀ v, v < n → c v ≤ 288000) : sm n c ≤ 3456000 := by
  have h := ycC (f := c) (g := fun _ => 288000) (n := n) hc
  rw [yc9] at h
  omega
theorem bor_count {c : Nat → Int} {v : Nat} (hv : v < n) : sm n (fun j => c j + if j = v then 1 else 0) = sm n c + 1 := by
  rw [ybH c (fun j => if j = v then 1 else 0), ydi 1 hv]
theorem bor_win {c : Nat → Int} {x : List Int} {b : List Bool} (h : Bor n es d c x b) (hx : ∀ v, v < n → 0 ≤ gi x v) : Win n es d := by
  refine ⟨fun i => (-1) * c i, fun v hv => ?_⟩
  rw [yhy]
  have := hx v hv
  rw [h.val v hv] at this
  omega
theorem max_at (s : Nat → Int) : ∀ n : Nat, 1 ≤ n → ∃ w, w < n ∧ ∀ v, v < n → s v ≤ s w
  | 0, h => absurd h (by omega)
  | 1, _ => ⟨0, by omega, fun v hv => by rw [show v = 0 by omega]; omega⟩
  | n + 2, _ => by
    obtain ⟨w, hw, h⟩ := max_at s (n + 1) (by omega)
    by_cases c : s (n + 1) ≤ s w
    · refine ⟨w, by omega, fun v hv => ?_⟩
      by_cases e : v = n + 1
      · rw [e]; exact c
      · exact h v (by omega)
    · refine ⟨n + 1, by omega, fun v hv => ?_⟩
      by_cases e : v = n + 1
      · rw [e]; omega
      · have := h v (by omega); omega
theorem yjm {q : Nat} {r : List Int} {s : Nat → Int} (hE : EOk n es) (hq : q < n) (hr : Red n es q r) (hl : ∀ v, v < n → gi r v = gi d v - Lp n es s v) : Win n es d ↔ 0 ≤ gi r q := by
  constructor
  · rintro ⟨t, ht⟩
    -- the end of t is the form behind a firing
    have h1 := yf5 hE hq hr (d' := tab (fun v => gi d v - Lp n es t v) n) (fun v hv _ => by rw [ydm _ hv]; exact ht v hv) (f := fun i => t i + (-1) * s i) fun v hv => by
      rw [ydm _ hv, ygt t (fun i => (-1) * s i), yhy, hl v hv]; omega
    have h2 : 0 ≤ Lp n es (fun i => t i + (-1) * s i) q := by
      unfold Lp
      refine yaR fun u hu => ?_
      exact Int.mul_nonneg (yaW hE q u) (by have := h1 u hu; show 0 ≤ t q + -1 * s q - (t u + -1 * s u); omega)
    have h3 := ht q hq
    rw [ygt t (fun i => (-1) * s i), yhy] at h2
    rw [hl q hq]; omega
  · intro h0
    refine ⟨s, fun v hv => ?_⟩
    rw [← hl v hv]
    by_cases e : v = q
    · rw [e]; exact h0
    · exact hr.pos v hv e
end
end Go.Proofs.Ytmeoemmemjipdaa

/- The genus: how many single edges there are, and how many chips a reduced divisor has. No program in sight. -/
namespace Go.Proofs.Ytmeoemmemjipdaa
open Go Go.Proofs.Try
set_option linter.unusedVariables false
set_option linter.unusedSimpArgs false
def yck (es : List E3) : Int := (es.map fun x => if x.1 = x.2.1 then 0 else x.2.2).sum
theorem yfT {n : Nat} : ∀ {es : List E3}, EOk n es → tot n es = 2 * yck es
  | [], _ => by
    unfold tot yck
    rw [yat (g := fun _ => 0) (fun v _ => by rw [yat (g := fun _ => 0) (fun u _ => W_nil v u), ybh]), ybh]
    simp
  | x :: es, hE => by
    have ih := yfT (es := es) (fun y hy => hE y (by simp [hy]))
    have hx := hE x (by simp)
    have h1 : tot n (x :: es) = sm n (fun v => sm n (fun u => w1 x v u)) + tot n es := by
      unfold tot
      rw [← ybH]
      refine yat fun v _ => ?_
      rw [← ybH]
      exact yat fun u _ => ydG x es v u
    have hp : yck (x :: es) = (if x.1 = x.2.1 then 0 else x.2.2) + yck es := by simp [yck]
    rw [h1, hp, ih]
    by_cases e : x.1 = x.2.1
    · rw [if_pos e]
      have h2 : sm n (fun v => sm n (fun u => w1 x v u)) = 0 := by
        rw [yat (g := fun _ => 0) (fun v _ => by rw [yat (g := fun _ => 0) (fun u _ => by unfold w1; rw [if_neg (fun h => h.1 e)]), ybh]), ybh]
      omega
    · rw [if_neg e]
      have h2 : sm n (fun v => sm n (fun u => w1 x v u)) = sm n (fun v => sm n (fun u => (if v = x.1.toNat then (if u = x.2.1.toNat then x.2.2 else 0) else 0) + (if v = x.2.1.toNat then (if u = x.1.toNat then x.2.2 else 0) else 0))) :=
        yat fun v _ => yat fun u _ => by
          show w1 x v u = ite _ _ _ + ite _ _ _
          unfold w1
          by_cases a1 : v = x.1.toNat
          · by_cases a2 : u = x.2.1.toNat
            · rw [if_pos ⟨e, .inl ⟨by omega, by omega⟩⟩, if_pos a1, if_pos a2, if_neg (by omega)]; omega
            · rw [if_neg (fun h => by omega), if_pos a1, if_neg a2, if_neg (by omega)]; omega
          · rw [if_neg a1]
            by_cases b1 : v = x.2.1.toNat
            · rw [if_pos b1]
              by_cases b2 : u = x.1.toNat
              · rw [if_pos ⟨e, .inr ⟨by omega, by omega⟩⟩, if_pos b2]; omega
              · rw [if_neg (fun h => by omega), if_neg b2]; omega
            · rw [if_neg (fun h => by omega), if_neg b1]; omega
      have h3 : ∀ a b : Nat, a < n → b < n → sm n (fun v => sm n (fun u => if v = a then (if u = b then x.2.2 else 0) else 0)) = x.2.2 := fun a b ha hb => by
        rw [yat (g := fun v => if v = a then x.2.2 else 0) (fun v _ => by
          by_cases e : v = a
          · simp only [if_pos e]; exact ydi _ hb
          · simp only [if_neg e]; exact ybh n)]
        exact ydi _ ha
      have h4 : sm n (fun v => sm n (fun u => (if v = x.1.toNat then (if u = x.2.1.toNat then x.2.2 else 0) else 0) + (if v = x.2.1.toNat then (if u = x.1.toNat then x.2.2 else 0) else 0))) = x.2.2 + x.2.2 := by
        have e : ∀ A B : Nat → Nat → Int, sm n (fun v => sm n (fun u => A v u + B v u)) = sm n (fun v => sm n (A v)) + sm n (fun v => sm n (B v)) := fun A B => by
          rw [← ybH]
          exact yat fun v _ => by rw [← ybH]
        refine (e (fun v u => if v = x.1.toNat then (if u = x.2.1.toNat then x.2.2 else 0) else 0) (fun v u => if v = x.2.1.toNat then (if u = x.1.toNat then x.2.2 else 0) else 0)).trans ?_
        rw [h3 x.1.toNat x.2.1.toNat (by omega) (by omega), h3 x.2.1.toNat x.1.toNat (by omega) (by omega)]
      omega
end Go.Proofs.Ytmeoemmemjipdaa

/- What the references' pure forms come to: connectedness, errors, scripts. -/
namespace Go.Proofs.Ytmeoemmemjipdaa
open Go Go.Proofs.Try
set_option linter.unusedVariables false
set_option linter.unusedSimpArgs false
section
variable {n : Nat} {es : List E3}
theorem p_r08_Reached {v : Nat} {R : List Bool → Prop} (hl : es.length ≤ 1000000000) (hg : yar n es = 0) (hv : v < n) (h : ∀ o : List Bool, o.length = n → (∀ u, u < n → gb o u = decide (root (yav es) u = root (yav es) v)) → R o) : ycr (n : Int) es (v : Int) R := by
  obtain ⟨hE, hn1, hn12⟩ := yaV hg
  unfold ycr
  simp only [Int.toNat_natCast]
  refine ⟨by omega, by simp; omega, ?_⟩
  let Q : List Bool → Prop := fun o => o.length = n ∧ gb o v = true ∧ ∀ u, u < n → gb o u = true → root (yav es) u = root (yav es) v
  let Z : List Bool → List Bool → Prop := fun o0 o => (Cl n es o0 → o = o0) ∧ (o = o0 ∨ cf o < cf o0) ∧ ∀ a, gb o0 a = true → gb o a = true
  have hq4 : Q ((List.replicate n false).set v true) := by
    refine ⟨by simp, by rw [ydx (by simpa using hv), if_pos rfl], fun u hu h => ?_⟩
    rw [ydx (by simpa using hv)] at h
    split at h
    · rename_i e; rw [e]
    · rw [gb_rep] at h; cases h
  have hcf0 : cf ((List.replicate n false).set v true) + 1 = n := by
    rw [cf_set (by simpa using hv) (gb_rep n v)]
    unfold cf
    rw [List.filter_eq_self.2 (fun x hx => by rw [(List.mem_replicate.1 hx).2]; rfl)]
    simp
  have hsetQ : ∀ {o : List Bool} {b : Nat}, Q o → b < n → root (yav es) b = root (yav es) v → Q (o.set b true) := by
    rintro o b ⟨q1, q4, q5⟩ hb hr
    have hbl : b < o.length := by omega
    refine ⟨by simpa using q1, ?_, fun u hu h => ?_⟩
    · rw [ydx hbl]; split <;> first | rfl | exact q4
    · rw [ydx hbl] at h
      split at h
      · rename_i e; rw [e]; exact hr
      · exact q5 u hu h
  refine ⟨fun m i o => Cnt n (fun k => Q o ∧ (Cl n es o ∨ cf o + k + 1 ≤ n)) m i, Cnt.start ⟨hq4, .inr (by omega)⟩, ?_⟩
  rintro m _ o0 ⟨k, rfl, rfl, hk, hq5, hpr⟩
  refine ⟨fun hlt => ?_, fun hge => ?_⟩
  · refine ⟨fun m i o => Cnt n (fun a => Q o ∧ Z o0 o ∧ ∀ a', a' < a → gb o0 a' = true → ∀ b, b < n → 0 < W es a' b → gb o b = true) m i, Cnt.start ⟨hq5, ⟨fun _ => rfl, .inl rfl, fun _ h => h⟩, fun a' h => absurd h (by omega)⟩, ?_⟩
    rintro m _ o ⟨a, rfl, rfl, ha, hq6, hz, hdone⟩
    refine ⟨fun hlta => ?_, fun hgea => ?_⟩
    · refine ⟨fun m i o => Cnt n (fun b => Q o ∧ Z o0 o ∧ (∀ a', a' < a → gb o0 a' = true → ∀ b, b < n → 0 < W es a' b → gb o b = true) ∧ (gb o0 a = true → ∀ b', b' < b → 0 < W es a b' → gb o b' = true)) m i, Cnt.start ⟨hq6, hz, hdone, fun _ b' h => absurd h (by omega)⟩, ?_⟩
      clear hq6 hz hdone hq5
      rintro m _ o ⟨b, rfl, rfl, hb, hq7, hz, hdone, hnow⟩
      have hol := hq7.1
      refine ⟨fun hltb => ⟨by omega, fun hx => ?_, fun hx => Cnt.next (by omega) (by omega) ⟨hq7, hz, hdone, fun h => absurd (hz.2.2 a h) (by simpa using hx)⟩⟩, fun hgeb => ?_⟩
      · simp only [Int.toNat_natCast] at hx ⊢
        have hstep : (a ≠ b → 0 < W es a b) → Q (o.set b true) ∧ Z o0 (o.set b true) ∧ (∀ a', a' < a → gb o0 a' = true → ∀ b', b' < n → 0 < W es a' b' → gb (o.set b true) b' = true) ∧ (gb o0 a = true → ∀ b', b' < b + 1 → 0 < W es a b' → gb (o.set b true) b' = true) := by
          intro hW
          have hbl : b < o.length := by omega
          have hup : ∀ x, gb o x = true → gb (o.set b true) x = true := fun x h => by rw [ydx hbl]; split <;> first | rfl | exact h
          have hrb : root (yav es) b = root (yav es) v := by
            have h1 := hq7.2.2 a (by omega) hx
            by_cases eab : a = b
            · rw [← eab]; exact h1
            · rw [← root_W hE hn1 hn12 (hW eab)]; exact h1
          refine ⟨hsetQ hq7 (by omega) hrb, ⟨fun hcl => ?_, ?_, fun x h => hup x (hz.2.2 x h)⟩, fun a' h1 h2 b' h3 h4 => hup _ (hdone a' h1 h2 b' h3 h4), fun h1 b' h2 h3 => ?_⟩
          · have e0 := hz.1 hcl
            subst e0
            refine set_same ?_
            by_cases eab : a = b
            · rw [← eab]; exact hx
            · exact hcl a b (by omega) (by omega) hx (hW eab)
          · cases hob : gb o b with
            | true => rw [set_same hob]; exact hz.2.1
            | false =>
              have := cf_set hbl hob
              rcases hz.2.1 with h | h
              · right; rw [← h]; omega
              · right; omega
          · by_cases e2 : b' = b
            · subst e2; rw [ydx hbl, if_pos rfl]
            · exact hup _ (hnow h1 b' (by omega) h3)
        have hpass : ¬ 0 < W es a b → (gb o0 a = true → ∀ b', b' < b + 1 → 0 < W es a b' → gb o b' = true) := fun h h1 b' h2 h3 => by
          by_cases e2 : b' = b
          · subst e2; exact absurd h3 h
          · exact hnow h1 b' (by omega) h3
        by_cases eab : a = b
        · subst eab
          refine p_r08_Between' hl ⟨fun h => ⟨by omega, Cnt.next (by omega) (by omega) (hstep fun h => absurd rfl h)⟩, fun h => Cnt.next (by omega) (by omega) ⟨hq7, hz, hdone, hpass (by rw [show W es a a = 0 from yfW es a]; omega)⟩⟩
        · refine ydB hl hg eab ⟨fun h => ⟨by omega, Cnt.next (by omega) (by omega) (hstep fun _ => h)⟩, fun h => Cnt.next (by omega) (by omega) ⟨hq7, hz, hdone, hpass h⟩⟩
      · have hbn : b = n := by omega
        subst hbn
        refine Cnt.next (by omega) (by omega) ⟨hq7, hz, fun a' h1 h2 b' h3 h4 => ?_⟩
        by_cases e2 : a' = a
        · subst e2; exact hnow h2 b' h3 h4
        · exact hdone a' (by omega) h2 b' h3 h4
    · have han : a = n := by omega
      subst han
      refine Cnt.next (by omega) (by omega) ⟨hq6, ?_⟩
      by_cases hcl : Cl a es o0
      · rw [hz.1 hcl]; exact .inl hcl
      · rcases hz.2.1 with h | h
        · exfalso
          subst h
          exact hcl fun x y hx hy h1 h2 => hdone x hx h1 y hy h2
        · rcases hpr with h2 | h2
          · exact absurd h2 hcl
          · right; omega
  · have hkn : k = n := by omega
    subst hkn
    rcases hpr with q | q
    · exact h o0 hq5.1 (cl_root hE hn1 hn12 q hv hq5.2.1 hq5.2.2)
    · omega
theorem p_r08_Parts {R : Int → Prop} (hl : es.length ≤ 1000000000) (hg : yar n es = 0) (h : ∀ k : Int, (k = 1 ↔ yc1 n es = true) → R k) : ydk (n : Int) es R := by
  obtain ⟨hE, hn1, hn12⟩ := yaV hg
  have hcr := conn_root hE hn1 hn12
  unfold ydk
  simp only [Int.toNat_natCast]
  refine ⟨by omega, ?_⟩
  refine ⟨fun m k i o => Cnt n (fun v => 0 ≤ k ∧ k ≤ v ∧ (v = 0 → k = 0) ∧ (0 < v → 1 ≤ k ∧ (k = 1 ↔ ∀ x, x < v → root (yav es) x = root (yav es) 0)) ∧ o.length = n ∧ (∀ u, u < n → (gb o u = true ↔ ∃ x, x < v ∧ root (yav es) u = root (yav es) x))) m i,
    Cnt.start ⟨by omega, by omega, fun _ => rfl, fun h => absurd h (by omega), by simp, fun u _ => by rw [gb_rep]; simp⟩, ?_⟩
  rintro m k _ o ⟨v, rfl, rfl, hv, k0, k1, k2, k3, hol, hseen⟩
  refine ⟨fun hlt => ?_, fun hge => ?_⟩
  · have hlt : v < n := by omega
    simp only [Int.toNat_natCast]
    refine ⟨by omega, fun hx => ?_, fun hx => ⟨i64 (by omega), p_r08_Reached hl hg hlt fun ro hrl hro => ?_⟩⟩
    · obtain ⟨x, hxv, hxr⟩ := (hseen v hlt).1 hx
      refine Cnt.next hlt (by omega) ⟨k0, by omega, fun h => absurd h (by omega), fun _ => ?_, hol, fun u hu => ?_⟩
      · have h3 := k3 (by omega)
        refine ⟨h3.1, ?_⟩
        rw [h3.2]
        constructor
        · intro h y hy
          by_cases e : y = v
          · subst e; rw [hxr]; exact h x hxv
          · exact h y (by omega)
        · intro h y hy; exact h y (by omega)
      · rw [hseen u hu]
        constructor
        · rintro ⟨y, hy, hyr⟩; exact ⟨y, by omega, hyr⟩
        · rintro ⟨y, hy, hyr⟩
          by_cases e : y = v
          · subst e; exact ⟨x, hxv, hyr.trans hxr⟩
          · exact ⟨y, by omega, hyr⟩
    · refine ⟨fun m i o' => Cnt n (fun u => o'.length = n ∧ (∀ x, x < n → (gb o' x = true ↔ (gb o x = true ∨ (x < u ∧ gb ro x = true))))) m i, Cnt.start ⟨hol, fun x _ => by simp⟩, ?_⟩
      rintro m _ o' ⟨u, rfl, rfl, hu, hol', hor⟩
      refine ⟨fun hltu => ?_, fun hgeu => ?_⟩
      · have hltu : u < n := by omega
        simp only [Int.toNat_natCast]
        have hou := hor u hltu
        have st : ∀ b : Bool, (b = true ↔ (gb o u = true ∨ gb ro u = true)) → (o'.set u b).length = n ∧ (∀ x, x < n → (gb (o'.set u b) x = true ↔ (gb o x = true ∨ (x < u + 1 ∧ gb ro x = true)))) := fun b hbb => by
          refine ⟨by simpa using hol', fun x hx => ?_⟩
          rw [ydx (by omega)]
          by_cases e : x = u
          · subst e
            rw [if_pos rfl, hbb]
            constructor
            · rintro (h | h)
              · exact .inl h
              · exact .inr ⟨by omega, h⟩
            · rintro (h | h)
              · exact .inl h
              · exact .inr h.2
          · rw [if_neg e, hor x hx]
            constructor
            · rintro (h | h)
              · exact .inl h
              · exact .inr ⟨by omega, h.2⟩
            · rintro (h | h)
              · exact .inl h
              · exact .inr ⟨by omega, h.2⟩
        refine ⟨by omega, fun hx2 => Cnt.next hltu (by omega) (st true ?_), fun hx2 => ⟨by omega, Cnt.next hltu (by omega) (st _ ?_)⟩⟩
        · have := hou.1 hx2
          constructor
          · intro _; rcases this with h | h
            · exact .inl h
            · exact .inr h.2
          · intro _; rfl
        · constructor
          · intro h; exact .inr h
          · rintro (h | h)
            · exact absurd (hou.2 (.inl h)) hx2
            · exact h
      · have hun : u = n := by omega
        subst hun
        have hnew : ¬ ∃ x, x < v ∧ root (yav es) v = root (yav es) x := fun h => hx ((hseen v hlt).2 h)
        refine Cnt.next (by omega) (by omega) ⟨by omega, by omega, fun h => absurd h (by omega), fun _ => ⟨by omega, ?_⟩, hol', fun x hxn => ?_⟩
        · by_cases e0 : v = 0
          · subst e0
            have := k2 rfl
            subst this
            constructor
            · intro _ y hy; rw [show y = 0 by omega]
            · intro _; rfl
          · have h3 := k3 (by omega)
            constructor
            · intro h; omega
            · intro h; exact absurd ⟨0, by omega, h v (by omega)⟩ hnew
        · rw [hor x hxn, hseen x hxn, hro x hxn, decide_eq_true_eq]
          constructor
          · rintro (⟨y, hy, hyr⟩ | h)
            · exact ⟨y, by omega, hyr⟩
            · exact ⟨v, by omega, h.2⟩
          · rintro ⟨y, hy, hyr⟩
            by_cases e : y = v
            · subst e; exact .inr ⟨hxn, hyr⟩
            · exact .inl ⟨y, by omega, hyr⟩
  · have hvn : v = n := by omega
    subst hvn
    refine h k ?_
    rw [(k3 (by omega)).2, hcr]
theorem yhr {R : Bool → Prop} (hl : es.length ≤ 1000000000) (hg : yar n es = 0) (h : R (yc1 n es)) : ycu (n : Int) es R :=
  p_r08_Parts hl hg fun k hk => by
    have e : decide (k = 1) = yc1 n es := by rw [Bool.eq_iff_iff, decide_eq_true_eq]; exact hk
    rw [e]; exact h
end
section
variable {n q : Int} {es : List E3} {d s : List Int}
theorem p_r25_Joined {R : Int → Prop} (hl : es.length ≤ 1000000000) (h : R (ybN n es)) : ycP n es R := by
  unfold ycP
  unfold ybN at h
  refine yhk hl ⟨fun h0 => ?_, fun h0 => by rwa [if_neg h0] at h⟩
  rw [if_pos h0] at h
  have hn : 1 ≤ n ∧ n ≤ 12 := by
    unfold yar at h0
    split at h0
    · assumption
    · omega
  obtain ⟨n, rfl⟩ : ∃ n' : Nat, n = (n' : Int) := ⟨n.toNat, by omega⟩
  exact yhr hl h0 ⟨fun h1 => by rwa [if_pos h1] at h, fun h1 => by rwa [if_neg h1] at h⟩
def lowF (n : Int) (d : List Int) : Bool := decide (d.length ≤ 100 ∧ (yaD d n = 0 → ∀ j, j < d.length → -100 ≤ gi d j ∧ gi d j ≤ 100))
theorem yio : lowF n d = true ↔ d.length ≤ 100 ∧ (yaD d n = 0 → ∀ j, j < d.length → -100 ≤ gi d j ∧ gi d j ≤ 100) := by unfold lowF; exact decide_eq_true_iff
theorem p_r34_Low {R : Bool → Prop} (h : R (lowF n d)) : yik n es d R := by
  unfold yik
  have ht : (d.length ≤ 100 ∧ (yaD d n = 0 → ∀ j, j < d.length → -100 ≤ gi d j ∧ gi d j ≤ 100)) → R true := fun q => by rwa [yio.2 q] at h
  have hf : ¬ (d.length ≤ 100 ∧ (yaD d n = 0 → ∀ j, j < d.length → -100 ≤ gi d j ∧ gi d j ≤ 100)) → R false := fun q => by
    have : lowF n d = false := by rw [Bool.eq_false_iff]; exact fun q2 => q (yio.1 q2)
    rwa [this] at h
  refine ⟨fun h1 => hf (by omega), fun h1 => yhF ⟨fun h2 => ?_, fun h2 => ht ⟨by omega, fun q => absurd q h2⟩⟩⟩
  refine ⟨Cnt d.length (fun k => ∀ j, j < k → -100 ≤ gi d j ∧ gi d j ≤ 100), Cnt.start (fun j hj => absurd hj (by omega)), ?_⟩
  rintro m _ ⟨k, rfl, rfl, hk, hinv⟩
  simp only [Int.toNat_natCast]
  refine ⟨fun hlt => ⟨by omega, fun h3 => hf fun q => ?_, fun h3 => ⟨fun h4 => hf fun q => ?_, fun h4 => Cnt.next (by omega) (by omega) fun j hj => ?_⟩⟩, fun hge => ht ⟨by omega, fun _ j hj => hinv j (by omega)⟩⟩
  · have := q.2 h2 k (by omega); omega
  · have := q.2 h2 k (by omega); omega
  · by_cases e : j = k
    · subst e; omega
    · exact hinv j (by omega)
def appF (n : Nat) (es : List E3) (d s : List Int) : List Int := tab (fun v => gi d v - Lp n es (gi s) v) n
theorem ycx {n : Nat} {es : List E3} {d s : List Int} : (appF n es d s).length = n := ybB _ _
end
end Go.Proofs.Ytmeoemmemjipdaa

/- What the pure forms of the program's and the library's small functions come to. -/
namespace Go.Proofs.Ytmeoemmemjipdaa
open Go Go.Proofs.Try
set_option linter.unusedVariables false
set_option linter.unusedSimpArgs false
theorem ycW {a b : List Int} {R : Bool → Prop} (hl : a.length ≤ 1000000000) (h : R (decide (a = b))) : yaT a b R := by
  unfold yaT
  have ht : a = b → R true := fun q => by rwa [decide_eq_true q] at h
  have hf : ¬ a = b → R false := fun q => by rwa [decide_eq_false q] at h
  refine ⟨fun hln => ?_, fun hln => hf fun q => hln (by rw [q])⟩
  refine ⟨Cnt a.length (fun k => ∀ j, j < k → gi a j = gi b j), Cnt.start (fun j hj => absurd hj (by omega)), ?_⟩
  rintro m _ ⟨k, rfl, rfl, hk, hinv⟩
  simp only [Int.toNat_natCast]
  refine ⟨fun hlt => ⟨by omega, by omega, fun h1 => Cnt.next (by omega) (by omega) fun j hj => ?_, fun h1 => hf fun q => h1 (by rw [q])⟩, fun hge => ht (ydU (by omega) fun j hj => hinv j (by omega))⟩
  by_cases e : j = k
  · subst e; exact h1
  · exact hinv j (by omega)
theorem ycX {s : List Int} {R : List Int → Prop} (hl : s.length ≤ 1000000000) (h : R s) : yaU s R := by
  unfold yaU
  exact fun nil hn => ⟨fun q => by rw [hn q] at h; exact h, fun q => ⟨by omega, h⟩⟩
end Go.Proofs.Ytmeoemmemjipdaa

/- What the references' pure forms on sets come to. -/
namespace Go.Proofs.Ytmeoemmemjipdaa
open Go Go.Proofs.Try
set_option linter.unusedVariables false
set_option linter.unusedSimpArgs false
section
variable {n : Nat} {es : List E3} {d : List Int}
end
end Go.Proofs.Ytmeoemmemjipdaa

/- What the library's pure forms come to: search, minimum, order. -/
namespace Go.Proofs.Ytmeoemmemjipdaa
open Go Go.Proofs.Try
set_option linter.unusedVariables false
set_option linter.unusedSimpArgs false
theorem any_gi {p : Int → Bool} {s : List Int} : s.any p = true ↔ ∃ k, k < s.length ∧ p (gi s k) = true := by
  rw [List.any_eq_true]
  constructor
  · rintro ⟨x, hx, hp⟩
    obtain ⟨k, hk, rfl⟩ := List.getElem_of_mem hx
    exact ⟨k, hk, by rw [ya0 hk]; exact hp⟩
  · rintro ⟨k, hk, hp⟩
    exact ⟨_, gi_mem hk, hp⟩
theorem yij {s : List Int} {F : Int → (Bool → Prop) → Prop} {p : Int → Bool} {R : Int → Prop} (hl : s.length ≤ 1000000000) (hF : ∀ x (R' : Bool → Prop), R' (p x) → F x R') (h1 : ∀ k : Nat, k < s.length → p (gi s k) = true → R (k : Int)) (h2 : (∀ k, k < s.length → p (gi s k) = false) → R (-1)) : yhU s F R := by
  unfold yhU
  refine ⟨Cnt s.length (fun k => ∀ j, j < k → p (gi s j) = false), Cnt.start (fun j hj => absurd hj (by omega)), ?_⟩
  rintro m _ ⟨k, rfl, rfl, hk, hinv⟩
  simp only [Int.toNat_natCast]
  refine ⟨fun hlt => ⟨by omega, hF _ _ ⟨fun h => h1 k (by omega) h, fun h => Cnt.next (by omega) (by omega) fun j hj => ?_⟩⟩, fun hge => h2 fun j hj => hinv j (by omega)⟩
  by_cases e : j = k
  · subst e; simpa using h
  · exact hinv j (by omega)
theorem yie {s : List Int} {F : Int → (Bool → Prop) → Prop} {p : Int → Bool} {R : Bool → Prop} (hl : s.length ≤ 1000000000) (hF : ∀ x (R' : Bool → Prop), R' (p x) → F x R') (h : R (s.any p)) : yhS s F R := by
  unfold yhS
  refine yij hl hF (fun k hk hp => ?_) (fun hn => ?_)
  · rw [any_gi.2 ⟨k, hk, hp⟩] at h
    have e : decide (0 ≤ (k : Int)) = true := by simp
    rw [e]; exact h
  · have e : s.any p = false := by
      rw [Bool.eq_false_iff]
      intro q
      obtain ⟨k, hk, hp⟩ := any_gi.1 q
      rw [hn k hk] at hp; cases hp
    rw [e] at h; exact h
theorem yii {s : List Int} {F : Int → (Bool → Prop) → Prop} {p : Int → Bool} {R : Int → Prop} (hl : s.length ≤ 1000000000) (hF : ∀ x (R' : Bool → Prop), R' (p x) → F x R') (h1 : ∀ k : Nat, k < s.length → p (gi s k) = true → R (k : Int)) (h2 : (∀ k, k < s.length → p (gi s k) = false) → R (-1)) : yhT s F R := by
  unfold yhT
  refine ⟨Cnt s.length (fun k => ∀ j, j < k → p (gi s j) = false), Cnt.start (fun j hj => absurd hj (by omega)), ?_⟩
  rintro m _ ⟨k, rfl, rfl, hk, hinv⟩
  simp only [Int.toNat_natCast]
  refine ⟨fun hlt => ⟨by omega, hF _ _ ⟨fun h => h1 k (by omega) h, fun h => Cnt.next (by omega) (by omega) fun j hj => ?_⟩⟩, fun hge => h2 fun j hj => hinv j (by omega)⟩
  by_cases e : j = k
  · subst e; simpa using h
  · exact hinv j (by omega)
theorem yid {s : List Int} {F : Int → (Bool → Prop) → Prop} {p : Int → Bool} {R : Bool → Prop} (hl : s.length ≤ 1000000000) (hF : ∀ x (R' : Bool → Prop), R' (p x) → F x R') (h : R (s.any p)) : yhR s F R := by
  unfold yhR
  refine yii hl hF (fun k hk hp => ?_) (fun hn => ?_)
  · rw [any_gi.2 ⟨k, hk, hp⟩] at h
    have e : decide (0 ≤ (k : Int)) = true := by simp
    rw [e]; exact h
  · have e : s.any p = false := by
      rw [Bool.eq_false_iff]
      intro q
      obtain ⟨k, hk, hp⟩ := any_gi.1 q
      rw [hn k hk] at hp; cases hp
    rw [e] at h; exact h
theorem ygx {x : List Int} {R : Int → Prop} (hl : x.length ≤ 1000000000) (h0 : 0 < x.length) (h : ∀ m, (∃ k, k < x.length ∧ gi x k = m) → (∀ k, k < x.length → m ≤ gi x k) → R m) : ya3 x R := by
  unfold ya3
  refine ⟨True, fun _ => ⟨by omega, ?_⟩, fun q => by omega, fun _ => trivial⟩
  refine ⟨fun c m i => Cnt x.length (fun k => 1 ≤ k ∧ (∃ j, j < k ∧ gi x j = m) ∧ ∀ j, j < k → m ≤ gi x j) c i, ⟨x.length - 1, 1, rfl, rfl, h0, by omega, ⟨0, by omega, rfl⟩, fun j hj => by rw [show j = 0 by omega]; exact Int.le_refl _⟩, ?_⟩
  rintro c m _ ⟨k, rfl, rfl, hk, h1, ⟨j0, hj0, rfl⟩, hm⟩
  simp only [Int.toNat_natCast]
  refine ⟨fun hlt => ⟨by omega, Cnt.next (by omega) (by omega) ⟨by omega, ?_, fun j hj => ?_⟩⟩, fun hge => ?_⟩
  · by_cases q : gi x k < gi x j0
    · exact ⟨k, by omega, by unfold mnF; rw [if_pos q]⟩
    · exact ⟨j0, by omega, by unfold mnF; rw [if_neg q]⟩
  · rw [mnF_eq]
    by_cases e : j = k
    · subst e; omega
    · have := hm j (by omega); omega
  · have : k = x.length := by omega
    subst this
    exact h _ ⟨j0, hj0, rfl⟩ hm
end Go.Proofs.Ytmeoemmemjipdaa

/- What the pure forms of chips, graph and firing come to. -/
namespace Go.Proofs.Ytmeoemmemjipdaa
open Go Go.Proofs.Try
set_option linter.unusedVariables false
set_option linter.unusedSimpArgs false
theorem yiQ {k : Int} {R : Bool → Prop} (h : R (inF k)) : ycd k R := by
  unfold ycd
  refine ⟨fun h1 => ?_, fun h1 => ?_⟩
  · have e : decide (k ≤ 1048576) = inF k := by unfold inF; simp [h1]
    rw [e]; exact h
  · have e : false = inF k := by unfold inF; simp [h1]
    rw [e]; exact h
theorem yeG {d : List Int} {n : Int} {R : Int → Prop} (h : R (yaD d n)) : ybO d n R := by
  unfold ybO yci
  have hout : ¬ (1 ≤ n ∧ n ≤ 12) → R 2 := fun q => by
    have : yaD d n = 2 := by unfold yaD yeI; rw [if_neg q, if_neg (by omega)]
    rwa [this] at h
  refine ⟨fun q => ⟨fun q2 => absurd q2 (by omega), fun _ => hout (by omega)⟩, fun q => ⟨fun q2 => ⟨fun q3 => absurd q3 (by omega), fun _ => hout (by omega)⟩, fun q2 => ⟨fun _ => ?_, fun q3 => absurd rfl q3⟩⟩⟩
  have hc : yaD d n = if (d.length : Int) = n then (if d.all inF then 0 else 2) else 8 := by unfold yaD; rw [if_pos (by unfold yeI; rw [if_pos (by omega)])]
  rw [hc] at h
  refine ⟨fun hln => ?_, fun hln => by rwa [if_neg hln] at h⟩
  rw [if_pos hln] at h
  refine ⟨Cnt d.length (fun k => ∀ j, j < k → inF (gi d j) = true), Cnt.start (fun j hj => absurd hj (by omega)), ?_⟩
  rintro m _ ⟨k, rfl, rfl, hk, hinv⟩
  refine ⟨fun hlt => ⟨by omega, yiQ ⟨fun h1 => Cnt.next (by omega) (by omega) fun j hj => ?_, fun h1 => ?_⟩⟩, fun hge => ?_⟩
  · by_cases e : j = k
    · subst e; simpa using h1
    · exact hinv j (by omega)
  · rw [if_neg (fun hall => h1 ((yb3 inF d).1 hall _ (by omega)))] at h; exact h
  · rw [if_pos ((yb3 inF d).2 fun j hj => hinv j (by omega))] at h; exact h
theorem yfm {n v : Int} {R : Bool → Prop} (h : R (decide (0 ≤ v ∧ v < n))) : ybS n v R := by
  unfold ybS
  refine ⟨fun h1 => ?_, fun h1 => ?_⟩
  · have e : decide (v < n) = decide (0 ≤ v ∧ v < n) := by simp [h1]
    rw [e]; exact h
  · have e : false = decide (0 ≤ v ∧ v < n) := by simp [h1]
    rw [e]; exact h
theorem yfH {a b : Int} {R : Int → Prop} (h : R (cmpF a b)) : ybl a b R := by
  unfold ybl yb0
  unfold cmpF at h
  refine ⟨fun q => absurd q (by simp), fun _ => ⟨fun q => absurd q (by simp), fun _ => ⟨fun h1 => by rwa [if_pos h1] at h, fun h1 => ?_⟩⟩⟩
  rw [if_neg h1] at h
  refine ⟨fun h2 => by rwa [if_pos h2] at h, fun h2 => by rwa [if_neg h2] at h⟩
theorem p_cmp_Or2 {x y : Int} {R : Int → Prop} (h : R (orF x y)) : ycS [x, y] R := by
  unfold ycS
  unfold orF at h
  refine ⟨Cnt 2 (fun k => ∀ j, j < k → gi [x, y] j = 0), Cnt.start (fun j hj => absurd hj (by omega)), ?_⟩
  rintro m _ ⟨k, rfl, rfl, hk, hinv⟩
  simp only [Int.toNat_natCast, List.length_cons, List.length_nil]
  have hk3 : k = 0 ∨ k = 1 ∨ k = 2 := by omega
  have g0 : gi [x, y] 0 = x := rfl
  have g1 : gi [x, y] 1 = y := rfl
  have hnx : gi [x, y] k = 0 → ∀ j, j < k + 1 → gi [x, y] j = 0 := fun q j hj => by
    by_cases e : j = k
    · subst e; exact q
    · exact hinv j (by omega)
  refine ⟨fun hlt => ⟨by omega, fun q => Cnt.next (by omega) (by omega) (hnx q), fun q => ?_⟩, fun hge => ?_⟩
  · rcases hk3 with rfl | rfl | rfl
    · rw [g0] at q ⊢; rwa [if_pos q] at h
    · have h0 := hinv 0 (by omega)
      rw [g0] at h0
      rw [g1]; rwa [if_neg (fun q2 => q2 h0)] at h
    · exact absurd hlt (by omega)
  · have : k = 2 := by omega
    subst this
    have h0 := hinv 0 (by omega)
    have h1 := hinv 1 (by omega)
    rw [g0] at h0
    rw [g1] at h1
    rw [if_neg (fun q2 => q2 h0), h1] at h; exact h
theorem p_pair_compare {a b c d : Int} {R : Int → Prop} (h : R (ye0 a b c d)) : ybE a b c d R :=
  yfH (yfH (p_cmp_Or2 h))
theorem yfO {n : Int} {es : List E3} {R : Int → Prop} (hl : es.length ≤ 1000000000) (h : R (yar n es)) : yb2 n es R := by
  unfold yb2
  have hout : ¬ (1 ≤ n ∧ n ≤ 12) → R 2 := fun q => by unfold yar at h; rwa [if_neg q] at h
  refine ⟨1 ≤ n ∧ n ≤ 12, fun hn => ?_, fun q => hout (by omega), fun q => ⟨fun q2 => hout (by omega), fun q2 => ⟨by omega, by omega⟩⟩⟩
  have hg : yar n es = gchk n (-1) (-1) es := by unfold yar; rw [if_pos hn]
  rw [hg] at h
  refine ⟨fun m i a b => Cnt es.length (fun k => a = (pre es k).1 ∧ b = (pre es k).2 ∧ gchk n (-1) (-1) es = gchk n (pre es k).1 (pre es k).2 (es.drop k)) m i, Cnt.start ⟨rfl, rfl, rfl⟩, ?_⟩
  rintro m _ _ _ ⟨k, rfl, rfl, hk, rfl, rfl, hinv⟩
  simp only [Int.toNat_natCast]
  refine ⟨fun hlt => ⟨by omega, ?_⟩, fun hge => ?_⟩
  · have hlt : k < es.length := by omega
    rw [ygd hlt, ye6] at hinv
    generalize hx : ge es k = x at hinv ⊢
    have hed : R (if yfr n (pre es k).1 (pre es k).2 x = 0 then gchk n x.1 x.2.1 (es.drop (k + 1)) else yfr n (pre es k).1 (pre es k).2 x) := by rw [← hinv]; exact h
    have h2 : ¬ ((0 ≤ x.1 ∧ x.1 < n) ∧ (0 ≤ x.2.1 ∧ x.2.1 < n) ∧ 1 ≤ x.2.2 ∧ x.2.2 ≤ 50) → R 2 := fun q => by
      unfold yfr at hed; rw [if_neg q, if_neg (by omega)] at hed; exact hed
    refine ⟨(0 ≤ x.1 ∧ x.1 < n) ∧ (0 ≤ x.2.1 ∧ x.2.1 < n) ∧ 1 ≤ x.2.2 ∧ x.2.2 ≤ 50, fun hJ => ?_, yfm ⟨fun q1 => yfm ⟨fun q2 => ⟨fun q3 => h2 (by omega), fun q3 => ⟨fun q4 => h2 (by omega), fun q4 => ?_⟩⟩, fun q2 => h2 (by simp at q2; omega)⟩, fun q1 => h2 (by simp at q1; omega)⟩⟩
    · have he : yfr n (pre es k).1 (pre es k).2 x = if x.1 ≤ x.2.1 ∧ ye0 (pre es k).1 (pre es k).2 x.1 x.2.1 < 0 then 0 else 9 := by unfold yfr; rw [if_pos hJ]
      rw [he] at hed hinv
      refine ⟨fun q => ?_, fun q => p_pair_compare ⟨fun q2 => ?_, fun q2 => Cnt.next hlt (by omega) ⟨?_, ?_, ?_⟩⟩⟩
      · rw [if_neg (show ¬ (x.1 ≤ x.2.1 ∧ _) by omega), if_neg (by omega)] at hed; exact hed
      · rw [if_neg (show ¬ (x.1 ≤ x.2.1 ∧ _) by omega), if_neg (by omega)] at hed; exact hed
      · simp [pre, hx]
      · simp [pre, hx]
      · have hc : x.1 ≤ x.2.1 ∧ ye0 (pre es k).1 (pre es k).2 x.1 x.2.1 < 0 := ⟨by omega, by omega⟩
        rw [if_pos hc, if_pos rfl] at hinv
        rw [hinv]
        simp [pre, hx]
    · simp only [decide_eq_true_eq] at q1 q2
      exact ⟨q1, q2, by omega, by omega⟩
  · have hk2 : k = es.length := by omega
    rw [hinv, hk2, List.drop_length] at h
    exact h
def yit (n : Int) (es : List E3) (d : List Int) : Int := if yar n es = 0 then yaD d n else yar n es
theorem yiq {n : Int} {es : List E3} {d : List Int} {R : Int → Prop} (hl : es.length ≤ 1000000000) (h : R (yit n es d)) : yhX n es d R := by
  unfold yhX
  unfold yit at h
  exact yfO hl ⟨fun q => yeG (by rwa [if_pos q] at h), fun q => by rwa [if_neg q] at h⟩
theorem p_firing_Check {n : Int} {es : List E3} {d : List Int} {R : Int → Prop} (hl : es.length ≤ 1000000000) (h : R (yit n es d)) : yh5 n es d R := yiq hl h
theorem W_snoc (x : E3) (v u : Nat) : ∀ l : List E3, W (l ++ [x]) v u = W l v u + w1 x v u
  | [] => by rw [List.nil_append, ydG, W_nil]; omega
  | y :: t => by rw [List.cons_append, ydG, ydG, W_snoc x v u t]; omega
def e1 (x : E3) (s : Nat → Int) (v : Nat) : Int := (if (v : Int) = x.1 then x.2.2 * (s x.1.toNat - s x.2.1.toNat) else 0) - (if (v : Int) = x.2.1 then x.2.2 * (s x.1.toNat - s x.2.1.toNat) else 0)
theorem Lp_snoc {n : Nat} {l : List E3} {x : E3} {s : Nat → Int} {v : Nat} (hx : 0 ≤ x.1 ∧ x.1 < n ∧ 0 ≤ x.2.1 ∧ x.2.1 < n) (hv : v < n) : Lp n (l ++ [x]) s v = Lp n l s v + e1 x s v := by
  have h1 : Lp n (l ++ [x]) s v = Lp n l s v + sm n (fun u => w1 x v u * (s v - s u)) := by
    unfold Lp
    rw [← ybH]
    refine yat fun u _ => ?_
    rw [W_snoc, Int.add_mul]
  rw [h1]
  congr 1
  obtain ⟨a, ha⟩ : ∃ a : Nat, x.1 = a := ⟨x.1.toNat, by omega⟩
  obtain ⟨b, hb⟩ : ∃ b : Nat, x.2.1 = b := ⟨x.2.1.toNat, by omega⟩
  unfold e1
  rw [ha, hb, Int.toNat_natCast, Int.toNat_natCast]
  have ean : a < n := by omega
  have ebn : b < n := by omega
  by_cases hab : a = b
  · subst hab
    rw [show (fun u => w1 x v u * (s v - s u)) = fun _ => 0 from ?_, ybh]
    · omega
    · funext u
      unfold w1
      rw [if_neg (by omega)]; omega
  · by_cases e1 : v = a
    · subst e1
      rw [if_pos rfl, if_neg (by omega), show (fun u => w1 x v u * (s v - s u)) = fun u => if u = b then x.2.2 * (s v - s b) else 0 from ?_, ydi _ ebn]
      · omega
      · funext u
        unfold w1
        by_cases e2 : u = b
        · subst e2; rw [if_pos ⟨by omega, .inl ⟨ha, hb⟩⟩, if_pos rfl]
        · rw [if_neg (by omega), if_neg e2]; omega
    · by_cases e3 : v = b
      · subst e3
        rw [if_neg (by omega), if_pos rfl, show (fun u => w1 x v u * (s v - s u)) = fun u => if u = a then x.2.2 * (s v - s a) else 0 from ?_, ydi _ ean]
        · rw [show s a - s v = -(s v - s a) by omega, Int.mul_neg]; omega
        · funext u
          unfold w1
          by_cases e2 : u = a
          · subst e2; rw [if_pos ⟨by omega, .inr ⟨ha, hb⟩⟩, if_pos rfl]
          · rw [if_neg (by omega), if_neg e2]; omega
      · rw [if_neg (by omega), if_neg (by omega), show (fun u => w1 x v u * (s v - s u)) = fun _ => 0 from ?_, ybh]
        · omega
        · funext u
          unfold w1
          rw [if_neg (by omega)]; omega
theorem flow_bound {x : E3} {s : Nat → Int} (hm : 1 ≤ x.2.2 ∧ x.2.2 ≤ 50) (ha : -2000000000 ≤ s x.1.toNat ∧ s x.1.toNat ≤ 2000000000) (hb : -2000000000 ≤ s x.2.1.toNat ∧ s x.2.1.toNat ≤ 2000000000) : -200000000000 ≤ x.2.2 * (s x.1.toNat - s x.2.1.toNat) ∧ x.2.2 * (s x.1.toNat - s x.2.1.toNat) ≤ 200000000000 := by
  generalize x.2.2 = m at hm ⊢
  have h : -4000000000 ≤ s x.1.toNat - s x.2.1.toNat ∧ s x.1.toNat - s x.2.1.toNat ≤ 4000000000 := by omega
  generalize s x.1.toNat - s x.2.1.toNat = y at h ⊢
  have := Int.natAbs_mul m y
  have h4 : m.natAbs ≤ 50 := by omega
  have h5 : y.natAbs ≤ 4000000000 := by omega
  have := Nat.mul_le_mul h4 h5
  omega
theorem yfA {n : Nat} {es : List E3} (hE : EOk n es) {s : Nat → Int} (hs : ∀ j, j < n → -2000000000 ≤ s j ∧ s j ≤ 2000000000) {v : Nat} (hv : v < n) : ∀ k, k ≤ es.length → -(400000000000 * (k : Int)) ≤ Lp n (es.take k) s v ∧ Lp n (es.take k) s v ≤ 400000000000 * k
  | 0, _ => by
    have : Lp n [] s v = 0 := by
      unfold Lp
      rw [show (fun u => W [] v u * (s v - s u)) = fun _ => 0 from ?_, ybh]
      funext u; rw [W_nil]; omega
    rw [List.take_zero, this]; omega
  | k + 1, hk => by
    have ih := yfA hE hs hv k (by omega)
    have hx := hE _ (yhg (show k < es.length by omega))
    have hf := flow_bound (x := ge es k) (s := s) (by omega) (hs _ (by omega)) (hs _ (by omega))
    have e : es.take (k + 1) = es.take k ++ [ge es k] := by rw [List.take_add_one, List.getElem?_eq_getElem (by omega), ycU (by omega)]; rfl
    rw [e, Lp_snoc (by omega) hv]
    unfold e1
    split <;> split <;> omega
theorem Lp_nil {n : Nat} {s : Nat → Int} {v : Nat} : Lp n [] s v = 0 := by
  unfold Lp
  rw [show (fun u => W [] v u * (s v - s u)) = fun _ => 0 from ?_, ybh]
  funext u; rw [W_nil]; omega
theorem edge_step {n : Nat} {es : List E3} (hE : EOk n es) {d s : List Int} {k : Nat} (hk : k < es.length) :
    ((appF n (es.take k) d s).set (ge es k).1.toNat (gi (appF n (es.take k) d s) (ge es k).1.toNat - (ge es k).2.2 * (gi s (ge es k).1.toNat - gi s (ge es k).2.1.toNat))).set (ge es k).2.1.toNat
      (gi ((appF n (es.take k) d s).set (ge es k).1.toNat (gi (appF n (es.take k) d s) (ge es k).1.toNat - (ge es k).2.2 * (gi s (ge es k).1.toNat - gi s (ge es k).2.1.toNat))) (ge es k).2.1.toNat + (ge es k).2.2 * (gi s (ge es k).1.toNat - gi s (ge es k).2.1.toNat)) = appF n (es.take (k + 1)) d s := by
  have hx := hE _ (yhg hk)
  have e : es.take (k + 1) = es.take k ++ [ge es k] := by rw [List.take_add_one, List.getElem?_eq_getElem hk, ycU hk]; rfl
  have hal : (appF n (es.take k) d s).length = n := ycx
  refine ydU (by rw [List.length_set, List.length_set, ycx, ycx]) fun i hi => ?_
  rw [List.length_set, List.length_set, hal] at hi
  have h1 : ∀ j, j < n → gi (appF n (es.take k) d s) j = gi d j - Lp n (es.take k) (gi s) j := fun j hj => ydm _ hj
  have h2 : gi (appF n (es.take (k + 1)) d s) i = gi d i - (Lp n (es.take k) (gi s) i + e1 (ge es k) (gi s) i) := by
    rw [← Lp_snoc (by omega) hi, ← e]; exact ydm _ hi
  rw [h2, ybu (by rw [List.length_set, hal]; omega), ybu (by rw [hal]; omega), ybu (by rw [hal]; omega)]
  unfold e1
  by_cases q1 : i = (ge es k).2.1.toNat
  · rw [if_pos q1, if_pos (show (i : Int) = (ge es k).2.1 by omega)]
    by_cases q2 : (ge es k).2.1.toNat = (ge es k).1.toNat
    · rw [if_pos q2, if_pos (show (i : Int) = (ge es k).1 by omega), ← q2, ← q1, h1 i hi]; omega
    · rw [if_neg q2, if_neg (show ¬ (i : Int) = (ge es k).1 by omega), ← q1, h1 i hi]; omega
  · rw [if_neg q1, if_neg (show ¬ (i : Int) = (ge es k).2.1 by omega)]
    by_cases q2 : i = (ge es k).1.toNat
    · rw [if_pos q2, if_pos (show (i : Int) = (ge es k).1 by omega), ← q2, h1 i hi]; omega
    · rw [if_neg q2, if_neg (show ¬ (i : Int) = (ge es k).1 by omega), h1 i hi]; omega
section
variable {n : Nat} {es : List E3} {d s : List Int}
theorem app_start (hdl : d.length = n) : d = appF n (es.take 0) d s := by
  refine eq_tab hdl _ fun i _ => ?_
  rw [List.take_zero, Lp_nil]; omega
theorem p_firing_moved {R : List Int → Prop} (hl : es.length ≤ 1000) (hg : yar n es = 0) (hdl : d.length = n) (hd : ∀ j, j < n → -1000000000000000 ≤ gi d j ∧ gi d j ≤ 1000000000000000) (hsl : s.length = n) (hs : ∀ j, j < n → -2000000000 ≤ gi s j ∧ gi s j ≤ 2000000000) (h : R (appF n es d s)) : yh2 (n : Int) es d s R := by
  obtain ⟨hE, hn1, hn12⟩ := yaV hg
  unfold yh2
  refine ycX (by omega) ?_
  refine ⟨fun m v out => Cnt es.length (fun k => out = appF n (es.take k) d s) m v, Cnt.start (app_start hdl), ?_⟩
  rintro m _ out ⟨k, rfl, rfl, hk, rfl⟩
  simp only [Int.toNat_natCast]
  refine ⟨fun hlt => ⟨by omega, ?_⟩, fun hge => ?_⟩
  · have hlt : k < es.length := by omega
    have hx := hE _ (yhg hlt)
    have hf := flow_bound (x := ge es k) (s := gi s) (by omega) (hs _ (by omega)) (hs _ (by omega))
    have ha := hs (ge es k).1.toNat (by omega)
    have hb := hs (ge es k).2.1.toNat (by omega)
    have hal : (appF n (es.take k) d s).length = n := ycx
    have h1 : ∀ j, j < n → gi (appF n (es.take k) d s) j = gi d j - Lp n (es.take k) (gi s) j := fun j hj => ydm _ hj
    have hbd : ∀ j, j < n → -2000000000000000 ≤ gi (appF n (es.take k) d s) j ∧ gi (appF n (es.take k) d s) j ≤ 2000000000000000 := fun j hj => by
      have := yfA hE hs hj k (by omega)
      have := hd j hj
      rw [h1 j hj]; omega
    have b1 := hbd (ge es k).1.toNat (by omega)
    have b2 := hbd (ge es k).2.1.toNat (by omega)
    unfold yhW
    refine ⟨by omega, by omega, i64 (by omega), i64 (by omega), by omega, i64 (by omega), by rw [List.length_set]; omega, ?_, Cnt.next hlt (by omega) (edge_step hE hlt)⟩
    rw [ybu (by omega)]
    split
    · exact i64 (by omega)
    · exact i64 (by omega)
  · have hk2 : k = es.length := by omega
    rw [hk2, List.take_length]; exact h
theorem yiz {R : List Int → Int → Prop} (hl : d.length ≤ 1000000000) (h1 : d.all inF = true → R d 0) (h2 : d.all inF = false → R [] 11) : yhY d R := by
  unfold yhY
  refine yid (p := fun x => !inF x) hl (fun x R' hR => ?_) ⟨fun q => h2 ?_, fun q => h1 ?_⟩
  · unfold yhZ
    unfold inF at hR
    refine ⟨fun q => ?_, fun q => ?_⟩
    · rw [decide_eq_false (by omega)] at hR; exact hR
    · have e : decide (1048576 < x) = !decide (-1048576 ≤ x ∧ x ≤ 1048576) := by
        by_cases c : 1048576 < x
        · rw [decide_eq_true c, decide_eq_false (by omega)]; rfl
        · rw [decide_eq_false c, decide_eq_true (by omega)]; rfl
      rw [e]; exact hR
  · rw [Bool.eq_false_iff]
    intro hall
    obtain ⟨x, hx, hp⟩ := List.any_eq_true.1 q
    rw [List.all_eq_true.1 hall x hx] at hp; cases hp
  · rw [List.all_eq_true]
    intro x hx
    cases hi : inF x with
    | true => rfl
    | false => exact absurd (List.any_eq_true.2 ⟨x, hx, by rw [hi]; rfl⟩) q
theorem p_firing_Apply {R : List Int → Int → Prop} (hl : es.length ≤ 1000) (hg : yar n es = 0) (hd : yaD d n = 0) (hs : yaD s n = 0) (h1 : (appF n es d s).all inF = true → R (appF n es d s) 0) (h2 : (appF n es d s).all inF = false → R [] 11) : yh1 (n : Int) es d s R := by
  obtain ⟨hdl, hn1, hn12, hdb⟩ := ycq hd
  obtain ⟨hsl, -, -, hsb⟩ := ycq hs
  unfold yh1
  have f1 : yit n es d = 0 := by unfold yit; rw [if_pos hg, hd]
  have f2 : yit n es s = 0 := by unfold yit; rw [if_pos hg, hs]
  refine yiq (by omega) ⟨fun _ => p_firing_Check (by omega) ⟨fun _ => ?_, fun q => absurd f2 q⟩, fun q => absurd f1 q⟩
  exact p_firing_moved hl hg hdl (fun j hj => by have := hdb j hj; omega) hsl (fun j hj => by have := hsb j hj; omega) (yiz (by rw [ycx]; omega) h1 h2)
end
end Go.Proofs.Ytmeoemmemjipdaa

/- Words for the laws of layer 34. -/
namespace Go.Proofs.Ytmeoemmemjipdaa
open Go Go.Proofs.Try
set_option linter.unusedVariables false
set_option linter.unusedSimpArgs false
structure Right (n : Int) (es : List E3) (d : List Int) : Prop where
  few : yhq n es 6 9 = true
  joined : ybN n es = 0
  chips : yaD d n = 0
  low : lowF n d = true
theorem Right.nat {n : Nat} {es : List E3} {d : List Int} (h : Right (n : Int) es d) : d.length = n ∧ ∀ j, j < n → -100 ≤ gi d j ∧ gi d j ≤ 100 := by
  have hl := (ycq h.chips).1
  refine ⟨hl, fun j hj => (yio.1 h.low).2 h.chips j (by omega)⟩
end Go.Proofs.Ytmeoemmemjipdaa

/- What the pure forms of 'effective' and of its reference come to. -/
namespace Go.Proofs.Ytmeoemmemjipdaa
open Go Go.Proofs.Try
set_option linter.unusedVariables false
set_option linter.unusedSimpArgs false
theorem win_dg {n : Nat} {es : List E3} {d : List Int} (hd : d.length = n) (h : Win n es d) : 0 ≤ dg d := by
  obtain ⟨s, hs⟩ := h
  have h1 : 0 ≤ sm n (fun v => gi d v - Lp n es s v) := yaR hs
  rw [yeR, ygS] at h1
  unfold dg
  rw [hd]; omega
theorem conn_all {n : Nat} {es : List E3} (hg : yar n es = 0) (hc : yc1 n es = true) : ∀ q, q < n → Conn n es q := fun q hq => by
  obtain ⟨hE, hn1, hn12⟩ := yaV hg
  exact (ygO hE hn1 hn12 hq).1 hc
def yee (d : List Int) (v : Nat) (k : Int) : List Int := d.set v (gi d v + k)
theorem yd4 (d : List Int) (v : Nat) (k : Int) : (yee d v k).length = d.length := by simp [yee]
theorem ydy {d : List Int} {v : Nat} (hv : v < d.length) (k : Int) (i : Nat) : gi (yee d v k) i = if i = v then gi d v + k else gi d i := by unfold yee; rw [ybu hv]
theorem dg_addAt {d : List Int} {v : Nat} (hv : v < d.length) (k : Int) : dg (yee d v k) = dg d + k := by
  unfold dg
  rw [yd4]
  have h2 : sm d.length (gi (yee d v k)) = sm d.length (fun i => gi d i + if i = v then k else 0) := yat fun i hi => by
    rw [ydy hv]
    show _ = gi d i + if i = v then k else 0
    split
    · rename_i e; rw [e]
    · omega
  rw [h2, ybH, ydi k hv]
theorem given0 {n : Int} {es : List E3} {d : List Int} : yaL n es 0 d = if ybN n es = 0 then yaD d n else ybN n es := by
  unfold yaL ybN
  by_cases h1 : yar n es = 0
  · rw [if_pos h1, if_pos h1]
    have hn : 1 ≤ n := by
      unfold yar at h1
      split at h1
      · omega
      · omega
    by_cases h2 : yc1 n es = true
    · rw [if_pos h2, if_pos h2, if_pos rfl, if_pos (by omega)]
    · rw [if_neg h2, if_neg h2, if_neg (by omega)]
  · rw [if_neg h1, if_neg h1, if_neg h1]
theorem p_r35_Given {n : Int} {es : List E3} {d : List Int} {R : Int → Prop} (hl : es.length ≤ 1000000000) (h : R (yaL n es 0 d)) : ydf n es d R := by
  unfold ydf
  rw [given0] at h
  exact p_r25_Joined hl ⟨fun h0 => yhF (by rwa [if_pos h0] at h), fun h0 => by rwa [if_neg h0] at h⟩
def LossOk (n : Int) (es : List E3) (q : Int) (d s : List Int) (e : Int) : Prop :=
  (yaL n es q d ≠ 0 ∧ e = yaL n es q d) ∨ (yaL n es q d = 0 ∧ yaD s n ≠ 0 ∧ e = yaD s n) ∨
  (yaL n es q d = 0 ∧ yaD s n = 0 ∧ (Red n.toNat es q.toNat (appF n.toNat es d s) ∧ gi (appF n.toNat es d s) q.toNat < 0) ∧ e = 0) ∨
  (yaL n es q d = 0 ∧ yaD s n = 0 ∧ ¬ (Red n.toNat es q.toNat (appF n.toNat es d s) ∧ gi (appF n.toNat es d s) q.toNat < 0) ∧ e = 16)
theorem LossOk.eq {n : Int} {es : List E3} {q : Int} {d s : List Int} {e e' : Int} (h : LossOk n es q d s e) (h' : LossOk n es q d s e') : e = e' := by
  rcases h with h | h | h | h <;> rcases h' with h' | h' | h' | h' <;> first | (exact absurd h'.2.2.1 h.2.2.1) | (exact absurd h.2.2.1 h'.2.2.1) | (rw [h.2.2.2, h'.2.2.2]; done) | (rw [h.2, h'.2]; done) | (exact absurd h'.1 h.1) | (exact absurd h.1 h'.1) | (rw [h.2.2, h'.2.2]; done) | (exact absurd h'.2.1 h.2.1) | (exact absurd h.2.1 h'.2.1)
end Go.Proofs.Ytmeoemmemjipdaa

/- What Winnable, Price and Needy come to, and their references. -/
namespace Go.Proofs.Ytmeoemmemjipdaa
open Go Go.Proofs.Try
set_option linter.unusedVariables false
set_option linter.unusedSimpArgs false
theorem ye4 {n : Nat} {es : List E3} {q : Nat} {d : List Int} (h : yaL n es q d = 0) : EOk n es ∧ 1 ≤ n ∧ n ≤ 12 ∧ yar n es = 0 ∧ yc1 n es = true ∧ q < n ∧ d.length = n ∧ yaD d n = 0 := by
  obtain ⟨k1, k2, k3, k4, k5⟩ := ycp h
  obtain ⟨hE, hn1, hn12⟩ := yaV k1
  exact ⟨hE, hn1, hn12, k1, k2, by omega, (ycq k5).1, k5⟩
theorem ydu {n : Int} {es : List E3} {d : List Int} {R : Bool → List Int → List Int → Int → Prop} (hS : Small n es d ∨ RedIn n es 0 d) (hdl : d.length ≤ 1000000000) (h0 : yaL n es 0 d ≠ 0 → R false [] [] (yaL n es 0 d))
    (h1 : yaL n es 0 d = 0 → ∀ r s, Reduces n.toNat es 0 d r s → ∀ b, (b = true ↔ Win n.toNat es d) → R b r s 0) : yaQ n es d R := by
  unfold yaQ
  refine ⟨hS, hdl, fun h => ⟨fun q => absurd q h, fun _ => h0 h⟩, fun h r s hr hrl hsl => ?_⟩
  obtain ⟨n, rfl⟩ : ∃ n' : Nat, n = (n' : Int) := ⟨n.toNat, by have := ycp h; omega⟩
  obtain ⟨hE, hn1, hn12, hg, hc, -, hd, -⟩ := ye4 (q := 0) h
  have e0 : (0 : Int).toNat = 0 := rfl
  simp only [Int.toNat_natCast, e0] at hr hrl hsl h1 ⊢
  refine ⟨fun _ => ⟨by omega, h1 h r s hr _ ?_⟩, fun q => absurd trivial q⟩
  rw [decide_eq_true_eq, yjm hE (by omega) hr.red hr.lp]
structure PriceOk (n : Nat) (es : List E3) (d : List Int) (v : Nat) (k : Int) : Prop where
  pos : 0 ≤ k
  few : k = 0 ∨ k ≤ 18 - dg d
  iff : ∀ j, 0 ≤ j → (Win n es (yee d v j) ↔ k ≤ j)
theorem PriceOk.eq {n : Nat} {es : List E3} {d : List Int} {v : Nat} {k k' : Int} (h : PriceOk n es d v k) (h' : PriceOk n es d v k') : k = k' := by
  have h1 := h.pos
  have h2 := h'.pos
  have h3 := (h'.iff k h1).1 ((h.iff k h1).2 (Int.le_refl _))
  have h4 := (h.iff k' h2).1 ((h'.iff k' h2).2 (Int.le_refl _))
  omega
theorem tot_few {n : Nat} {es : List E3} (hE : EOk n es) (hn : 1 ≤ n) (h12 : n ≤ 12) (hs : (es.map (·.2.2)).sum ≤ 9) : tot n es ≤ 18 := by
  have := tot_le hE hn h12; omega
theorem dg_lp {n : Nat} {es : List E3} {x d : List Int} {s : Nat → Int} (hx : x.length = n) (hd : d.length = n) (h : ∀ v, v < n → gi x v = gi d v - Lp n es s v) : dg x = dg d := by
  unfold dg
  rw [hx, hd, yat (g := fun v => gi d v - Lp n es s v) h, yeR, ygS]; omega
def castL (l : List Nat) : List Int := l.map fun v : Nat => (v : Int)
def yhD (n : Nat) (es : List E3) (d : List Int) (out : List Int) : Prop := ∃ f : Nat → Bool, (∀ v, v < n → (f v = true ↔ Win n es (yee d v 1))) ∧ out = castL ((List.range n).filter f)
theorem yhD.eq {n : Nat} {es : List E3} {d o o' : List Int} (h : yhD n es d o) (h' : yhD n es d o') : o = o' := by
  obtain ⟨f, hf, rfl⟩ := h
  obtain ⟨f', hf', rfl⟩ := h'
  congr 1
  refine List.filter_congr fun v hv => ?_
  rw [List.mem_range] at hv
  rw [Bool.eq_iff_iff, hf v hv, hf' v hv]
end Go.Proofs.Ytmeoemmemjipdaa

/- What firing a set comes to. -/
namespace Go.Proofs.Ytmeoemmemjipdaa
open Go Go.Proofs.Try
set_option linter.unusedVariables false
set_option linter.unusedSimpArgs false
section
variable {n : Nat} {es : List E3} {d : List Int} {set : List Int}
end
end Go.Proofs.Ytmeoemmemjipdaa

/- Words for the laws of layer 36: what its small functions come to; the chapter's examples come out right. -/
namespace Go.Proofs.Ytmeoemmemjipdaa
open Go Go.Proofs.Try
set_option linter.unusedVariables false
set_option linter.unusedSimpArgs false
theorem red_of_dec {n : Nat} {es : List E3} {q : Nat} {d : List Int} (hq : q < n) (h1 : ∀ v, v < n → v ≠ q → 0 ≤ gi d v) (h2 : ∀ m, m < 2 ^ n → 1 ≤ m → m.testBit q = false → ¬ (∀ v, v < n → m.testBit v = true → outS n es m.testBit v ≤ gi d v)) : Red n es q d :=
  (yha hq h1).1 fun m a b c => h2 m b a c
end Go.Proofs.Ytmeoemmemjipdaa

/- What the pure forms of sums, of equivalence and of lists of divisors come to. -/
namespace Go.Proofs.Ytmeoemmemjipdaa
open Go Go.Proofs.Try
set_option linter.unusedVariables false
set_option linter.unusedSimpArgs false
theorem yiT {n : Nat} {l : List (List Int)} {R : Int → Prop} (hl : l.length ≤ 1000) (h0 : 0 < l.length) (hd : ∀ k, k < l.length → (gx l k).length = n ∧ yaD (gx l k) n = 0) (h : R 0) : ydb l R := by
  unfold ydb
  refine ⟨Cnt l.length (fun _ => True), Cnt.start trivial, ?_⟩
  rintro m _ ⟨k, rfl, rfl, hk, -⟩
  simp only [Int.toNat_natCast]
  refine ⟨fun hlt => ⟨by omega, yeG ⟨fun _ => Cnt.next (by omega) (by omega) trivial, fun q => absurd ?_ q⟩⟩, fun hge => ?_⟩
  · rw [(hd k (by omega)).1]; exact (hd k (by omega)).2
  · refine ⟨Cnt l.length (fun _ => True), Cnt.start trivial, ?_⟩
    rintro m _ ⟨k2, rfl, rfl, hk2, -⟩
    simp only [Int.toNat_natCast, Int.toNat_zero]
    exact ⟨fun hlt => ⟨by omega, by omega, fun _ => Cnt.next (by omega) (by omega) trivial, fun q => absurd (by rw [(hd k2 (by omega)).1, (hd 0 h0).1]) q⟩, fun hge => h⟩
theorem sum_dg : ∀ (d : List Int), d.sum = dg d := by
  have key : ∀ (l : List Int) (n : Nat), n ≤ l.length → sm n (gi l) = (l.take n).sum := fun l n => by
    induction n with
    | zero => intro _; simp [sm]
    | succ n ih =>
      intro h
      rw [sm, ih (by omega), List.take_add_one, List.sum_append, ya0 (by omega : n < l.length), List.getElem?_eq_getElem (by omega : n < l.length)]
      simp
  intro d
  unfold dg
  rw [key d d.length (Nat.le_refl _), List.take_length]
theorem gi_drop (d : List Int) (k i : Nat) : gi (d.drop k) i = gi d (k + i) := by unfold gi; simp
theorem dg_entry {d : List Int} (h : ∀ a ∈ d, 0 ≤ a) {j : Nat} (hj : j < d.length) : 0 ≤ gi d j ∧ gi d j ≤ d.sum := by
  have h1 : ∀ i, i < d.length → 0 ≤ gi d i := fun i hi => h _ (gi_mem hi)
  refine ⟨h1 j hj, ?_⟩
  rw [sum_dg]
  exact yhP h1 j hj
theorem ygv (n k : Nat) : (ycH (n + 1) k).length ≤ (k + 1) ^ n := by
  induction n generalizing k with
  | zero => simp [ycH]
  | succ n ih =>
    show ((List.range (k + 1)).flatMap fun i => (ycH (n + 1) (k - i)).map ((i : Int) :: ·)).length ≤ _
    rw [List.length_flatMap]
    have h : ∀ (L : List Nat), (∀ i ∈ L, i ≤ k) → (L.map fun i => ((ycH (n + 1) (k - i)).map ((i : Int) :: ·)).length).sum ≤ L.length * (k + 1) ^ n := fun L => by
      induction L with
      | nil => simp
      | cons a L ihL =>
        intro hL
        have h1 := ihL fun i hi => hL i (by simp [hi])
        have h2 := ih (k - a)
        have h3 : (k - a + 1) ^ n ≤ (k + 1) ^ n := Nat.pow_le_pow_left (by omega) n
        simp only [List.map_cons, List.sum_cons, List.length_cons, List.length_map] at h1 ⊢
        rw [Nat.add_mul, Nat.one_mul]
        omega
    have := h (List.range (k + 1)) fun i hi => by rw [List.mem_range] at hi; omega
    rw [List.length_range] at this
    rwa [Nat.pow_succ, Nat.mul_comm]
end Go.Proofs.Ytmeoemmemjipdaa
