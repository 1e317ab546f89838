/- Texts laid together: Pa, SpA, Bor, Gen, Pb, Pt, Pe, Pg, PEa, SpB, SpC, SpT, SpE, SpG, L34, SpW, SpP, PEb, SpF, L36, SpN, RkM, Sys, Cmp, Pd, PRa, PRb, RkF, RkG, RkW, Lw36, PSr, SpD, RkR, L38, Big, SpS. -/
import Derived.Test.YtjepipbkiadcpaaGreatK4
set_option linter.unusedVariables false
set_option linter.unusedSimpArgs false
set_option linter.unusedSectionVars false
/- Pure forms of functions, made by program (pf.py), each with the proof that the code does so. -/
namespace Go.Proofs.YtjepipbkiadcpaaGreat
open Go Go.RowKit Go.Shelf Go.Proofs.Tryz
set_option maxRecDepth 100000
set_option maxHeartbeats 8000000
def ycZ(g:Int)(g2:List E3)(v:Int)(R:Bool→Prop):Prop :=
((0≤v →
R (decide (v<g))) ∧
(¬(0≤v) →
R false))
theorem ygd{O:Nat→Prop}{w:World}{g g2 v Ag lg cg}{R:Bool→Prop}(h:ycZ g g2 v R)(hO:∀ k,O k→k<w.heap.size)(hA0:(FP.sl c3 Ag lg cg g2).P O w) :
    Calls Tryz.prog 88 #[(.agg #[(ii g),(.slice Ag lg cg)]),(ii v)] w fun e w'=>∃ r,e = .returned (.bool (r))∧Sep w no O w' (rl [])∧R r:=by
  unfold ycZ at h;have hS:Sep w no O w (rl [Res.ro (FP.sl c3 Ag lg cg g2)]):=Sep.startl hO [(FP.sl c3 Ag lg cg g2)] ⟨hA0,trivial⟩;refine yak (l:=[(.agg #[(ii g),(.slice Ag lg cg)]),(ii v)]) func88 rfl ntmps88 zY (zs (zn (ybi (v:=(.agg #[(ii g),(.slice Ag lg cg)])) rfl ?_)));intro g3 w2 hN;replace hS:Sep w no O w2 (stl _ 1 (Res.box 24 g3 [(ii g),(.slice Ag lg cg)])):=hS.new 1 rfl hN;clear hN;refine zb (zQ (.bool (false)) (yaa (zs (zM (ii v) (zq (v_geq rfl rfl) (zM (.bool (decide (0≤v))) ?_))))));by_cases hp:0≤v
  · replace h:=h.1 hp;exact zW rfl rfl (zT hp) (zm (ii v)) (zW rfl rfl (zT hp) (yae rfl underlying24 rfl yab) (zW rfl rfl (zT hp) (zl underlying3 (Row.cell (hS.bx 1 rfl) (i:=0) rfl)) (zW rfl rfl (zT hp) zL (zq (yau (v:=(.bool (decide (v<g)))) (zT hp) rfl) (zQ (.bool (decide (v<g))) (yaa (yai rfl rfl ⟨_,rfl,(hS.sel []),h⟩)))))))
  · replace h:=h.2 hp;exact zV rfl rfl (zF hp) (zV rfl rfl (zF hp) (zV rfl rfl (zF hp) (zV rfl rfl (zF hp) (zq (yaw (v:=(.bool (false))) (zF hp) rfl) (zQ (.bool (false)) (yaa (yai rfl rfl ⟨_,rfl,(hS.sel []),h⟩)))))))
def ycH(g:Int)(g2:List E3)(a:Int)(b:Int)(R:Int→Prop):Prop :=
(∃ I2:Nat→Int→Prop,(∃ m0,I2 m0 0)∧∀ m2 i,I2 m2 i → 
((i<(g2.length:Int) →
((0≤i∧i<(g2.length:Int)) ∧
((((ge g2 i.toNat).1)=(mnF a b) →
((((ge g2 i.toNat).2.1)=(mxF a b) →
R ((ge g2 i.toNat).2.2)) ∧
(¬(((ge g2 i.toNat).2.1)=(mxF a b)) →
(In64 (i+1) ∧
∃ m3,m3<m2∧I2 m3 (i+1))))) ∧
(¬(((ge g2 i.toNat).1)=(mnF a b)) →
(In64 (i+1) ∧
∃ m4,m4<m2∧I2 m4 (i+1)))))) ∧
(¬(i<(g2.length:Int)) →
R 0)))
theorem yiA{O:Nat→Prop}{w:World}{g g2 a b Ag lg cg}{R:Int→Prop}(h:ycH g g2 a b R)(hO:∀ k,O k→k<w.heap.size)(hA0:(FP.sl c3 Ag lg cg g2).P O w) :
    Calls Tryz.prog 164 #[(.agg #[(ii g),(.slice Ag lg cg)]),(ii a),(ii b)] w fun e w'=>∃ r,e = .returned (ii r)∧Sep w no O w' (rl [])∧R r:=by
  unfold ycH at h;have hS:Sep w no O w (rl [Res.ro (FP.sl c3 Ag lg cg g2)]):=Sep.startl hO [(FP.sl c3 Ag lg cg g2)] ⟨hA0,trivial⟩;refine yak (l:=[(.agg #[(ii g),(.slice Ag lg cg)]),(ii a),(ii b)]) func164 rfl ntmps164 zY (zs (zn (ybi (v:=(.agg #[(ii g),(.slice Ag lg cg)])) rfl ?_)));intro g3 w2 hN;replace hS:Sep w no O w2 (stl _ 1 (Res.box 24 g3 [(ii g),(.slice Ag lg cg)])):=hS.new 1 rfl hN;clear hN;refine zb (zQ (ii 0) (yaa (yac (zs (zQ (ii 0) (yaa (yah ?_)))))));obtain ⟨I2,⟨m0,h0⟩,hr⟩:=h;refine yaA (fun m E ds w'=>∃ i,I2 m i∧ds=[]∧E 1=(ii a)∧E 2=(ii b)∧E 3=(Value.pointer (some ⟨g3,0,none⟩))∧E 7=(ii i)∧Sep w no O w' (rl [Res.box 24 g3 [(ii g),(.slice Ag lg cg)],Res.ro (FP.sl c3 Ag lg cg g2)])) m0 ⟨_,h0,rfl,rfl,rfl,rfl,rfl,(hS.sel [1,0])⟩ ?_;clear h0 hS;rintro m2 E ds w3 ⟨i,h,rfl,H1,H2,H3,H7,hS⟩ ag;replace h:=hr m2 i h;clear hr;refine yac (zs (zq (yad H7) (zq (yae H3 underlying24 rfl ydx) (zq (zl underlying22 (Row.cell (hS.bx 0 rfl) (i:=1) rfl)) (zq (ybw (n:=g2.length) rfl underlying22 (ybh (hS.rdr 1 rfl))) (zq zL (yaa ?_)))))));by_cases hp:i<(g2.length:Int)
  · replace h:=h.1 hp;refine zc hp (yaf (yac (yah (zs (zq (yae H3 underlying24 rfl ydx) (zq (zl underlying22 (Row.cell (hS.bx 0 rfl) (i:=1) rfl)) (zq (yad H7) ?_)))))));obtain ⟨hx,h⟩:=h;refine zq (zi underlying22 ya0 (yaU (hS.rdr 1 rfl) hx)) (zq (yao (vs:=[(ii ((ge g2 i.toNat).1)),(ii ((ge g2 i.toNat).2.1)),(ii ((ge g2 i.toNat).2.2))]) rfl underlying67 rfl ya0 (rd_fs (hS.rdr 1 rfl) hx (fun q=>ydI q))) ?_);refine zn (ya1 ya0 ?_);intro g4 w4 hN;replace hS:Sep w no O w4 (stl _ 2 (Res.box 67 g4 [(ii 0),(ii 0),(ii 0)])):=hS.new 2 rfl hN;clear hN;refine zb (zo (ycP (b:=g4) (o:=0) (cells:=#[(ii ((ge g2 i.toNat).1)),(ii ((ge g2 i.toNat).2.1)),(ii ((ge g2 i.toNat).2.2))]) rfl rfl ya0 rfl rfl (ybQ (hS.bx 2 rfl) zY) ?_));intro w5 e1;replace hS:=hS.bstn 2 rfl 0 [(ii ((ge g2 i.toNat).1)),(ii ((ge g2 i.toNat).2.1)),(ii ((ge g2 i.toNat).2.2))] e1;clear e1;refine zb (yaa (zs (zq (yae rfl underlying67 rfl yab) (zq (zl underlying3 (Row.cell (hS.bx 2 rfl) (i:=0) rfl)) (zq (yad H1) (zq (yad H2) (zq (v_min2 rfl rfl) (zq zE (zM (.bool (decide (((ge g2 i.toNat).1)=(mnF a b)))) ?_)))))))));by_cases hp2:((ge g2 i.toNat).1)=(mnF a b)
    · replace h:=h.1 hp2;refine zW rfl rfl (zT hp2) (yae rfl underlying67 rfl yab) (zW rfl rfl (zT hp2) (zl underlying3 (Row.cell (hS.bx 2 rfl) (i:=1) rfl)) (zW rfl rfl (zT hp2) (yad H1) (zW rfl rfl (zT hp2) (yad H2) (zW rfl rfl (zT hp2) (v_max2 rfl rfl) (zW rfl rfl (zT hp2) zE (zq (yau (v:=(.bool (decide (((ge g2 i.toNat).2.1)=(mxF a b))))) (zT hp2) rfl) (yaa ?_)))))));by_cases hp3:((ge g2 i.toNat).2.1)=(mxF a b)
      · replace h:=h.1 hp3;exact zc hp3 (zs (zq (yae rfl underlying67 rfl yab) (zq (zl underlying3 (Row.cell (hS.bx 2 rfl) (i:=2) rfl)) (zQ (ii ((ge g2 i.toNat).2.2)) (yaa (yai rfl rfl ⟨_,rfl,(hS.sel []),h⟩))))))
      · replace h:=h.2 hp3;refine zd hp3 (yaf (yag (zr (zq (yad H7) ?_))));obtain ⟨hi,h⟩:=h;refine zq (zA hi) (zQ (ii (i+1)) (yaa ?_));obtain ⟨mq,hlt,h⟩:=h;exact ag mq _ _ _ ⟨_,h,rfl,H1,H2,H3,rfl,(hS.sel [0,1])⟩ hlt
    · replace h:=h.2 hp2;refine zV rfl rfl (zF hp2) (zV rfl rfl (zF hp2) (zV rfl rfl (zF hp2) (zV rfl rfl (zF hp2) (zV rfl rfl (zF hp2) (zV rfl rfl (zF hp2) (zq (yaw (v:=(.bool (false))) (zF hp2) rfl) (yaa (yaq rfl (yaf (yag (zr (zq (yad H7) ?_))))))))))));obtain ⟨hi2,h⟩:=h;refine zq (zA hi2) (zQ (ii (i+1)) (yaa ?_));obtain ⟨mq,hlt,h⟩:=h;exact ag mq _ _ _ ⟨_,h,rfl,H1,H2,H3,rfl,(hS.sel [0,1])⟩ hlt
  · replace h:=h.2 hp;exact zd hp (yav rfl (zs (zQ (ii 0) (yaa (yai rfl rfl ⟨_,rfl,(hS.sel []),h⟩)))))
def yde(d:Int)(d2:List E3)(i:Int)(R:Int→Prop):Prop :=
((0≤i∧i<(d2.length:Int)) ∧
(∃ J2:Prop,(J2→((((ge d2 i.toNat).2.1)<((ge d2 i.toNat).1) →
R 9) ∧
(¬(((ge d2 i.toNat).2.1)<((ge d2 i.toNat).1)) →
((0<i →
(In64 (i-1) ∧
((0≤(i-1)∧(i-1)<(d2.length:Int)) ∧
((((ge d2 i.toNat).1)<((ge d2 (i-1).toNat).1) →
R 9) ∧
(¬(((ge d2 i.toNat).1)<((ge d2 (i-1).toNat).1)) →
((((ge d2 i.toNat).1)=((ge d2 (i-1).toNat).1) →
((((ge d2 i.toNat).2.1)≤((ge d2 (i-1).toNat).2.1) →
R 9) ∧
(¬(((ge d2 i.toNat).2.1)≤((ge d2 (i-1).toNat).2.1)) →
R 0))) ∧
(¬(((ge d2 i.toNat).1)=((ge d2 (i-1).toNat).1)) →
R 0))))))) ∧
(¬(0<i) →
R 0))))) ∧
ycZ d d2 ((ge d2 i.toNat).1) (fun r =>
((r=true →
ycZ d d2 ((ge d2 i.toNat).2.1) (fun r2 =>
((r2=true →
((((ge d2 i.toNat).2.2)<1 →
R 2) ∧
(¬(((ge d2 i.toNat).2.2)<1) →
((50<((ge d2 i.toNat).2.2) →
R 2) ∧
(¬(50<((ge d2 i.toNat).2.2)) →
J2))))) ∧
(¬(r2=true) →
R 2)))) ∧
(¬(r=true) →
R 2)))))
theorem pok_r08_edge{O:Nat→Prop}{w:World}{d d2 i Ad ld cd}{R:Int→Prop}(h:yde d d2 i R)(hO:∀ k,O k→k<w.heap.size)(hA0:(FP.sl c3 Ad ld cd d2).P O w) :
    Calls Tryz.prog 62 #[(.agg #[(ii d),(.slice Ad ld cd)]),(ii i)] w fun e w'=>∃ r3,e = .returned (ii r3)∧Sep w no O w' (rl [])∧R r3:=by
  unfold yde at h;have hS:Sep w no O w (rl [Res.ro (FP.sl c3 Ad ld cd d2)]):=Sep.startl hO [(FP.sl c3 Ad ld cd d2)] ⟨hA0,trivial⟩;refine yak (l:=[(.agg #[(ii d),(.slice Ad ld cd)]),(ii i)]) func62 rfl ntmps62 zY (zs (zn (ybi (v:=(.agg #[(ii d),(.slice Ad ld cd)])) rfl ?_)));intro g w2 hN;replace hS:Sep w no O w2 (stl _ 1 (Res.box 24 g [(ii d),(.slice Ad ld cd)])):=hS.new 1 rfl hN;clear hN;refine zb (zQ (ii 0) (yaa (zs (zq (yae rfl underlying24 rfl ydx) (zq (zl underlying22 (Row.cell (hS.bx 1 rfl) (i:=1) rfl)) (zM (ii i) ?_))))));obtain ⟨hx,h⟩:=h;refine zq (zi underlying22 ya0 (yaU (hS.rdr 0 rfl) hx)) (zq (yao (vs:=[(ii ((ge d2 i.toNat).1)),(ii ((ge d2 i.toNat).2.1)),(ii ((ge d2 i.toNat).2.2))]) rfl underlying67 rfl ya0 (rd_fs (hS.rdr 0 rfl) hx (fun q=>ydI q))) ?_);refine zn (ya1 ya0 ?_);intro g2 w3 hN;replace hS:Sep w no O w3 (stl _ 2 (Res.box 67 g2 [(ii 0),(ii 0),(ii 0)])):=hS.new 2 rfl hN;clear hN;refine zb (zo (ycP (b:=g2) (o:=0) (cells:=#[(ii ((ge d2 i.toNat).1)),(ii ((ge d2 i.toNat).2.1)),(ii ((ge d2 i.toNat).2.2))]) rfl rfl ya0 rfl rfl (ybQ (hS.bx 2 rfl) zY) ?_));intro w4 e1;replace hS:=hS.bstn 2 rfl 0 [(ii ((ge d2 i.toNat).1)),(ii ((ge d2 i.toNat).2.1)),(ii ((ge d2 i.toNat).2.2))] e1;clear e1;refine zb (yaa (yac (yac ?_)));obtain ⟨J2,hJ,h⟩:=h;refine ydm (fun E ds w'=>J2∧ds=[]∧E 1=(ii i)∧E 2=(Value.pointer (some ⟨g,0,none⟩))∧E 5=(Value.pointer (some ⟨g2,0,none⟩))∧Sep w no O w' (rl [Res.box 24 g [(ii d),(.slice Ad ld cd)],Res.ro (FP.sl c3 Ad ld cd d2),Res.box 67 g2 [(ii ((ge d2 i.toNat).1)),(ii ((ge d2 i.toNat).2.1)),(ii ((ge d2 i.toNat).2.2))]])) ?_ ?_
  · clear h hS;rintro E ds w5 ⟨h,rfl,H1,H2,H5,hS⟩;replace h:=hJ h;refine yac (zs (zq (yae H5 underlying67 rfl yab) (zq (zl underlying3 (Row.cell (hS.bx 2 rfl) (i:=0) rfl)) (zq (yae H5 underlying67 rfl yab) (zq (zl underlying3 (Row.cell (hS.bx 2 rfl) (i:=1) rfl)) (zq zG (yaa ?_)))))));by_cases hp:((ge d2 i.toNat).2.1)<((ge d2 i.toNat).1)
    · replace h:=h.1 hp;exact zc hp (zs (zQ (ii 9) (yaa (yai rfl rfl ⟨_,rfl,(hS.sel []),h⟩))))
    · replace h:=h.2 hp;refine zd hp (yaf (yac (zs (zq (yad H1) (zq zG (yaa ?_))))));by_cases hp2:0<i
      · replace h:=h.1 hp2;refine zc hp2 (zs (zq (yae H2 underlying24 rfl ydx) (zq (zl underlying22 (Row.cell (hS.bx 0 rfl) (i:=1) rfl)) (zq (yad H1) ?_))));obtain ⟨hi,h⟩:=h;refine zq (zS hi) ?_;obtain ⟨hx2,h⟩:=h;refine zq (zi underlying22 ya0 (yaU (hS.rdr 1 rfl) hx2)) (zq (yao (vs:=[(ii ((ge d2 (i-1).toNat).1)),(ii ((ge d2 (i-1).toNat).2.1)),(ii ((ge d2 (i-1).toNat).2.2))]) rfl underlying67 rfl ya0 (rd_fs (hS.rdr 1 rfl) hx2 (fun q=>ydI q))) ?_);refine zn (ya1 ya0 ?_);intro g3 w6 hN;replace hS:Sep w no O w6 (stl _ 3 (Res.box 67 g3 [(ii 0),(ii 0),(ii 0)])):=hS.new 3 rfl hN;clear hN;refine zb (zo (ycP (b:=g3) (o:=0) (cells:=#[(ii ((ge d2 (i-1).toNat).1)),(ii ((ge d2 (i-1).toNat).2.1)),(ii ((ge d2 (i-1).toNat).2.2))]) rfl rfl ya0 rfl rfl (ybQ (hS.bx 3 rfl) zY) ?_));intro w7 e1;replace hS:=hS.bstn 3 rfl 0 [(ii ((ge d2 (i-1).toNat).1)),(ii ((ge d2 (i-1).toNat).2.1)),(ii ((ge d2 (i-1).toNat).2.2))] e1;clear e1;refine zb (yaa (zs (zq (yae H5 underlying67 rfl yab) (zq (zl underlying3 (Row.cell (hS.bx 2 rfl) (i:=0) rfl)) (zq (yae rfl underlying67 rfl yab) (zq (zl underlying3 (Row.cell (hS.bx 3 rfl) (i:=0) rfl)) (zq zL (zM (.bool (decide (((ge d2 i.toNat).1)<((ge d2 (i-1).toNat).1)))) ?_))))))));by_cases hp3:((ge d2 i.toNat).1)<((ge d2 (i-1).toNat).1)
        · replace h:=h.1 hp3;exact zV rfl rfl (zT hp3) (zV rfl rfl (zT hp3) (zV rfl rfl (zT hp3) (zV rfl rfl (zT hp3) (zV rfl rfl (zT hp3) (zV rfl rfl (zT hp3) (zX (zX (zX (zX (zX (zV rfl rfl (zT hp3) (zq (yau (v:=(.bool (true))) (zT hp3) rfl) (yaa (yal rfl (zs (zQ (ii 9) (yaa (yai rfl rfl ⟨_,rfl,(hS.sel []),h⟩))))))))))))))))))
        · replace h:=h.2 hp3;refine zW rfl rfl (zF hp3) (yae H5 underlying67 rfl yab) (zW rfl rfl (zF hp3) (zl underlying3 (Row.cell (hS.bx 2 rfl) (i:=0) rfl)) (zW rfl rfl (zF hp3) (yae rfl underlying67 rfl yab) (zW rfl rfl (zF hp3) (zl underlying3 (Row.cell (hS.bx 3 rfl) (i:=0) rfl)) (zW rfl rfl (zF hp3) zE (zW rfl rfl (zF hp3) (zm (.bool (decide (((ge d2 i.toNat).1)=((ge d2 (i-1).toNat).1))))) ?_)))));by_cases hp4:((ge d2 i.toNat).1)=((ge d2 (i-1).toNat).1)
          · replace h:=h.1 hp4;refine zW rfl rfl (zT hp4) (yae H5 underlying67 rfl yab) (zW rfl rfl (zT hp4) (zl underlying3 (Row.cell (hS.bx 2 rfl) (i:=1) rfl)) (zW rfl rfl (zT hp4) (yae rfl underlying67 rfl yab) (zW rfl rfl (zT hp4) (zl underlying3 (Row.cell (hS.bx 3 rfl) (i:=1) rfl)) (zW rfl rfl (zT hp4) (v_leq rfl rfl) (zW rfl rfl (zF hp3) (yau (v:=(.bool (decide (((ge d2 i.toNat).2.1)≤((ge d2 (i-1).toNat).2.1))))) (zT hp4) rfl) (zq (yaw (v:=(.bool (decide (((ge d2 i.toNat).2.1)≤((ge d2 (i-1).toNat).2.1))))) (zF hp3) rfl) (yaa ?_)))))));by_cases hp5:((ge d2 i.toNat).2.1)≤((ge d2 (i-1).toNat).2.1)
            · replace h:=h.1 hp5;exact zc hp5 (zs (zQ (ii 9) (yaa (yai rfl rfl ⟨_,rfl,(hS.sel []),h⟩))))
            · replace h:=h.2 hp5;exact zd hp5 (yaf (zs (zQ (ii 0) (yaa (yai rfl rfl ⟨_,rfl,(hS.sel []),h⟩)))))
          · replace h:=h.2 hp4;exact zV rfl rfl (zF hp4) (zV rfl rfl (zF hp4) (zV rfl rfl (zF hp4) (zV rfl rfl (zF hp4) (zV rfl rfl (zF hp4) (zW rfl rfl (zF hp3) (yaw (v:=(.bool (false))) (zF hp4) rfl) (zq (yaw (v:=(.bool (false))) (zF hp3) rfl) (yaa (yaq rfl (yaf (zs (zQ (ii 0) (yaa (yai rfl rfl ⟨_,rfl,(hS.sel []),h⟩)))))))))))))
      · replace h:=h.2 hp2;exact zd hp2 (yaf (zs (zQ (ii 0) (yaa (yai rfl rfl ⟨_,rfl,(hS.sel []),h⟩)))))
  clear hJ;intro j;refine zr (zq (yao (vs:=[(ii d),(.slice Ad ld cd)]) rfl underlying24 rfl yat ⟨Row.cell (hS.bx 1 rfl) (i:=0) rfl,Row.cell (hS.bx 1 rfl) (i:=1) rfl,trivial⟩) (zq (yae rfl underlying67 rfl yab) (zq (zl underlying3 (Row.cell (hS.bx 2 rfl) (i:=0) rfl)) (zn (yaj rfl (am2 rfl rfl) enter_88 ((ygd h (yaN _) (hS.rdr 0 rfl)).mono ?_))))));rintro _ w8 ⟨r,rfl,hC,h⟩;replace hS:=hS.pur hC.pure;clear hC;refine ⟨_,rfl,?_⟩;refine zb (zq (ydd rfl) (zM (.bool (!(r))) ?_));by_cases hp6:r=true
  · replace h:=h.1 hp6;refine zW rfl rfl (zC (zB hp6)) (yao (vs:=[(ii d),(.slice Ad ld cd)]) rfl underlying24 rfl yat ⟨Row.cell (hS.bx 1 rfl) (i:=0) rfl,Row.cell (hS.bx 1 rfl) (i:=1) rfl,trivial⟩) (zW rfl rfl (zC (zB hp6)) (yae rfl underlying67 rfl yab) (zW rfl rfl (zC (zB hp6)) (zl underlying3 (Row.cell (hS.bx 2 rfl) (i:=1) rfl)) (rl_n (yar rfl (yaD rfl (zC (zB hp6)))) rfl rfl rfl (yaj rfl (am2 rfl rfl) enter_88 ((ygd h (yaN _) (hS.rdr 0 rfl)).mono ?_)))));rintro _ w9 ⟨r2,rfl,hC,h⟩;replace hS:=hS.pur hC.pure;clear hC;refine ⟨_,rfl,?_⟩;refine zb (zW rfl rfl (zC (zB hp6)) (ydd rfl) (zq (yaw (v:=(.bool (!(r2)))) (zC (zB hp6)) rfl) (zM (.bool (!(r2))) ?_)));by_cases hp7:r2=true
    · replace h:=h.1 hp7;refine zW rfl rfl (zC (zB hp7)) (yae rfl underlying67 rfl yab) (zW rfl rfl (zC (zB hp7)) (zl underlying3 (Row.cell (hS.bx 2 rfl) (i:=2) rfl)) (zW rfl rfl (zC (zB hp7)) zL (zq (yaw (v:=(.bool (decide (((ge d2 i.toNat).2.2)<1)))) (zC (zB hp7)) rfl) (zM (.bool (decide (((ge d2 i.toNat).2.2)<1))) ?_))));by_cases hp8:((ge d2 i.toNat).2.2)<1
      · replace h:=h.1 hp8;exact zV rfl rfl (zT hp8) (zV rfl rfl (zT hp8) (zV rfl rfl (zT hp8) (zq (yau (v:=(.bool (true))) (zT hp8) rfl) (yaa (yal rfl (zs (zQ (ii 2) (yaa (yai rfl rfl ⟨_,rfl,(hS.sel []),h⟩)))))))))
      · replace h:=h.2 hp8;refine zW rfl rfl (zF hp8) (yae rfl underlying67 rfl yab) (zW rfl rfl (zF hp8) (zl underlying3 (Row.cell (hS.bx 2 rfl) (i:=2) rfl)) (zW rfl rfl (zF hp8) zG (zq (yaw (v:=(.bool (decide (50<((ge d2 i.toNat).2.2))))) (zF hp8) rfl) (yaa ?_))));by_cases hp9:50<((ge d2 i.toNat).2.2)
        · replace h:=h.1 hp9;exact zc hp9 (zs (zQ (ii 2) (yaa (yai rfl rfl ⟨_,rfl,(hS.sel []),h⟩))))
        · replace h:=h.2 hp9;exact zd hp9 (yaf (j _ _ _ ⟨h,rfl,rfl,rfl,rfl,(hS.sel [1,0,2])⟩))
    · replace h:=h.2 hp7;exact zV rfl rfl (zC (zB (zI hp7))) (zV rfl rfl (zC (zB (zI hp7))) (zV rfl rfl (zC (zB (zI hp7))) (zq (yau (v:=(.bool (true))) (zC (zB (zI hp7))) rfl) (zM (.bool (true)) (zU (zU (zU (zq (yau (v:=(.bool (true))) rfl rfl) (yaa (yal rfl (zs (zQ (ii 2) (yaa (yai rfl rfl ⟨_,rfl,(hS.sel []),h⟩))))))))))))))
  · replace h:=h.2 hp6;exact zV rfl rfl (zC (zB (zI hp6))) (zV rfl rfl (zC (zB (zI hp6))) (zV rfl rfl (zC (zB (zI hp6))) (zV rfl rfl (zC (zB (zI hp6))) (zV rfl rfl (zC (zB (zI hp6))) (zq (yau (v:=(.bool (true))) (zC (zB (zI hp6))) rfl) (zM (.bool (true)) (zU (zU (zU (zq (yau (v:=(.bool (true))) rfl rfl) (zM (.bool (true)) (zU (zU (zU (zq (yau (v:=(.bool (true))) rfl rfl) (yaa (yal rfl (zs (zQ (ii 2) (yaa (yai rfl rfl ⟨_,rfl,(hS.sel []),h⟩)))))))))))))))))))))
def ycs(g:Int)(g2:List E3)(R:Int→Prop):Prop :=
(∃ J2:Prop,(J2→(∃ I2:Nat→Int→Prop,(∃ m0,I2 m0 0)∧∀ m2 i,I2 m2 i → 
((i<(g2.length:Int) →
yde g g2 i (fun r =>
((r=0 →
(In64 (i+1) ∧
∃ m3,m3<m2∧I2 m3 (i+1))) ∧
(¬(r=0) →
R r)))) ∧
(¬(i<(g2.length:Int)) →
R 0)))) ∧
((g<1 →
R 2) ∧
(¬(g<1) →
((12<g →
R 2) ∧
(¬(12<g) →
J2)))))
theorem ygz{O:Nat→Prop}{w:World}{g g2 Ag lg cg}{R:Int→Prop}(h:ycs g g2 R)(hO:∀ k,O k→k<w.heap.size)(hA0:(FP.sl c3 Ag lg cg g2).P O w) :
    Calls Tryz.prog 25 #[(.agg #[(ii g),(.slice Ag lg cg)])] w fun e w'=>∃ r2,e = .returned (ii r2)∧Sep w no O w' (rl [])∧R r2:=by
  unfold ycs at h;have hS:Sep w no O w (rl [Res.ro (FP.sl c3 Ag lg cg g2)]):=Sep.startl hO [(FP.sl c3 Ag lg cg g2)] ⟨hA0,trivial⟩;refine yak (l:=[(.agg #[(ii g),(.slice Ag lg cg)])]) func25 rfl ntmps25 zY (zs (zn (ybi (v:=(.agg #[(ii g),(.slice Ag lg cg)])) rfl ?_)));intro g3 w2 hN;replace hS:Sep w no O w2 (stl _ 1 (Res.box 24 g3 [(ii g),(.slice Ag lg cg)])):=hS.new 1 rfl hN;clear hN;refine zb (zQ (ii 0) (yaa (yac (yac ?_))));obtain ⟨J2,hJ,h⟩:=h;refine ydm (fun E ds w'=>J2∧ds=[]∧E 1=(Value.pointer (some ⟨g3,0,none⟩))∧Sep w no O w' (rl [Res.box 24 g3 [(ii g),(.slice Ag lg cg)],Res.ro (FP.sl c3 Ag lg cg g2)])) ?_ ?_
  · clear h hS;rintro E ds w3 ⟨h,rfl,H1,hS⟩;replace h:=hJ h;refine yac (zs (zQ (ii 0) (yaa (yah ?_))));obtain ⟨I2,⟨m0,h0⟩,hr⟩:=h;refine yaA (fun m E ds w'=>∃ i,I2 m i∧ds=[]∧E 1=(Value.pointer (some ⟨g3,0,none⟩))∧E 3=(ii i)∧Sep w no O w' (rl [Res.box 24 g3 [(ii g),(.slice Ag lg cg)],Res.ro (FP.sl c3 Ag lg cg g2)])) m0 ⟨_,h0,rfl,H1,rfl,(hS.sel [0,1])⟩ ?_;clear h0 hS;rintro m2 E ds w4 ⟨i,h,rfl,H1,H3,hS⟩ ag;replace h:=hr m2 i h;clear hr;refine yac (zs (zq (yad H3) (zq (yae H1 underlying24 rfl ydx) (zq (zl underlying22 (Row.cell (hS.bx 0 rfl) (i:=1) rfl)) (zq (ybw (n:=g2.length) rfl underlying22 (ybh (hS.rdr 1 rfl))) (zq zL (yaa ?_)))))));by_cases hp:i<(g2.length:Int)
    · replace h:=h.1 hp;refine zc hp (yaf (yac (yah (zs (zq (yao (vs:=[(ii g),(.slice Ag lg cg)]) H1 underlying24 rfl yat ⟨Row.cell (hS.bx 0 rfl) (i:=0) rfl,Row.cell (hS.bx 0 rfl) (i:=1) rfl,trivial⟩) (zq (yad H3) (zn (yaj rfl (am2 rfl rfl) enter_62 ((pok_r08_edge h (yaN _) (hS.rdr 1 rfl)).mono ?_)))))))));rintro _ w5 ⟨r,rfl,hC,h⟩;replace hS:=hS.pur hC.pure;clear hC;refine ⟨_,rfl,?_⟩;refine zb (zQ (ii r) (yaa (zs (zM (ii r) (zq zN (yaa ?_))))));by_cases hp2:r=0
      · replace h:=h.1 hp2;refine ze hp2 (yaf (yag (zr (zq (yad H3) ?_))));obtain ⟨hi,h⟩:=h;refine zq (zA hi) (zQ (ii (i+1)) (yaa ?_));obtain ⟨mq,hlt,h⟩:=h;exact ag mq _ _ _ ⟨_,h,rfl,H1,rfl,(hS.sel [0,1])⟩ hlt
      · replace h:=h.2 hp2;exact zf hp2 (zs (zM (ii r) (zQ (ii r) (yaa (yai rfl rfl ⟨_,rfl,(hS.sel []),h⟩)))))
    · replace h:=h.2 hp;exact zd hp (yav rfl (zs (zQ (ii 0) (yaa (yai rfl rfl ⟨_,rfl,(hS.sel []),h⟩)))))
  clear hJ;intro j;refine zr (zq (yae rfl underlying24 rfl yab) (zq (zl underlying3 (Row.cell (hS.bx 1 rfl) (i:=0) rfl)) (zq zL (zM (.bool (decide (g<1))) ?_))));by_cases hp3:g<1
  · replace h:=h.1 hp3;exact zV rfl rfl (zT hp3) (zV rfl rfl (zT hp3) (zV rfl rfl (zT hp3) (zq (yau (v:=(.bool (true))) (zT hp3) rfl) (yaa (yal rfl (zs (zQ (ii 2) (yaa (yai rfl rfl ⟨_,rfl,(hS.sel []),h⟩)))))))))
  · replace h:=h.2 hp3;refine zW rfl rfl (zF hp3) (yae rfl underlying24 rfl yab) (zW rfl rfl (zF hp3) (zl underlying3 (Row.cell (hS.bx 1 rfl) (i:=0) rfl)) (zW rfl rfl (zF hp3) zG (zq (yaw (v:=(.bool (decide (12<g)))) (zF hp3) rfl) (yaa ?_))));by_cases hp4:12<g
    · replace h:=h.1 hp4;exact zc hp4 (zs (zQ (ii 2) (yaa (yai rfl rfl ⟨_,rfl,(hS.sel []),h⟩))))
    · replace h:=h.2 hp4;exact zd hp4 (yaf (j _ _ _ ⟨h,rfl,rfl,(hS.sel [1,0])⟩))
def yeq(g:Int)(g2:List E3)(R:(List (Int×Int))→Prop):Prop :=
(∃ I2:Nat→(List (Int×Int))→Int→Prop,(∃ m0,I2 m0 ([]) 0)∧∀ m2 out i,I2 m2 out i → 
((i<(g2.length:Int) →
(∃ I3:Nat→(List (Int×Int))→Int→Prop,(∃ m0,I3 m0 out 0)∧∀ m3 out2 k,I3 m3 out2 k → 
((0≤i∧i<(g2.length:Int)) ∧
((k<((ge g2 i.toNat).2.2) →
(out2.length+1≤1000000000 ∧
(In64 (k+1) ∧
∃ m4,m4<m3∧I3 m4 (out2++[((ge g2 i.toNat).1,(ge g2 i.toNat).2.1)]) (k+1)))) ∧
(¬(k<((ge g2 i.toNat).2.2)) →
(In64 (i+1) ∧
∃ m5,m5<m2∧I2 m5 out2 (i+1))))))) ∧
(¬(i<(g2.length:Int)) →
R out)))
theorem pok_r08_Ends{O:Nat→Prop}{w:World}{g g2 Ag lg cg}{R:(List (Int×Int))→Prop}(h:yeq g g2 R)(hO:∀ k,O k→k<w.heap.size)(hA0:(FP.sl c3 Ag lg cg g2).P O w) :
    Calls Tryz.prog 107 #[(.agg #[(ii g),(.slice Ag lg cg)])] w fun e w'=>∃ r Ar lr cr,e = .returned (.slice Ar lr cr)∧Sep w no O w' (rl [Res.own c2 100 Ar lr cr r])∧R r:=by
  unfold yeq at h;have hS:Sep w no O w (rl [Res.ro (FP.sl c3 Ag lg cg g2)]):=Sep.startl hO [(FP.sl c3 Ag lg cg g2)] ⟨hA0,trivial⟩;refine yak (l:=[(.agg #[(ii g),(.slice Ag lg cg)])]) func107 rfl ntmps107 zY (zs (zn (ybi (v:=(.agg #[(ii g),(.slice Ag lg cg)])) rfl ?_)));intro g3 w2 hN;replace hS:Sep w no O w2 (stl _ 1 (Res.box 24 g3 [(ii g),(.slice Ag lg cg)])):=hS.new 1 rfl hN;clear hN;refine zb (zQ (.slice none 0 0) (yaa (zs (zQ (.slice none 0 0) (yaa (yac (zs (zQ (ii 0) (yaa (yah ?_))))))))));replace hS:=hS.nil 2 rfl c2 100;obtain ⟨I2,⟨m0,h0⟩,hr⟩:=h;refine yaA (fun m E ds w'=>∃ out i Aa Ab Ac,I2 m out i∧ds=[]∧E 1=(Value.pointer (some ⟨g3,0,none⟩))∧E 3=(Value.slice Aa Ab Ac)∧E 4=(ii i)∧Sep w no O w' (rl [Res.own c2 100 Aa Ab Ac out,Res.box 24 g3 [(ii g),(.slice Ag lg cg)],Res.ro (FP.sl c3 Ag lg cg g2)])) m0 ⟨_,_,_,_,_,h0,rfl,rfl,rfl,rfl,(hS.sel [2,1,0])⟩ ?_;clear h0 hS;rintro m2 E ds w3 ⟨out,i,Aa,Ab,Ac,h,rfl,H1,H3,H4,hS⟩ ag;replace h:=hr m2 out i h;clear hr;refine yac (zs (zq (yad H4) (zq (yae H1 underlying24 rfl ydx) (zq (zl underlying22 (Row.cell (hS.bx 1 rfl) (i:=1) rfl)) (zq (ybw (n:=g2.length) rfl underlying22 (ybh (hS.rdr 2 rfl))) (zq zL (yaa ?_)))))));by_cases hp:i<(g2.length:Int)
  · replace h:=h.1 hp;refine zc hp (yaf (yac (yah (zs (zQ (ii 0) (yaa (yah ?_)))))));obtain ⟨I3,⟨m0,h0⟩,hr⟩:=h;refine yaA (fun m E ds w'=>∃ out2 k Ad Ae Af,I3 m out2 k∧ds=[]∧E 1=(Value.pointer (some ⟨g3,0,none⟩))∧E 3=(Value.slice Ad Ae Af)∧E 4=(ii i)∧E 5=(ii k)∧Sep w no O w' (rl [Res.own c2 100 Ad Ae Af out2,Res.box 24 g3 [(ii g),(.slice Ag lg cg)],Res.ro (FP.sl c3 Ag lg cg g2)])) m0 ⟨_,_,_,_,_,h0,rfl,H1,H3,H4,rfl,(hS.sel [0,1,2])⟩ ?_;clear h0 hS;rintro m3 E ds w4 ⟨out2,k,Ad,Ae,Af,h,rfl,H1,H3,H4,H5,hS⟩ again2;replace h:=hr m3 out2 k h;clear hr;refine yac (zs (zq (yad H5) (zq (yae H1 underlying24 rfl ydx) (zq (zl underlying22 (Row.cell (hS.bx 1 rfl) (i:=1) rfl)) (zq (yad H4) ?_)))));obtain ⟨hx,h⟩:=h;refine zq (zi underlying22 ya0 (yaU (hS.rdr 2 rfl) hx)) (zq (yae rfl underlying67 rfl yab) (zq (yam (v:=(ii ((ge g2 i.toNat).2.2))) rfl underlying3 rfl (rd_f (hS.rdr 2 rfl) hx (fun q=>ydI q) 2 rfl)) ?_));refine zq zL (yaa ?_);by_cases hp2:k<((ge g2 i.toNat).2.2)
    · replace h:=h.1 hp2;refine zc hp2 (yaf (yac (yah (ya9 [0,1,2,3,4,5,6,7,8,9,10,11,12,13,14,15,16] (fun i=>match i with | 13=>[0] | 14=>[0] | _=>[]) yaQ (by kernel_rfl) (by kernel_rfl) ?_))));replace hS:=hS.drew;refine zp (yad H3) (zp (yae H1 underlying24 rfl ydx) (zp (zl underlying22 (Row.cell (hS.bx 1 rfl) (i:=1) rfl)) (zp (yad H4) (zp (zi underlying22 ya0 (yaU (hS.rdr 2 rfl) hx)) (zp (yae rfl underlying67 rfl yab) (zp (yam (v:=(ii ((ge g2 i.toNat).1))) rfl underlying3 rfl (rd_f (hS.rdr 2 rfl) hx (fun q=>ydI q) 0 rfl)) ?_))))));refine zp (yae H1 underlying24 rfl ydx) (zp (zl underlying22 (Row.cell (hS.bx 1 rfl) (i:=1) rfl)) (zp (yad H4) (zp (zi underlying22 ya0 (yaU (hS.rdr 2 rfl) hx)) (zp (yae rfl underlying67 rfl yab) (zp (yam (v:=(ii ((ge g2 i.toNat).2.1))) rfl underlying3 rfl (rd_f (hS.rdr 2 rfl) hx (fun q=>ydI q) 1 rfl)) ?_)))));refine rp_n rfl rfl rfl rfl (n_builda (l:=[(0,(ii ((ge g2 i.toNat).1))),(1,(ii ((ge g2 i.toNat).2.1)))]) (cells:=[(ii ((ge g2 i.toNat).1)),(ii ((ge g2 i.toNat).2.1))]) (bp2 rfl rfl) underlying100 ydP yab (by kernel_rfl) ?_);refine ⟨⟨fun hh=>zZ hh,⟨fun hh=>zZ hh,⟨fun hh=>zZ hh,⟨fun hh=>zZ hh,⟨fun hh=>zZ hh,⟨fun hh=>zZ hh,⟨fun hh=>zZ hh,⟨fun hh=>zZ hh,⟨fun hh=>zZ hh,⟨fun hh=>zZ hh,⟨fun hh=>zZ hh,⟨fun hh=>zZ hh,⟨fun _=>(yad H3),trivial⟩⟩⟩⟩⟩⟩⟩⟩⟩⟩⟩⟩⟩,?_⟩;refine rp_n rfl rfl rfl rfl (ybb (l:=[(0,(.agg #[(ii ((ge g2 i.toNat).1)),(ii ((ge g2 i.toNat).2.1))]))]) (cells:=[(ii ((ge g2 i.toNat).1)),(ii ((ge g2 i.toNat).2.1))]) (bp1 rfl) underlying91 ydP rfl rfl ?_);intro g4 w5 hN;replace hS:=hS.litf (n:=1) 3 rfl (fP (fI .i64) (fI .i64)) hN ([((ge g2 i.toNat).1,(ge g2 i.toNat).2.1)]:List (Int×Int)) rfl (by decide) rfl;clear hN;refine ⟨⟨fun hh=>zZ hh,⟨fun hh=>zZ hh,⟨fun hh=>zZ hh,⟨fun hh=>zZ hh,⟨fun hh=>zZ hh,⟨fun hh=>zZ hh,⟨fun hh=>zZ hh,⟨fun hh=>zZ hh,⟨fun hh=>zZ hh,⟨fun hh=>zZ hh,⟨fun hh=>zZ hh,⟨fun hh=>zZ hh,⟨fun _=>(yad H3),trivial⟩⟩⟩⟩⟩⟩⟩⟩⟩⟩⟩⟩⟩,?_⟩;obtain ⟨hx2,h⟩:=h;refine rp_n rfl rfl rfl rfl (yiF (c:=c2) rfl rfl underlying91 underlying91 ydP rfl rfl (by decide) hS 0 rfl (hS.yo 3 rfl) hx2 ?_);clear hS;intro A c w6 hS;refine zb (zp (za (.slice A (Ae+1) c)) (ybq (yag (zr (zq (yad H5) ?_)))));obtain ⟨hi,h⟩:=h;refine zq (zA hi) (zQ (ii (k+1)) (yaa ?_));obtain ⟨mq,hlt,h⟩:=h;exact again2 mq _ _ _ ⟨_,_,_,_,_,h,rfl,H1,rfl,H4,rfl,(hS.sel [0,1,2])⟩ hlt
    · replace h:=h.2 hp2;refine zd hp2 (yav rfl (yag (zr (zq (yad H4) ?_))));obtain ⟨hi2,h⟩:=h;refine zq (zA hi2) (zQ (ii (i+1)) (yaa ?_));obtain ⟨mq,hlt,h⟩:=h;exact ag mq _ _ _ ⟨_,_,_,_,_,h,rfl,H1,H3,rfl,(hS.sel [0,1,2])⟩ hlt
  · replace h:=h.2 hp;exact zd hp (yav rfl (zs (zq (yad H3) (zQ (.slice Aa Ab Ac) (yaa (yai rfl rfl ⟨_,_,_,_,rfl,(hS.sel [0]),h⟩))))))
def yfn(g:Int)(g2:List E3)(R:Int→Prop):Prop :=
yeq g g2 (fun r =>
R (r.length:Int))
theorem pok_r08_Size{O:Nat→Prop}{w:World}{g g2 Ag lg cg}{R:Int→Prop}(h:yfn g g2 R)(hO:∀ k,O k→k<w.heap.size)(hA0:(FP.sl c3 Ag lg cg g2).P O w) :
    Calls Tryz.prog 64 #[(.agg #[(ii g),(.slice Ag lg cg)])] w fun e w'=>∃ r2,e = .returned (ii r2)∧Sep w no O w' (rl [])∧R r2:=by
  unfold yfn at h;have hS:Sep w no O w (rl [Res.ro (FP.sl c3 Ag lg cg g2)]):=Sep.startl hO [(FP.sl c3 Ag lg cg g2)] ⟨hA0,trivial⟩;refine yak (l:=[(.agg #[(ii g),(.slice Ag lg cg)])]) func64 rfl ntmps64 zY (zs (zn (ybi (v:=(.agg #[(ii g),(.slice Ag lg cg)])) rfl ?_)));intro g3 w2 hN;replace hS:Sep w no O w2 (stl _ 1 (Res.box 24 g3 [(ii g),(.slice Ag lg cg)])):=hS.new 1 rfl hN;clear hN;refine zb (zQ (ii 0) (yaa (zs (zq (yao (vs:=[(ii g),(.slice Ag lg cg)]) rfl underlying24 rfl yat ⟨Row.cell (hS.bx 1 rfl) (i:=0) rfl,Row.cell (hS.bx 1 rfl) (i:=1) rfl,trivial⟩) (zn (yaj rfl (am1 rfl) enter_107 ((pok_r08_Ends h (yaN _) (hS.rdr 0 rfl)).mono ?_)))))));rintro _ w3 ⟨r,Ar,lr,cr,rfl,hC,h⟩;replace hS:=hS.call1 (hC.widen (ydi (ya3 (fP (fI .i64) (fI .i64)) _ _ _ _ _) yea) hS.blt) 2 0 rfl;clear hC;refine ⟨_,rfl,?_⟩;exact zb (zq (ybw (n:=r.length) rfl underlying91 (ybh (hS.rdo 2 rfl))) (zQ (ii (r.length:Int)) (yaa (yai rfl rfl ⟨_,rfl,(hS.sel []),h⟩))))
def ydX(g:Int)(g2:List E3)(vertices:Int)(single:Int)(R:Bool→Prop):Prop :=
((40<(g2.length:Int) →
R false) ∧
(¬(40<(g2.length:Int)) →
ycs g g2 (fun r =>
((r=0 →
((g≤vertices →
yfn g g2 (fun r2 =>
R (decide (r2≤single)))) ∧
(¬(g≤vertices) →
R false))) ∧
(¬(r=0) →
R true)))))
theorem pok_r08_small{O:Nat→Prop}{w:World}{g g2 vertices single Ag lg cg}{R:Bool→Prop}(h:ydX g g2 vertices single R)(hO:∀ k,O k→k<w.heap.size)(hA0:(FP.sl c3 Ag lg cg g2).P O w) :
    Calls Tryz.prog 27 #[(.agg #[(ii g),(.slice Ag lg cg)]),(ii vertices),(ii single)] w fun e w'=>∃ r3,e = .returned (.bool (r3))∧Sep w no O w' (rl [])∧R r3:=by
  unfold ydX at h;have hS:Sep w no O w (rl [Res.ro (FP.sl c3 Ag lg cg g2)]):=Sep.startl hO [(FP.sl c3 Ag lg cg g2)] ⟨hA0,trivial⟩;refine yak (l:=[(.agg #[(ii g),(.slice Ag lg cg)]),(ii vertices),(ii single)]) func27 rfl ntmps27 zY (zs (zn (ybi (v:=(.agg #[(ii g),(.slice Ag lg cg)])) rfl ?_)));intro g3 w2 hN;replace hS:Sep w no O w2 (stl _ 1 (Res.box 24 g3 [(ii g),(.slice Ag lg cg)])):=hS.new 1 rfl hN;clear hN;refine zb (zQ (.bool (false)) (yaa (yac (zs (zq (yae rfl underlying24 rfl ydx) (zq (zl underlying22 (Row.cell (hS.bx 1 rfl) (i:=1) rfl)) (zq (ybw (n:=g2.length) rfl underlying22 (ybh (hS.rdr 0 rfl))) (zq zG (yaa ?_)))))))));by_cases hp:40<(g2.length:Int)
  · replace h:=h.1 hp;exact zc hp (zs (zQ (.bool (false)) (yaa (yai rfl rfl ⟨_,rfl,(hS.sel []),h⟩))))
  · replace h:=h.2 hp;refine zd hp (yaf (yac (zs (zq (yao (vs:=[(ii g),(.slice Ag lg cg)]) rfl underlying24 rfl yat ⟨Row.cell (hS.bx 1 rfl) (i:=0) rfl,Row.cell (hS.bx 1 rfl) (i:=1) rfl,trivial⟩) (zn (yaj rfl (am1 rfl) enter_25 ((ygz h (yaN _) (hS.rdr 0 rfl)).mono ?_)))))));rintro _ w3 ⟨r,rfl,hC,h⟩;replace hS:=hS.pur hC.pure;clear hC;refine ⟨_,rfl,?_⟩;refine zb (zq zN (yaa ?_));by_cases hp2:r=0
    · replace h:=h.1 hp2;refine ze hp2 (yaf (zs (zq (yae rfl underlying24 rfl yab) (zq (zl underlying3 (Row.cell (hS.bx 1 rfl) (i:=0) rfl)) (zM (ii vertices) (zq (v_leq rfl rfl) (zM (.bool (decide (g≤vertices))) ?_)))))));by_cases hp3:g≤vertices
      · replace h:=h.1 hp3;refine zW rfl rfl (zT hp3) (yao (vs:=[(ii g),(.slice Ag lg cg)]) rfl underlying24 rfl yat ⟨Row.cell (hS.bx 1 rfl) (i:=0) rfl,Row.cell (hS.bx 1 rfl) (i:=1) rfl,trivial⟩) (rl_n (yar rfl (yaD rfl (zT hp3))) rfl rfl rfl (yaj rfl (am1 rfl) enter_64 ((pok_r08_Size h (yaN _) (hS.rdr 0 rfl)).mono ?_)));rintro _ w4 ⟨r2,rfl,hC,h⟩;replace hS:=hS.pur hC.pure;clear hC;refine ⟨_,rfl,?_⟩;exact zb (zW rfl rfl (zT hp3) (zm (ii single)) (zW rfl rfl (zT hp3) (v_leq rfl rfl) (zq (yau (v:=(.bool (decide (r2≤single)))) (zT hp3) rfl) (zQ (.bool (decide (r2≤single))) (yaa (yai rfl rfl ⟨_,rfl,(hS.sel []),h⟩))))))
      · replace h:=h.2 hp3;exact zV rfl rfl (zF hp3) (zV rfl rfl (zF hp3) (zV rfl rfl (zF hp3) (zV rfl rfl (zF hp3) (zq (yaw (v:=(.bool (false))) (zF hp3) rfl) (zQ (.bool (false)) (yaa (yai rfl rfl ⟨_,rfl,(hS.sel []),h⟩)))))))
    · replace h:=h.2 hp2;exact zf hp2 (zs (zQ (.bool (true)) (yaa (yai rfl rfl ⟨_,rfl,(hS.sel []),h⟩))))
def yc8(g:Int)(g2:List E3)(v:Int)(R:(List Bool)→Prop):Prop :=
((0≤g∧g≤1000000) ∧
((0≤v∧v<((List.replicate g.toNat false).length:Int)) ∧
(∃ I2:Nat→Int→(List Bool)→Prop,(∃ m0,I2 m0 0 ((List.replicate g.toNat false).set v.toNat true))∧∀ m2 round out,I2 m2 round out → 
((round<g →
(∃ I3:Nat→Int→(List Bool)→Prop,(∃ m0,I3 m0 0 out)∧∀ m3 a out2,I3 m3 a out2 → 
((a<g →
(∃ I4:Nat→Int→(List Bool)→Prop,(∃ m0,I4 m0 0 out2)∧∀ m4 b out3,I4 m4 b out3 → 
((b<g →
((0≤a∧a<(out3.length:Int)) ∧
((gb out3 a.toNat=true →
ycH g g2 a b (fun r =>
((0<r →
((0≤b∧b<(out3.length:Int)) ∧
(In64 (b+1) ∧
∃ m5,m5<m4∧I4 m5 (b+1) (out3.set b.toNat true)))) ∧
(¬(0<r) →
(In64 (b+1) ∧
∃ m6,m6<m4∧I4 m6 (b+1) out3))))) ∧
(¬(gb out3 a.toNat=true) →
(In64 (b+1) ∧
∃ m7,m7<m4∧I4 m7 (b+1) out3))))) ∧
(¬(b<g) →
(In64 (a+1) ∧
∃ m8,m8<m3∧I3 m8 (a+1) out3))))) ∧
(¬(a<g) →
(In64 (round+1) ∧
∃ m9,m9<m2∧I2 m9 (round+1) out2))))) ∧
(¬(round<g) →
R out)))))
theorem yih{O:Nat→Prop}{w:World}{g g2 v Ag lg cg}{R:(List Bool)→Prop}(h:yc8 g g2 v R)(hO:∀ k,O k→k<w.heap.size)(hA0:(FP.sl c3 Ag lg cg g2).P O w) :
    Calls Tryz.prog 106 #[(.agg #[(ii g),(.slice Ag lg cg)]),(ii v)] w fun e w'=>∃ r2 Ar lr cr,e = .returned (.slice Ar lr cr)∧Sep w no O w' (rl [Res.own cB 4 Ar lr cr r2])∧R r2:=by
  unfold yc8 at h;have hS:Sep w no O w (rl [Res.ro (FP.sl c3 Ag lg cg g2)]):=Sep.startl hO [(FP.sl c3 Ag lg cg g2)] ⟨hA0,trivial⟩;refine yak (l:=[(.agg #[(ii g),(.slice Ag lg cg)]),(ii v)]) func106 rfl ntmps106 zY (zs (zn (ybi (v:=(.agg #[(ii g),(.slice Ag lg cg)])) rfl ?_)));intro g3 w2 hN;replace hS:Sep w no O w2 (stl _ 1 (Res.box 24 g3 [(ii g),(.slice Ag lg cg)])):=hS.new 1 rfl hN;clear hN;refine zb (zQ (.slice none 0 0) (yaa (zs (zq (yae rfl underlying24 rfl yab) (zq (zl underlying3 (Row.cell (hS.bx 1 rfl) (i:=0) rfl)) ?_)))));obtain ⟨hx,h⟩:=h;refine zn (ydg rfl rfl underlying168 ybP (by decide) rfl hx ?_);intro g4 w3 hN;replace hS:=hS.made 2 rfl cB (.bool (false)) false (fun _ _=>rfl) hN (by omega);clear hN;refine zb (zQ (.slice (some ⟨g4,0,none⟩) g.toNat g.toNat) (yaa (zs (zM (.slice (some ⟨g4,0,none⟩) g.toNat g.toNat) (zM (ii v) ?_)))));obtain ⟨hx2,h⟩:=h;refine zq (zi underlying168 ybP (yaU (hS.rdo 2 rfl) hx2)) (zo (zt (.bool (true)) ybP (hS.wr 2 rfl rfl hx2) ?_));intro w4 e1;replace hS:=hS.st 2 rfl rfl hx2 (x:=true) rfl e1;clear e1;refine zb (yaa (yac (zs (zQ (ii 0) (yaa (yah ?_))))));obtain ⟨I2,⟨m0,h0⟩,hr⟩:=h;refine yaA (fun m E ds w'=>∃ round out,I2 m round out∧ds=[]∧E 2=(Value.pointer (some ⟨g3,0,none⟩))∧E 5=(Value.slice (some ⟨g4,0,none⟩) g.toNat g.toNat)∧E 6=(ii round)∧Sep w no O w' (rl [Res.box 24 g3 [(ii g),(.slice Ag lg cg)],Res.ro (FP.sl c3 Ag lg cg g2),Res.own cB 4 (some ⟨g4,0,none⟩) g.toNat g.toNat out])) m0 ⟨_,_,h0,rfl,rfl,rfl,rfl,(hS.sel [1,0,2])⟩ ?_;clear h0 hS;rintro m2 E ds w5 ⟨round,out,h,rfl,H2,H5,H6,hS⟩ ag;replace h:=hr m2 round out h;clear hr;refine yac (zs (zq (yad H6) (zq (yae H2 underlying24 rfl yab) (zq (zl underlying3 (Row.cell (hS.bx 0 rfl) (i:=0) rfl)) (zq zL (yaa ?_))))));by_cases hp:round<g
  · replace h:=h.1 hp;refine zc hp (yaf (yac (yah (zs (zQ (ii 0) (yaa (yah ?_)))))));obtain ⟨I3,⟨m0,h0⟩,hr⟩:=h;refine yaA (fun m E ds w'=>∃ a out2,I3 m a out2∧ds=[]∧E 2=(Value.pointer (some ⟨g3,0,none⟩))∧E 5=(Value.slice (some ⟨g4,0,none⟩) g.toNat g.toNat)∧E 6=(ii round)∧E 7=(ii a)∧Sep w no O w' (rl [Res.box 24 g3 [(ii g),(.slice Ag lg cg)],Res.ro (FP.sl c3 Ag lg cg g2),Res.own cB 4 (some ⟨g4,0,none⟩) g.toNat g.toNat out2])) m0 ⟨_,_,h0,rfl,H2,H5,H6,rfl,(hS.sel [0,1,2])⟩ ?_;clear h0 hS;rintro m3 E ds w6 ⟨a,out2,h,rfl,H2,H5,H6,H7,hS⟩ again2;replace h:=hr m3 a out2 h;clear hr;refine yac (zs (zq (yad H7) (zq (yae H2 underlying24 rfl yab) (zq (zl underlying3 (Row.cell (hS.bx 0 rfl) (i:=0) rfl)) (zq zL (yaa ?_))))));by_cases hp2:a<g
    · replace h:=h.1 hp2;refine zc hp2 (yaf (yac (yah (zs (zQ (ii 0) (yaa (yah ?_)))))));obtain ⟨I4,⟨m0,h0⟩,hr⟩:=h;refine yaA (fun m E ds w'=>∃ b out3,I4 m b out3∧ds=[]∧E 2=(Value.pointer (some ⟨g3,0,none⟩))∧E 5=(Value.slice (some ⟨g4,0,none⟩) g.toNat g.toNat)∧E 6=(ii round)∧E 7=(ii a)∧E 8=(ii b)∧Sep w no O w' (rl [Res.box 24 g3 [(ii g),(.slice Ag lg cg)],Res.ro (FP.sl c3 Ag lg cg g2),Res.own cB 4 (some ⟨g4,0,none⟩) g.toNat g.toNat out3])) m0 ⟨_,_,h0,rfl,H2,H5,H6,H7,rfl,(hS.sel [0,1,2])⟩ ?_;clear h0 hS;rintro m4 E ds w7 ⟨b,out3,h,rfl,H2,H5,H6,H7,H8,hS⟩ again3;replace h:=hr m4 b out3 h;clear hr;refine yac (zs (zq (yad H8) (zq (yae H2 underlying24 rfl yab) (zq (zl underlying3 (Row.cell (hS.bx 0 rfl) (i:=0) rfl)) (zq zL (yaa ?_))))));by_cases hp3:b<g
      · replace h:=h.1 hp3;refine zc hp3 (yaf (yac (yah (zs (zq (yad H5) (zq (yad H7) ?_))))));obtain ⟨hx3,h⟩:=h;refine zq (zi underlying168 ybP (yaU (hS.rdo 2 rfl) hx3)) (zq (yam (v:=(.bool (gb out3 a.toNat))) rfl underlying4 rfl (rd_1 (hS.rdo 2 rfl) hx3 (fun q=>gb_some q) rfl)) ?_);refine zM (.bool (gb out3 a.toNat)) ?_;by_cases hp4:gb out3 a.toNat=true
        · replace h:=h.1 hp4;refine zW rfl rfl (zC hp4) (yao (vs:=[(ii g),(.slice Ag lg cg)]) H2 underlying24 rfl yat ⟨Row.cell (hS.bx 0 rfl) (i:=0) rfl,Row.cell (hS.bx 0 rfl) (i:=1) rfl,trivial⟩) (zW rfl rfl (zC hp4) (yad H7) (zW rfl rfl (zC hp4) (yad H8) (rl_n (yar rfl (yaD rfl (zC hp4))) rfl rfl rfl (yaj rfl (am3 rfl rfl rfl) enter_164 ((yiA h (yaN _) (hS.rdr 1 rfl)).mono ?_)))));rintro _ w8 ⟨r,rfl,hC,h⟩;replace hS:=hS.pur hC.pure;clear hC;refine ⟨_,rfl,?_⟩;refine zb (zW rfl rfl (zC hp4) zG (zq (yau (v:=(.bool (decide (0<r)))) (zC hp4) rfl) (yaa ?_)));by_cases hp5:0<r
          · replace h:=h.1 hp5;refine zc hp5 (zr (zq (yad H5) (zq (yad H8) ?_)));obtain ⟨hx4,h⟩:=h;refine zq (zi underlying168 ybP (yaU (hS.rdo 2 rfl) hx4)) (zo (zt (.bool (true)) ybP (hS.wr 2 rfl rfl hx4) ?_));intro w9 e1;replace hS:=hS.st 2 rfl rfl hx4 (x:=true) rfl e1;clear e1;refine zb (yaa (yag (zr (zq (yad H8) ?_))));obtain ⟨hi,h⟩:=h;refine zq (zA hi) (zQ (ii (b+1)) (yaa ?_));obtain ⟨mq,hlt,h⟩:=h;exact again3 mq _ _ _ ⟨_,_,h,rfl,H2,H5,H6,H7,rfl,(hS.sel [0,1,2])⟩ hlt
          · replace h:=h.2 hp5;refine zd hp5 (yaf (yag (zr (zq (yad H8) ?_))));obtain ⟨hi2,h⟩:=h;refine zq (zA hi2) (zQ (ii (b+1)) (yaa ?_));obtain ⟨mq,hlt,h⟩:=h;exact again3 mq _ _ _ ⟨_,_,h,rfl,H2,H5,H6,H7,rfl,(hS.sel [0,1,2])⟩ hlt
        · replace h:=h.2 hp4;refine zV rfl rfl (zC (zI hp4)) (zV rfl rfl (zC (zI hp4)) (zV rfl rfl (zC (zI hp4)) (zV rfl rfl (zC (zI hp4)) (zV rfl rfl (zC (zI hp4)) (zq (yaw (v:=(.bool (false))) (zC (zI hp4)) rfl) (yaa (yaq rfl (yaf (yag (zr (zq (yad H8) ?_)))))))))));obtain ⟨hi3,h⟩:=h;refine zq (zA hi3) (zQ (ii (b+1)) (yaa ?_));obtain ⟨mq,hlt,h⟩:=h;exact again3 mq _ _ _ ⟨_,_,h,rfl,H2,H5,H6,H7,rfl,(hS.sel [0,1,2])⟩ hlt
      · replace h:=h.2 hp3;refine zd hp3 (yav rfl (yag (zr (zq (yad H7) ?_))));obtain ⟨hi4,h⟩:=h;refine zq (zA hi4) (zQ (ii (a+1)) (yaa ?_));obtain ⟨mq,hlt,h⟩:=h;exact again2 mq _ _ _ ⟨_,_,h,rfl,H2,H5,H6,rfl,(hS.sel [0,1,2])⟩ hlt
    · replace h:=h.2 hp2;refine zd hp2 (yav rfl (yag (zr (zq (yad H6) ?_))));obtain ⟨hi5,h⟩:=h;refine zq (zA hi5) (zQ (ii (round+1)) (yaa ?_));obtain ⟨mq,hlt,h⟩:=h;exact ag mq _ _ _ ⟨_,_,h,rfl,H2,H5,rfl,(hS.sel [0,1,2])⟩ hlt
  · replace h:=h.2 hp;exact zd hp (yav rfl (zs (zq (yad H5) (zQ (.slice (some ⟨g4,0,none⟩) g.toNat g.toNat) (yaa (yai rfl rfl ⟨_,_,_,_,rfl,(hS.sel [2]),h⟩))))))
def ydY(g:Int)(g2:List E3)(R:Int→Prop):Prop :=
((0≤g∧g≤1000000) ∧
(∃ I2:Nat→Int→Int→(List Bool)→Prop,(∃ m0,I2 m0 0 0 (List.replicate g.toNat false))∧∀ m2 n v seen,I2 m2 n v seen → 
((v<g →
((0≤v∧v<(seen.length:Int)) ∧
((gb seen v.toNat=true →
(In64 (v+1) ∧
∃ m3,m3<m2∧I2 m3 n (v+1) seen)) ∧
(¬(gb seen v.toNat=true) →
(In64 (n+1) ∧
yc8 g g2 v (fun r =>
(∃ I3:Nat→Int→(List Bool)→Prop,(∃ m0,I3 m0 0 seen)∧∀ m4 u seen2,I3 m4 u seen2 → 
((u<g →
((0≤u∧u<(seen2.length:Int)) ∧
((gb seen2 u.toNat=true →
(In64 (u+1) ∧
∃ m5,m5<m4∧I3 m5 (u+1) (seen2.set u.toNat true))) ∧
(¬(gb seen2 u.toNat=true) →
((0≤u∧u<(r.length:Int)) ∧
(In64 (u+1) ∧
∃ m6,m6<m4∧I3 m6 (u+1) (seen2.set u.toNat (gb r u.toNat)))))))) ∧
(¬(u<g) →
(In64 (v+1) ∧
∃ m7,m7<m2∧I2 m7 (n+1) (v+1) seen2)))))))))) ∧
(¬(v<g) →
R n))))
theorem pok_r08_Parts{O:Nat→Prop}{w:World}{g g2 Ag lg cg}{R:Int→Prop}(h:ydY g g2 R)(hO:∀ k,O k→k<w.heap.size)(hA0:(FP.sl c3 Ag lg cg g2).P O w) :
    Calls Tryz.prog 63 #[(.agg #[(ii g),(.slice Ag lg cg)])] w fun e w'=>∃ r2,e = .returned (ii r2)∧Sep w no O w' (rl [])∧R r2:=by
  unfold ydY at h;have hS:Sep w no O w (rl [Res.ro (FP.sl c3 Ag lg cg g2)]):=Sep.startl hO [(FP.sl c3 Ag lg cg g2)] ⟨hA0,trivial⟩;refine yak (l:=[(.agg #[(ii g),(.slice Ag lg cg)])]) func63 rfl ntmps63 zY (zs (zn (ybi (v:=(.agg #[(ii g),(.slice Ag lg cg)])) rfl ?_)));intro g3 w2 hN;replace hS:Sep w no O w2 (stl _ 1 (Res.box 24 g3 [(ii g),(.slice Ag lg cg)])):=hS.new 1 rfl hN;clear hN;refine zb (zQ (ii 0) (yaa (zs (zQ (ii 0) (yaa (zs (zq (yae rfl underlying24 rfl yab) (zq (zl underlying3 (Row.cell (hS.bx 1 rfl) (i:=0) rfl)) ?_))))))));obtain ⟨hx,h⟩:=h;refine zn (ydg rfl rfl underlying168 ybP (by decide) rfl hx ?_);intro g4 w3 hN;replace hS:=hS.made 2 rfl cB (.bool (false)) false (fun _ _=>rfl) hN (by omega);clear hN;refine zb (zQ (.slice (some ⟨g4,0,none⟩) g.toNat g.toNat) (yaa (yac (zs (zQ (ii 0) (yaa (yah ?_)))))));obtain ⟨I2,⟨m0,h0⟩,hr⟩:=h;refine yaA (fun m E ds w'=>∃ n v seen,I2 m n v seen∧ds=[]∧E 1=(Value.pointer (some ⟨g3,0,none⟩))∧E 3=(ii n)∧E 4=(Value.slice (some ⟨g4,0,none⟩) g.toNat g.toNat)∧E 5=(ii v)∧Sep w no O w' (rl [Res.box 24 g3 [(ii g),(.slice Ag lg cg)],Res.ro (FP.sl c3 Ag lg cg g2),Res.own cB 4 (some ⟨g4,0,none⟩) g.toNat g.toNat seen])) m0 ⟨_,_,_,h0,rfl,rfl,rfl,rfl,rfl,(hS.sel [1,0,2])⟩ ?_;clear h0 hS;rintro m2 E ds w4 ⟨n,v,seen,h,rfl,H1,H3,H4,H5,hS⟩ ag;replace h:=hr m2 n v seen h;clear hr;refine yac (zs (zq (yad H5) (zq (yae H1 underlying24 rfl yab) (zq (zl underlying3 (Row.cell (hS.bx 0 rfl) (i:=0) rfl)) (zq zL (yaa ?_))))));by_cases hp:v<g
  · replace h:=h.1 hp;refine zc hp (yaf (yac (yah (yac (zs (zq (yad H4) (zq (yad H5) ?_)))))));obtain ⟨hx2,h⟩:=h;refine zq (zi underlying168 ybP (yaU (hS.rdo 2 rfl) hx2)) (zq (yam (v:=(.bool (gb seen v.toNat))) rfl underlying4 rfl (rd_1 (hS.rdo 2 rfl) hx2 (fun q=>gb_some q) rfl)) ?_);refine yaa ?_;by_cases hp2:gb seen v.toNat=true
    · replace h:=h.1 hp2;refine yal (zC hp2) (yav rfl (zr (zq (yad H5) ?_)));obtain ⟨hi,h⟩:=h;refine zq (zA hi) (zQ (ii (v+1)) (yaa ?_));obtain ⟨mq,hlt,h⟩:=h;exact ag mq _ _ _ ⟨_,_,_,h,rfl,H1,H3,H4,rfl,(hS.sel [0,1,2])⟩ hlt
    · replace h:=h.2 hp2;refine yaq (zC (zI hp2)) (yaf (zs (zq (yad H3) ?_)));obtain ⟨hi2,h⟩:=h;refine zq (zA hi2) (zQ (ii (n+1)) (yaa (zs (zq (yao (vs:=[(ii g),(.slice Ag lg cg)]) H1 underlying24 rfl yat ⟨Row.cell (hS.bx 0 rfl) (i:=0) rfl,Row.cell (hS.bx 0 rfl) (i:=1) rfl,trivial⟩) (zq (yad H5) (zn (yaj rfl (am2 rfl rfl) enter_106 ((yih h (yaN _) (hS.rdr 1 rfl)).mono ?_))))))));rintro _ w5 ⟨r,Ar,lr,cr,rfl,hC,h⟩;replace hS:=hS.call1 (hC.widen (ydi (ya3 fB _ _ _ _ _) yea) hS.blt) 3 0 rfl;clear hC;refine ⟨_,rfl,?_⟩;refine zb (zQ (.slice Ar lr cr) (yaa (zs (zQ (ii 0) (yaa (yah ?_))))));obtain ⟨I3,⟨m0,h0⟩,hr⟩:=h;refine yaA (fun m E ds w'=>∃ u seen2,I3 m u seen2∧ds=[]∧E 1=(Value.pointer (some ⟨g3,0,none⟩))∧E 3=(ii (n+1))∧E 4=(Value.slice (some ⟨g4,0,none⟩) g.toNat g.toNat)∧E 5=(ii v)∧E 6=(Value.slice Ar lr cr)∧E 7=(ii u)∧Sep w no O w' (rl [Res.box 24 g3 [(ii g),(.slice Ag lg cg)],Res.ro (FP.sl c3 Ag lg cg g2),Res.own cB 4 (some ⟨g4,0,none⟩) g.toNat g.toNat seen2,Res.own cB 4 Ar lr cr r])) m0 ⟨_,_,h0,rfl,H1,rfl,H4,H5,rfl,rfl,(hS.sel [0,1,2,3])⟩ ?_;clear h0 hS;rintro m4 E ds w6 ⟨u,seen2,h,rfl,H1,H3,H4,H5,H6,H7,hS⟩ again2;replace h:=hr m4 u seen2 h;clear hr;refine yac (zs (zq (yad H7) (zq (yae H1 underlying24 rfl yab) (zq (zl underlying3 (Row.cell (hS.bx 0 rfl) (i:=0) rfl)) (zq zL (yaa ?_))))));by_cases hp3:u<g
      · replace h:=h.1 hp3;refine zc hp3 (yaf (yac (yah (zr (zq (yad H4) (zq (yad H7) (zq (yad H4) (zq (yad H7) ?_))))))));obtain ⟨hx3,h⟩:=h;refine zq (zi underlying168 ybP (yaU (hS.rdo 2 rfl) hx3)) (zq (yam (v:=(.bool (gb seen2 u.toNat))) rfl underlying4 rfl (rd_1 (hS.rdo 2 rfl) hx3 (fun q=>gb_some q) rfl)) ?_);refine zM (.bool (gb seen2 u.toNat)) ?_;by_cases hp4:gb seen2 u.toNat=true
        · replace h:=h.1 hp4;refine zV rfl rfl (zC hp4) (zV rfl rfl (zC hp4) (zV rfl rfl (zC hp4) (zV rfl rfl (zC hp4) (zq (yau (v:=(.bool (true))) (zC hp4) rfl) (zq (zi underlying168 ybP (yaU (hS.rdo 2 rfl) hx3)) (zo (zt (.bool (true)) ybP (hS.wr 2 rfl rfl hx3) ?_)))))));intro w7 e1;replace hS:=hS.st 2 rfl rfl hx3 (x:=true) rfl e1;clear e1;refine zb (yaa (yag (zr (zq (yad H7) ?_))));obtain ⟨hi3,h⟩:=h;refine zq (zA hi3) (zQ (ii (u+1)) (yaa ?_));obtain ⟨mq,hlt,h⟩:=h;exact again2 mq _ _ _ ⟨_,_,h,rfl,H1,H3,H4,H5,H6,rfl,(hS.sel [0,1,2,3])⟩ hlt
        · replace h:=h.2 hp4;refine zW rfl rfl (zC (zI hp4)) (yad H6) (zW rfl rfl (zC (zI hp4)) (yad H7) ?_);obtain ⟨hx4,h⟩:=h;refine zW rfl rfl (zC (zI hp4)) (zi underlying168 ybP (yaU (hS.rdo 3 rfl) hx4)) (zW rfl rfl (zC (zI hp4)) (yam (v:=(.bool (gb r u.toNat))) rfl underlying4 rfl (rd_1 (hS.rdo 3 rfl) hx4 (fun q=>gb_some q) rfl)) ?_);refine zq (yaw (v:=(.bool (gb r u.toNat))) (zC (zI hp4)) rfl) (zq (zi underlying168 ybP (yaU (hS.rdo 2 rfl) hx3)) (zo (zt (.bool (gb r u.toNat)) ybP (hS.wr 2 rfl rfl hx3) ?_)));intro w8 e1;replace hS:=hS.st 2 rfl rfl hx3 (x:=gb r u.toNat) rfl e1;clear e1;refine zb (yaa (yag (zr (zq (yad H7) ?_))));obtain ⟨hi4,h⟩:=h;refine zq (zA hi4) (zQ (ii (u+1)) (yaa ?_));obtain ⟨mq,hlt,h⟩:=h;exact again2 mq _ _ _ ⟨_,_,h,rfl,H1,H3,H4,H5,H6,rfl,(hS.sel [0,1,2,3])⟩ hlt
      · replace h:=h.2 hp3;refine zd hp3 (yav rfl (yag (zr (zq (yad H5) ?_))));obtain ⟨hi5,h⟩:=h;refine zq (zA hi5) (zQ (ii (v+1)) (yaa ?_));obtain ⟨mq,hlt,h⟩:=h;exact ag mq _ _ _ ⟨_,_,_,h,rfl,H1,H3,H4,rfl,(hS.sel [0,1,2])⟩ hlt
  · replace h:=h.2 hp;exact zd hp (yav rfl (zs (zq (yad H3) (zQ (ii n) (yaa (yai rfl rfl ⟨_,rfl,(hS.sel []),h⟩))))))
def yc9(g:Int)(g2:List E3)(R:Bool→Prop):Prop :=
ydY g g2 (fun r =>
R (decide (r=1)))
theorem yg1{O:Nat→Prop}{w:World}{g g2 Ag lg cg}{R:Bool→Prop}(h:yc9 g g2 R)(hO:∀ k,O k→k<w.heap.size)(hA0:(FP.sl c3 Ag lg cg g2).P O w) :
    Calls Tryz.prog 26 #[(.agg #[(ii g),(.slice Ag lg cg)])] w fun e w'=>∃ r2,e = .returned (.bool (r2))∧Sep w no O w' (rl [])∧R r2:=by
  unfold yc9 at h;have hS:Sep w no O w (rl [Res.ro (FP.sl c3 Ag lg cg g2)]):=Sep.startl hO [(FP.sl c3 Ag lg cg g2)] ⟨hA0,trivial⟩;refine yak (l:=[(.agg #[(ii g),(.slice Ag lg cg)])]) func26 rfl ntmps26 zY (zs (zn (ybi (v:=(.agg #[(ii g),(.slice Ag lg cg)])) rfl ?_)));intro g3 w2 hN;replace hS:Sep w no O w2 (stl _ 1 (Res.box 24 g3 [(ii g),(.slice Ag lg cg)])):=hS.new 1 rfl hN;clear hN;refine zb (zQ (.bool (false)) (yaa (zs (zq (yao (vs:=[(ii g),(.slice Ag lg cg)]) rfl underlying24 rfl yat ⟨Row.cell (hS.bx 1 rfl) (i:=0) rfl,Row.cell (hS.bx 1 rfl) (i:=1) rfl,trivial⟩) (zn (yaj rfl (am1 rfl) enter_63 ((pok_r08_Parts h (yaN _) (hS.rdr 0 rfl)).mono ?_)))))));rintro _ w3 ⟨r,rfl,hC,h⟩;replace hS:=hS.pur hC.pure;clear hC;refine ⟨_,rfl,?_⟩;exact zb (zq zE (zQ (.bool (decide (r=1))) (yaa (yai rfl rfl ⟨_,rfl,(hS.sel []),h⟩))))
def ydA(g:Int)(g2:List E3)(R:Int→Prop):Prop :=
ycs g g2 (fun r =>
((r=0 →
yc9 g g2 (fun r2 =>
((r2=true →
R 0) ∧
(¬(r2=true) →
R 13)))) ∧
(¬(r=0) →
R r)))
theorem pok_r25_Joined{O:Nat→Prop}{w:World}{g g2 Ag lg cg}{R:Int→Prop}(h:ydA g g2 R)(hO:∀ k,O k→k<w.heap.size)(hA0:(FP.sl c3 Ag lg cg g2).P O w) :
    Calls Tryz.prog 5 #[(.agg #[(ii g),(.slice Ag lg cg)])] w fun e w'=>∃ r3,e = .returned (ii r3)∧Sep w no O w' (rl [])∧R r3:=by
  unfold ydA at h;have hS:Sep w no O w (rl [Res.ro (FP.sl c3 Ag lg cg g2)]):=Sep.startl hO [(FP.sl c3 Ag lg cg g2)] ⟨hA0,trivial⟩;refine yak (l:=[(.agg #[(ii g),(.slice Ag lg cg)])]) func5 rfl ntmps5 zY (zs (zn (ybi (v:=(.agg #[(ii g),(.slice Ag lg cg)])) rfl ?_)));intro g3 w2 hN;replace hS:Sep w no O w2 (stl _ 1 (Res.box 24 g3 [(ii g),(.slice Ag lg cg)])):=hS.new 1 rfl hN;clear hN;refine zb (zQ (ii 0) (yaa (yac (zs (zq (yao (vs:=[(ii g),(.slice Ag lg cg)]) rfl underlying24 rfl yat ⟨Row.cell (hS.bx 1 rfl) (i:=0) rfl,Row.cell (hS.bx 1 rfl) (i:=1) rfl,trivial⟩) (zn (yaj rfl (am1 rfl) enter_25 ((ygz h (yaN _) (hS.rdr 0 rfl)).mono ?_))))))));rintro _ w3 ⟨r,rfl,hC,h⟩;replace hS:=hS.pur hC.pure;clear hC;refine ⟨_,rfl,?_⟩;refine zb (zQ (ii r) (yaa (zs (zM (ii r) (zq zN (yaa ?_))))));by_cases hp:r=0
  · replace h:=h.1 hp;refine ze hp (yaf (yac (zs (zq (yao (vs:=[(ii g),(.slice Ag lg cg)]) rfl underlying24 rfl yat ⟨Row.cell (hS.bx 1 rfl) (i:=0) rfl,Row.cell (hS.bx 1 rfl) (i:=1) rfl,trivial⟩) (zn (yaj rfl (am1 rfl) enter_26 ((yg1 h (yaN _) (hS.rdr 0 rfl)).mono ?_)))))));rintro _ w4 ⟨r2,rfl,hC,h⟩;replace hS:=hS.pur hC.pure;clear hC;refine ⟨_,rfl,?_⟩;refine zb (zq (ydd rfl) (yaa ?_));by_cases hp2:r2=true
    · replace h:=h.1 hp2;exact yaq (zC (zB hp2)) (yaf (zs (zQ (ii 0) (yaa (yai rfl rfl ⟨_,rfl,(hS.sel []),h⟩)))))
    · replace h:=h.2 hp2;exact yal (zC (zB (zI hp2))) (zs (zQ (ii 13) (yaa (yai rfl rfl ⟨_,rfl,(hS.sel []),h⟩))))
  · replace h:=h.2 hp;exact zf hp (zs (zM (ii r) (zQ (ii r) (yaa (yai rfl rfl ⟨_,rfl,(hS.sel []),h⟩)))))
end Go.Proofs.YtjepipbkiadcpaaGreat

/- What the references' pure forms come to: graphs and divisors. -/
namespace Go.Proofs.YtjepipbkiadcpaaGreat
open Go Go.Proofs.Tryz
theorem yeJ{n v:Int}{es:List E3}{R:Bool→Prop}(h:R (decide (0≤v∧v<n))):ycZ n es v R:=by
  unfold ycZ
  refine ⟨fun h1=>?_,fun h1=>?_⟩
  · have e:decide (v<n)=decide (0≤v∧v<n):=by simp [h1]
    rw [e];exact h
  · have e:false=decide (0≤v∧v<n):=by simp [h1]
    rw [e];exact h
theorem p_r08_edge{n:Int}{es:List E3}{k:Nat}{R:Int→Prop}(hk:k<es.length)(hl:es.length≤1000000000)(h:R (yeR n (pre es k).1 (pre es k).2 (ge es k))):yde n es (k:Int) R:=by
  unfold yde
  simp only [Int.toNat_natCast]
  generalize hx:ge es k=x at h ⊢
  refine ⟨by omega,(0≤x.1∧x.1<n)∧(0≤x.2.1∧x.2.1<n)∧1≤x.2.2∧x.2.2≤50,fun hJ=>?_,?_⟩
  · have hed:∀ a b,yeR n a b x=if x.1≤x.2.1∧yic a b x.1 x.2.1<0 then 0 else 9:=fun a b=>by unfold yeR;rw [if_pos hJ]
    rw [hed] at h
    refine ⟨fun q=>by rw [if_neg (by omega)] at h;exact h,fun q=>⟨fun h0=>?_,fun h0=>?_⟩⟩
    · have e1:((k:Int)-1).toNat=k-1:=by omega
      rw [e1]
      have hp:pre es k=((ge es (k-1)).1,(ge es (k-1)).2.1):=by unfold pre;rw [if_neg (by omega)]
      rw [hp] at h
      have hc:=ygh (ge es (k-1)).1 (ge es (k-1)).2.1 x.1 x.2.1
      refine ⟨i64 (by omega),by omega,fun q1=>?_,fun q1=>⟨fun q2=>⟨fun q3=>?_,fun q3=>?_⟩,fun q2=>?_⟩⟩
      · rw [if_neg (fun h=>by have:=hc.1 h.2;omega)] at h;exact h
      · rw [if_neg (fun h=>by have:=hc.1 h.2;omega)] at h;exact h
      · rw [if_pos ⟨by omega,hc.2 (by omega)⟩] at h;exact h
      · rw [if_pos ⟨by omega,hc.2 (by omega)⟩] at h;exact h
    · have hp:pre es k=(-1, -1):=by unfold pre;rw [if_pos (by omega)]
      rw [hp,if_pos ⟨by omega,(ygh _ _ _ _).2 (.inl (by omega))⟩] at h
      exact h
  · have hed:¬((0≤x.1∧x.1<n)∧(0≤x.2.1∧x.2.1<n)∧1≤x.2.2∧x.2.2≤50)→R 2:=fun q=>by unfold yeR at h;rwa [if_neg q] at h
    refine yeJ ⟨fun h1=>yeJ ⟨fun h2=>⟨fun h3=>hed (by omega),fun h3=>⟨fun h4=>hed (by omega),fun h4=>?_⟩⟩,fun h2=>hed (by simp at h2;omega)⟩,fun h1=>hed (by simp at h1;omega)⟩
    simp only [decide_eq_true_eq] at h1 h2
    exact ⟨h1,h2,by omega,by omega⟩
theorem p_r08_Check{n:Int}{es:List E3}{R:Int→Prop}(hl:es.length≤1000000000)(h:R (yap n es)):ycs n es R:=by
  unfold ycs
  have hout:¬(1≤n∧n≤12)→R 2:=fun q=>by unfold yap at h;rwa [if_neg q] at h
  refine ⟨1≤n∧n≤12,fun hn=>?_,fun q=>hout (by omega),fun q=>⟨fun q2=>hout (by omega),fun q2=>⟨by omega,by omega⟩⟩⟩
  have hg:yap n es=gchk n (-1) (-1) es:=by unfold yap;rw [if_pos hn]
  rw [hg] at h
  refine ⟨Cnt es.length (fun k=>gchk n (-1) (-1) es=gchk n (pre es k).1 (pre es k).2 (es.drop k)),Cnt.start rfl,?_⟩
  rintro m _ ⟨k,rfl,rfl,hk,hinv⟩
  refine ⟨fun hlt=>p_r08_edge (by omega) hl ⟨fun h0=>Cnt.next (by omega) (by omega) ?_,fun h0=>?_⟩,fun hge=>?_⟩
  · rw [yfJ (by omega),ydZ,if_pos h0] at hinv
    rw [hinv];simp [pre]
  · rw [yfJ (by omega),ydZ,if_neg h0] at hinv
    rwa [hinv] at h
  · have hk2:k=es.length:=by omega
    rw [hinv,hk2,List.drop_length] at h
    exact h
theorem p_r08_Between' {n:Int}{es:List E3}{a b:Int}{R:Int→Prop}(hl:es.length≤1000000000)(h:R (((es.find? fun x=>decide (x.1=mnF a b∧x.2.1=mxF a b)).map (·.2.2)).getD 0)):ycH n es a b R:=by
  unfold ycH
  refine ⟨Cnt es.length (fun k=>es.find? (fun x=>decide (x.1=mnF a b∧x.2.1=mxF a b))=(es.drop k).find? (fun x=>decide (x.1=mnF a b∧x.2.1=mxF a b))),Cnt.start rfl,?_⟩
  rintro m _ ⟨k,rfl,rfl,hk,hinv⟩
  refine ⟨fun hlt=>?_,fun hge=>?_⟩
  · have hlt:k<es.length:=by omega
    rw [yfJ hlt,List.find?_cons] at hinv
    simp only [Int.toNat_natCast]
    refine ⟨by omega,fun h1=>⟨fun h2=>?_,fun h2=>Cnt.next hlt (by omega) ?_⟩,fun h1=>Cnt.next hlt (by omega) ?_⟩
    · rw [hinv] at h;simpa [h1,h2] using h
    · rw [hinv];simp [h2]
    · rw [hinv];simp [h1]
  · have hk2:k=es.length:=by omega
    rw [hinv,hk2,List.drop_length] at h
    exact h
theorem p_r08_Between{n:Int}{es:List E3}{u v:Nat}{R:Int→Prop}(hl:es.length≤1000000000)(hg:yap n es=0)(huv:u≠v)(h:R (W es u v)):ycH n es (u:Int) (v:Int) R :=
  p_r08_Between' hl (by rw [between_W u v huv es (-1) (-1) (yfl hg)];exact h)
def yhM(es:List E3):List (Int×Int):=es.flatMap fun x=>List.replicate x.2.2.toNat (x.1,x.2.1)
theorem endsF_take{es:List E3}{k:Nat}(hk:k<es.length):yhM (es.take (k+1))=yhM (es.take k)++List.replicate (ge es k).2.2.toNat ((ge es k).1,(ge es k).2.1):=by
  unfold yhM
  rw [List.take_add_one,List.getElem?_eq_getElem hk,yed hk,List.flatMap_append]
  simp
theorem yhA(es:List E3)(hE:∀ x∈es,1≤x.2.2∧x.2.2≤50):((yhM es).length:Int)=(es.map (·.2.2)).sum∧(yhM es).length≤50*es.length:=by
  induction es with
  | nil=>simp [yhM]
  | cons x t ih =>
    have hx:=hE x (by simp)
    have:=ih fun y hy=>hE y (by simp [hy])
    unfold yhM at this ⊢
    rw [List.flatMap_cons,List.length_append,List.length_replicate,List.map_cons,List.sum_cons,List.length_cons]
    omega
theorem p_r08_Ends{n:Int}{es:List E3}{R:List (Int×Int)→Prop}(hl:es.length≤1000)(hE:∀ x∈es,1≤x.2.2∧x.2.2≤50)(h:R (yhM es)):yeq n es R:=by
  unfold yeq
  have hlen:∀ k,(yhM (es.take k)).length≤50*k:=fun k=>by
    have:=(yhA (es.take k) fun x hx=>hE x (List.mem_of_mem_take hx)).2
    rw [List.length_take] at this
    omega
  refine ⟨fun m out i=>Cnt es.length (fun k=>out=yhM (es.take k)) m i,Cnt.start (by simp [yhM]),?_⟩
  rintro m out _ ⟨k,rfl,rfl,hk,rfl⟩
  refine ⟨fun hlt=>?_,fun hge=>?_⟩
  · have hlt:k<es.length:=by omega
    have hmk:=hE _ (ge_mem hlt)
    have hl2:=hlen k
    simp only [Int.toNat_natCast]
    refine ⟨fun m2 out2 j=>Cnt (ge es k).2.2.toNat (fun i=>out2=yhM (es.take k)++List.replicate i ((ge es k).1,(ge es k).2.1)) m2 j,Cnt.start (by simp),?_⟩
    rintro m2 out2 _ ⟨j,rfl,rfl,hj,rfl⟩
    refine ⟨by omega,fun h1=>⟨?_,Cnt.next (by omega) (by omega) ?_⟩,fun h1=>Cnt.next hlt (by omega) ?_⟩
    · rw [List.length_append,List.length_replicate];omega
    · rw [List.append_assoc,List.replicate_succ']
    · have:j=(ge es k).2.2.toNat:=by omega
      rw [endsF_take hlt,this]
  · have hk2:k=es.length:=by omega
    rw [hk2,List.take_length];exact h
theorem p_r08_Size{n:Int}{es:List E3}{R:Int→Prop}(hl:es.length≤1000)(hE:∀ x∈es,1≤x.2.2∧x.2.2≤50)(h:R ((es.map (·.2.2)).sum)):yfn n es R :=
  p_r08_Ends hl hE (by rw [(yhA es hE).1];exact h)
theorem p_r08_small{n a b:Int}{es:List E3}{R:Bool→Prop}(h:R (smallF n es a b)):ydX n es a b R:=by
  unfold ydX
  unfold smallF at h
  refine ⟨fun h1=>?_,fun h1=>p_r08_Check (by omega) ⟨fun h2=>⟨fun h3=>?_,fun h3=>?_⟩,fun h2=>?_⟩⟩
  · rwa [decide_eq_false (by omega)] at h
  · have hE:=gchk_ok es _ _ (yfl h2)
    refine p_r08_Size (by omega) (fun x hx=>(hE x hx).2.2.2.2) ?_
    have e:decide ((es.map (·.2.2)).sum≤b)=decide (es.length≤40∧(yap n es=0→n≤a∧(es.map (·.2.2)).sum≤b)):=by
      rw [decide_eq_decide];constructor
      · intro q;exact ⟨by omega,fun _=>⟨h3,q⟩⟩
      · intro q;exact (q.2 h2).2
    rw [e];exact h
  · rwa [decide_eq_false (fun q=>h3 (q.2 h2).1)] at h
  · rwa [decide_eq_true ⟨by omega,fun q=>absurd q h2⟩] at h
end Go.Proofs.YtjepipbkiadcpaaGreat

/- Borrowing: a vertex in debt borrows from its neighbours, until there is no debt, or each vertex has borrowed. No program in sight. -/
namespace Go.Proofs.YtjepipbkiadcpaaGreat
open Go Go.Proofs.Tryz
def Win(n:Nat)(es:List E3)(d:List Int):Prop:=∃ s:Nat→Int,∀ v,v<n→0≤gi d v-Lp n es s v
structure Bor(n:Nat)(es:List E3)(d:List Int)(c:Nat→Int)(x:List Int)(b:List Bool):Prop where
  xl:x.length=n
  bl:b.length=n
  val:∀ v,v<n→gi x v=gi d v+Lp n es c v
  c0:∀ v,v<n→0≤c v
  bo:∀ v,v<n→(gb b v=true↔0<c v)
  up:∀ v,v<n→gi x v≤1000
  least:∀ t:Nat→Int,(∀ v,v<n→0≤t v)→(∀ v,v<n→0≤gi d v+Lp n es t v)→∀ v,v<n→c v≤t v
section
variable {n : Nat} {es : List E3} {d : List Int}
theorem win_red{q:Nat}{r:List Int}{s:Nat→Int}(hE:EOk n es)(hq:q<n)(hr:Red n es q r)(hl:∀ v,v<n→gi r v=gi d v-Lp n es s v):Win n es d↔0≤gi r q:=by
  constructor
  · rintro ⟨t,ht⟩
    -- the end of t is the form behind a firing
    have h1:=ye5 hE hq hr (d':=tab (fun v=>gi d v-Lp n es t v) n) (fun v hv _=>by rw [gi_tab _ hv];exact ht v hv) (f:=fun i=>t i+(-1)*s i) fun v hv=>by
      rw [gi_tab _ hv,ygc t (fun i=>(-1)*s i),ygG,hl v hv];omega
    have h2:0≤Lp n es (fun i=>t i+(-1)*s i) q:=by
      unfold Lp
      refine yaX fun u hu=>?_
      exact Int.mul_nonneg (ya5 hE q u) (by have:=h1 u hu;show 0≤t q + -1*s q-(t u + -1*s u);omega)
    have h3:=ht q hq
    rw [ygc t (fun i=>(-1)*s i),ygG] at h2
    rw [hl q hq];omega
  · intro h0
    refine ⟨s,fun v hv=>?_⟩
    rw [←hl v hv]
    by_cases e:v=q
    · rw [e];exact h0
    · exact hr.pos v hv e
end
end Go.Proofs.YtjepipbkiadcpaaGreat

/- The genus: how many single edges there are, and how many chips a reduced divisor has. No program in sight. -/
namespace Go.Proofs.YtjepipbkiadcpaaGreat
open Go Go.Proofs.Tryz
end Go.Proofs.YtjepipbkiadcpaaGreat

/- Pure forms of functions, made by program (pf.py), each with the proof that the code does so. -/
namespace Go.Proofs.YtjepipbkiadcpaaGreat
open Go Go.RowKit Go.Shelf Go.Proofs.Tryz
set_option maxRecDepth 100000
set_option maxHeartbeats 8000000
def yaT(s1:List Int)(s2:List Int)(R:Bool→Prop):Prop :=
(((s1.length:Int)=(s2.length:Int) →
(∃ I2:Nat→Int→Prop,(∃ m0,I2 m0 0)∧∀ m2 v,I2 m2 v → 
((v<(s1.length:Int) →
((0≤v∧v<(s1.length:Int)) ∧
((0≤v∧v<(s2.length:Int)) ∧
(((gi s1 v.toNat)=(gi s2 v.toNat) →
(In64 (v+1) ∧
∃ m3,m3<m2∧I2 m3 (v+1))) ∧
(¬((gi s1 v.toNat)=(gi s2 v.toNat)) →
R false))))) ∧
(¬(v<(s1.length:Int)) →
R true)))) ∧
(¬((s1.length:Int)=(s2.length:Int)) →
R false))
theorem ycn{O:Nat→Prop}{w:World}{s1 s2 As1 ls1 cs1 As2 ls2 cs2}{R:Bool→Prop}(h:yaT s1 s2 R)(hO:∀ k,O k→k<w.heap.size)(hA0:(FP.sl cI As1 ls1 cs1 s1).P O w)(hA1:(FP.sl cI As2 ls2 cs2 s2).P O w) :
    Calls Tryz.prog 14 #[(.slice As1 ls1 cs1),(.slice As2 ls2 cs2)] w fun e w'=>∃ r,e = .returned (.bool (r))∧Sep w no O w' (rl [])∧R r:=by
  unfold yaT at h;have hS:Sep w no O w (rl [Res.ro (FP.sl cI As1 ls1 cs1 s1),Res.ro (FP.sl cI As2 ls2 cs2 s2)]):=Sep.startl hO [(FP.sl cI As1 ls1 cs1 s1),(FP.sl cI As2 ls2 cs2 s2)] ⟨hA0,hA1,trivial⟩;refine yak (l:=[(.slice As1 ls1 cs1),(.slice As2 ls2 cs2)]) func14 rfl ntmps14 zY (zs (zQ (.bool (false)) (yaa (yac (zs (zM (.slice As1 ls1 cs1) (zq (ybw (n:=s1.length) rfl underlying34 (ybh (hS.rdr 0 rfl))) (zM (.slice As2 ls2 cs2) (zq (ybw (n:=s2.length) rfl underlying34 (ybh (hS.rdr 1 rfl))) (zq zN (yaa ?_)))))))))));by_cases hp:(s1.length:Int)=(s2.length:Int)
  · replace h:=h.1 hp;refine ze hp (yaf (yac (zs (zM (.slice As1 ls1 cs1) (zq (ybw (n:=s1.length) rfl underlying34 (ybh (hS.rdr 0 rfl))) (zM (ii 0) (yaa (yah ?_))))))));obtain ⟨I2,⟨m0,h0⟩,hr⟩:=h;refine yaA (fun m E ds w'=>∃ v,I2 m v∧ds=[]∧E 0=(Value.slice As1 ls1 cs1)∧E 1=(Value.slice As2 ls2 cs2)∧E 12=(ii (s1.length:Int))∧E 13=(ii v)∧Sep w no O w' (rl [Res.ro (FP.sl cI As1 ls1 cs1 s1),Res.ro (FP.sl cI As2 ls2 cs2 s2)])) m0 ⟨_,h0,rfl,rfl,rfl,rfl,rfl,(hS.sel [0,1])⟩ ?_;clear h0 hS;rintro m2 E ds w2 ⟨v,h,rfl,H0,H1,H12,H13,hS⟩ ag;replace h:=hr m2 v h;clear hr;refine zs (zq (ydf H13 H12) (yaa (yac ?_)));by_cases hp2:v<(s1.length:Int)
    · replace h:=h.1 hp2;refine zc hp2 (yaf (yac (yah (zs (zq (yad H13) (zQ (ii v) (yaa (yac (ya9 [0,1,2,3,4,5,6,7,8] st0 yaQ (by kernel_rfl) (by kernel_rfl) ?_)))))))));replace hS:=hS.drew;refine zp (yad H0) (zp (zm (ii v)) ?_);obtain ⟨hx,h⟩:=h;refine zp (zi underlying34 yab (yaU (hS.rdr 0 rfl) hx)) (zp (yam (v:=(ii (gi s1 v.toNat))) rfl underlying3 rfl (rd_1 (hS.rdr 0 rfl) hx (fun q=>ybe q) rfl)) ?_);refine zp (yad H1) (zp (zm (ii v)) ?_);obtain ⟨hx2,h⟩:=h;refine zp (zi underlying34 yab (yaU (hS.rdr 1 rfl) hx2)) (zp (yam (v:=(ii (gi s2 v.toNat))) rfl underlying3 rfl (rd_1 (hS.rdr 1 rfl) hx2 (fun q=>ybe q) rfl)) ?_);refine zp zN (ybq ?_);by_cases hp3:(gi s1 v.toNat)=(gi s2 v.toNat)
      · replace h:=h.1 hp3;refine ze hp3 (yaf (yag (zr ?_)));obtain ⟨hi,h⟩:=h;refine zq (ybU H13 rfl hi) (zM (ii (v+1)) (yaa ?_));obtain ⟨mq,hlt,h⟩:=h;exact ag mq _ _ _ ⟨_,h,rfl,H0,H1,H12,rfl,(hS.sel [0,1])⟩ hlt
      · replace h:=h.2 hp3;exact zf hp3 (zs (zQ (.bool (false)) (yaa (yai rfl rfl ⟨_,rfl,(hS.sel []),h⟩))))
    · replace h:=h.2 hp2;exact zd hp2 (yav rfl (zs (zQ (.bool (true)) (yaa (yai rfl rfl ⟨_,rfl,(hS.sel []),h⟩)))))
  · replace h:=h.2 hp;exact zf hp (zs (zQ (.bool (false)) (yaa (yai rfl rfl ⟨_,rfl,(hS.sel []),h⟩))))
def yaC(s:List Int)(R:(List Int)→Prop):Prop :=
(∀ nil:Bool,(nil=true→s=[]) →
((nil=true →
R ([])) ∧
(¬(nil=true) →
(0+s.length≤1000000000 ∧
R ([]++s)))))
theorem ybf{O:Nat→Prop}{w:World}{s As ls cs}{R:(List Int)→Prop}(h:yaC s R)(hO:∀ k,O k→k<w.heap.size)(hA0:(FP.sl cI As ls cs s).P O w) :
    Calls Tryz.prog 76 #[(.slice As ls cs)] w fun e w'=>∃ r Ar lr cr,e = .returned (.slice Ar lr cr)∧Sep w no O w' (rl [Res.own cI 3 Ar lr cr r])∧R r:=by
  unfold yaC at h;have hS:Sep w no O w (rl [Res.ro (FP.sl cI As ls cs s)]):=Sep.startl hO [(FP.sl cI As ls cs s)] ⟨hA0,trivial⟩;refine yak (l:=[(.slice As ls cs)]) func76 rfl ntmps76 zY (zs (zQ (.slice none 0 0) (yaa (yac (zs (zM (.slice As ls cs) ?_))))));obtain ⟨nil,hn⟩:∃ b,Option.isNone As=b:=⟨_,rfl⟩;replace h:=h nil (by rw [←hn];exact rd_nil (hS.rdr 0 rfl));refine zq (v_seqlx rfl rfl underlying34 hn) (yaa ?_);by_cases hp:nil=true
  · replace h:=h.1 hp;refine yal (zC hp) (zs (zQ (.slice none 0 0) (yaa ?_)));replace hS:=hS.nil 1 rfl cI 3;exact yai rfl rfl ⟨_,_,_,_,rfl,(hS.sel [1]),h⟩
  · replace h:=h.2 hp;refine yaq (zC (zI hp)) (yaf (zs (zn (ybb (l:=[]) (cells:=[]) (bp0) underlying34 yab rfl rfl ?_))));intro g w2 hN;replace hS:=hS.litf (n:=0) 1 rfl (fI .i64) hN ([]:List Int) rfl (by decide) rfl;clear hN;refine zb (zM (.slice As ls cs) ?_);obtain ⟨hx,h⟩:=h;refine zn (yiF (c:=cI) rfl rfl underlying34 underlying34 yab rfl rfl (by decide) hS 1 rfl (hS.yr 0 rfl) hx ?_);clear hS;intro A c w3 hS;exact zb (zQ (.slice A (0+ls) c) (yaa (yai rfl rfl ⟨_,_,_,_,rfl,(hS.sel [1]),h⟩)))
end Go.Proofs.YtjepipbkiadcpaaGreat

/- Pure forms of functions, made by program (pf.py), each with the proof that the code does so. -/
namespace Go.Proofs.YtjepipbkiadcpaaGreat
open Go Go.RowKit Go.Shelf Go.Proofs.Tryz
set_option maxRecDepth 100000
set_option maxHeartbeats 8000000
end Go.Proofs.YtjepipbkiadcpaaGreat

/- Pure forms of functions, made by program (pf.py), each with the proof that the code does so. -/
namespace Go.Proofs.YtjepipbkiadcpaaGreat
open Go Go.RowKit Go.Shelf Go.Proofs.Tryz
set_option maxRecDepth 100000
set_option maxHeartbeats 8000000
def ycG(x:Int)(R:Bool→Prop):Prop :=
R (!(decide (x=x)))
theorem yeV{O:Nat→Prop}{w:World}{x}{R:Bool→Prop}(h:ycG x R)(hO:∀ k,O k→k<w.heap.size) :
    Calls Tryz.prog 131 #[(ii x)] w fun e w'=>∃ r,e = .returned (.bool (r))∧Sep w no O w' (rl [])∧R r:=by
  unfold ycG at h;have hS:Sep w no O w (rl []):=Sep.start w hO;exact yak (l:=[(ii x)]) func131 rfl ntmps131 zY (zs (zQ (.bool (false)) (yaa (zs (zM (ii x) (zM (ii x) (zq zN (zQ (.bool (!(decide (x=x)))) (yaa (yai rfl rfl ⟨_,rfl,(hS.sel []),h⟩))))))))))
def ybE(x:List Int)(R:Int→Prop):Prop :=
(∃ J2:Prop,(J2→((0≤(0:Int)∧(0:Int)<(x.length:Int)) ∧
(∃ I2:Nat→Int→Int→Prop,(∃ m0,I2 m0 (gi x (0:Int).toNat) 1)∧∀ m2 m3 i,I2 m2 m3 i → 
((i<(x.length:Int) →
((0≤i∧i<(x.length:Int)) ∧
(In64 (i+1) ∧
∃ m4,m4<m2∧I2 m4 (mnF m3 (gi x i.toNat)) (i+1)))) ∧
(¬(i<(x.length:Int)) →
R m3))))) ∧
(((x.length:Int)<1 →
False) ∧
(¬((x.length:Int)<1) →
J2)))
theorem yfy{O:Nat→Prop}{w:World}{x Ax lx cx}{R:Int→Prop}(h:ybE x R)(hO:∀ k,O k→k<w.heap.size)(hA0:(FP.sl cI Ax lx cx x).P O w) :
    Calls Tryz.prog 178 #[(.slice Ax lx cx)] w fun e w'=>∃ r,e = .returned (ii r)∧Sep w no O w' (rl [])∧R r:=by
  unfold ybE at h;have hS:Sep w no O w (rl [Res.ro (FP.sl cI Ax lx cx x)]):=Sep.startl hO [(FP.sl cI Ax lx cx x)] ⟨hA0,trivial⟩;refine yak (l:=[(.slice Ax lx cx)]) func178 rfl ntmps178 zY (zs (zQ (ii 0) (yaa (yac (zs (zM (.slice Ax lx cx) (zq (ybw (n:=x.length) rfl underlying34 (ybh (hS.rdr 0 rfl))) (zq zL (yaa ?_)))))))));obtain ⟨J2,hJ,h⟩:=h;refine wt_cutT0 (fun E ds w'=>J2∧ds=[]∧E 0=(Value.slice Ax lx cx)∧Sep w no O w' (rl [Res.ro (FP.sl cI Ax lx cx x)])) ?_ ?_
  · clear h hS;rintro E ds w2 ⟨h,rfl,H0,hS⟩;replace h:=hJ h;refine zs (zq (yad H0) ?_);obtain ⟨hx,h⟩:=h;refine zq (zi underlying34 yab (yaU (hS.rdr 0 rfl) hx)) (zq (yam (v:=(ii (gi x (0:Int).toNat))) rfl underlying3 rfl (rd_1 (hS.rdr 0 rfl) hx (fun q=>ybe q) rfl)) ?_);refine zQ (ii (gi x (0:Int).toNat)) (yaa (yac (zs (zQ (ii 1) (yaa (yah ?_))))));obtain ⟨I2,⟨m0,h0⟩,hr⟩:=h;refine yaA (fun m E ds w'=>∃ m3 i,I2 m m3 i∧ds=[]∧E 0=(Value.slice Ax lx cx)∧E 3=(ii m3)∧E 4=(ii i)∧Sep w no O w' (rl [Res.ro (FP.sl cI Ax lx cx x)])) m0 ⟨_,_,h0,rfl,H0,rfl,rfl,(hS.sel [0])⟩ ?_;clear h0 hS;rintro m2 E ds w3 ⟨m3,i,h,rfl,H0,H3,H4,hS⟩ ag;replace h:=hr m2 m3 i h;clear hr;refine yac (zs (zq (yad H4) (zq (yad H0) (zq (ybw (n:=x.length) rfl underlying34 (ybh (hS.rdr 0 rfl))) (zq zL (yaa ?_))))));by_cases hp:i<(x.length:Int)
    · replace h:=h.1 hp;refine zc hp (yaf (yac (yah (zr (zq (yad H3) (zq (yad H0) (zq (yad H4) ?_)))))));obtain ⟨hx2,h⟩:=h;refine zq (zi underlying34 yab (yaU (hS.rdr 0 rfl) hx2)) (zq (yam (v:=(ii (gi x i.toNat))) rfl underlying3 rfl (rd_1 (hS.rdr 0 rfl) hx2 (fun q=>ybe q) rfl)) ?_);refine zq (v_min2 rfl rfl) (zQ (ii (mnF m3 (gi x i.toNat))) (yaa (yag (zr (zq (yad H4) ?_)))));obtain ⟨hi,h⟩:=h;refine zq (zA hi) (zQ (ii (i+1)) (yaa ?_));obtain ⟨mq,hlt,h⟩:=h;exact ag mq _ _ _ ⟨_,_,h,rfl,H0,rfl,rfl,(hS.sel [0])⟩ hlt
    · replace h:=h.2 hp;exact zd hp (yav rfl (zs (zq (yad H3) (zQ (ii m3) (yaa (yai rfl rfl ⟨_,rfl,(hS.sel []),h⟩))))))
  clear hJ;intro j;by_cases hp2:(x.length:Int)<1
  · replace h:=h.1 hp2;exact zc hp2 (zr h.elim)
  · replace h:=h.2 hp2;exact zd hp2 (yaf (j _ _ _ ⟨h,rfl,rfl,(hS.sel [0])⟩))
end Go.Proofs.YtjepipbkiadcpaaGreat

/- Pure forms of functions, made by program (pf.py), each with the proof that the code does so. -/
namespace Go.Proofs.YtjepipbkiadcpaaGreat
open Go Go.RowKit Go.Shelf Go.Proofs.Tryz
set_option maxRecDepth 100000
set_option maxHeartbeats 8000000
def ycQ(k:Int)(R:Bool→Prop):Prop :=
(((-1048576)≤k →
R (decide (k≤1048576))) ∧
(¬((-1048576)≤k) →
R false))
theorem yhF{O:Nat→Prop}{w:World}{k}{R:Bool→Prop}(h:ycQ k R)(hO:∀ k,O k→k<w.heap.size) :
    Calls Tryz.prog 77 #[(ii k)] w fun e w'=>∃ r,e = .returned (.bool (r))∧Sep w no O w' (rl [])∧R r:=by
  unfold ycQ at h;have hS:Sep w no O w (rl []):=Sep.start w hO;refine yak (l:=[(ii k)]) func77 rfl ntmps77 zY (zs (zQ (.bool (false)) (yaa (zs (zM (ii k) (zq (v_geq rfl rfl) (zM (.bool (decide ((-1048576)≤k))) ?_)))))));by_cases hp:(-1048576)≤k
  · replace h:=h.1 hp;exact zW rfl rfl (zT hp) (zm (ii k)) (zW rfl rfl (zT hp) (v_leq rfl rfl) (zq (yau (v:=(.bool (decide (k≤1048576)))) (zT hp) rfl) (zQ (.bool (decide (k≤1048576))) (yaa (yai rfl rfl ⟨_,rfl,(hS.sel []),h⟩)))))
  · replace h:=h.2 hp;exact zV rfl rfl (zF hp) (zV rfl rfl (zF hp) (zq (yaw (v:=(.bool (false))) (zF hp) rfl) (zQ (.bool (false)) (yaa (yai rfl rfl ⟨_,rfl,(hS.sel []),h⟩)))))
def ybB(n:Int)(R:Int→Prop):Prop :=
((n<1 →
R 2) ∧
(¬(n<1) →
((12<n →
R 2) ∧
(¬(12<n) →
R 0))))
theorem yeF{O:Nat→Prop}{w:World}{n}{R:Int→Prop}(h:ybB n R)(hO:∀ k,O k→k<w.heap.size) :
    Calls Tryz.prog 37 #[(ii n)] w fun e w'=>∃ r,e = .returned (ii r)∧Sep w no O w' (rl [])∧R r:=by
  unfold ybB at h;have hS:Sep w no O w (rl []):=Sep.start w hO;refine yak (l:=[(ii n)]) func37 rfl ntmps37 zY (zs (zQ (ii 0) (yaa (yac (zs (zM (ii n) (zq zL (zM (.bool (decide (n<1))) ?_))))))));by_cases hp:n<1
  · replace h:=h.1 hp;exact zV rfl rfl (zT hp) (zV rfl rfl (zT hp) (zq (yau (v:=(.bool (true))) (zT hp) rfl) (yaa (yal rfl (zs (zQ (ii 2) (yaa (yai rfl rfl ⟨_,rfl,(hS.sel []),h⟩))))))))
  · replace h:=h.2 hp;refine zW rfl rfl (zF hp) (zm (ii n)) (zW rfl rfl (zF hp) zG (zq (yaw (v:=(.bool (decide (12<n)))) (zF hp) rfl) (yaa ?_)));by_cases hp2:12<n
    · replace h:=h.1 hp2;exact zc hp2 (zs (zQ (ii 2) (yaa (yai rfl rfl ⟨_,rfl,(hS.sel []),h⟩))))
    · replace h:=h.2 hp2;exact zd hp2 (yaf (zs (zQ (ii 0) (yaa (yai rfl rfl ⟨_,rfl,(hS.sel []),h⟩)))))
def ybL(d:List Int)(n:Int)(R:Int→Prop):Prop :=
ybB n (fun r =>
((r=0 →
(((d.length:Int)=n →
(∃ I2:Nat→Int→Prop,(∃ m0,I2 m0 0)∧∀ m2 v,I2 m2 v → 
((v<(d.length:Int) →
((0≤v∧v<(d.length:Int)) ∧
ycQ (gi d v.toNat) (fun r2 =>
((r2=true →
(In64 (v+1) ∧
∃ m3,m3<m2∧I2 m3 (v+1))) ∧
(¬(r2=true) →
R 2))))) ∧
(¬(v<(d.length:Int)) →
R 0)))) ∧
(¬((d.length:Int)=n) →
R 8))) ∧
(¬(r=0) →
R r)))
theorem yds{O:Nat→Prop}{w:World}{d n Ad ld cd}{R:Int→Prop}(h:ybL d n R)(hO:∀ k,O k→k<w.heap.size)(hA0:(FP.sl cI Ad ld cd d).P O w) :
    Calls Tryz.prog 33 #[(.slice Ad ld cd),(ii n)] w fun e w'=>∃ r3,e = .returned (ii r3)∧Sep w no O w' (rl [])∧R r3:=by
  unfold ybL at h;have hS:Sep w no O w (rl [Res.ro (FP.sl cI Ad ld cd d)]):=Sep.startl hO [(FP.sl cI Ad ld cd d)] ⟨hA0,trivial⟩;refine yak (l:=[(.slice Ad ld cd),(ii n)]) func33 rfl ntmps33 zY (zs (zQ (ii 0) (yaa (yac (zs (zM (ii n) (zn (yaj rfl (am1 rfl) enter_37 ((yeF h (yaN _)).mono ?_)))))))));rintro _ w2 ⟨r,rfl,hC,h⟩;replace hS:=hS.pur hC.pure;clear hC;refine ⟨_,rfl,?_⟩;refine zb (zQ (ii r) (yaa (zs (zM (ii r) (zq zN (yaa ?_))))));by_cases hp:r=0
  · replace h:=h.1 hp;refine ze hp (yaf (yac (zs (zM (.slice Ad ld cd) (zq (ybw (n:=d.length) rfl underlying34 (ybh (hS.rdr 0 rfl))) (zM (ii n) (zq zN (yaa ?_))))))));by_cases hp2:(d.length:Int)=n
    · replace h:=h.1 hp2;refine ze hp2 (yaf (yac (zs (zM (.slice Ad ld cd) (zq (ybw (n:=d.length) rfl underlying34 (ybh (hS.rdr 0 rfl))) (zM (ii 0) (yaa (yah ?_))))))));obtain ⟨I2,⟨m0,h0⟩,hr⟩:=h;refine yaA (fun m E ds w'=>∃ v,I2 m v∧ds=[]∧E 17=(Value.slice Ad ld cd)∧E 18=(ii (d.length:Int))∧E 19=(ii v)∧Sep w no O w' (rl [Res.ro (FP.sl cI Ad ld cd d)])) m0 ⟨_,h0,rfl,rfl,rfl,rfl,(hS.sel [0])⟩ ?_;clear h0 hS;rintro m2 E ds w3 ⟨v,h,rfl,H17,H18,H19,hS⟩ ag;replace h:=hr m2 v h;clear hr;refine zs (zq (ydf H19 H18) (yaa (yac ?_)));by_cases hp3:v<(d.length:Int)
      · replace h:=h.1 hp3;refine zc hp3 (yaf (yac (yah (zs ?_))));obtain ⟨hx,h⟩:=h;refine zq (ycw H17 H19 underlying34 yab (yaU (hS.rdr 0 rfl) hx)) (zq (yam (v:=(ii (gi d v.toNat))) rfl underlying3 rfl (rd_1 (hS.rdr 0 rfl) hx (fun q=>ybe q) rfl)) ?_);refine zQ (ii (gi d v.toNat)) (yaa (zs (zM (ii (gi d v.toNat)) (zn (yaj rfl (am1 rfl) enter_77 ((yhF h (yaN _)).mono ?_))))));rintro _ w4 ⟨r2,rfl,hC,h⟩;replace hS:=hS.pur hC.pure;clear hC;refine ⟨_,rfl,?_⟩;refine zb (zq (ydd rfl) (yaa ?_));by_cases hp4:r2=true
        · replace h:=h.1 hp4;refine yaq (zC (zB hp4)) (yaf (yag (zr ?_)));obtain ⟨hi,h⟩:=h;refine zq (ybU H19 rfl hi) (zM (ii (v+1)) (yaa ?_));obtain ⟨mq,hlt,h⟩:=h;exact ag mq _ _ _ ⟨_,h,rfl,H17,H18,rfl,(hS.sel [0])⟩ hlt
        · replace h:=h.2 hp4;exact yal (zC (zB (zI hp4))) (zs (zQ (ii 2) (yaa (yai rfl rfl ⟨_,rfl,(hS.sel []),h⟩))))
      · replace h:=h.2 hp3;exact zd hp3 (yav rfl (zs (zQ (ii 0) (yaa (yai rfl rfl ⟨_,rfl,(hS.sel []),h⟩)))))
    · replace h:=h.2 hp2;exact zf hp2 (zs (zQ (ii 8) (yaa (yai rfl rfl ⟨_,rfl,(hS.sel []),h⟩))))
  · replace h:=h.2 hp;exact zf hp (zs (zM (ii r) (zQ (ii r) (yaa (yai rfl rfl ⟨_,rfl,(hS.sel []),h⟩)))))
def ycp(n:Int)(v:Int)(R:Bool→Prop):Prop :=
((0≤v →
R (decide (v<n))) ∧
(¬(0≤v) →
R false))
theorem yfs{O:Nat→Prop}{w:World}{n v}{R:Bool→Prop}(h:ycp n v R)(hO:∀ k,O k→k<w.heap.size) :
    Calls Tryz.prog 144 #[(ii n),(ii v)] w fun e w'=>∃ r,e = .returned (.bool (r))∧Sep w no O w' (rl [])∧R r:=by
  unfold ycp at h;have hS:Sep w no O w (rl []):=Sep.start w hO;refine yak (l:=[(ii n),(ii v)]) func144 rfl ntmps144 zY (zs (zQ (.bool (false)) (yaa (zs (zM (ii v) (zq (v_geq rfl rfl) (zM (.bool (decide (0≤v))) ?_)))))));by_cases hp:0≤v
  · replace h:=h.1 hp;exact zW rfl rfl (zT hp) (zm (ii v)) (zW rfl rfl (zT hp) (zm (ii n)) (zW rfl rfl (zT hp) zL (zq (yau (v:=(.bool (decide (v<n)))) (zT hp) rfl) (zQ (.bool (decide (v<n))) (yaa (yai rfl rfl ⟨_,rfl,(hS.sel []),h⟩))))))
  · replace h:=h.2 hp;exact zV rfl rfl (zF hp) (zV rfl rfl (zF hp) (zV rfl rfl (zF hp) (zq (yaw (v:=(.bool (false))) (zF hp) rfl) (zQ (.bool (false)) (yaa (yai rfl rfl ⟨_,rfl,(hS.sel []),h⟩))))))
def ybH(x:Int)(y:Int)(R:Int→Prop):Prop :=
ycG x (fun r =>
ycG y (fun r2 =>
((r=true →
((r2=true →
R 0) ∧
(¬(r2=true) →
R (-1)))) ∧
(¬(r=true) →
((r2=true →
R 1) ∧
(¬(r2=true) →
((x<y →
R (-1)) ∧
(¬(x<y) →
((y<x →
R 1) ∧
(¬(y<x) →
R 0))))))))))
theorem yeu{O:Nat→Prop}{w:World}{x y}{R:Int→Prop}(h:ybH x y R)(hO:∀ k,O k→k<w.heap.size) :
    Calls Tryz.prog 80 #[(ii x),(ii y)] w fun e w'=>∃ r3,e = .returned (ii r3)∧Sep w no O w' (rl [])∧R r3:=by
  unfold ybH at h;have hS:Sep w no O w (rl []):=Sep.start w hO;refine yak (l:=[(ii x),(ii y)]) func80 rfl ntmps80 zY (zs (zQ (ii 0) (yaa (zs (zM (ii x) (zn (yaj rfl (am1 rfl) enter_131 ((yeV h (yaN _)).mono ?_))))))));rintro _ w2 ⟨r,rfl,hC,h⟩;replace hS:=hS.pur hC.pure;clear hC;refine ⟨_,rfl,?_⟩;refine zb (zQ (.bool (r)) (yaa (zs (zM (ii y) (zn (yaj rfl (am1 rfl) enter_131 ((yeV h (yaN _)).mono ?_)))))));rintro _ w3 ⟨r2,rfl,hC,h⟩;replace hS:=hS.pur hC.pure;clear hC;refine ⟨_,rfl,?_⟩;refine zb (zQ (.bool (r2)) (yaa (yac (zs (zM (.bool (r)) (yaa ?_))))));by_cases hp:r=true
  · replace h:=h.1 hp;refine yal (zC hp) (yac (zs (zM (.bool (r2)) (yaa ?_))));by_cases hp2:r2=true
    · replace h:=h.1 hp2;exact yal (zC hp2) (zs (zQ (ii 0) (yaa (yai rfl rfl ⟨_,rfl,(hS.sel []),h⟩))))
    · replace h:=h.2 hp2;exact yaq (zC (zI hp2)) (yaf (zs (zQ (ii (-1)) (yaa (yai rfl rfl ⟨_,rfl,(hS.sel []),h⟩)))))
  · replace h:=h.2 hp;refine yaq (zC (zI hp)) (yaf (yac (zs (zM (.bool (r2)) (yaa ?_)))));by_cases hp3:r2=true
    · replace h:=h.1 hp3;exact yal (zC hp3) (zs (zQ (ii 1) (yaa (yai rfl rfl ⟨_,rfl,(hS.sel []),h⟩))))
    · replace h:=h.2 hp3;refine yaq (zC (zI hp3)) (yaf (yac (zs (zM (ii x) (zM (ii y) (zq zL (yaa ?_)))))));by_cases hp4:x<y
      · replace h:=h.1 hp4;exact zc hp4 (zs (zQ (ii (-1)) (yaa (yai rfl rfl ⟨_,rfl,(hS.sel []),h⟩))))
      · replace h:=h.2 hp4;refine zd hp4 (yaf (yac (zs (zM (ii x) (zM (ii y) (zq zG (yaa ?_)))))));by_cases hp5:y<x
        · replace h:=h.1 hp5;exact zc hp5 (zs (zQ (ii 1) (yaa (yai rfl rfl ⟨_,rfl,(hS.sel []),h⟩))))
        · replace h:=h.2 hp5;exact zd hp5 (yaf (zs (zQ (ii 0) (yaa (yai rfl rfl ⟨_,rfl,(hS.sel []),h⟩)))))
def ydo(vals:List Int)(R:Int→Prop):Prop :=
(∃ I2:Nat→Int→Prop,(∃ m0,I2 m0 0)∧∀ m2 v,I2 m2 v → 
((v<(vals.length:Int) →
((0≤v∧v<(vals.length:Int)) ∧
(((gi vals v.toNat)=0 →
(In64 (v+1) ∧
∃ m3,m3<m2∧I2 m3 (v+1))) ∧
(¬((gi vals v.toNat)=0) →
R (gi vals v.toNat))))) ∧
(¬(v<(vals.length:Int)) →
R 0)))
theorem pok_cmp_Or_int{O:Nat→Prop}{w:World}{vals Aa Ab Ac}{R:Int→Prop}(h:ydo vals R)(hO:∀ k,O k→k<w.heap.size)(hA0:(FP.sl cI Aa Ab Ac vals).P O w) :
    Calls Tryz.prog 195 #[(.slice Aa Ab Ac)] w fun e w'=>∃ r,e = .returned (ii r)∧Sep w no O w' (rl [])∧R r:=by
  unfold ydo at h;have hS:Sep w no O w (rl [Res.ro (FP.sl cI Aa Ab Ac vals)]):=Sep.startl hO [(FP.sl cI Aa Ab Ac vals)] ⟨hA0,trivial⟩;refine yak (l:=[(.slice Aa Ab Ac)]) func195 rfl ntmps195 zY (zs (zQ (ii 0) (yaa (zs (zQ (ii 0) (yaa (yac (zs (zM (.slice Aa Ab Ac) (zq (ybw (n:=vals.length) rfl underlying33 (ybh (hS.rdr 0 rfl))) (zM (ii 0) (yaa (yah ?_)))))))))))));obtain ⟨I2,⟨m0,h0⟩,hr⟩:=h;refine yaA (fun m E ds w'=>∃ v,I2 m v∧ds=[]∧E 3=(ii 0)∧E 6=(Value.slice Aa Ab Ac)∧E 7=(ii (vals.length:Int))∧E 8=(ii v)∧Sep w no O w' (rl [Res.ro (FP.sl cI Aa Ab Ac vals)])) m0 ⟨_,h0,rfl,rfl,rfl,rfl,rfl,(hS.sel [0])⟩ ?_;clear h0 hS;rintro m2 E ds w2 ⟨v,h,rfl,H3,H6,H7,H8,hS⟩ ag;replace h:=hr m2 v h;clear hr;refine zs (zq (ydf H8 H7) (yaa (yac ?_)));by_cases hp:v<(vals.length:Int)
  · replace h:=h.1 hp;refine zc hp (yaf (yac (yah (zs ?_))));obtain ⟨hx,h⟩:=h;refine zq (ycw H6 H8 underlying33 yab (yaU (hS.rdr 0 rfl) hx)) (zq (yam (v:=(ii (gi vals v.toNat))) rfl underlying3 rfl (rd_1 (hS.rdr 0 rfl) hx (fun q=>ybe q) rfl)) ?_);refine zQ (ii (gi vals v.toNat)) (yaa (zs (zM (ii (gi vals v.toNat)) (zq (yad H3) (zq zN (yaa ?_))))));by_cases hp2:(gi vals v.toNat)=0
    · replace h:=h.1 hp2;refine ze hp2 (yaf (yag (zr ?_)));obtain ⟨hi,h⟩:=h;refine zq (ybU H8 rfl hi) (zM (ii (v+1)) (yaa ?_));obtain ⟨mq,hlt,h⟩:=h;exact ag mq _ _ _ ⟨_,h,rfl,H3,H6,H7,rfl,(hS.sel [0])⟩ hlt
    · replace h:=h.2 hp2;exact zf hp2 (zs (zM (ii (gi vals v.toNat)) (zQ (ii (gi vals v.toNat)) (yaa (yai rfl rfl ⟨_,rfl,(hS.sel []),h⟩)))))
  · replace h:=h.2 hp;exact zd hp (yav rfl (zs (zq (yad H3) (zQ (ii 0) (yaa (yai rfl rfl ⟨_,rfl,(hS.sel []),h⟩))))))
def yb7(p:Int)(p2:Int)(q:Int)(q2:Int)(R:Int→Prop):Prop :=
ybH p q (fun r =>
ybH p2 q2 (fun r2 =>
ydo ([r,r2]) (fun r3 =>
R r3)))
theorem yfx{O:Nat→Prop}{w:World}{p p2 q q2}{R:Int→Prop}(h:yb7 p p2 q q2 R)(hO:∀ k,O k→k<w.heap.size) :
    Calls Tryz.prog 145 #[(.agg #[(ii p),(ii p2)]),(.agg #[(ii q),(ii q2)])] w fun e w'=>∃ r4,e = .returned (ii r4)∧Sep w no O w' (rl [])∧R r4:=by
  unfold yb7 at h;have hS:Sep w no O w (rl []):=Sep.start w hO;refine yak (l:=[(.agg #[(ii p),(ii p2)]),(.agg #[(ii q),(ii q2)])]) func145 rfl ntmps145 zY (zs (zn (ybi (v:=(.agg #[(ii p),(ii p2)])) rfl ?_)));intro g w2 hN;replace hS:Sep w no O w2 (stl _ 0 (Res.box 148 g [(ii p),(ii p2)])):=hS.new 0 rfl hN;clear hN;refine zb (zn (ybi (v:=(.agg #[(ii q),(ii q2)])) rfl ?_));intro g2 w3 hN;replace hS:Sep w no O w3 (stl _ 1 (Res.box 148 g2 [(ii q),(ii q2)])):=hS.new 1 rfl hN;clear hN;refine zb (zQ (ii 0) (yaa (yac (ya9 [0,1,2,3,5,6,7,8,4,9,10,11,12] (fun i=>match i with | 4=>[5,6,7,8] | _=>[]) yaQ (by kernel_rfl) (by kernel_rfl) ?_))));replace hS:=hS.drew;refine zp (yae rfl underlying148 rfl yab) (zp (zl underlying3 (Row.cell (hS.bx 0 rfl) (i:=0) rfl)) (zp (yae rfl underlying148 rfl yab) (zp (zl underlying3 (Row.cell (hS.bx 1 rfl) (i:=0) rfl)) (zp (yae rfl underlying148 rfl yab) (zp (zl underlying3 (Row.cell (hS.bx 0 rfl) (i:=1) rfl)) (zp (yae rfl underlying148 rfl yab) (zp (zl underlying3 (Row.cell (hS.bx 1 rfl) (i:=1) rfl)) (rp_n rfl rfl rfl rfl (yaj rfl (am2 rfl rfl) enter_80 ((yeu h (yaN _)).mono ?_))))))))));rintro _ w4 ⟨r,rfl,hC,h⟩;replace hS:=hS.pur hC.pure;clear hC;refine ⟨_,rfl,?_⟩;refine ⟨⟨fun _=>(zl underlying3 (Row.cell (hS.bx 1 rfl) (i:=1) rfl)),⟨fun _=>(yae rfl underlying148 rfl yab),⟨fun _=>(zl underlying3 (Row.cell (hS.bx 0 rfl) (i:=1) rfl)),⟨fun _=>(yae rfl underlying148 rfl yab),⟨fun hh=>zZ hh,⟨fun hh=>zZ hh,⟨fun hh=>zZ hh,⟨fun hh=>zZ hh,trivial⟩⟩⟩⟩⟩⟩⟩⟩,?_⟩;refine rp_n rfl rfl rfl rfl (yaj rfl (am2 rfl rfl) enter_80 ((yeu h (yaN _)).mono ?_));rintro _ w5 ⟨r2,rfl,hC,h⟩;replace hS:=hS.pur hC.pure;clear hC;refine ⟨_,rfl,?_⟩;refine zb (rp_n rfl rfl rfl rfl (ybb (l:=[(0,(ii r)),(1,(ii r2))]) (cells:=[(ii r),(ii r2)]) (bp2 rfl rfl) underlying33 yab rfl rfl ?_));intro g3 w6 hN;replace hS:=hS.litf (n:=2) 2 rfl (fI .i64) hN ([r,r2]:List Int) rfl (by decide) rfl;clear hN;refine zb (rp_n rfl rfl rfl rfl (yaj rfl (am1 rfl) enter_195 ((pok_cmp_Or_int h (yaN _) (hS.rdo 2 rfl)).mono ?_)));rintro _ w7 ⟨r3,rfl,hC,h⟩;replace hS:=hS.pur hC.pure;clear hC;refine ⟨_,rfl,?_⟩;exact zb (zp (za (ii r3)) (ybq (yai rfl rfl ⟨_,rfl,(hS.sel []),h⟩)))
def yc6(d:Int)(d2:List E3)(R:Int→Prop):Prop :=
(∃ J2:Prop,(J2→(∃ I2:Nat→Int→Int→Int→Prop,(∃ m0,I2 m0 0 (-1) (-1))∧∀ m2 v v2 v3,I2 m2 v v2 v3 → 
((v<(d2.length:Int) →
((0≤v∧v<(d2.length:Int)) ∧
(∃ J3:Prop,(J3→((((ge d2 v.toNat).2.1)<((ge d2 v.toNat).1) →
R 9) ∧
(¬(((ge d2 v.toNat).2.1)<((ge d2 v.toNat).1)) →
yb7 v2 v3 ((ge d2 v.toNat).1) ((ge d2 v.toNat).2.1) (fun r =>
((0≤r →
R 9) ∧
(¬(0≤r) →
(In64 (v+1) ∧
∃ m3,m3<m2∧I2 m3 (v+1) ((ge d2 v.toNat).1) ((ge d2 v.toNat).2.1)))))))) ∧
ycp d ((ge d2 v.toNat).1) (fun r2 =>
((r2=true →
ycp d ((ge d2 v.toNat).2.1) (fun r3 =>
((r3=true →
((((ge d2 v.toNat).2.2)<1 →
R 2) ∧
(¬(((ge d2 v.toNat).2.2)<1) →
((50<((ge d2 v.toNat).2.2) →
R 2) ∧
(¬(50<((ge d2 v.toNat).2.2)) →
J3))))) ∧
(¬(r3=true) →
R 2)))) ∧
(¬(r2=true) →
R 2)))))) ∧
(¬(v<(d2.length:Int)) →
R 0)))) ∧
((d<1 →
R 2) ∧
(¬(d<1) →
((12<d →
R 2) ∧
(¬(12<d) →
J2)))))
theorem yiB{O:Nat→Prop}{w:World}{d d2 Ad ld cd}{R:Int→Prop}(h:yc6 d d2 R)(hO:∀ k,O k→k<w.heap.size)(hA0:(FP.sl c3 Ad ld cd d2).P O w) :
    Calls Tryz.prog 93 #[(.agg #[(ii d),(.slice Ad ld cd)])] w fun e w'=>∃ r4,e = .returned (ii r4)∧Sep w no O w' (rl [])∧R r4:=by
  unfold yc6 at h;have hS:Sep w no O w (rl [Res.ro (FP.sl c3 Ad ld cd d2)]):=Sep.startl hO [(FP.sl c3 Ad ld cd d2)] ⟨hA0,trivial⟩;refine yak (l:=[(.agg #[(ii d),(.slice Ad ld cd)])]) func93 rfl ntmps93 zY (zs (zn (ybi (v:=(.agg #[(ii d),(.slice Ad ld cd)])) rfl ?_)));intro g w2 hN;replace hS:Sep w no O w2 (stl _ 1 (Res.box 24 g [(ii d),(.slice Ad ld cd)])):=hS.new 1 rfl hN;clear hN;refine zb (zQ (ii 0) (yaa (yac (yac ?_))));obtain ⟨J2,hJ,h⟩:=h;refine ydm (fun E ds w'=>J2∧ds=[]∧E 1=(Value.pointer (some ⟨g,0,none⟩))∧Sep w no O w' (rl [Res.box 24 g [(ii d),(.slice Ad ld cd)],Res.ro (FP.sl c3 Ad ld cd d2)])) ?_ ?_
  · clear h hS;rintro E ds w3 ⟨h,rfl,H1,hS⟩;replace h:=hJ h;refine zs (zn (ydt (l:=[(0,(ii (-1))),(1,(ii (-1)))]) (cells:=[(ii (-1)),(ii (-1))]) (places:=[(0,1),(1,1)]) (bp2 rfl rfl) underlying148 yc0 (by kernel_rfl) rfl ?_));refine zb (zn (ya1 yc0 ?_));intro g2 w4 hN;replace hS:Sep w no O w4 (stl _ 2 (Res.box 148 g2 [(ii 0),(ii 0)])):=hS.new 2 rfl hN;clear hN;refine zb (zo (ycP (b:=g2) (o:=0) (cells:=#[(ii (-1)),(ii (-1))]) rfl rfl yc0 rfl rfl (ybQ (hS.bx 2 rfl) zY) ?_));intro w5 e1;replace hS:=hS.bstn 2 rfl 0 [(ii (-1)),(ii (-1))] e1;clear e1;refine zb (yaa (yac (zs (zq (yae H1 underlying24 rfl ydx) (zq (zl underlying22 (Row.cell (hS.bx 0 rfl) (i:=1) rfl)) (zq (ybw (n:=d2.length) rfl underlying22 (ybh (hS.rdr 1 rfl))) (zM (ii 0) (yaa (yah ?_)))))))));obtain ⟨I2,⟨m0,h0⟩,hr⟩:=h;refine yaA (fun m E ds w'=>∃ v v2 v3,I2 m v v2 v3∧ds=[]∧E 1=(Value.pointer (some ⟨g,0,none⟩))∧E 3=(Value.pointer (some ⟨g2,0,none⟩))∧E 17=(Value.slice Ad ld cd)∧E 18=(ii (d2.length:Int))∧E 19=(ii v)∧Sep w no O w' (rl [Res.box 24 g [(ii d),(.slice Ad ld cd)],Res.ro (FP.sl c3 Ad ld cd d2),Res.box 148 g2 [(ii v2),(ii v3)]])) m0 ⟨_,_,_,h0,rfl,H1,rfl,rfl,rfl,rfl,(hS.sel [0,1,2])⟩ ?_;clear h0 hS;rintro m2 E ds w6 ⟨v,v2,v3,h,rfl,H1,H3,H17,H18,H19,hS⟩ ag;replace h:=hr m2 v v2 v3 h;clear hr;refine zs (zq (ydf H19 H18) (yaa (yac ?_)));by_cases hp:v<(d2.length:Int)
    · replace h:=h.1 hp;refine zc hp (yaf (yac (yah (zs ?_))));obtain ⟨hx,h⟩:=h;refine zq (ycw H17 H19 underlying22 ya0 (yaU (hS.rdr 1 rfl) hx)) (zq (yao (vs:=[(ii ((ge d2 v.toNat).1)),(ii ((ge d2 v.toNat).2.1)),(ii ((ge d2 v.toNat).2.2))]) rfl underlying67 rfl ya0 (rd_fs (hS.rdr 1 rfl) hx (fun q=>ydI q))) ?_);refine zn (ya1 ya0 ?_);intro g3 w7 hN;replace hS:Sep w no O w7 (stl _ 3 (Res.box 67 g3 [(ii 0),(ii 0),(ii 0)])):=hS.new 3 rfl hN;clear hN;refine zb (zo (ycP (b:=g3) (o:=0) (cells:=#[(ii ((ge d2 v.toNat).1)),(ii ((ge d2 v.toNat).2.1)),(ii ((ge d2 v.toNat).2.2))]) rfl rfl ya0 rfl rfl (ybQ (hS.bx 3 rfl) zY) ?_));intro w8 e1;replace hS:=hS.bstn 3 rfl 0 [(ii ((ge d2 v.toNat).1)),(ii ((ge d2 v.toNat).2.1)),(ii ((ge d2 v.toNat).2.2))] e1;clear e1;refine zb (yaa (zs (zq (yae rfl underlying67 rfl yab) (zq (zl underlying3 (Row.cell (hS.bx 3 rfl) (i:=0) rfl)) (zq (yae rfl underlying67 rfl yab) (zq (zl underlying3 (Row.cell (hS.bx 3 rfl) (i:=1) rfl)) (zn (ydt (l:=[(0,(ii ((ge d2 v.toNat).1))),(1,(ii ((ge d2 v.toNat).2.1)))]) (cells:=[(ii ((ge d2 v.toNat).1)),(ii ((ge d2 v.toNat).2.1))]) (places:=[(0,1),(1,1)]) (bp2 rfl rfl) underlying148 yc0 (by kernel_rfl) rfl ?_))))))));refine zb (zn (ya1 yc0 ?_));intro g4 w9 hN;replace hS:Sep w no O w9 (stl _ 4 (Res.box 148 g4 [(ii 0),(ii 0)])):=hS.new 4 rfl hN;clear hN;refine zb (zo (ycP (b:=g4) (o:=0) (cells:=#[(ii ((ge d2 v.toNat).1)),(ii ((ge d2 v.toNat).2.1))]) rfl rfl yc0 rfl rfl (ybQ (hS.bx 4 rfl) zY) ?_));intro w10 e1;replace hS:=hS.bstn 4 rfl 0 [(ii ((ge d2 v.toNat).1)),(ii ((ge d2 v.toNat).2.1))] e1;clear e1;refine zb (yaa (yac (yah (yac ?_))));obtain ⟨J3,hJ,h⟩:=h;refine wt_cutB1 (fun E ds w'=>J3∧ds=[]∧E 1=(Value.pointer (some ⟨g,0,none⟩))∧E 3=(Value.pointer (some ⟨g2,0,none⟩))∧E 5=(Value.pointer (some ⟨g3,0,none⟩))∧E 6=(Value.pointer (some ⟨g4,0,none⟩))∧E 17=(Value.slice Ad ld cd)∧E 18=(ii (d2.length:Int))∧E 19=(ii v)∧Sep w no O w' (rl [Res.box 24 g [(ii d),(.slice Ad ld cd)],Res.ro (FP.sl c3 Ad ld cd d2),Res.box 148 g2 [(ii v2),(ii v3)],Res.box 67 g3 [(ii ((ge d2 v.toNat).1)),(ii ((ge d2 v.toNat).2.1)),(ii ((ge d2 v.toNat).2.2))],Res.box 148 g4 [(ii ((ge d2 v.toNat).1)),(ii ((ge d2 v.toNat).2.1))]])) ?_ ?_
      · clear h hS;rintro E ds w11 ⟨h,rfl,H1,H3,H5,H6,H17,H18,H19,hS⟩;replace h:=hJ h;refine zs (zq (yae H5 underlying67 rfl yab) (zq (zl underlying3 (Row.cell (hS.bx 3 rfl) (i:=0) rfl)) (zq (yae H5 underlying67 rfl yab) (zq (zl underlying3 (Row.cell (hS.bx 3 rfl) (i:=1) rfl)) (zq zG (zM (.bool (decide (((ge d2 v.toNat).2.1)<((ge d2 v.toNat).1)))) ?_))))));by_cases hp2:((ge d2 v.toNat).2.1)<((ge d2 v.toNat).1)
        · replace h:=h.1 hp2;exact zV rfl rfl (zT hp2) (zV rfl rfl (zT hp2) (zV rfl rfl (zT hp2) (zV rfl rfl (zT hp2) (zq (yau (v:=(.bool (true))) (zT hp2) rfl) (zQ (.bool (true)) (yaa (yal rfl (zs (zQ (ii 9) (yaa (yai rfl rfl ⟨_,rfl,(hS.sel []),h⟩)))))))))))
        · replace h:=h.2 hp2;refine zW rfl rfl (zF hp2) (yao (vs:=[(ii v2),(ii v3)]) H3 underlying148 rfl yc0 ⟨Row.cell (hS.bx 2 rfl) (i:=0) rfl,Row.cell (hS.bx 2 rfl) (i:=1) rfl,trivial⟩) (zW rfl rfl (zF hp2) (yao (vs:=[(ii ((ge d2 v.toNat).1)),(ii ((ge d2 v.toNat).2.1))]) H6 underlying148 rfl yc0 ⟨Row.cell (hS.bx 4 rfl) (i:=0) rfl,Row.cell (hS.bx 4 rfl) (i:=1) rfl,trivial⟩) (rl_n (yar rfl (yaD rfl (zF hp2))) rfl rfl rfl (yaj rfl (am2 rfl rfl) enter_145 ((yfx h (yaN _)).mono ?_))));rintro _ w12 ⟨r,rfl,hC,h⟩;replace hS:=hS.pur hC.pure;clear hC;refine ⟨_,rfl,?_⟩;refine zb (zW rfl rfl (zF hp2) (v_geq rfl rfl) (zq (yaw (v:=(.bool (decide (0≤r)))) (zF hp2) rfl) (zQ (.bool (decide (0≤r))) (yaa ?_))));by_cases hp3:0≤r
          · replace h:=h.1 hp3;exact zc hp3 (zs (zQ (ii 9) (yaa (yai rfl rfl ⟨_,rfl,(hS.sel []),h⟩))))
          · replace h:=h.2 hp3;refine zd hp3 (yaf (yag (zr (zq (yao (vs:=[(ii ((ge d2 v.toNat).1)),(ii ((ge d2 v.toNat).2.1))]) H6 underlying148 rfl yc0 ⟨Row.cell (hS.bx 4 rfl) (i:=0) rfl,Row.cell (hS.bx 4 rfl) (i:=1) rfl,trivial⟩) (zo (ycP (b:=g2) (o:=0) (cells:=#[(ii ((ge d2 v.toNat).1)),(ii ((ge d2 v.toNat).2.1))]) H3 rfl yc0 rfl rfl (ybQ (hS.bx 2 rfl) zY) ?_))))));intro w13 e1;replace hS:=hS.bstn 2 rfl 0 [(ii ((ge d2 v.toNat).1)),(ii ((ge d2 v.toNat).2.1))] e1;clear e1;refine zb (yaa (yag (zr ?_)));obtain ⟨hi,h⟩:=h;refine zq (ybU H19 rfl hi) (zM (ii (v+1)) (yaa ?_));obtain ⟨mq,hlt,h⟩:=h;exact ag mq _ _ _ ⟨_,_,_,h,rfl,H1,H3,H17,H18,rfl,(hS.sel [0,1,2])⟩ hlt
      clear hJ;intro j2;refine zr (zq (yae H1 underlying24 rfl yab) (zq (zl underlying3 (Row.cell (hS.bx 0 rfl) (i:=0) rfl)) (zq (yae rfl underlying67 rfl yab) (zq (zl underlying3 (Row.cell (hS.bx 3 rfl) (i:=0) rfl)) (zn (yaj rfl (am2 rfl rfl) enter_144 ((yfs h (yaN _)).mono ?_)))))));rintro _ w14 ⟨r2,rfl,hC,h⟩;replace hS:=hS.pur hC.pure;clear hC;refine ⟨_,rfl,?_⟩;refine zb (zq (ydd rfl) (zM (.bool (!(r2))) ?_));by_cases hp4:r2=true
      · replace h:=h.1 hp4;refine zW rfl rfl (zC (zB hp4)) (yae H1 underlying24 rfl yab) (zW rfl rfl (zC (zB hp4)) (zl underlying3 (Row.cell (hS.bx 0 rfl) (i:=0) rfl)) (zW rfl rfl (zC (zB hp4)) (yae rfl underlying67 rfl yab) (zW rfl rfl (zC (zB hp4)) (zl underlying3 (Row.cell (hS.bx 3 rfl) (i:=1) rfl)) (rl_n (yar rfl (yaD rfl (zC (zB hp4)))) rfl rfl rfl (yaj rfl (am2 rfl rfl) enter_144 ((yfs h (yaN _)).mono ?_))))));rintro _ w15 ⟨r3,rfl,hC,h⟩;replace hS:=hS.pur hC.pure;clear hC;refine ⟨_,rfl,?_⟩;refine zb (zW rfl rfl (zC (zB hp4)) (ydd rfl) (zq (yaw (v:=(.bool (!(r3)))) (zC (zB hp4)) rfl) (zM (.bool (!(r3))) ?_)));by_cases hp5:r3=true
        · replace h:=h.1 hp5;refine zW rfl rfl (zC (zB hp5)) (yae rfl underlying67 rfl yab) (zW rfl rfl (zC (zB hp5)) (zl underlying3 (Row.cell (hS.bx 3 rfl) (i:=2) rfl)) (zW rfl rfl (zC (zB hp5)) zL (zq (yaw (v:=(.bool (decide (((ge d2 v.toNat).2.2)<1)))) (zC (zB hp5)) rfl) (zM (.bool (decide (((ge d2 v.toNat).2.2)<1))) ?_))));by_cases hp6:((ge d2 v.toNat).2.2)<1
          · replace h:=h.1 hp6;exact zV rfl rfl (zT hp6) (zV rfl rfl (zT hp6) (zV rfl rfl (zT hp6) (zq (yau (v:=(.bool (true))) (zT hp6) rfl) (zQ (.bool (true)) (yaa (yal rfl (zs (zQ (ii 2) (yaa (yai rfl rfl ⟨_,rfl,(hS.sel []),h⟩))))))))))
          · replace h:=h.2 hp6;refine zW rfl rfl (zF hp6) (yae rfl underlying67 rfl yab) (zW rfl rfl (zF hp6) (zl underlying3 (Row.cell (hS.bx 3 rfl) (i:=2) rfl)) (zW rfl rfl (zF hp6) zG (zq (yaw (v:=(.bool (decide (50<((ge d2 v.toNat).2.2))))) (zF hp6) rfl) (zQ (.bool (decide (50<((ge d2 v.toNat).2.2)))) (yaa ?_)))));by_cases hp7:50<((ge d2 v.toNat).2.2)
            · replace h:=h.1 hp7;exact zc hp7 (zs (zQ (ii 2) (yaa (yai rfl rfl ⟨_,rfl,(hS.sel []),h⟩))))
            · replace h:=h.2 hp7;exact zd hp7 (j2 _ _ _ ⟨h,rfl,H1,H3,rfl,rfl,H17,H18,H19,(hS.sel [0,1,2,3,4])⟩)
        · replace h:=h.2 hp5;exact zV rfl rfl (zC (zB (zI hp5))) (zV rfl rfl (zC (zB (zI hp5))) (zV rfl rfl (zC (zB (zI hp5))) (zq (yau (v:=(.bool (true))) (zC (zB (zI hp5))) rfl) (zM (.bool (true)) (zU (zU (zU (zq (yau (v:=(.bool (true))) rfl rfl) (zQ (.bool (true)) (yaa (yal rfl (zs (zQ (ii 2) (yaa (yai rfl rfl ⟨_,rfl,(hS.sel []),h⟩)))))))))))))))
      · replace h:=h.2 hp4;exact zV rfl rfl (zC (zB (zI hp4))) (zV rfl rfl (zC (zB (zI hp4))) (zV rfl rfl (zC (zB (zI hp4))) (zV rfl rfl (zC (zB (zI hp4))) (zV rfl rfl (zC (zB (zI hp4))) (zV rfl rfl (zC (zB (zI hp4))) (zq (yau (v:=(.bool (true))) (zC (zB (zI hp4))) rfl) (zM (.bool (true)) (zU (zU (zU (zq (yau (v:=(.bool (true))) rfl rfl) (zM (.bool (true)) (zU (zU (zU (zq (yau (v:=(.bool (true))) rfl rfl) (zQ (.bool (true)) (yaa (yal rfl (zs (zQ (ii 2) (yaa (yai rfl rfl ⟨_,rfl,(hS.sel []),h⟩)))))))))))))))))))))))
    · replace h:=h.2 hp;exact zd hp (yav rfl (zs (zQ (ii 0) (yaa (yai rfl rfl ⟨_,rfl,(hS.sel []),h⟩)))))
  clear hJ;intro j;refine zr (zq (yae rfl underlying24 rfl yab) (zq (zl underlying3 (Row.cell (hS.bx 1 rfl) (i:=0) rfl)) (zq zL (zM (.bool (decide (d<1))) ?_))));by_cases hp8:d<1
  · replace h:=h.1 hp8;exact zV rfl rfl (zT hp8) (zV rfl rfl (zT hp8) (zV rfl rfl (zT hp8) (zq (yau (v:=(.bool (true))) (zT hp8) rfl) (yaa (yal rfl (zs (zQ (ii 2) (yaa (yai rfl rfl ⟨_,rfl,(hS.sel []),h⟩)))))))))
  · replace h:=h.2 hp8;refine zW rfl rfl (zF hp8) (yae rfl underlying24 rfl yab) (zW rfl rfl (zF hp8) (zl underlying3 (Row.cell (hS.bx 1 rfl) (i:=0) rfl)) (zW rfl rfl (zF hp8) zG (zq (yaw (v:=(.bool (decide (12<d)))) (zF hp8) rfl) (yaa ?_))));by_cases hp9:12<d
    · replace h:=h.1 hp9;exact zc hp9 (zs (zQ (ii 2) (yaa (yai rfl rfl ⟨_,rfl,(hS.sel []),h⟩))))
    · replace h:=h.2 hp9;exact zd hp9 (yaf (j _ _ _ ⟨h,rfl,rfl,(hS.sel [1,0])⟩))
end Go.Proofs.YtjepipbkiadcpaaGreat

/- Pure forms of functions, made by program (pf.py), each with the proof that the code does so. -/
namespace Go.Proofs.YtjepipbkiadcpaaGreat
open Go Go.RowKit Go.Shelf Go.Proofs.Tryz
set_option maxRecDepth 100000
set_option maxHeartbeats 8000000
def ycN(g:Int)(g2:List E3)(d:List Int)(R:Int→Prop):Prop :=
yd8 g g2 0 d (fun r r2 =>
R r2)
theorem ygf{O:Nat→Prop}{w:World}{g g2 d Ag lg cg Ad ld cd}{R:Int→Prop}(h:ycN g g2 d R)(hO:∀ k,O k→k<w.heap.size)(hA0:(FP.sl c3 Ag lg cg g2).P O w)(hA1:(FP.sl cI Ad ld cd d).P O w) :
    Calls Tryz.prog 70 #[(.agg #[(ii g),(.slice Ag lg cg)]),(.slice Ad ld cd)] w fun e w'=>∃ r3,e = .returned (ii r3)∧Sep w no O w' (rl [])∧R r3:=by
  unfold ycN at h;have hS:Sep w no O w (rl [Res.ro (FP.sl c3 Ag lg cg g2),Res.ro (FP.sl cI Ad ld cd d)]):=Sep.startl hO [(FP.sl c3 Ag lg cg g2),(FP.sl cI Ad ld cd d)] ⟨hA0,hA1,trivial⟩;refine yak (l:=[(.agg #[(ii g),(.slice Ag lg cg)]),(.slice Ad ld cd)]) func70 rfl ntmps70 zY (zs (zn (ybi (v:=(.agg #[(ii g),(.slice Ag lg cg)])) rfl ?_)));intro g3 w2 hN;replace hS:Sep w no O w2 (stl _ 2 (Res.box 24 g3 [(ii g),(.slice Ag lg cg)])):=hS.new 2 rfl hN;clear hN;refine zb (zQ (ii 0) (yaa (zs (zq (yao (vs:=[(ii g),(.slice Ag lg cg)]) rfl underlying24 rfl yat ⟨Row.cell (hS.bx 2 rfl) (i:=0) rfl,Row.cell (hS.bx 2 rfl) (i:=1) rfl,trivial⟩) (zM (.slice Ad ld cd) (zn (yaj rfl (am3 rfl rfl rfl) enter_115 ((yfS h (yaN _) (hS.rdr 0 rfl) (hS.rdr 1 rfl)).mono ?_))))))));rintro _ w3 ⟨r,r2,rfl,hC,h⟩;replace hS:=hS.pur hC.pure;clear hC;refine ⟨_,rfl,?_⟩;exact zb (zM (.tuple #[(.bool (r)),(ii r2)]) (zq (zx (.bool (r))) (zq (zx (ii r2)) (zQ (.bool (r)) (zQ (ii r2) (yaa (zs (zM (ii r2) (zQ (ii r2) (yaa (yai rfl rfl ⟨_,rfl,(hS.sel []),h⟩)))))))))))
def ycb(g:Int)(g2:List E3)(d:List Int)(v:Int)(R:Int→Int→Prop):Prop :=
yco g g2 v d (fun r r2 r3 =>
((r3=0 →
((0≤v∧v<(r.length:Int)) ∧
(In64 (-(gi r v.toNat)) ∧
R (mxF 0 (-(gi r v.toNat))) 0))) ∧
(¬(r3=0) →
R 0 r3)))
theorem ygu{O:Nat→Prop}{w:World}{g g2 d v Ag lg cg Ad ld cd}{R:Int→Int→Prop}(h:ycb g g2 d v R)(hO:∀ k,O k→k<w.heap.size)(hA0:(FP.sl c3 Ag lg cg g2).P O w)(hA1:(FP.sl cI Ad ld cd d).P O w) :
    Calls Tryz.prog 71 #[(.agg #[(ii g),(.slice Ag lg cg)]),(.slice Ad ld cd),(ii v)] w fun e w'=>∃ r4 r5,e = .returned (.tuple #[(ii r4),(ii r5)])∧Sep w no O w' (rl [])∧R r4 r5:=by
  unfold ycb at h;have hS:Sep w no O w (rl [Res.ro (FP.sl c3 Ag lg cg g2),Res.ro (FP.sl cI Ad ld cd d)]):=Sep.startl hO [(FP.sl c3 Ag lg cg g2),(FP.sl cI Ad ld cd d)] ⟨hA0,hA1,trivial⟩;refine yak (l:=[(.agg #[(ii g),(.slice Ag lg cg)]),(.slice Ad ld cd),(ii v)]) func71 rfl ntmps71 zY (zs (zn (ybi (v:=(.agg #[(ii g),(.slice Ag lg cg)])) rfl ?_)));intro g3 w2 hN;replace hS:Sep w no O w2 (stl _ 2 (Res.box 24 g3 [(ii g),(.slice Ag lg cg)])):=hS.new 2 rfl hN;clear hN;refine zb (zQ (ii 0) (zQ (ii 0) (yaa (zs (zq (yao (vs:=[(ii g),(.slice Ag lg cg)]) rfl underlying24 rfl yat ⟨Row.cell (hS.bx 2 rfl) (i:=0) rfl,Row.cell (hS.bx 2 rfl) (i:=1) rfl,trivial⟩) (zM (ii v) (zM (.slice Ad ld cd) (zn (yaj rfl (am3 rfl rfl rfl) yhP ((ycM h (yaN _) (hS.rdr 0 rfl) (hS.rdr 1 rfl)).mono ?_))))))))));rintro _ w3 ⟨r,r2,r3,Ar,lr,cr,Ar2,lr2,cr2,rfl,hC,h⟩;replace hS:=hS.call2 (hC.widen (ydi (ya3 (fI .i64) _ _ _ _ _) (ydi (ya3 (fI .i64) _ _ _ _ _) yea)) hS.blt) 3 0 4 1 rfl rfl (by decide) (by decide);clear hC;refine ⟨_,rfl,?_⟩;refine zb (zM (.tuple #[(.slice Ar lr cr),(.slice Ar2 lr2 cr2),(ii r3)]) (zq (zx (.slice Ar lr cr)) (zq (zx (.slice Ar2 lr2 cr2)) (zq (zx (ii r3)) (zQ (.slice Ar lr cr) (zQ (.slice Ar2 lr2 cr2) (zQ (ii r3) (yaa (yac (zs (zM (ii r3) (zq zN (yaa ?_)))))))))))));by_cases hp:r3=0
  · replace h:=h.1 hp;refine ze hp (yaf (zs (zM (.slice Ar lr cr) (zM (ii v) ?_))));obtain ⟨hx,h⟩:=h;refine zq (zi underlying34 yab (yaU (hS.rdo 3 rfl) hx)) (zq (yam (v:=(ii (gi r v.toNat))) rfl underlying3 rfl (rd_1 (hS.rdo 3 rfl) hx (fun q=>ybe q) rfl)) ?_);obtain ⟨hi,h⟩:=h;exact zq (v_neg rfl hi) (zq (v_max2 rfl rfl) (zQ (ii (mxF 0 (-(gi r v.toNat)))) (zQ (ii 0) (yaa (yaZ rfl rfl rfl ⟨_,_,rfl,(hS.sel []),h⟩)))))
  · replace h:=h.2 hp;exact zf hp (zs (zM (ii r3) (zQ (ii 0) (zQ (ii r3) (yaa (yaZ rfl rfl rfl ⟨_,_,rfl,(hS.sel []),h⟩))))))
def yce(g:Int)(g2:List E3)(d:List Int)(v:Int)(R:Int→Int→Prop):Prop :=
ycN g g2 d (fun r =>
((r=0 →
(∃ J2:Prop,(J2→ycb g g2 d v (fun r2 r3 =>
R r2 r3)) ∧
((v<0 →
R 0 2) ∧
(¬(v<0) →
((g≤v →
R 0 2) ∧
(¬(g≤v) →
J2)))))) ∧
(¬(r=0) →
R 0 r)))
theorem ygt{O:Nat→Prop}{w:World}{g g2 d v Ag lg cg Ad ld cd}{R:Int→Int→Prop}(h:yce g g2 d v R)(hO:∀ k,O k→k<w.heap.size)(hA0:(FP.sl c3 Ag lg cg g2).P O w)(hA1:(FP.sl cI Ad ld cd d).P O w) :
    Calls Tryz.prog 29 #[(.agg #[(ii g),(.slice Ag lg cg)]),(.slice Ad ld cd),(ii v)] w fun e w'=>∃ r4 r5,e = .returned (.tuple #[(ii r4),(ii r5)])∧Sep w no O w' (rl [])∧R r4 r5:=by
  unfold yce at h;have hS:Sep w no O w (rl [Res.ro (FP.sl c3 Ag lg cg g2),Res.ro (FP.sl cI Ad ld cd d)]):=Sep.startl hO [(FP.sl c3 Ag lg cg g2),(FP.sl cI Ad ld cd d)] ⟨hA0,hA1,trivial⟩;refine yak (l:=[(.agg #[(ii g),(.slice Ag lg cg)]),(.slice Ad ld cd),(ii v)]) func29 rfl ntmps29 zY (zs (zn (ybi (v:=(.agg #[(ii g),(.slice Ag lg cg)])) rfl ?_)));intro g3 w2 hN;replace hS:Sep w no O w2 (stl _ 2 (Res.box 24 g3 [(ii g),(.slice Ag lg cg)])):=hS.new 2 rfl hN;clear hN;refine zb (zQ (ii 0) (zQ (ii 0) (yaa (yac (zs (zq (yao (vs:=[(ii g),(.slice Ag lg cg)]) rfl underlying24 rfl yat ⟨Row.cell (hS.bx 2 rfl) (i:=0) rfl,Row.cell (hS.bx 2 rfl) (i:=1) rfl,trivial⟩) (zM (.slice Ad ld cd) (zn (yaj rfl (am2 rfl rfl) enter_70 ((ygf h (yaN _) (hS.rdr 0 rfl) (hS.rdr 1 rfl)).mono ?_))))))))));rintro _ w3 ⟨r,rfl,hC,h⟩;replace hS:=hS.pur hC.pure;clear hC;refine ⟨_,rfl,?_⟩;refine zb (zQ (ii r) (yaa (zs (zM (ii r) (zq zN (yaa ?_))))));by_cases hp:r=0
  · replace h:=h.1 hp;refine ze hp (yaf (yac (yac ?_)));obtain ⟨J2,hJ,h⟩:=h;refine ydm (fun E ds w'=>J2∧ds=[]∧E 1=(Value.slice Ad ld cd)∧E 2=(ii v)∧E 3=(Value.pointer (some ⟨g3,0,none⟩))∧Sep w no O w' (rl [Res.ro (FP.sl cI Ad ld cd d),Res.box 24 g3 [(ii g),(.slice Ag lg cg)],Res.ro (FP.sl c3 Ag lg cg g2)])) ?_ ?_
    · clear h hS;rintro E ds w4 ⟨h,rfl,H1,H2,H3,hS⟩;replace h:=hJ h;refine zs (zq (yao (vs:=[(ii g),(.slice Ag lg cg)]) H3 underlying24 rfl yat ⟨Row.cell (hS.bx 1 rfl) (i:=0) rfl,Row.cell (hS.bx 1 rfl) (i:=1) rfl,trivial⟩) (zq (yad H1) (zq (yad H2) (zn (yaj rfl (am3 rfl rfl rfl) enter_71 ((ygu h (yaN _) (hS.rdr 2 rfl) (hS.rdr 0 rfl)).mono ?_))))));rintro _ w5 ⟨r2,r3,rfl,hC,h⟩;replace hS:=hS.pur hC.pure;clear hC;refine ⟨_,rfl,?_⟩;exact zb (zq (zx (ii r2)) (zq (zx (ii r3)) (zQ (ii r2) (zQ (ii r3) (yaa (yaZ rfl rfl rfl ⟨_,_,rfl,(hS.sel []),h⟩))))))
    clear hJ;intro j;refine zr (zM (ii v) (zq zL (zM (.bool (decide (v<0))) ?_)));by_cases hp2:v<0
    · replace h:=h.1 hp2;exact zV rfl rfl (zT hp2) (zV rfl rfl (zT hp2) (zV rfl rfl (zT hp2) (zV rfl rfl (zT hp2) (zq (yau (v:=(.bool (true))) (zT hp2) rfl) (yaa (yal rfl (zs (zQ (ii 0) (zQ (ii 2) (yaa (yaZ rfl rfl rfl ⟨_,_,rfl,(hS.sel []),h⟩)))))))))))
    · replace h:=h.2 hp2;refine zW rfl rfl (zF hp2) (zm (ii v)) (zW rfl rfl (zF hp2) (yae rfl underlying24 rfl yab) (zW rfl rfl (zF hp2) (zl underlying3 (Row.cell (hS.bx 2 rfl) (i:=0) rfl)) (zW rfl rfl (zF hp2) (v_geq rfl rfl) (zq (yaw (v:=(.bool (decide (g≤v)))) (zF hp2) rfl) (yaa ?_)))));by_cases hp3:g≤v
      · replace h:=h.1 hp3;exact zc hp3 (zs (zQ (ii 0) (zQ (ii 2) (yaa (yaZ rfl rfl rfl ⟨_,_,rfl,(hS.sel []),h⟩)))))
      · replace h:=h.2 hp3;exact zd hp3 (yaf (j _ _ _ ⟨h,rfl,rfl,rfl,rfl,(hS.sel [1,2,0])⟩))
  · replace h:=h.2 hp;exact zf hp (zs (zM (ii r) (zQ (ii 0) (zQ (ii r) (yaa (yaZ rfl rfl rfl ⟨_,_,rfl,(hS.sel []),h⟩))))))
end Go.Proofs.YtjepipbkiadcpaaGreat

/- What the references' pure forms come to: connectedness, errors, scripts. -/
namespace Go.Proofs.YtjepipbkiadcpaaGreat
open Go Go.Proofs.Tryz
section
variable {n : Nat} {es : List E3}
theorem p_r08_Reached{v:Nat}{R:List Bool→Prop}(hl:es.length≤1000000000)(hg:yap n es=0)(hv:v<n)(h:∀ o:List Bool,o.length=n→(∀ u,u<n→gb o u=decide (root (yay es) u=root (yay es) v))→R o):yc8 (n:Int) es (v:Int) R:=by
  obtain ⟨hE,hn1,hn12⟩:=ycl hg
  unfold yc8
  simp only [Int.toNat_natCast]
  refine ⟨by omega,by simp;omega,?_⟩
  let Q:List Bool→Prop:=fun o=>o.length=n∧gb o v=true∧∀ u,u<n→gb o u=true→root (yay es) u=root (yay es) v
  let Z:List Bool→List Bool→Prop:=fun o0 o=>(Cl n es o0→o=o0)∧(o=o0∨cf o<cf o0)∧∀ a,gb o0 a=true→gb o a=true
  have hq4:Q ((List.replicate n false).set v true):=by
    refine ⟨by simp,by rw [yeB (by simpa using hv),if_pos rfl],fun u hu h=>?_⟩
    rw [yeB (by simpa using hv)] at h
    split at h
    · rename_i e;rw [e]
    · rw [gb_rep] at h;cases h
  have hcf0:cf ((List.replicate n false).set v true)+1=n:=by
    rw [cf_set (by simpa using hv) (gb_rep n v)]
    unfold cf
    rw [List.filter_eq_self.2 (fun x hx=>by rw [(List.mem_replicate.1 hx).2];rfl)]
    simp
  have hsetQ:∀ {o:List Bool} {b:Nat},Q o→b<n→root (yay es) b=root (yay es) v→Q (o.set b true):=by
    rintro o b ⟨q1,q4,q5⟩ hb hr
    have hbl:b<o.length:=by omega
    refine ⟨by simpa using q1,?_,fun u hu h=>?_⟩
    · rw [yeB hbl];split <;> first | rfl | exact q4
    · rw [yeB hbl] at h
      split at h
      · rename_i e;rw [e];exact hr
      · exact q5 u hu h
  refine ⟨fun m i o=>Cnt n (fun k=>Q o∧(Cl n es o∨cf o+k+1≤n)) m i,Cnt.start ⟨hq4, .inr (by omega)⟩,?_⟩
  rintro m _ o0 ⟨k,rfl,rfl,hk,hq5,hpr⟩
  refine ⟨fun hlt=>?_,fun hge=>?_⟩
  · refine ⟨fun m i o=>Cnt n (fun a=>Q o∧Z o0 o∧∀ a',a'<a→gb o0 a'=true→∀ b,b<n→0<W es a' b→gb o b=true) m i,Cnt.start ⟨hq5,⟨fun _=>rfl, .inl rfl,fun _ h=>h⟩,fun a' h=>absurd h (by omega)⟩,?_⟩
    rintro m _ o ⟨a,rfl,rfl,ha,hq6,hz,hdone⟩
    refine ⟨fun hlta=>?_,fun hgea=>?_⟩
    · refine ⟨fun m i o=>Cnt n (fun b=>Q o∧Z o0 o∧(∀ a',a'<a→gb o0 a'=true→∀ b,b<n→0<W es a' b→gb o b=true)∧(gb o0 a=true→∀ b',b'<b→0<W es a b'→gb o b'=true)) m i,Cnt.start ⟨hq6,hz,hdone,fun _ b' h=>absurd h (by omega)⟩,?_⟩
      clear hq6 hz hdone hq5
      rintro m _ o ⟨b,rfl,rfl,hb,hq7,hz,hdone,hnow⟩
      have hol:=hq7.1
      refine ⟨fun hltb=>⟨by omega,fun hx=>?_,fun hx=>Cnt.next (by omega) (by omega) ⟨hq7,hz,hdone,fun h=>absurd (hz.2.2 a h) (by simpa using hx)⟩⟩,fun hgeb=>?_⟩
      · simp only [Int.toNat_natCast] at hx ⊢
        have hstep:(a≠b→0<W es a b)→Q (o.set b true)∧Z o0 (o.set b true)∧(∀ a',a'<a→gb o0 a'=true→∀ b',b'<n→0<W es a' b'→gb (o.set b true) b'=true)∧(gb o0 a=true→∀ b',b'<b+1→0<W es a b'→gb (o.set b true) b'=true):=by
          intro hW
          have hbl:b<o.length:=by omega
          have hup:∀ x,gb o x=true→gb (o.set b true) x=true:=fun x h=>by rw [yeB hbl];split <;> first | rfl | exact h
          have hrb:root (yay es) b=root (yay es) v:=by
            have h1:=hq7.2.2 a (by omega) hx
            by_cases eab:a=b
            · rw [←eab];exact h1
            · rw [←root_W hE hn1 hn12 (hW eab)];exact h1
          refine ⟨hsetQ hq7 (by omega) hrb,⟨fun hcl=>?_,?_,fun x h=>hup x (hz.2.2 x h)⟩,fun a' h1 h2 b' h3 h4=>hup _ (hdone a' h1 h2 b' h3 h4),fun h1 b' h2 h3=>?_⟩
          · have e0:=hz.1 hcl
            subst e0
            refine set_same ?_
            by_cases eab:a=b
            · rw [←eab];exact hx
            · exact hcl a b (by omega) (by omega) hx (hW eab)
          · cases hob:gb o b with
            | true=>rw [set_same hob];exact hz.2.1
            | false =>
              have:=cf_set hbl hob
              rcases hz.2.1 with h | h
              · right;rw [←h];omega
              · right;omega
          · by_cases e2:b'=b
            · subst e2;rw [yeB hbl,if_pos rfl]
            · exact hup _ (hnow h1 b' (by omega) h3)
        have hpass:¬0<W es a b→(gb o0 a=true→∀ b',b'<b+1→0<W es a b'→gb o b'=true):=fun h h1 b' h2 h3=>by
          by_cases e2:b'=b
          · subst e2;exact absurd h3 h
          · exact hnow h1 b' (by omega) h3
        by_cases eab:a=b
        · subst eab
          refine p_r08_Between' hl ⟨fun h=>⟨by omega,Cnt.next (by omega) (by omega) (hstep fun h=>absurd rfl h)⟩,fun h=>Cnt.next (by omega) (by omega) ⟨hq7,hz,hdone,hpass (by rw [show W es a a=0 from W_self es a];omega)⟩⟩
        · refine p_r08_Between hl hg eab ⟨fun h=>⟨by omega,Cnt.next (by omega) (by omega) (hstep fun _=>h)⟩,fun h=>Cnt.next (by omega) (by omega) ⟨hq7,hz,hdone,hpass h⟩⟩
      · have hbn:b=n:=by omega
        subst hbn
        refine Cnt.next (by omega) (by omega) ⟨hq7,hz,fun a' h1 h2 b' h3 h4=>?_⟩
        by_cases e2:a'=a
        · subst e2;exact hnow h2 b' h3 h4
        · exact hdone a' (by omega) h2 b' h3 h4
    · have han:a=n:=by omega
      subst han
      refine Cnt.next (by omega) (by omega) ⟨hq6,?_⟩
      by_cases hcl:Cl a es o0
      · rw [hz.1 hcl];exact .inl hcl
      · rcases hz.2.1 with h | h
        · exfalso
          subst h
          exact hcl fun x y hx hy h1 h2=>hdone x hx h1 y hy h2
        · rcases hpr with h2 | h2
          · exact absurd h2 hcl
          · right;omega
  · have hkn:k=n:=by omega
    subst hkn
    rcases hpr with q | q
    · exact h o0 hq5.1 (cl_root hE hn1 hn12 q hv hq5.2.1 hq5.2.2)
    · omega
theorem p_r08_Parts{R:Int→Prop}(hl:es.length≤1000000000)(hg:yap n es=0)(h:∀ k:Int,(k=1↔ydT n es=true)→R k):ydY (n:Int) es R:=by
  obtain ⟨hE,hn1,hn12⟩:=ycl hg
  have hcr:=conn_root hE hn1 hn12
  unfold ydY
  simp only [Int.toNat_natCast]
  refine ⟨by omega,?_⟩
  refine ⟨fun m k i o=>Cnt n (fun v=>0≤k∧k≤v∧(v=0→k=0)∧(0<v→1≤k∧(k=1↔∀ x,x<v→root (yay es) x=root (yay es) 0))∧o.length=n∧(∀ u,u<n→(gb o u=true↔∃ x,x<v∧root (yay es) u=root (yay es) x))) m i,
    Cnt.start ⟨by omega,by omega,fun _=>rfl,fun h=>absurd h (by omega),by simp,fun u _=>by rw [gb_rep];simp⟩,?_⟩
  rintro m k _ o ⟨v,rfl,rfl,hv,k0,k1,k2,k3,hol,hseen⟩
  refine ⟨fun hlt=>?_,fun hge=>?_⟩
  · have hlt:v<n:=by omega
    simp only [Int.toNat_natCast]
    refine ⟨by omega,fun hx=>?_,fun hx=>⟨i64 (by omega),p_r08_Reached hl hg hlt fun ro hrl hro=>?_⟩⟩
    · obtain ⟨x,hxv,hxr⟩:=(hseen v hlt).1 hx
      refine Cnt.next hlt (by omega) ⟨k0,by omega,fun h=>absurd h (by omega),fun _=>?_,hol,fun u hu=>?_⟩
      · have h3:=k3 (by omega)
        refine ⟨h3.1,?_⟩
        rw [h3.2]
        constructor
        · intro h y hy
          by_cases e:y=v
          · subst e;rw [hxr];exact h x hxv
          · exact h y (by omega)
        · intro h y hy;exact h y (by omega)
      · rw [hseen u hu]
        constructor
        · rintro ⟨y,hy,hyr⟩;exact ⟨y,by omega,hyr⟩
        · rintro ⟨y,hy,hyr⟩
          by_cases e:y=v
          · subst e;exact ⟨x,hxv,hyr.trans hxr⟩
          · exact ⟨y,by omega,hyr⟩
    · refine ⟨fun m i o'=>Cnt n (fun u=>o'.length=n∧(∀ x,x<n→(gb o' x=true↔(gb o x=true∨(x<u∧gb ro x=true))))) m i,Cnt.start ⟨hol,fun x _=>by simp⟩,?_⟩
      rintro m _ o' ⟨u,rfl,rfl,hu,hol',hor⟩
      refine ⟨fun hltu=>?_,fun hgeu=>?_⟩
      · have hltu:u<n:=by omega
        simp only [Int.toNat_natCast]
        have hou:=hor u hltu
        have st:∀ b:Bool,(b=true↔(gb o u=true∨gb ro u=true))→(o'.set u b).length=n∧(∀ x,x<n→(gb (o'.set u b) x=true↔(gb o x=true∨(x<u+1∧gb ro x=true)))):=fun b hbb=>by
          refine ⟨by simpa using hol',fun x hx=>?_⟩
          rw [yeB (by omega)]
          by_cases e:x=u
          · subst e
            rw [if_pos rfl,hbb]
            constructor
            · rintro (h | h)
              · exact .inl h
              · exact .inr ⟨by omega,h⟩
            · rintro (h | h)
              · exact .inl h
              · exact .inr h.2
          · rw [if_neg e,hor x hx]
            constructor
            · rintro (h | h)
              · exact .inl h
              · exact .inr ⟨by omega,h.2⟩
            · rintro (h | h)
              · exact .inl h
              · exact .inr ⟨by omega,h.2⟩
        refine ⟨by omega,fun hx2=>Cnt.next hltu (by omega) (st true ?_),fun hx2=>⟨by omega,Cnt.next hltu (by omega) (st _ ?_)⟩⟩
        · have:=hou.1 hx2
          constructor
          · intro _;rcases this with h | h
            · exact .inl h
            · exact .inr h.2
          · intro _;rfl
        · constructor
          · intro h;exact .inr h
          · rintro (h | h)
            · exact absurd (hou.2 (.inl h)) hx2
            · exact h
      · have hun:u=n:=by omega
        subst hun
        have hnew:¬ ∃ x,x<v∧root (yay es) v=root (yay es) x:=fun h=>hx ((hseen v hlt).2 h)
        refine Cnt.next (by omega) (by omega) ⟨by omega,by omega,fun h=>absurd h (by omega),fun _=>⟨by omega,?_⟩,hol',fun x hxn=>?_⟩
        · by_cases e0:v=0
          · subst e0
            have:=k2 rfl
            subst this
            constructor
            · intro _ y hy;rw [show y=0 by omega]
            · intro _;rfl
          · have h3:=k3 (by omega)
            constructor
            · intro h;omega
            · intro h;exact absurd ⟨0,by omega,h v (by omega)⟩ hnew
        · rw [hor x hxn,hseen x hxn,hro x hxn,decide_eq_true_eq]
          constructor
          · rintro (⟨y,hy,hyr⟩ | h)
            · exact ⟨y,by omega,hyr⟩
            · exact ⟨v,by omega,h.2⟩
          · rintro ⟨y,hy,hyr⟩
            by_cases e:y=v
            · subst e;exact .inr ⟨hxn,hyr⟩
            · exact .inl ⟨y,by omega,hyr⟩
  · have hvn:v=n:=by omega
    subst hvn
    refine h k ?_
    rw [(k3 (by omega)).2,hcr]
theorem yiv{R:Bool→Prop}(hl:es.length≤1000000000)(hg:yap n es=0)(h:R (ydT n es)):yc9 (n:Int) es R :=
  p_r08_Parts hl hg fun k hk=>by
    have e:decide (k=1)=ydT n es:=by rw [Bool.eq_iff_iff,decide_eq_true_eq];exact hk
    rw [e];exact h
end
section
variable {n q : Int} {es : List E3} {d s : List Int}
def lowF(n:Int)(d:List Int):Bool:=decide (d.length≤100∧(ya6 d n=0→∀ j,j<d.length → -100≤gi d j∧gi d j≤100))
def appF(n:Nat)(es:List E3)(d s:List Int):List Int:=tab (fun v=>gi d v-Lp n es (gi s) v) n
end
end Go.Proofs.YtjepipbkiadcpaaGreat

/- What the pure forms of the program's and the library's small functions come to. -/
namespace Go.Proofs.YtjepipbkiadcpaaGreat
open Go Go.Proofs.Tryz
theorem ycJ{a b:List Int}{R:Bool→Prop}(hl:a.length≤1000000000)(h:R (decide (a=b))):yaT a b R:=by
  unfold yaT
  have ht:a=b→R true:=fun q=>by rwa [decide_eq_true q] at h
  have hf:¬a=b→R false:=fun q=>by rwa [decide_eq_false q] at h
  refine ⟨fun hln=>?_,fun hln=>hf fun q=>hln (by rw [q])⟩
  refine ⟨Cnt a.length (fun k=>∀ j,j<k→gi a j=gi b j),Cnt.start (fun j hj=>absurd hj (by omega)),?_⟩
  rintro m _ ⟨k,rfl,rfl,hk,hinv⟩
  simp only [Int.toNat_natCast]
  refine ⟨fun hlt=>⟨by omega,by omega,fun h1=>Cnt.next (by omega) (by omega) fun j hj=>?_,fun h1=>hf fun q=>h1 (by rw [q])⟩,fun hge=>ht (yfv (by omega) fun j hj=>hinv j (by omega))⟩
  by_cases e:j=k
  · subst e;exact h1
  · exact hinv j (by omega)
theorem ybx{s:List Int}{R:List Int→Prop}(hl:s.length≤1000000000)(h:R s):yaC s R:=by
  unfold yaC
  exact fun nil hn=>⟨fun q=>by rw [hn q] at h;exact h,fun q=>⟨by omega,h⟩⟩
end Go.Proofs.YtjepipbkiadcpaaGreat

/- What the references' pure forms on sets come to. -/
namespace Go.Proofs.YtjepipbkiadcpaaGreat
open Go Go.Proofs.Tryz
section
variable {n : Nat} {es : List E3} {d : List Int}
end
end Go.Proofs.YtjepipbkiadcpaaGreat

/- What the library's pure forms come to: search, minimum, order. -/
namespace Go.Proofs.YtjepipbkiadcpaaGreat
open Go Go.Proofs.Tryz
theorem p_slices_Min{x:List Int}{R:Int→Prop}(hl:x.length≤1000000000)(h0:0<x.length)(h:∀ m,(∃ k,k<x.length∧gi x k=m)→(∀ k,k<x.length→m≤gi x k)→R m):ybE x R:=by
  unfold ybE
  refine ⟨True,fun _=>⟨by omega,?_⟩,fun q=>by omega,fun _=>trivial⟩
  refine ⟨fun c m i=>Cnt x.length (fun k=>1≤k∧(∃ j,j<k∧gi x j=m)∧∀ j,j<k→m≤gi x j) c i,⟨x.length-1,1,rfl,rfl,h0,by omega,⟨0,by omega,rfl⟩,fun j hj=>by rw [show j=0 by omega];exact Int.le_refl _⟩,?_⟩
  rintro c m _ ⟨k,rfl,rfl,hk,h1,⟨j0,hj0,rfl⟩,hm⟩
  simp only [Int.toNat_natCast]
  refine ⟨fun hlt=>⟨by omega,Cnt.next (by omega) (by omega) ⟨by omega,?_,fun j hj=>?_⟩⟩,fun hge=>?_⟩
  · by_cases q:gi x k<gi x j0
    · exact ⟨k,by omega,by unfold mnF;rw [if_pos q]⟩
    · exact ⟨j0,by omega,by unfold mnF;rw [if_neg q]⟩
  · rw [mnF_eq]
    by_cases e:j=k
    · subst e;omega
    · have:=hm j (by omega);omega
  · have:k=x.length:=by omega
    subst this
    exact h _ ⟨j0,hj0,rfl⟩ hm
end Go.Proofs.YtjepipbkiadcpaaGreat

/- What the pure forms of chips, graph and firing come to. -/
namespace Go.Proofs.YtjepipbkiadcpaaGreat
open Go Go.Proofs.Tryz
theorem p_chips_within{k:Int}{R:Bool→Prop}(h:R (inF k)):ycQ k R:=by
  unfold ycQ
  refine ⟨fun h1=>?_,fun h1=>?_⟩
  · have e:decide (k≤1048576)=inF k:=by unfold inF;simp [h1]
    rw [e];exact h
  · have e:false=inF k:=by unfold inF;simp [h1]
    rw [e];exact h
theorem yei{d:List Int}{n:Int}{R:Int→Prop}(h:R (ya6 d n)):ybL d n R:=by
  unfold ybL ybB
  have hout:¬(1≤n∧n≤12)→R 2:=fun q=>by
    have:ya6 d n=2:=by unfold ya6 ygL;rw [if_neg q,if_neg (by omega)]
    rwa [this] at h
  refine ⟨fun q=>⟨fun q2=>absurd q2 (by omega),fun _=>hout (by omega)⟩,fun q=>⟨fun q2=>⟨fun q3=>absurd q3 (by omega),fun _=>hout (by omega)⟩,fun q2=>⟨fun _=>?_,fun q3=>absurd rfl q3⟩⟩⟩
  have hc:ya6 d n=if (d.length:Int)=n then (if d.all inF then 0 else 2) else 8:=by unfold ya6;rw [if_pos (by unfold ygL;rw [if_pos (by omega)])]
  rw [hc] at h
  refine ⟨fun hln=>?_,fun hln=>by rwa [if_neg hln] at h⟩
  rw [if_pos hln] at h
  refine ⟨Cnt d.length (fun k=>∀ j,j<k→inF (gi d j)=true),Cnt.start (fun j hj=>absurd hj (by omega)),?_⟩
  rintro m _ ⟨k,rfl,rfl,hk,hinv⟩
  refine ⟨fun hlt=>⟨by omega,p_chips_within ⟨fun h1=>Cnt.next (by omega) (by omega) fun j hj=>?_,fun h1=>?_⟩⟩,fun hge=>?_⟩
  · by_cases e:j=k
    · subst e;simpa using h1
    · exact hinv j (by omega)
  · rw [if_neg (fun hall=>h1 ((yek inF d).1 hall _ (by omega)))] at h;exact h
  · rw [if_pos ((yek inF d).2 fun j hj=>hinv j (by omega))] at h;exact h
theorem yge{n v:Int}{R:Bool→Prop}(h:R (decide (0≤v∧v<n))):ycp n v R:=by
  unfold ycp
  refine ⟨fun h1=>?_,fun h1=>?_⟩
  · have e:decide (v<n)=decide (0≤v∧v<n):=by simp [h1]
    rw [e];exact h
  · have e:false=decide (0≤v∧v<n):=by simp [h1]
    rw [e];exact h
theorem ygQ{a b:Int}{R:Int→Prop}(h:R (cmpF a b)):ybH a b R:=by
  unfold ybH ycG
  unfold cmpF at h
  refine ⟨fun q=>absurd q (by simp),fun _=>⟨fun q=>absurd q (by simp),fun _=>⟨fun h1=>by rwa [if_pos h1] at h,fun h1=>?_⟩⟩⟩
  rw [if_neg h1] at h
  refine ⟨fun h2=>by rwa [if_pos h2] at h,fun h2=>by rwa [if_neg h2] at h⟩
theorem p_cmp_Or2{x y:Int}{R:Int→Prop}(h:R (orF x y)):ydo [x,y] R:=by
  unfold ydo
  unfold orF at h
  refine ⟨Cnt 2 (fun k=>∀ j,j<k→gi [x,y] j=0),Cnt.start (fun j hj=>absurd hj (by omega)),?_⟩
  rintro m _ ⟨k,rfl,rfl,hk,hinv⟩
  simp only [Int.toNat_natCast,List.length_cons,List.length_nil]
  have hk3:k=0∨k=1∨k=2:=by omega
  have g0:gi [x,y] 0=x:=rfl
  have g1:gi [x,y] 1=y:=rfl
  have hnx:gi [x,y] k=0→∀ j,j<k+1→gi [x,y] j=0:=fun q j hj=>by
    by_cases e:j=k
    · subst e;exact q
    · exact hinv j (by omega)
  refine ⟨fun hlt=>⟨by omega,fun q=>Cnt.next (by omega) (by omega) (hnx q),fun q=>?_⟩,fun hge=>?_⟩
  · rcases hk3 with rfl | rfl | rfl
    · rw [g0] at q ⊢;rwa [if_pos q] at h
    · have h0:=hinv 0 (by omega)
      rw [g0] at h0
      rw [g1];rwa [if_neg (fun q2=>q2 h0)] at h
    · exact absurd hlt (by omega)
  · have:k=2:=by omega
    subst this
    have h0:=hinv 0 (by omega)
    have h1:=hinv 1 (by omega)
    rw [g0] at h0
    rw [g1] at h1
    rw [if_neg (fun q2=>q2 h0),h1] at h;exact h
theorem p_pair_compare{a b c d:Int}{R:Int→Prop}(h:R (yic a b c d)):yb7 a b c d R :=
  ygQ (ygQ (p_cmp_Or2 h))
theorem p_graph_Check{n:Int}{es:List E3}{R:Int→Prop}(hl:es.length≤1000000000)(h:R (yap n es)):yc6 n es R:=by
  unfold yc6
  have hout:¬(1≤n∧n≤12)→R 2:=fun q=>by unfold yap at h;rwa [if_neg q] at h
  refine ⟨1≤n∧n≤12,fun hn=>?_,fun q=>hout (by omega),fun q=>⟨fun q2=>hout (by omega),fun q2=>⟨by omega,by omega⟩⟩⟩
  have hg:yap n es=gchk n (-1) (-1) es:=by unfold yap;rw [if_pos hn]
  rw [hg] at h
  refine ⟨fun m i a b=>Cnt es.length (fun k=>a=(pre es k).1∧b=(pre es k).2∧gchk n (-1) (-1) es=gchk n (pre es k).1 (pre es k).2 (es.drop k)) m i,Cnt.start ⟨rfl,rfl,rfl⟩,?_⟩
  rintro m _ _ _ ⟨k,rfl,rfl,hk,rfl,rfl,hinv⟩
  simp only [Int.toNat_natCast]
  refine ⟨fun hlt=>⟨by omega,?_⟩,fun hge=>?_⟩
  · have hlt:k<es.length:=by omega
    rw [yfJ hlt,ydZ] at hinv
    generalize hx:ge es k=x at hinv ⊢
    have hed:R (if yeR n (pre es k).1 (pre es k).2 x=0 then gchk n x.1 x.2.1 (es.drop (k+1)) else yeR n (pre es k).1 (pre es k).2 x):=by rw [←hinv];exact h
    have h2:¬((0≤x.1∧x.1<n)∧(0≤x.2.1∧x.2.1<n)∧1≤x.2.2∧x.2.2≤50)→R 2:=fun q=>by
      unfold yeR at hed;rw [if_neg q,if_neg (by omega)] at hed;exact hed
    refine ⟨(0≤x.1∧x.1<n)∧(0≤x.2.1∧x.2.1<n)∧1≤x.2.2∧x.2.2≤50,fun hJ=>?_,yge ⟨fun q1=>yge ⟨fun q2=>⟨fun q3=>h2 (by omega),fun q3=>⟨fun q4=>h2 (by omega),fun q4=>?_⟩⟩,fun q2=>h2 (by simp at q2;omega)⟩,fun q1=>h2 (by simp at q1;omega)⟩⟩
    · have he:yeR n (pre es k).1 (pre es k).2 x=if x.1≤x.2.1∧yic (pre es k).1 (pre es k).2 x.1 x.2.1<0 then 0 else 9:=by unfold yeR;rw [if_pos hJ]
      rw [he] at hed hinv
      refine ⟨fun q=>?_,fun q=>p_pair_compare ⟨fun q2=>?_,fun q2=>Cnt.next hlt (by omega) ⟨?_,?_,?_⟩⟩⟩
      · rw [if_neg (show ¬(x.1≤x.2.1∧_) by omega),if_neg (by omega)] at hed;exact hed
      · rw [if_neg (show ¬(x.1≤x.2.1∧_) by omega),if_neg (by omega)] at hed;exact hed
      · simp [pre,hx]
      · simp [pre,hx]
      · have hc:x.1≤x.2.1∧yic (pre es k).1 (pre es k).2 x.1 x.2.1<0:=⟨by omega,by omega⟩
        rw [if_pos hc,if_pos rfl] at hinv
        rw [hinv]
        simp [pre,hx]
    · simp only [decide_eq_true_eq] at q1 q2
      exact ⟨q1,q2,by omega,by omega⟩
  · have hk2:k=es.length:=by omega
    rw [hinv,hk2,List.drop_length] at h
    exact h
def e1(x:E3)(s:Nat→Int)(v:Nat):Int:=(if (v:Int)=x.1 then x.2.2*(s x.1.toNat-s x.2.1.toNat) else 0)-(if (v:Int)=x.2.1 then x.2.2*(s x.1.toNat-s x.2.1.toNat) else 0)
section
variable {n : Nat} {es : List E3} {d s : List Int}
end
end Go.Proofs.YtjepipbkiadcpaaGreat

/- Words for the laws of layer 34. -/
namespace Go.Proofs.YtjepipbkiadcpaaGreat
open Go Go.Proofs.Tryz
structure Right(n:Int)(es:List E3)(d:List Int):Prop where
  few:smallF n es 6 9=true
  joined:ycV n es=0
  chips:ya6 d n=0
  low:lowF n d=true
end Go.Proofs.YtjepipbkiadcpaaGreat

/- What the pure forms of 'effective' and of its reference come to. -/
namespace Go.Proofs.YtjepipbkiadcpaaGreat
open Go Go.Proofs.Tryz
theorem win_dg{n:Nat}{es:List E3}{d:List Int}(hd:d.length=n)(h:Win n es d):0≤dg d:=by
  obtain ⟨s,hs⟩:=h
  have h1:0≤sm n (fun v=>gi d v-Lp n es s v):=yaX hs
  rw [ygB,ygK] at h1
  unfold dg
  rw [hd];omega
theorem conn_all{n:Nat}{es:List E3}(hg:yap n es=0)(hc:ydT n es=true):∀ q,q<n→Conn n es q:=fun q hq=>by
  obtain ⟨hE,hn1,hn12⟩:=ycl hg
  exact (conn_iff hE hn1 hn12 hq).1 hc
def yhG(d:List Int)(v:Nat)(k:Int):List Int:=d.set v (gi d v+k)
theorem yhw(d:List Int)(v:Nat)(k:Int):(yhG d v k).length=d.length:=by simp [yhG]
theorem yeI{d:List Int}{v:Nat}(hv:v<d.length)(k:Int)(i:Nat):gi (yhG d v k) i=if i=v then gi d v+k else gi d i:=by unfold yhG;rw [ya7 hv]
theorem dg_addAt{d:List Int}{v:Nat}(hv:v<d.length)(k:Int):dg (yhG d v k)=dg d+k:=by
  unfold dg
  rw [yhw]
  have h2:sm d.length (gi (yhG d v k))=sm d.length (fun i=>gi d i+if i=v then k else 0):=yan fun i hi=>by
    rw [yeI hv]
    show _=gi d i+if i=v then k else 0
    split
    · rename_i e;rw [e]
    · omega
  rw [h2,yc5,yfu k hv]
theorem red_addAt{n:Nat}{es:List E3}{v:Nat}{r:List Int}(hr:Red n es v r)(hl:r.length=n)(hv:v<n)(j:Int):Red n es v (yhG r v j):=by
  refine ⟨fun u hu hne=>by rw [yeI (by omega),if_neg hne];exact hr.pos u hu hne,fun S hS hex=>?_⟩
  obtain ⟨u,hu,hSu,hlt⟩:=hr.no S hS hex
  refine ⟨u,hu,hSu,?_⟩
  rw [yeI (by omega),if_neg (fun e=>by rw [e,hS] at hSu;cases hSu)]
  exact hlt
theorem win_price{n:Nat}{es:List E3}{v:Nat}{d r s:List Int}(hE:EOk n es)(hv:v<n)(hd:d.length=n)(h:Reduces n es v d r s)(j:Int):Win n es (yhG d v j) ↔ -gi r v≤j:=by
  have hl:=h.dl
  rw [win_red hE hv (red_addAt h.red hl hv j) (s:=gi s) fun u hu=>?_,yeI (by omega),if_pos rfl]
  · omega
  · rw [yeI (by omega),yeI (by omega),h.lp u hu]
    split
    · rename_i e;rw [e,h.lp v hv];omega
    · rfl
theorem red_few{n:Nat}{es:List E3}{q:Nat}{r:List Int}(hE:EOk n es)(hq:q<n)(hl:r.length=n)(hr:Red n es q r):dg r-gi r q≤tot n es:=by
  have h1:∀ v,v<n→(if v=q then 0 else gi r v)≤sm n (fun u=>W es v u):=fun v hv=>by
    by_cases e:v=q
    · rw [if_pos e];exact yaX fun u _=>ya5 hE v u
    · rw [if_neg e]
      obtain ⟨x,hx,hSx,hlt⟩:=hr.no (fun x=>decide (x=v)) (by simp;exact fun h=>e h.symm) ⟨v,hv,by simp⟩
      have hxv:x=v:=by simpa using hSx
      subst hxv
      refine Int.le_trans (Int.le_of_lt hlt) (yeh fun u hu=>?_)
      have:=ya5 hE x u
      show (if _ then _ else _)≤_
      split <;> omega
  have h2:=yeh h1
  have h3:=yhS (f:=gi r) hq
  unfold dg tot
  rw [hl]
  have h4:sm n (fun v=>if v=q then 0 else gi r v)≤sm n (fun v=>sm n (fun u=>W es v u)):=h2
  omega
theorem given0{n:Int}{es:List E3}{d:List Int} : yaV n es 0 d=if ycV n es=0 then ya6 d n else ycV n es:=by
  unfold yaV ycV
  by_cases h1:yap n es=0
  · rw [if_pos h1,if_pos h1]
    have hn:1≤n:=by
      unfold yap at h1
      split at h1
      · omega
      · omega
    by_cases h2:ydT n es=true
    · rw [if_pos h2,if_pos h2,if_pos rfl,if_pos (by omega)]
    · rw [if_neg h2,if_neg h2,if_neg (by omega)]
  · rw [if_neg h1,if_neg h1,if_neg h1]
theorem yg2{n:Int}{es:List E3}{d:List Int}{R:Int→Prop}(hl:es.length≤1000)(hdl:d.length≤1000000000)(h:R (yaV n es 0 d)):ycN n es d R :=
  ⟨hl,hdl,fun _ _ _=>h⟩
def LossOk(n:Int)(es:List E3)(q:Int)(d s:List Int)(e:Int):Prop :=
  (yaV n es q d≠0∧e=yaV n es q d)∨(yaV n es q d=0∧ya6 s n≠0∧e=ya6 s n) ∨
  (yaV n es q d=0∧ya6 s n=0∧(Red n.toNat es q.toNat (appF n.toNat es d s)∧gi (appF n.toNat es d s) q.toNat<0)∧e=0) ∨
  (yaV n es q d=0∧ya6 s n=0∧¬(Red n.toNat es q.toNat (appF n.toNat es d s)∧gi (appF n.toNat es d s) q.toNat<0)∧e=16)
theorem LossOk.eq{n:Int}{es:List E3}{q:Int}{d s:List Int}{e e':Int}(h:LossOk n es q d s e)(h':LossOk n es q d s e'):e=e':=by
  rcases h with h | h | h | h <;> rcases h' with h' | h' | h' | h' <;> first | (exact absurd h'.2.2.1 h.2.2.1) | (exact absurd h.2.2.1 h'.2.2.1) | (rw [h.2.2.2,h'.2.2.2];done) | (rw [h.2,h'.2];done) | (exact absurd h'.1 h.1) | (exact absurd h.1 h'.1) | (rw [h.2.2,h'.2.2];done) | (exact absurd h'.2.1 h.2.1) | (exact absurd h.2.1 h'.2.1)
theorem red_set{n:Nat}{es:List E3}{q:Nat}{x:List Int}(hl:x.length=n)(hq:q<n)(z:Int):Red n es q (x.set q z)↔Red n es q x:=by
  have hg:∀ v,v≠q→gi (x.set q z) v=gi x v:=fun v hv=>by rw [ya7 (by omega),if_neg hv]
  constructor
  · rintro ⟨h1,h2⟩
    refine ⟨fun v hv hne=>by rw [←hg v hne];exact h1 v hv hne,fun S hS hex=>?_⟩
    obtain ⟨v,hv,hSv,hlt⟩:=h2 S hS hex
    exact ⟨v,hv,hSv,by rw [←hg v (fun e=>by rw [e,hS] at hSv;cases hSv)];exact hlt⟩
  · rintro ⟨h1,h2⟩
    refine ⟨fun v hv hne=>by rw [hg v hne];exact h1 v hv hne,fun S hS hex=>?_⟩
    obtain ⟨v,hv,hSv,hlt⟩:=h2 S hS hex
    exact ⟨v,hv,hSv,by rw [hg v (fun e=>by rw [e,hS] at hSv;cases hSv)];exact hlt⟩
theorem red_lt{n:Nat}{es:List E3}{q:Nat}{r:List Int}(hE:EOk n es)(hr:Red n es q r){v:Nat}(hv:v<n)(hne:v≠q):gi r v<deg n es v:=by
  obtain ⟨x,hx,hSx,hlt⟩:=hr.no (fun x=>decide (x=v)) (by simp;exact fun h=>hne h.symm) ⟨v,hv,by simp⟩
  have hxv:x=v:=by simpa using hSx
  subst hxv
  refine Int.lt_of_lt_of_le hlt (yeh fun u hu=>?_)
  have:=ya5 hE x u
  show (if _ then _ else _)≤_
  split <;> omega
end Go.Proofs.YtjepipbkiadcpaaGreat

/- What Winnable, Price and Needy come to, and their references. -/
namespace Go.Proofs.YtjepipbkiadcpaaGreat
open Go Go.Proofs.Tryz
theorem given_all{n:Nat}{es:List E3}{q:Nat}{d:List Int}(h:yaV n es q d=0):EOk n es∧1≤n∧n≤12∧yap n es=0∧ydT n es=true∧q<n∧d.length=n∧ya6 d n=0:=by
  obtain ⟨k1,k2,k3,k4,k5⟩:=ydC h
  obtain ⟨hE,hn1,hn12⟩:=ycl k1
  exact ⟨hE,hn1,hn12,k1,k2,by omega,(ygT k5).1,k5⟩
theorem given_at{n:Int}{es:List E3}{d:List Int}(h:yaV n es 0 d=0){v:Int}(hv:0≤v∧v<n):yaV n es v d=0:=by
  obtain ⟨k1,k2,k3,k4,k5⟩:=ydC h
  unfold yaV
  rw [if_pos k1,if_pos k2,if_pos hv,k5]
structure PriceOk(n:Nat)(es:List E3)(d:List Int)(v:Nat)(k:Int):Prop where
  pos:0≤k
  few:k=0∨k≤18-dg d
  iff:∀ j,0≤j→(Win n es (yhG d v j)↔k≤j)
theorem PriceOk.eq{n:Nat}{es:List E3}{d:List Int}{v:Nat}{k k':Int}(h:PriceOk n es d v k)(h':PriceOk n es d v k'):k=k':=by
  have h1:=h.pos
  have h2:=h'.pos
  have h3:=(h'.iff k h1).1 ((h.iff k h1).2 (Int.le_refl _))
  have h4:=(h.iff k' h2).1 ((h'.iff k' h2).2 (Int.le_refl _))
  omega
theorem tot_few{n:Nat}{es:List E3}(hE:EOk n es)(hn:1≤n)(h12:n≤12)(hs:(es.map (·.2.2)).sum≤9):tot n es≤18:=by
  have:=tot_le hE hn h12;omega
theorem dg_lp{n:Nat}{es:List E3}{x d:List Int}{s:Nat→Int}(hx:x.length=n)(hd:d.length=n)(h:∀ v,v<n→gi x v=gi d v-Lp n es s v):dg x=dg d:=by
  unfold dg
  rw [hx,hd,yan (g:=fun v=>gi d v-Lp n es s v) h,ygB,ygK];omega
theorem price_of{n:Nat}{es:List E3}{d r s:List Int}{v:Nat}(hE:EOk n es)(ht:tot n es≤18)(hv:v<n)(hd:d.length=n)(h:Reduces n es v d r s):PriceOk n es d v (mxF 0 (-gi r v)):=by
  have h1:=red_few hE hv h.dl h.red
  have h2:=dg_lp h.dl hd h.lp
  rw [mxF_eq]
  refine ⟨by omega,by omega,fun j hj=>?_⟩
  rw [win_price hE hv hd h]
  omega
theorem yg7{n:Int}{v:Nat}{es:List E3}{d:List Int}{R:Int→Int→Prop}(hS:Small n es d)(hdl:d.length≤1000000000)(hg:yaV n es v d=0)(h:∀ k,PriceOk n.toNat es d v k→R k 0):ycb n es d (v:Int) R:=by
  unfold ycb
  refine ⟨.inl hS,hdl,fun q=>absurd hg q,fun _ r s hr hrl hsl=>⟨fun _=>?_,fun q=>absurd rfl q⟩⟩
  obtain ⟨n,rfl⟩:∃ n':Nat,n=(n':Int):=⟨n.toNat,by have:=ydC hg;omega⟩
  obtain ⟨hE,hn1,hn12,hg1,hc,hv,hd, -⟩:=given_all hg
  simp only [Int.toNat_natCast] at hr hrl hsl h ⊢
  have hb:=hr.bd v hv
  exact ⟨by omega,i64 (by omega),h _ (price_of hE (tot_few hE hn1 hn12 (hS.g hg1).2) hv hd hr)⟩
theorem ygZ{n v:Int}{es:List E3}{d:List Int}{R:Int→Int→Prop}(hS:Small n es d)(hdl:d.length≤1000000000)(h0:yaV n es 0 d≠0→R 0 (yaV n es 0 d))(h1:yaV n es 0 d=0→¬(0≤v∧v<n)→R 0 2)
    (h2:yaV n es 0 d=0→∀ v':Nat,v=v'→v'<n.toNat→∀ k,PriceOk n.toNat es d v' k→R k 0):yce n es d v R:=by
  unfold yce
  refine yg2 (by have:=hS.el;omega) hdl ⟨fun hg=>?_,h0⟩
  have out:¬(0≤v∧v<n)→R 0 2:=h1 hg
  refine ⟨0≤v∧v<n,fun hv=>?_,fun q=>out (by omega),fun q=>⟨fun q2=>out (by omega),fun q2=>⟨by omega,by omega⟩⟩⟩
  obtain ⟨v',rfl⟩:∃ v':Nat,v=(v':Int):=⟨v.toNat,by omega⟩
  exact yg7 hS hdl (given_at hg hv) (h2 hg v' rfl (by omega))
def castL(l:List Nat):List Int:=l.map fun v:Nat=>(v:Int)
def yib(n:Nat)(es:List E3)(d:List Int)(out:List Int):Prop:=∃ f:Nat→Bool,(∀ v,v<n→(f v=true↔Win n es (yhG d v 1)))∧out=castL ((List.range n).filter f)
theorem yib.eq{n:Nat}{es:List E3}{d o o':List Int}(h:yib n es d o)(h':yib n es d o'):o=o':=by
  obtain ⟨f,hf,rfl⟩:=h
  obtain ⟨f',hf',rfl⟩:=h'
  congr 1
  refine List.filter_congr fun v hv=>?_
  rw [List.mem_range] at hv
  rw [Bool.eq_iff_iff,hf v hv,hf' v hv]
theorem filt_len(f:Nat→Bool)(k:Nat):(castL ((List.range k).filter f)).length≤k:=by
  unfold castL
  rw [List.length_map]
  refine Nat.le_trans (List.length_filter_le _ _) ?_
  simp
end Go.Proofs.YtjepipbkiadcpaaGreat

/- Pure forms of functions, made by program (pf.py), each with the proof that the code does so. -/
namespace Go.Proofs.YtjepipbkiadcpaaGreat
open Go Go.RowKit Go.Shelf Go.Proofs.Tryz
set_option maxRecDepth 100000
set_option maxHeartbeats 8000000
def ybg(s:List (List Int))(Ff:(List Int)→(Bool→Prop)→Prop)(R:Int→Prop):Prop :=
(∃ I2:Nat→Int→Prop,(∃ m0,I2 m0 0)∧∀ m2 v,I2 m2 v → 
((v<(s.length:Int) →
((0≤v∧v<(s.length:Int)) ∧
Ff (gx s v.toNat) (fun (r:Bool) =>
((r=true →
R v) ∧
(¬(r=true) →
(In64 (v+1) ∧
∃ m3,m3<m2∧I2 m3 (v+1))))))) ∧
(¬(v<(s.length:Int)) →
R (-1))))
theorem yd2{O:Nat→Prop}{w:World}{s:List (List Int)}{Ff:(List Int)→(Bool→Prop)→Prop}{As:Option Addr}{ls:Nat}{cs:Nat}{f:Value}{R:Int→Prop}(h:ybg s Ff R)(hO:∀ k,O k→k<w.heap.size)(hA0:(FP.sl (cL cI) As ls cs s).P O w)(hA1:(FP.st fun w'=>∃ (fid:Nat) (us:Array Value),f=Value.func (.func fid) #[] us∧Enters Tryz.prog fid∧∀ (x0:List Int) (Ax0:Option Addr) (lx0:Nat) (cx0:Nat) (R:Bool→Prop),Ff x0 R→(FP.sl cI Ax0 lx0 cx0 x0).P no w'→Calls Tryz.prog fid (#[(Value.slice Ax0 lx0 cx0)]++us) w' fun e w''=>∃ r0:Bool,e = .returned (Value.bool (r0))∧Sep w' no no w'' (rl [])∧R r0).P O w) :
    Calls Tryz.prog 41 #[(.slice As ls cs),f] w fun e w'=>∃ r2,e = .returned (ii r2)∧Sep w no O w' (rl [])∧R r2:=by
  unfold ybg at h;have hS:Sep w no O w (rl [Res.ro (FP.sl (cL cI) As ls cs s),Res.ro (FP.st fun w'=>∃ (fid:Nat) (us:Array Value),f=Value.func (.func fid) #[] us∧Enters Tryz.prog fid∧∀ (x0:List Int) (Ax0:Option Addr) (lx0:Nat) (cx0:Nat) (R:Bool→Prop),Ff x0 R→(FP.sl cI Ax0 lx0 cx0 x0).P no w'→Calls Tryz.prog fid (#[(Value.slice Ax0 lx0 cx0)]++us) w' fun e w''=>∃ r0:Bool,e = .returned (Value.bool (r0))∧Sep w' no no w'' (rl [])∧R r0)]):=Sep.startl hO [(FP.sl (cL cI) As ls cs s),(FP.st fun w'=>∃ (fid:Nat) (us:Array Value),f=Value.func (.func fid) #[] us∧Enters Tryz.prog fid∧∀ (x0:List Int) (Ax0:Option Addr) (lx0:Nat) (cx0:Nat) (R:Bool→Prop),Ff x0 R→(FP.sl cI Ax0 lx0 cx0 x0).P no w'→Calls Tryz.prog fid (#[(Value.slice Ax0 lx0 cx0)]++us) w' fun e w''=>∃ r0:Bool,e = .returned (Value.bool (r0))∧Sep w' no no w'' (rl [])∧R r0)] ⟨hA0,hA1,trivial⟩;refine yak (l:=[(Value.slice As ls cs),f]) func41 rfl ntmps41 (Nat.le_of_ble_eq_true rfl) ?_;refine yac ?_;refine yaL yaQ ?_;refine rl_q rfl rfl rfl (yeE (v:=(.int .i64 0)) rfl) ?_;refine yaa ?_;refine yac ?_;refine yac ?_;refine yaL yaQ ?_;refine rl_q rfl rfl rfl (yad (v:=(.slice As ls cs)) rfl) ?_;refine rl_q rfl rfl rfl (ybw (n:=s.length) rfl underlying28 (ybh (hS.rdr 0 rfl))) ?_;refine rl_q rfl rfl rfl (yad (v:=(.int .i64 0)) rfl) ?_;refine yaa ?_;refine yah ?_;obtain ⟨I2,⟨m0,h0⟩,hr⟩:=h;refine yaA (fun m E ds w'=>∃ v:Int,I2 m v∧ds=[]∧E 0=(Value.slice As ls cs)∧E 1=f∧E 7=(Value.int .i64 ((s.length:Nat):Int))∧E 8=(Value.int .i64 v)∧Sep w no O w' (rl [Res.ro (FP.sl (cL cI) As ls cs s),Res.ro (FP.st fun w'=>∃ (fid:Nat) (us:Array Value),f=Value.func (.func fid) #[] us∧Enters Tryz.prog fid∧∀ (x0:List Int) (Ax0:Option Addr) (lx0:Nat) (cx0:Nat) (R:Bool→Prop),Ff x0 R→(FP.sl cI Ax0 lx0 cx0 x0).P no w'→Calls Tryz.prog fid (#[(Value.slice Ax0 lx0 cx0)]++us) w' fun e w''=>∃ r0:Bool,e = .returned (Value.bool (r0))∧Sep w' no no w'' (rl [])∧R r0)])) m0 ⟨_,h0,rfl,rfl,rfl,rfl,rfl,(hS.sel [0,1] (by decide))⟩ ?_;clear h0 hS;rintro m2 E ds w2 ⟨v,h,rfl,H0,H1,H7,H8,hS⟩ ag;replace h:=hr m2 v h;clear hr;refine yac ?_;refine yaL yaQ ?_;refine rl_q rfl rfl rfl (ydf H8 H7) ?_;refine yaa ?_;refine yac ?_;by_cases hp:v<((s.length:Nat):Int)
  · replace h:=h.1 hp;refine zc hp (yaf (yac (yah (zs (zq (yad H8) (zQ (ii v) (yaa (zs (zq (yad H1) (zq (yad H0) (zM (ii v) ?_)))))))))));obtain ⟨hx,h⟩:=h;refine zq (zi underlying28 yaY (yaU (hS.rdr 0 rfl) hx)) ?_;obtain ⟨A,l,c,hc,hq⟩:=hS.el 0 rfl hx 2 3 rfl rfl (by decide);replace hS:=hq;clear hq;refine zq (yam (v:=(.slice A l c)) rfl underlying34 rfl (hS.clr 3 rfl)) ?_;obtain ⟨fid,us,hf,he,hcl⟩:=hS.ro 1 rfl _ (Keeps.refl _ _);replace h:=hcl _ _ _ _ _ h (hS.rdr 2 rfl);clear hcl;refine zn (ydv (hf) (am1 rfl) he (h.mono ?_));clear hf he;rintro _ w3 ⟨r,rfl,hC,h⟩;replace hS:=hS.pur hC.pure;clear hC;refine ⟨_,rfl,?_⟩;refine zb (yaa ?_);by_cases hp2:r=true
    · replace h:=h.1 hp2;exact yal (zC hp2) (zs (zM (ii v) (zQ (ii v) (yaa (yai rfl rfl ⟨_,rfl,(hS.sel []),h⟩)))))
    · replace h:=h.2 hp2;refine yaq (zC (zI hp2)) (yaf (yag (zr ?_)));obtain ⟨hi,h⟩:=h;refine zq (ybU H8 rfl hi) (zM (ii (v+1)) (yaa ?_));obtain ⟨mq,hlt,h⟩:=h;exact ag mq _ _ _ ⟨_,h,rfl,H0,H1,H7,rfl,(hS.sel [0,1])⟩ hlt
  · replace h:=h.2 hp;exact zd hp (yav rfl (zs (zQ (ii (-1)) (yaa (yai rfl rfl ⟨_,rfl,(hS.sel []),h⟩)))))
def yaO(s:List (List Int))(Ff:(List Int)→(Bool→Prop)→Prop)(R:Bool→Prop):Prop :=
ybg s Ff (fun r =>
R (decide (0≤r)))
theorem ydF{O:Nat→Prop}{w:World}{s:List (List Int)}{Ff:(List Int)→(Bool→Prop)→Prop}{As:Option Addr}{ls:Nat}{cs:Nat}{f:Value}{R:Bool→Prop}(h:yaO s Ff R)(hO:∀ k,O k→k<w.heap.size)(hA0:(FP.sl (cL cI) As ls cs s).P O w)(hA1:(FP.st fun w'=>∃ (fid:Nat) (us:Array Value),f=Value.func (.func fid) #[] us∧Enters Tryz.prog fid∧∀ (x0:List Int) (Ax0:Option Addr) (lx0:Nat) (cx0:Nat) (R:Bool→Prop),Ff x0 R→(FP.sl cI Ax0 lx0 cx0 x0).P no w'→Calls Tryz.prog fid (#[(Value.slice Ax0 lx0 cx0)]++us) w' fun e w''=>∃ r0:Bool,e = .returned (Value.bool (r0))∧Sep w' no no w'' (rl [])∧R r0).P O w) :
    Calls Tryz.prog 12 #[(.slice As ls cs),f] w fun e w'=>∃ r2,e = .returned (.bool (r2))∧Sep w no O w' (rl [])∧R r2:=by
  unfold yaO at h;have hS:Sep w no O w (rl [Res.ro (FP.sl (cL cI) As ls cs s),Res.ro (FP.st fun w'=>∃ (fid:Nat) (us:Array Value),f=Value.func (.func fid) #[] us∧Enters Tryz.prog fid∧∀ (x0:List Int) (Ax0:Option Addr) (lx0:Nat) (cx0:Nat) (R:Bool→Prop),Ff x0 R→(FP.sl cI Ax0 lx0 cx0 x0).P no w'→Calls Tryz.prog fid (#[(Value.slice Ax0 lx0 cx0)]++us) w' fun e w''=>∃ r0:Bool,e = .returned (Value.bool (r0))∧Sep w' no no w'' (rl [])∧R r0)]):=Sep.startl hO [(FP.sl (cL cI) As ls cs s),(FP.st fun w'=>∃ (fid:Nat) (us:Array Value),f=Value.func (.func fid) #[] us∧Enters Tryz.prog fid∧∀ (x0:List Int) (Ax0:Option Addr) (lx0:Nat) (cx0:Nat) (R:Bool→Prop),Ff x0 R→(FP.sl cI Ax0 lx0 cx0 x0).P no w'→Calls Tryz.prog fid (#[(Value.slice Ax0 lx0 cx0)]++us) w' fun e w''=>∃ r0:Bool,e = .returned (Value.bool (r0))∧Sep w' no no w'' (rl [])∧R r0)] ⟨hA0,hA1,trivial⟩;refine yak (l:=[(Value.slice As ls cs),f]) func12 rfl ntmps12 (Nat.le_of_ble_eq_true rfl) ?_;refine yac ?_;refine yaL yaQ ?_;refine rl_q rfl rfl rfl (yeE (v:=(.bool (false))) rfl) ?_;refine yaa ?_;refine yac ?_;refine yaL yaQ ?_;refine rl_q rfl rfl rfl (yad (v:=(.slice As ls cs)) rfl) ?_;refine rl_q rfl rfl rfl (yad (v:=f) rfl) ?_;refine rl_n rfl rfl rfl rfl (yaj rfl (am2 rfl rfl) enter_41 ((yd2 h (yaN _) (hS.rdr 0 rfl) (FP.sub _ (hS.ro 1 rfl) (fun _ _ h=>h.elim):FP.P _ no _)).mono ?_));rintro _ w2 ⟨r,rfl,hC,h⟩;replace hS:=hS.pur hC.pure;clear hC;refine ⟨_,rfl,?_⟩;refine ⟨Stb.none _,?_⟩;refine rl_q rfl rfl rfl (v_geq rfl rfl) ?_;refine rl_q rfl rfl rfl (yeE (v:=(.bool (decide (0≤r)))) rfl) ?_;refine yaa ?_;exact yai rfl rfl ⟨_,rfl,(hS.sel [] (by decide)),h⟩
def ybp(g:Int)(g2:List E3)(l:List (List Int))(R:Int→Prop):Prop :=
ybI g g2 (fun r r2 =>
((r2=0 →
((r=true →
(∃ I2:Nat→Int→Prop,(∃ m0,I2 m0 0)∧∀ m2 v,I2 m2 v → 
((v<(l.length:Int) →
((0≤v∧v<(l.length:Int)) ∧
ybL (gx l v.toNat) g (fun r3 =>
((r3=0 →
(In64 (v+1) ∧
∃ m3,m3<m2∧I2 m3 (v+1))) ∧
(¬(r3=0) →
R r3))))) ∧
(¬(v<(l.length:Int)) →
R 0)))) ∧
(¬(r=true) →
R 13))) ∧
(¬(r2=0) →
R r2)))
theorem ydW{O:Nat→Prop}{w:World}{g g2 l Ag lg cg Al ll cl}{R:Int→Prop}(h:ybp g g2 l R)(hO:∀ k,O k→k<w.heap.size)(hA0:(FP.sl c3 Ag lg cg g2).P O w)(hA1:(FP.sl (cL cI) Al ll cl l).P O w) :
    Calls Tryz.prog 30 #[(.agg #[(ii g),(.slice Ag lg cg)]),(.slice Al ll cl)] w fun e w'=>∃ r4,e = .returned (ii r4)∧Sep w no O w' (rl [])∧R r4:=by
  unfold ybp at h;have hS:Sep w no O w (rl [Res.ro (FP.sl c3 Ag lg cg g2),Res.ro (FP.sl (cL cI) Al ll cl l)]):=Sep.startl hO [(FP.sl c3 Ag lg cg g2),(FP.sl (cL cI) Al ll cl l)] ⟨hA0,hA1,trivial⟩;refine yak (l:=[(.agg #[(ii g),(.slice Ag lg cg)]),(.slice Al ll cl)]) func30 rfl ntmps30 zY (zs (zn (ybi (v:=(.agg #[(ii g),(.slice Ag lg cg)])) rfl ?_)));intro g3 w2 hN;replace hS:Sep w no O w2 (stl _ 2 (Res.box 24 g3 [(ii g),(.slice Ag lg cg)])):=hS.new 2 rfl hN;clear hN;refine zb (zQ (ii 0) (yaa (zs (zq (yao (vs:=[(ii g),(.slice Ag lg cg)]) rfl underlying24 rfl yat ⟨Row.cell (hS.bx 2 rfl) (i:=0) rfl,Row.cell (hS.bx 2 rfl) (i:=1) rfl,trivial⟩) (zn (yaj rfl (am1 rfl) enter_72 ((ycW h (yaN _) (hS.rdr 0 rfl)).mono ?_)))))));rintro _ w3 ⟨r,r2,rfl,hC,h⟩;replace hS:=hS.pur hC.pure;clear hC;refine ⟨_,rfl,?_⟩;refine zb (zM (.tuple #[(.bool (r)),(ii r2)]) (zq (zx (.bool (r))) (zq (zx (ii r2)) (zQ (.bool (r)) (zQ (ii r2) (yaa (yac (zs (zM (ii r2) (zq zN (yaa ?_)))))))))));by_cases hp:r2=0
  · replace h:=h.1 hp;refine ze hp (yaf (yac (zs (zM (.bool (r)) (zq (ydd rfl) (yaa ?_))))));by_cases hp2:r=true
    · replace h:=h.1 hp2;refine yaq (zC (zB hp2)) (yaf (yac (zs (zM (.slice Al ll cl) (zq (ybw (n:=l.length) rfl underlying28 (ybh (hS.rdr 1 rfl))) (zM (ii 0) (yaa (yah ?_))))))));obtain ⟨I2,⟨m0,h0⟩,hr⟩:=h;refine yaA (fun m E ds w'=>∃ v,I2 m v∧ds=[]∧E 2=(Value.pointer (some ⟨g3,0,none⟩))∧E 20=(Value.slice Al ll cl)∧E 21=(ii (l.length:Int))∧E 22=(ii v)∧Sep w no O w' (rl [Res.box 24 g3 [(ii g),(.slice Ag lg cg)],Res.ro (FP.sl c3 Ag lg cg g2),Res.ro (FP.sl (cL cI) Al ll cl l)])) m0 ⟨_,h0,rfl,rfl,rfl,rfl,rfl,(hS.sel [2,0,1])⟩ ?_;clear h0 hS;rintro m2 E ds w4 ⟨v,h,rfl,H2,H20,H21,H22,hS⟩ ag;replace h:=hr m2 v h;clear hr;refine zs (zq (ydf H22 H21) (yaa (yac ?_)));by_cases hp3:v<(l.length:Int)
      · replace h:=h.1 hp3;refine zc hp3 (yaf (yac (yah (zs ?_))));obtain ⟨hx,h⟩:=h;refine zq (ycw H20 H22 underlying28 yaY (yaU (hS.rdr 2 rfl) hx)) ?_;obtain ⟨A,l2,c,hc,hq⟩:=hS.el 2 rfl hx 3 4 rfl rfl (by decide);replace hS:=hq;clear hq;refine zq (yam (v:=(.slice A l2 c)) rfl underlying34 rfl (hS.clr 4 rfl)) (zQ (.slice A l2 c) (yaa (zs (zM (.slice A l2 c) (zq (yae H2 underlying24 rfl yab) (zq (zl underlying3 (Row.cell (hS.bx 0 rfl) (i:=0) rfl)) (zn (yaj rfl (am2 rfl rfl) yf6 ((yds h (yaN _) (hS.rdr 3 rfl)).mono ?_)))))))));rintro _ w5 ⟨r3,rfl,hC,h⟩;replace hS:=hS.pur hC.pure;clear hC;refine ⟨_,rfl,?_⟩;refine zb (zQ (ii r3) (yaa (zs (zM (ii r3) (zq zN (yaa ?_))))));by_cases hp4:r3=0
        · replace h:=h.1 hp4;refine ze hp4 (yaf (yag (zr ?_)));obtain ⟨hi,h⟩:=h;refine zq (ybU H22 rfl hi) (zM (ii (v+1)) (yaa ?_));obtain ⟨mq,hlt,h⟩:=h;exact ag mq _ _ _ ⟨_,h,rfl,H2,H20,H21,rfl,(hS.sel [0,1,2])⟩ hlt
        · replace h:=h.2 hp4;exact zf hp4 (zs (zM (ii r3) (zQ (ii r3) (yaa (yai rfl rfl ⟨_,rfl,(hS.sel []),h⟩)))))
      · replace h:=h.2 hp3;exact zd hp3 (yav rfl (zs (zQ (ii 0) (yaa (yai rfl rfl ⟨_,rfl,(hS.sel []),h⟩)))))
    · replace h:=h.2 hp2;exact yal (zC (zB (zI hp2))) (zs (zQ (ii 13) (yaa (yai rfl rfl ⟨_,rfl,(hS.sel []),h⟩))))
  · replace h:=h.2 hp;exact zf hp (zs (zM (ii r2) (zQ (ii r2) (yaa (yai rfl rfl ⟨_,rfl,(hS.sel []),h⟩)))))
def ydq(g:Int)(g2:List E3)(R:Bool→Prop):Prop :=
ydX g g2 5 7 (fun r =>
R r)
theorem yhJ{O:Nat→Prop}{w:World}{g g2 Ag lg cg}{R:Bool→Prop}(h:ydq g g2 R)(hO:∀ k,O k→k<w.heap.size)(hA0:(FP.sl c3 Ag lg cg g2).P O w) :
    Calls Tryz.prog 6 #[(.agg #[(ii g),(.slice Ag lg cg)])] w fun e w'=>∃ r2,e = .returned (.bool (r2))∧Sep w no O w' (rl [])∧R r2:=by
  unfold ydq at h;have hS:Sep w no O w (rl [Res.ro (FP.sl c3 Ag lg cg g2)]):=Sep.startl hO [(FP.sl c3 Ag lg cg g2)] ⟨hA0,trivial⟩;refine yak (l:=[(.agg #[(ii g),(.slice Ag lg cg)])]) func6 rfl ntmps6 zY (zs (zn (ybi (v:=(.agg #[(ii g),(.slice Ag lg cg)])) rfl ?_)));intro g3 w2 hN;replace hS:Sep w no O w2 (stl _ 1 (Res.box 24 g3 [(ii g),(.slice Ag lg cg)])):=hS.new 1 rfl hN;clear hN;refine zb (zQ (.bool (false)) (yaa (zs (zq (yao (vs:=[(ii g),(.slice Ag lg cg)]) rfl underlying24 rfl yat ⟨Row.cell (hS.bx 1 rfl) (i:=0) rfl,Row.cell (hS.bx 1 rfl) (i:=1) rfl,trivial⟩) (zn (yaj rfl (am3 rfl rfl rfl) enter_27 ((pok_r08_small h (yaN _) (hS.rdr 0 rfl)).mono ?_)))))));rintro _ w3 ⟨r,rfl,hC,h⟩;replace hS:=hS.pur hC.pure;clear hC;refine ⟨_,rfl,?_⟩;exact zb (zQ (.bool (r)) (yaa (yai rfl rfl ⟨_,rfl,(hS.sel []),h⟩)))
end Go.Proofs.YtjepipbkiadcpaaGreat

/- What firing a set comes to. -/
namespace Go.Proofs.YtjepipbkiadcpaaGreat
open Go Go.Proofs.Tryz
section
variable {n : Nat} {es : List E3} {d : List Int} {set : List Int}
end
end Go.Proofs.YtjepipbkiadcpaaGreat

/- Words for the laws of layer 36: what its small functions come to; the chapter's examples come out right. -/
namespace Go.Proofs.YtjepipbkiadcpaaGreat
open Go Go.Proofs.Tryz
theorem red_of_dec{n:Nat}{es:List E3}{q:Nat}{d:List Int}(hq:q<n)(h1:∀ v,v<n→v≠q→0≤gi d v)(h2:∀ m,m<2^n→1≤m→m.testBit q=false→¬(∀ v,v<n→m.testBit v=true→outS n es m.testBit v≤gi d v)):Red n es q d :=
  (tight_red hq h1).1 fun m a b c=>h2 m b a c
theorem red_known{n:Nat}{es:List E3}{q:Nat}{d r s a t:List Int}(hg:yap (n:Int) es=0)(hq:q<n)(h:Reduces n es q d r s)(h1:∀ v,v<n→v≠q→0≤gi a v)(h2:∀ m,m<2^n→1≤m→m.testBit q=false→¬(∀ v,v<n→m.testBit v=true→outS n es m.testBit v≤gi a v))
    (hal:a.length=n) (htl:t.length=n) (hlp:∀ v,v<n→gi a v=gi d v-Lp n es (gi t) v) (hz:gi t q=0):r=a∧s=t :=
  reduces_eq (ycl hg).1 hq h hal htl hlp hz (red_of_dec hq h1 h2)
theorem small_dec{n:Int}{es:List E3}{d:List Int}(h1:es.length≤40)(h2:n≤6∧(es.map (·.2.2)).sum≤9)(hd:d.length=n.toNat)(h3:∀ v,v<d.length → -200≤gi d v∧gi d v≤200):Small n es d :=
  ⟨h1,fun _=>h2,fun _ v hv=>h3 v (by omega)⟩
end Go.Proofs.YtjepipbkiadcpaaGreat

/- What the pure forms of sums, of equivalence and of lists of divisors come to. -/
namespace Go.Proofs.YtjepipbkiadcpaaGreat
open Go Go.Proofs.Tryz
theorem yel{n:Nat}{es:List E3}{l:List (List Int)}{R:Int→Prop}(hl:es.length≤1000)(hll:l.length≤1000)(hg:yap n es=0)(hc:ydT n es=true)(hd:∀ k,k<l.length→ya6 (gx l k) n=0)(h:R 0):ybp (n:Int) es l R:=by
  unfold ybp
  refine ⟨by omega,fun _=>⟨fun _=>?_,fun q=>absurd (decide_eq_true ⟨hg,hc⟩) q⟩,fun q=>absurd hg q⟩
  refine ⟨Cnt l.length (fun _=>True),Cnt.start trivial,?_⟩
  rintro m _ ⟨k,rfl,rfl,hk, -⟩
  simp only [Int.toNat_natCast]
  exact ⟨fun hlt=>⟨by omega,yei ⟨fun _=>Cnt.next (by omega) (by omega) trivial,fun q=>absurd (hd k (by omega)) q⟩⟩,fun _=>h⟩
theorem yhu:∀ (d:List Int),d.sum=dg d:=by
  have key:∀ (l:List Int) (n:Nat),n≤l.length→sm n (gi l)=(l.take n).sum:=fun l n=>by
    induction n with
    | zero=>intro _;simp [sm]
    | succ n ih =>
      intro h
      rw [sm,ih (by omega),List.take_add_one,List.sum_append,ybk (by omega:n<l.length),List.getElem?_eq_getElem (by omega:n<l.length)]
      simp
  intro d
  unfold dg
  rw [key d d.length (Nat.le_refl _),List.take_length]
theorem gi_drop(d:List Int)(k i:Nat):gi (d.drop k) i=gi d (k+i):=by unfold gi;simp
theorem dg_entry{d:List Int}(h:∀ a∈d,0≤a){j:Nat}(hj:j<d.length):0≤gi d j∧gi d j≤d.sum:=by
  have h1:∀ i,i<d.length→0≤gi d i:=fun i hi=>h _ (gi_mem hi)
  refine ⟨h1 j hj,?_⟩
  rw [yhu]
  exact yg8 h1 j hj
theorem yhv(n k:Nat):(ycC (n+1) k).length≤(k+1)^n:=by
  induction n generalizing k with
  | zero=>simp [ycC]
  | succ n ih =>
    show ((List.range (k+1)).flatMap fun i=>(ycC (n+1) (k-i)).map ((i:Int) :: ·)).length≤_
    rw [List.length_flatMap]
    have h:∀ (L:List Nat),(∀ i∈L,i≤k)→(L.map fun i=>((ycC (n+1) (k-i)).map ((i:Int) :: ·)).length).sum≤L.length*(k+1)^n:=fun L=>by
      induction L with
      | nil=>simp
      | cons a L ihL =>
        intro hL
        have h1:=ihL fun i hi=>hL i (by simp [hi])
        have h2:=ih (k-a)
        have h3:(k-a+1)^n≤(k+1)^n:=Nat.pow_le_pow_left (by omega) n
        simp only [List.map_cons,List.sum_cons,List.length_cons,List.length_map] at h1 ⊢
        rw [Nat.add_mul,Nat.one_mul]
        omega
    have:=h (List.range (k+1)) fun i hi=>by rw [List.mem_range] at hi;omega
    rw [List.length_range] at this
    rwa [Nat.pow_succ,Nat.mul_comm]
end Go.Proofs.YtjepipbkiadcpaaGreat

/- Ranks of divisors, plainly: what takes any effective divisor of a degree away. No program in sight. -/
namespace Go.Proofs.YtjepipbkiadcpaaGreat
open Go Go.Proofs.Tryz
theorem dg_n{d:List Int}{n:Nat}(h:d.length=n):dg d=sm n (gi d):=by unfold dg;rw [h]
theorem yh0{n:Nat}{es:List E3}{a b:List Int}(h:∀ v,v<n→gi a v≤gi b v)(ha:Win n es a):Win n es b:=by
  obtain ⟨s,hs⟩:=ha
  exact ⟨s,fun v hv=>by have:=hs v hv;have:=h v hv;omega⟩
def sb(n:Nat)(d e:List Int):List Int:=tab (fun i=>gi d i-gi e i) n
theorem sb_length(n:Nat)(d e:List Int):(sb n d e).length=n:=yeU _ _
theorem gi_sb{n:Nat}{d e:List Int}{v:Nat}(hv:v<n):gi (sb n d e) v=gi d v-gi e v:=gi_tab _ hv
theorem dg_sb{n:Nat}{d e:List Int}(hd:d.length=n)(he:e.length=n):dg (sb n d e)=dg d-dg e:=by
  rw [dg_n (sb_length n d e),dg_n hd,dg_n he,←ygB]
  exact yan fun v hv=>gi_sb hv
structure Eff(n:Nat)(e:List Int)(r:Int):Prop where
  len:e.length=n
  pos:∀ v,v<n→0≤gi e v
  deg:dg e=r
theorem Eff.nonneg{n:Nat}{e:List Int}{r:Int}(h:Eff n e r):0≤r:=by
  rw [←h.deg,dg_n h.len];exact yaX h.pos
theorem Eff.le{n:Nat}{e:List Int}{r:Int}(h:Eff n e r){v:Nat}(hv:v<n):gi e v≤r:=by
  rw [←h.deg,dg_n h.len];exact yg8 h.pos v hv
theorem Eff.add{n:Nat}{e:List Int}{r:Int}(h:Eff n e r){v:Nat}(hv:v<n){k:Int}(hk:0≤gi e v+k):Eff n (yhG e v k) (r+k) :=
  ⟨by rw [yhw,h.len],fun i hi=>by
    rw [yeI (by rw [h.len];exact hv)]
    have:=h.pos i hi
    split <;> omega,by rw [dg_addAt (by rw [h.len];exact hv),h.deg]⟩
theorem eff_zero(n:Nat):Eff n (List.replicate n 0) 0 :=
  ⟨by simp,fun v hv=>by rw [ybk (by simpa using hv)];simp,by
    rw [dg_n (n:=n) (by simp),yan (g:=fun _=>0) fun v hv=>by rw [ybk (by simpa using hv)];simp]
    exact ybV n⟩
theorem eff_at{n:Nat}(hn:1≤n){k:Int}(hk:0≤k):Eff n (yhG (List.replicate n 0) 0 k) k:=by
  have h:=(eff_zero n).add (v:=0) (by omega) (k:=k) (by have:=(eff_zero n).pos 0 (by omega);omega)
  rwa [Int.zero_add] at h
theorem yfo{n v:Nat}(hv:v<n):gi (List.replicate n 0) v=0:=by rw [ybk (by simpa using hv)];simp
def AL(n:Nat)(es:List E3)(d:List Int)(r:Int):Prop:=∀ e,Eff n e r→Win n es (sb n d e)
structure RkOk(n:Nat)(es:List E3)(d:List Int)(k:Int):Prop where
  lo : -1≤k
  al:AL n es d k
  no:¬AL n es d (k+1)
section
variable {n : Nat} {es : List E3} {d : List Int}
theorem al_neg{r:Int}(hr:r<0):AL n es d r:=fun e he=>by have:=he.nonneg;omega
theorem al_down(hn:1≤n){r:Int}(h:AL n es d (r+1)):AL n es d r:=fun e he=>by
  have h1:=h _ (he.add (v:=0) (k:=1) (by omega) (by have:=he.pos 0 (by omega);omega))
  refine yh0 (fun v hv=>?_) h1
  rw [gi_sb hv,gi_sb hv,yeI (by rw [he.len];omega)]
  split
  · rename_i e;subst e;omega
  · omega
theorem al_le(hn:1≤n):∀ (k:Nat) {r:Int},AL n es d (r+k)→AL n es d r
  | 0,r,h=>by simpa using h
  | k+1,r,h=>al_le hn k (al_down hn (by rw [Int.add_assoc];exact_mod_cast h))
theorem yhO(hn:1≤n){r r':Int}(h:r≤r')(ha:AL n es d r'):AL n es d r:=by
  refine al_le hn (r'-r).toNat ?_
  rwa [show r+((r'-r).toNat:Int)=r' from by omega]
theorem RkOk.eq(hn:1≤n){k k':Int}(h:RkOk n es d k)(h':RkOk n es d k'):k=k':=by
  rcases Int.lt_trichotomy k k' with q | q | q
  · exact absurd (yhO hn (by omega) h'.al) h.no
  · exact q
  · exact absurd (yhO hn (by omega) h.al) h'.no
theorem RkOk.ge(hn:1≤n){k r:Int}(h:RkOk n es d k):r≤k↔AL n es d r :=
  ⟨fun q=>yhO hn q h.al,fun q=>Int.not_lt.1 fun lt=>h.no (yhO hn (by omega) q)⟩
theorem sb_zero{v:Nat}(hv:v<n):gi (sb n d (List.replicate n 0)) v=gi d v:=by rw [gi_sb hv,yfo hv];omega
theorem al_zero:AL n es d 0↔Win n es d:=by
  constructor
  · intro h;exact yh0 (fun v hv=>by rw [sb_zero hv];exact Int.le_refl _) (h _ (eff_zero n))
  · intro h e he
    refine yh0 (fun v hv=>?_) h
    have h1:=he.pos v hv
    have h2:=he.le hv
    rw [gi_sb hv];omega
theorem rk_lose(h:¬Win n es d):RkOk n es d (-1):=⟨by omega,al_neg (by omega),fun q=>h (al_zero.1 q)⟩
theorem RkOk.win(hn:1≤n){k:Int}(h:RkOk n es d k):0≤k↔Win n es d:=(h.ge hn).trans al_zero
theorem RkOk.top(hn:1≤n)(hd:d.length=n){k:Int}(h:RkOk n es d k)(hw:Win n es d):k≤dg d:=by
  have h0:=(h.win hn).2 hw
  have h1:=win_dg (sb_length n d _) (h.al _ (eff_at hn h0))
  rw [dg_sb hd (eff_at hn h0).len,(eff_at hn h0).deg] at h1
  omega
end
end Go.Proofs.YtjepipbkiadcpaaGreat

/- Complete linear systems, plainly: what single steps lead to, and lists in lexicographic order. No program in sight. -/
namespace Go.Proofs.YtjepipbkiadcpaaGreat
open Go Go.Proofs.Tryz
def firM(n:Nat)(es:List E3)(d:List Int)(m:Nat):List Int:=tab (fun v=>gi d v-Lp n es (fun u=>if m.testBit u=true then 1 else 0) v) n
theorem yci(n:Nat)(es:List E3)(d:List Int)(m:Nat):(firM n es d m).length=n:=yeU _ n
theorem gi_firM{n:Nat}{es:List E3}{d:List Int}{m v:Nat}(hv:v<n):gi (firM n es d m) v=gi d v-Lp n es (fun u=>if m.testBit u=true then 1 else 0) v:=gi_tab _ hv
structure Pos(n:Nat)(d:List Int):Prop where
  len:d.length=n
  pos:∀ v,v<n→0≤gi d v
theorem yg9{a b:List Int}{n:Nat}(ha:a.length=n)(hb:b.length=n)(h:∀ v,v<n→gi a v=gi b v):a=b:=by
  rw [eq_tab ha _ h,←eq_tab hb _ fun i _=>rfl]
theorem fire_top{n:Nat}{es:List E3}(hE:EOk n es){D:List Int}{s:Nat→Int}{M:Int}(hp:∀ v,v<n→0≤gi D v)(hp':∀ v,v<n→0≤gi D v-Lp n es s v)(hM:∀ v,v<n→s v≤M){v:Nat}(hv:v<n) :
    0≤gi D v-Lp n es (fun u=>if s u=M then 1 else 0) v:=by
  by_cases h:s v=M
  · have h1:Lp n es (fun u=>if s u=M then 1 else 0) v≤Lp n es s v:=by
      refine yeh fun u hu=>?_
      have h2:=ya5 hE v u
      refine Int.mul_le_mul_of_nonneg_left ?_ h2
      have h3:=hM u hu
      show (if s v=M then (1:Int) else 0)-(if s u=M then 1 else 0)≤s v-s u
      rw [if_pos h]
      split <;> omega
    have:=hp' v hv
    omega
  · have h1:Lp n es (fun u=>if s u=M then 1 else 0) v≤0:=by
      have:Lp n es (fun u=>if s u=M then 1 else 0) v≤sm n (fun _=>0):=by
        refine yeh fun u hu=>?_
        have h2:=ya5 hE v u
        show W es v u*((if s v=M then (1:Int) else 0)-(if s u=M then 1 else 0))≤0
        rw [if_neg h]
        have h3:(0:Int)-(if s u=M then 1 else 0)≤0:=by split <;> omega
        have h4:=Int.mul_le_mul_of_nonneg_left h3 h2
        rwa [Int.mul_zero] at h4
      rwa [ybV] at this
    have:=hp v hv
    omega
theorem reach{n:Nat}{es:List E3}(hE:EOk n es){P:List Int→Prop}(hP:∀ x m,P x→Pos n x→1≤m→m<2^n-1→Pos n (firM n es x m)→P (firM n es x m)):∀ (k:Nat) {x y:List Int} {s:Nat→Int} {M:Int},P x→Pos n x→Pos n y →
    (∀ v,v<n→gi y v=gi x v-Lp n es s v)→(∀ v,v<n→M-k≤s v∧s v≤M)→P y:=by
  have triv:∀ {x y:List Int} {s:Nat→Int} {M:Int},P x→Pos n x→Pos n y→(∀ v,v<n→gi y v=gi x v-Lp n es s v)→(∀ v,v<n→s v=M)→P y:=by
    intro x y s M h1 h2 h3 h4 h5
    have:y=x:=yg9 h3.len h2.len fun v hv=>by
      rw [h4 v hv,yeC (b:=fun _=>M) (fun i hi=>h5 i hi) hv,yeA];omega
    rw [this];exact h1
  intro k
  induction k with
  | zero =>
    intro x y s M h1 h2 h3 h4 h5
    exact triv (M:=M) h1 h2 h3 h4 fun v hv=>by have:=h5 v hv;omega
  | succ k ih =>
    intro x y s M h1 h2 h3 h4 h5
    by_cases hA:∃ v,v<n∧s v=M
    · by_cases hB:∃ v,v<n∧s v≠M
      · obtain ⟨a,ha,hsa⟩:=hA
        obtain ⟨b,hb,hsb⟩:=hB
        have hbit:∀ v,v<n→(yfC (fun u=>decide (s u=M)) n).testBit v=decide (s v=M):=fun v hv=>by rw [ygS];simp [hv]
        have hm1:1≤yfC (fun u=>decide (s u=M)) n:=by
          rcases Nat.eq_zero_or_pos (yfC (fun u=>decide (s u=M)) n) with q | q
          · have:=hbit a ha
            rw [q,Nat.zero_testBit] at this
            simp [hsa] at this
          · exact q
        have hm2:yfC (fun u=>decide (s u=M)) n<2^n-1:=by
          have h:=mask_lt (fun u=>decide (s u=M)) n
          rcases Nat.lt_or_ge (yfC (fun u=>decide (s u=M)) n) (2^n-1) with q | q
          · exact q
          · have e:yfC (fun u=>decide (s u=M)) n=2^n-1:=by omega
            have:=hbit b hb
            rw [e,Nat.testBit_two_pow_sub_one] at this
            simp [hb,hsb] at this
        have hLp:∀ v,v<n→Lp n es (fun u=>if (yfC (fun u=>decide (s u=M)) n).testBit u=true then 1 else 0) v=Lp n es (fun u=>if s u=M then 1 else 0) v:=fun v hv=>yeC (fun i hi=>by rw [hbit i hi];simp) hv
        have hx1:Pos n (firM n es x (yfC (fun u=>decide (s u=M)) n)):=⟨yci _ _ _ _,fun v hv=>by
          rw [gi_firM hv,hLp v hv]
          exact fire_top hE h2.pos (fun v hv=>by rw [←h4 v hv];exact h3.pos v hv) (fun v hv=>(h5 v hv).2) hv⟩
        refine ih (s:=fun u=>s u+(-1)*(if s u=M then 1 else 0)) (M:=M-1) (hP x _ h1 h2 hm1 hm2 hx1) hx1 h3 (fun v hv=>?_) fun v hv=>?_
        · rw [gi_firM hv,hLp v hv,ygc s (fun u=>(-1)*(if s u=M then 1 else 0)),ygG (-1) (fun u=>if s u=M then 1 else 0),h4 v hv];omega
        · have:=h5 v hv
          show M-1-(k:Int)≤s v+(-1)*(if s v=M then 1 else 0)∧s v+(-1)*(if s v=M then 1 else 0)≤M-1
          by_cases hq:s v=M
          · rw [if_pos hq];omega
          · rw [if_neg hq];omega
      · exact triv h1 h2 h3 h4 fun v hv=>by
          rcases Classical.em (s v=M) with q | q
          · exact q
          · exact absurd ⟨v,hv,q⟩ hB
    · exact ih (M:=M-1) h1 h2 h3 h4 fun v hv=>by
        have:=h5 v hv
        have:s v≠M:=fun q=>hA ⟨v,hv,q⟩
        omega
def Eqv(n:Nat)(es:List E3)(x y:List Int):Prop:=∃ s:Nat→Int,∀ v,v<n→gi y v=gi x v-Lp n es s v
theorem Eqv.refl(n:Nat)(es:List E3)(x:List Int):Eqv n es x x:=⟨fun _=>0,fun v hv=>by rw [yeA];omega⟩
theorem Eqv.symm{n:Nat}{es:List E3}{x y:List Int}(h:Eqv n es x y):Eqv n es y x:=by
  obtain ⟨s,hs⟩:=h
  exact ⟨fun i=>(-1)*s i,fun v hv=>by rw [ygG,hs v hv];omega⟩
theorem Eqv.trans{n:Nat}{es:List E3}{x y z:List Int}(h:Eqv n es x y)(k:Eqv n es y z):Eqv n es x z:=by
  obtain ⟨s,hs⟩:=h
  obtain ⟨t,ht⟩:=k
  exact ⟨fun i=>s i+t i,fun v hv=>by rw [ygc,ht v hv,hs v hv];omega⟩
theorem Eqv.firM(n:Nat)(es:List E3)(x:List Int)(m:Nat):Eqv n es x (firM n es x m):=⟨_,fun v hv=>gi_firM hv⟩
theorem Eqv.dg{n:Nat}{es:List E3}{x y:List Int}(hx:x.length=n)(hy:y.length=n)(h:Eqv n es x y):dg y=dg x:=by
  obtain ⟨s,hs⟩:=h
  rw [dg_n hx,dg_n hy,yan hs,ygB,ygK];omega
theorem reach_all{n:Nat}{es:List E3}(hE:EOk n es){P:List Int→Prop}(hP:∀ x m,P x→Pos n x→1≤m→m<2^n-1→Pos n (firM n es x m)→P (firM n es x m)){x y:List Int}(h1:P x)(h2:Pos n x)(h3:Pos n y)(h:Eqv n es x y):P y:=by
  obtain ⟨s,hs⟩:=h
  have bd:∀ k:Nat,∃ B:Nat,∀ v,v<k → -(B:Int)≤s v∧s v≤B:=by
    intro k
    induction k with
    | zero=>exact ⟨0,fun v hv=>by omega⟩
    | succ k ih =>
      obtain ⟨B,hB⟩:=ih
      refine ⟨B+(s k).natAbs,fun v hv=>?_⟩
      by_cases e:v=k
      · subst e;omega
      · have:=hB v (by omega);omega
  obtain ⟨B,hB⟩:=bd n
  exact reach hE hP (2*B) (M:=B) h1 h2 h3 hs fun v hv=>by have:=hB v hv;omega
def lexC:List Int→List Int→Int
  | [],[]=>0
  | [],_::_ => -1
  | _::_,[]=>1
  | a::s,b::t=>if a<b then -1 else if b<a then 1 else lexC s t
theorem yeT:∀ a,lexC a a=0
  | []=>rfl
  | a::s=>by rw [lexC,if_neg (by omega),if_neg (by omega)];exact yeT s
theorem yf3:∀ a b,lexC b a = -lexC a b
  | [],[]=>rfl
  | [],_::_=>rfl
  | _::_,[]=>rfl
  | a::s,b::t=>by
    unfold lexC
    by_cases h1:a<b
    · rw [if_pos h1,if_neg (show ¬b<a by omega),if_pos h1];rfl
    · by_cases h2:b<a
      · rw [if_neg h1,if_pos h2,if_pos h2,if_neg h1]
      · rw [if_neg h1,if_neg h2,if_neg h2,if_neg h1];exact yf3 s t
theorem lexC_eq:∀ a b,lexC a b=0→a=b
  | [],[],_=>rfl
  | [],_::_,h=>by cases h
  | _::_,[],h=>by cases h
  | a::s,b::t,h=>by
    unfold lexC at h
    by_cases h1:a<b
    · rw [if_pos h1] at h;cases h
    · by_cases h2:b<a
      · rw [if_neg h1,if_pos h2] at h;cases h
      · rw [if_neg h1,if_neg h2] at h
        rw [lexC_eq s t h,show a=b by omega]
theorem yhe:∀ a b c,lexC a b<0→lexC b c<0→lexC a c<0
  | [],[],_,h,_=>by simp [lexC] at h
  | _::_,[],_,h,_=>by simp [lexC] at h
  | [],_::_,[],_,h=>by simp [lexC] at h
  | [],_::_,_::_,_,_=>by simp [lexC]
  | _::_,_::_,[],_,h=>by simp [lexC] at h
  | a::s,b::t,c::u,h,k=>by
    unfold lexC at h k ⊢
    by_cases h1:a<b
    · by_cases h2:b<c
      · rw [if_pos (by omega)];omega
      · rw [if_neg h2] at k
        by_cases h3:c<b
        · rw [if_pos h3] at k;omega
        · rw [if_pos (by omega)];omega
    · rw [if_neg h1] at h
      by_cases h2:b<a
      · rw [if_pos h2] at h;omega
      · rw [if_neg h2] at h
        by_cases h3:b<c
        · rw [if_pos (by omega)];omega
        · rw [if_neg h3] at k
          by_cases h4:c<b
          · rw [if_pos h4] at k;omega
          · rw [if_neg h4] at k
            rw [if_neg (by omega),if_neg (by omega)]
            exact yhe s t u h k
theorem lexC_le_trans{a b c:List Int}(h:lexC a b≤0)(k:lexC b c≤0):lexC a c≤0:=by
  rcases Int.lt_or_eq_of_le h with h | h
  · rcases Int.lt_or_eq_of_le k with k | k
    · exact Int.le_of_lt (yhe _ _ _ h k)
    · rw [←lexC_eq _ _ k];omega
  · rw [lexC_eq _ _ h];exact k
def Asc(l:List (List Int)):Prop:=l.Pairwise fun a b=>lexC a b<0
theorem Asc.nodup{l:List (List Int)}(h:Asc l):l.Nodup:=h.imp fun q e=>by subst e;rw [yeT] at q;omega
theorem Asc.filter{l:List (List Int)}(h:Asc l)(p:List Int→Bool):Asc (l.filter p):=List.Pairwise.filter p h
theorem Asc.eq:∀ {a b:List (List Int)},Asc a→Asc b→(∀ x,x∈a↔x∈b)→a=b
  | [],[],_,_,_=>rfl
  | [],y::b,_,_,h=>by have:=(h y).2 (by simp);simp at this
  | x::a,[],_,_,h=>by have:=(h x).1 (by simp);simp at this
  | x::a,y::b,h1,h2,h=>by
    have k1:=List.pairwise_cons.1 h1
    have k2:=List.pairwise_cons.1 h2
    have e:x=y:=by
      rcases List.mem_cons.1 ((h x).1 (by simp)) with q | q
      · exact q
      · rcases List.mem_cons.1 ((h y).2 (by simp)) with r | r
        · exact r.symm
        · have q1:=k2.1 x q
          have q2:=k1.1 y r
          rw [yf3] at q1
          omega
    subst e
    rw [Asc.eq k1.2 k2.2 fun z=>?_]
    constructor
    · intro hz
      rcases List.mem_cons.1 ((h z).1 (by simp [hz])) with q | q
      · have:=k1.1 z hz;rw [q,yeT] at this;omega
      · exact q
    · intro hz
      rcases List.mem_cons.1 ((h z).2 (by simp [hz])) with q | q
      · have:=k2.1 z hz;rw [q,yeT] at this;omega
      · exact q
theorem yid:∀ (n k:Nat),Asc (ycC n k)
  | 0,k=>List.Pairwise.nil
  | 1,k=>List.pairwise_singleton _ _
  | n+2,k=>by
    show Asc ((List.range (k+1)).flatMap fun i=>(ycC (n+1) (k-i)).map ((i:Int) :: ·))
    unfold Asc
    rw [List.pairwise_flatMap]
    refine ⟨fun i hi=>?_,?_⟩
    · rw [List.pairwise_map]
      refine (yid (n+1) (k-i)).imp fun {a b} h=>?_
      show lexC ((i:Int)::a) ((i:Int)::b)<0
      rw [lexC,if_neg (by omega),if_neg (by omega)];exact h
    · refine List.pairwise_lt_range.imp fun {i j} hij x hx y hy=>?_
      obtain ⟨a,_,rfl⟩:=List.mem_map.1 hx
      obtain ⟨b,_,rfl⟩:=List.mem_map.1 hy
      show lexC ((i:Int)::a) ((j:Int)::b)<0
      rw [lexC,if_pos (by omega)];decide
open Classical in
noncomputable def sysF (n:Nat) (es:List E3) (d:List Int):List (List Int):=if dg d<0 then [] else (ycC n (dg d).toNat).filter fun x=>decide (Eqv n es d x)
theorem sysF_asc(n:Nat)(es:List E3)(d:List Int):Asc (sysF n es d):=by
  unfold sysF
  split
  · exact List.Pairwise.nil
  · exact (yid _ _).filter _
theorem yik{n:Nat}{x:List Int}(h:x.length=n):(∀ a∈x,0≤a)↔∀ v,v<n→0≤gi x v:=by
  constructor
  · intro q v hv
    rw [ybk (by omega)]
    exact q _ (List.getElem_mem _)
  · intro q a ha
    obtain ⟨i,hi,rfl⟩:=List.getElem_of_mem ha
    have:=q i (by omega)
    rwa [ybk hi] at this
open Classical in
theorem ydQ{n:Nat}{es:List E3}{d x:List Int}(hn:1≤n)(hd:d.length=n):x∈sysF n es d↔Pos n x∧Eqv n es d x:=by
  obtain ⟨N,rfl⟩:∃ N,n=N+1:=⟨n-1,by omega⟩
  have key:Pos (N+1) x→Eqv (N+1) es d x→0≤dg d:=fun h1 h2=>by
    rw [←h2.dg hd h1.len,dg_n h1.len];exact yaX h1.pos
  unfold sysF
  split
  · rename_i h
    constructor
    · intro q;simp at q
    · rintro ⟨h1,h2⟩;have:=key h1 h2;omega
  · rename_i h
    rw [List.mem_filter,yc7,decide_eq_true_iff]
    constructor
    · rintro ⟨⟨h1,h2,h3⟩,h4⟩
      exact ⟨⟨h1,(yik h1).1 h2⟩,h4⟩
    · rintro ⟨h1,h2⟩
      refine ⟨⟨h1.len,(yik h1.len).2 h1.pos,?_⟩,h2⟩
      rw [yhu,h2.dg hd h1.len];omega
theorem sysF_eq{n:Nat}{es:List E3}{d x:List Int}{l:List (List Int)}(hE:EOk n es)(hn:1≤n)(hd:d.length=n)(hx:x∈l)(hp:Pos n x)(he:Eqv n es d x)(hall:∀ y∈l,Pos n y∧Eqv n es d y)
    (hcl:∀ y m,y∈l→1≤m→m<2^n-1→Pos n (firM n es y m)→firM n es y m∈l) {l':List (List Int)} (ha:Asc l') (hm:∀ y,y∈l'↔y∈l):l'=sysF n es d:=by
  refine Asc.eq ha (sysF_asc _ _ _) fun y=>?_
  rw [hm,ydQ hn hd]
  refine ⟨hall y,fun ⟨h1,h2⟩=>?_⟩
  exact reach_all hE (P:=fun z=>z∈l) (fun z m hz _ h1 h2 h3=>hcl z m hz h1 h2 h3) hx hp h1 (he.symm.trans h2)
end Go.Proofs.YtjepipbkiadcpaaGreat

/- The walk of slices.Compare at slices of ints and of the closure that sorts by it: the world is only drawn from. -/
namespace Go.Proofs.YtjepipbkiadcpaaGreat
open Go Go.RowKit Go.Shelf Go.Proofs.Tryz
set_option maxRecDepth 100000
set_option maxHeartbeats 400000
theorem lexC_at{a b:List Int} : ∀ {k:Nat},k≤b.length→(∀ j,j<k→gi a j=gi b j)→k≤a.length→lexC a b=lexC (a.drop k) (b.drop k):=by
  intro k
  induction k generalizing a b with
  | zero=>intro _ _ _;rfl
  | succ k ih =>
    intro h1 h2 h3
    cases a with
    | nil=>simp at h3
    | cons x a =>
      cases b with
      | nil=>simp at h1
      | cons y b =>
        have h0:x=y:=by simpa [gi] using h2 0 (by omega)
        subst h0
        rw [List.drop_succ_cons,List.drop_succ_cons,lexC,if_neg (by omega),if_neg (by omega)]
        exact ih (by simpa using h1) (fun j hj=>by simpa [gi] using h2 (j+1) (by omega)) (by simpa using h3)
theorem drop_gi{a:List Int}{k:Nat}(h:k<a.length):a.drop k=gi a k::a.drop (k+1):=by
  rw [List.drop_eq_getElem_cons h]
  congr 1
  simp [gi,List.getElem?_eq_getElem h]
theorem lexC_end{a b:List Int}(h1:b.length≤a.length)(h2:∀ j,j<b.length→gi a j=gi b j)(h3:b.length<a.length):lexC a b=1:=by
  rw [lexC_at (k:=b.length) (Nat.le_refl _) h2 h1,List.drop_length,drop_gi h3];rfl
theorem lexC_out{a b:List Int}(h1:a.length≤b.length)(h2:∀ j,j<a.length→gi a j=gi b j):lexC a b=if a.length<b.length then -1 else 0:=by
  rw [lexC_at (k:=a.length) h1 h2 (Nat.le_refl _),List.drop_length]
  by_cases h:a.length<b.length
  · rw [if_pos h,drop_gi h];rfl
  · rw [if_neg h,List.drop_eq_nil_of_le (by omega)];rfl
theorem lexC_ne{a b:List Int}{k:Nat}(h1:k<a.length)(h2:k<b.length)(h3:∀ j,j<k→gi a j=gi b j)(h4:gi a k≠gi b k):lexC a b=cmpF (gi a k) (gi b k):=by
  rw [lexC_at (k:=k) (by omega) h3 (by omega),drop_gi h1,drop_gi h2,lexC]
  unfold cmpF
  by_cases q:gi a k<gi b k
  · rw [if_pos q,if_pos q]
  · rw [if_neg q,if_neg q,if_pos (by omega),if_pos (by omega)]
theorem cmpF_ne{x y:Int}(h:x≠y):cmpF x y≠0:=by
  unfold cmpF
  by_cases q:x<y
  · rw [if_pos q];omega
  · rw [if_neg q,if_pos (by omega)];omega
theorem cmpF_same(x:Int):cmpF x x=0:=by unfold cmpF;rw [if_neg (by omega),if_neg (by omega)]
theorem compD_any(A B:Option Addr)(a b:List Int)(ca cb:Nat)(w:World)(ha:Ints w A a)(hb:Ints w B b)(la:a.length≤1000000000)(lb:b.length≤1000000000) :
    Calls Tryz.prog 36 #[.slice A a.length ca, .slice B b.length cb] w fun e w'=>e = .returned (.int .i64 (lexC a b))∧w=w':=by
  have HA:=Lib.hid ha
  have HB:=Lib.hid hb
  clear ha hb
  go_enter func36,ntmps36
  go_wp2
  go_loopw [11] (fun i wr=>∃ k:Nat,k≤a.length∧k≤b.length∧i = .int .i64 k∧Hid (∀ j,j<k→gi a j=gi b j)∧w=wr) (fun i _=>a.length-(intOf i).toNat)
  case atStart=>exact ⟨0,Nat.zero_le _,Nat.zero_le _,rfl,fun j hj=>absurd hj (by omega),rfl⟩
  case round =>
    obtain ⟨k,hk,hkb,rfl,hall,rfl⟩:=hrel
    by_cases hlt:k<a.length
    · have i1:(0:Int)≤(k:Int):=by omega
      have i2:(k:Int)<(a.length:Int):=by omega
      obtain ⟨b1,o1,rfl,hb1,hc1⟩:=HA.out (by omega)
      have c1:=hc1 k hlt
      clear hc1
      by_cases hlb:k<b.length
      · obtain ⟨b2,o2,rfl,hb2,hc2⟩:=HB.out (by omega)
        have c2:=hc2 k hlb
        clear hc2
        have i3:(k:Int)<(b.length:Int):=by omega
        by_cases he:gi a k=gi b k
        · have h0:cmpF (gi a k) (gi b k)=0:=by rw [he];exact cmpF_same _
          have HE:=Lib.hid he
          clear he
          go_wp2_with (first | (go_at_call 80;refine (ygr _ _ _).mono ?_;rintro e w' ⟨rfl,rfl⟩;rw [h0]))
          go_roundw
          case rel =>
            refine ⟨k+1,by omega,by omega,by go_num,?_,trivial⟩
            intro j hj
            by_cases e:j=k
            · subst e;exact HE.out
            · exact hall.out j (by omega)
          case measure=>simp [intOf];omega
        · have h0:=lexC_ne hlt hlb hall.out he
          have hne:=cmpF_ne he
          clear he
          have hb':=neT hne
          go_wp2_with (first | (go_at_call 80;refine (ygr _ _ _).mono ?_;rintro e w' ⟨rfl,rfl⟩))
          go_ret
          exact ⟨yc1 (by rw [h0];rfl),rfl⟩
      · have i3:(b.length:Int)≤(k:Int):=by omega
        have h0:=lexC_end (a:=a) (b:=b) (by omega) (fun j hj=>hall.out j (by omega)) (by omega)
        go_wp2
        go_ret
        exact ⟨yc1 (by rw [h0];rfl),rfl⟩
    · have h0:=lexC_out (a:=a) (b:=b) (by omega) (fun j hj=>hall.out j (by omega))
      by_cases hab:a.length<b.length
      · rw [if_pos hab] at h0
        go_wp2
        go_ret
        exact ⟨yc1 (by rw [h0];rfl),rfl⟩
      · rw [if_neg hab] at h0
        go_wp2
        go_ret
        exact ⟨yc1 (by rw [h0];rfl),rfl⟩
end Go.Proofs.YtjepipbkiadcpaaGreat

/- Pure forms of functions, made by program (pf.py), each with the proof that the code does so. -/
namespace Go.Proofs.YtjepipbkiadcpaaGreat
open Go Go.RowKit Go.Shelf Go.Proofs.Tryz
set_option maxRecDepth 100000
set_option maxHeartbeats 8000000
end Go.Proofs.YtjepipbkiadcpaaGreat

/- Pure forms of functions, made by program (pf.py), each with the proof that the code does so. -/
namespace Go.Proofs.YtjepipbkiadcpaaGreat
open Go Go.RowKit Go.Shelf Go.Proofs.Tryz
set_option maxRecDepth 100000
set_option maxHeartbeats 8000000
def yd4(g:Int)(g2:List E3)(R:Prop):Prop :=
R
theorem yhd{O:Nat→Prop}{w:World}{g g2 Ag lg cg}{R:Prop}(h:yd4 g g2 R)(hO:∀ k,O k→k<w.heap.size)(hA0:(FP.sl c3 Ag lg cg g2).P O w) :
    Calls Tryz.prog 94 #[(.agg #[(ii g),(.slice Ag lg cg)])] w fun e w'=>∃ gr,e = .returned (.func (Fn.func 146) #[] #[(.pointer (some ⟨gr,0,none⟩))])∧Sep w no O w' (rl [Res.box 24 gr [(ii g),(.slice Ag lg cg)]])∧R:=by
  unfold yd4 at h;have hS:Sep w no O w (rl [Res.ro (FP.sl c3 Ag lg cg g2)]):=Sep.startl hO [(FP.sl c3 Ag lg cg g2)] ⟨hA0,trivial⟩;refine yak (l:=[(.agg #[(ii g),(.slice Ag lg cg)])]) func94 rfl ntmps94 zY (zs (zn (ybi (v:=(.agg #[(ii g),(.slice Ag lg cg)])) rfl ?_)));intro g3 w2 hN;replace hS:Sep w no O w2 (stl _ 1 (Res.box 24 g3 [(ii g),(.slice Ag lg cg)])):=hS.new 1 rfl hN;clear hN;exact zb (zQ Value.nilFunc (yaa (zs (zq (yfM (am0) (am1 rfl)) (zQ (.func (Fn.func 146) #[] #[(.pointer (some ⟨g3,0,none⟩))]) (yaa (yai rfl rfl ⟨_,rfl,(hS.sel [1]),h⟩)))))))
def ydl(d:List Int)(R:Bool→(List Int)→Prop):Prop :=
(In64 ((d.length:Int)-1) ∧
(∃ I2:Nat→Int→Prop,(∃ m0,I2 m0 ((d.length:Int)-1))∧∀ m2 j,I2 m2 j → 
((0<j →
((0≤j∧j<(d.length:Int)) ∧
(((gi d j.toNat)=0 →
(In64 (j-1) ∧
∃ m3,m3<m2∧I2 m3 (j-1))) ∧
(¬((gi d j.toNat)=0) →
((j=0 →
R false d) ∧
(¬(j=0) →
(In64 ((gi d j.toNat)-1) ∧
(In64 (j-1) ∧
((0≤(j-1)∧(j-1)<((d.set j.toNat 0).length:Int)) ∧
(In64 ((gi (d.set j.toNat 0) (j-1).toNat)+1) ∧
((0≤((d.length:Int)-1)∧((d.length:Int)-1)<((((d.set j.toNat 0).set (j-1).toNat ((gi (d.set j.toNat 0) (j-1).toNat)+1)).length:Nat):Int)) ∧
R true (((d.set j.toNat 0).set (j-1).toNat ((gi (d.set j.toNat 0) (j-1).toNat)+1)).set ((d.length:Int)-1).toNat ((gi d j.toNat)-1))))))))))))) ∧
(¬(0<j) →
((j=0 →
R false d) ∧
(¬(j=0) →
((0≤j∧j<(d.length:Int)) ∧
(In64 ((gi d j.toNat)-1) ∧
(In64 (j-1) ∧
((0≤(j-1)∧(j-1)<((d.set j.toNat 0).length:Int)) ∧
(In64 ((gi (d.set j.toNat 0) (j-1).toNat)+1) ∧
((0≤((d.length:Int)-1)∧((d.length:Int)-1)<((((d.set j.toNat 0).set (j-1).toNat ((gi (d.set j.toNat 0) (j-1).toNat)+1)).length:Nat):Int)) ∧
R true (((d.set j.toNat 0).set (j-1).toNat ((gi (d.set j.toNat 0) (j-1).toNat)+1)).set ((d.length:Int)-1).toNat ((gi d j.toNat)-1))))))))))))))
theorem pok_chips_step{S O:Nat→Prop}{w:World}{d Ad ld cd}{R:Bool→(List Int)→Prop}(h:ydl d R)(hS:Sep w S O w (rl [Res.own cI 3 Ad ld cd d])) :
    Calls Tryz.prog 83 #[(.slice Ad ld cd)] w fun e w'=>∃ r z,e = .returned (.bool (r))∧Sep w S O w' (rl [Res.own cI 3 Ad ld cd z])∧R r z:=by
  unfold ydl at h;refine yak (l:=[(.slice Ad ld cd)]) func83 rfl ntmps83 zY (zs (zQ (.bool (false)) (yaa (zs (zM (.slice Ad ld cd) (zq (ybw (n:=d.length) rfl underlying34 (ybh (hS.rdo 0 rfl))) ?_))))));obtain ⟨hi,h⟩:=h;refine zq (zS hi) (zQ (ii ((d.length:Int)-1)) (yaa (zs (zM (ii ((d.length:Int)-1)) (zQ (ii ((d.length:Int)-1)) (yaa (yac (yah ?_))))))));obtain ⟨I2,⟨m0,h0⟩,hr⟩:=h;refine yaA (fun m E ds w'=>∃ j,I2 m j∧ds=[]∧E 0=(Value.slice Ad ld cd)∧E 3=(ii ((d.length:Int)-1))∧E 4=(ii j)∧Sep w S O w' (rl [Res.own cI 3 Ad ld cd d])) m0 ⟨_,h0,rfl,rfl,rfl,rfl,(hS.sel [0])⟩ ?_;clear h0 hS;rintro m2 E ds w2 ⟨j,h,rfl,H0,H3,H4,hS⟩ ag;replace h:=hr m2 j h;clear hr;refine yac (zs (zq (yad H4) (zq zG (zM (.bool (decide (0<j))) ?_))));by_cases hp:0<j
  · replace h:=h.1 hp;refine zW rfl rfl (zT hp) (yad H0) (zW rfl rfl (zT hp) (yad H4) ?_);obtain ⟨hx,h⟩:=h;refine zW rfl rfl (zT hp) (zi underlying34 yab (yaU (hS.rdo 0 rfl) hx)) (zW rfl rfl (zT hp) (yam (v:=(ii (gi d j.toNat))) rfl underlying3 rfl (rd_1 (hS.rdo 0 rfl) hx (fun q=>ybe q) rfl)) ?_);refine zW rfl rfl (zT hp) zE (zq (yau (v:=(.bool (decide ((gi d j.toNat)=0)))) (zT hp) rfl) (yaa ?_));by_cases hp2:(gi d j.toNat)=0
    · replace h:=h.1 hp2;refine zc hp2 (yaf (yah (zr (zq (yad H4) ?_))));obtain ⟨hi2,h⟩:=h;refine zq (zS hi2) (zQ (ii (j-1)) (yaa (yag ?_)));obtain ⟨mq,hlt,h⟩:=h;exact ag mq _ _ _ ⟨_,h,rfl,H0,H3,rfl,(hS.sel [0])⟩ hlt
    · replace h:=h.2 hp2;refine zd hp2 (yav rfl (yac (zs (zq (yad H4) (zq zE (yaa ?_))))));by_cases hp3:j=0
      · replace h:=h.1 hp3;exact zc hp3 (zs (zQ (.bool (false)) (yaa (yai rfl rfl ⟨_,_,rfl,(hS.sel [0]),h⟩))))
      · replace h:=h.2 hp3;refine zd hp3 (yaf (zs (zq (yad H0) (zq (yad H4) (zq (zi underlying34 yab (yaU (hS.rdo 0 rfl) hx)) (zq (yam (v:=(ii (gi d j.toNat))) rfl underlying3 rfl (rd_1 (hS.rdo 0 rfl) hx (fun q=>ybe q) rfl)) ?_))))));obtain ⟨hi3,h⟩:=h;refine zq (zS hi3) (zQ (ii ((gi d j.toNat)-1)) (yaa (zs (zq (yad H0) (zq (yad H4) (zq (zi underlying34 yab (yaU (hS.rdo 0 rfl) hx)) (zo (zt (ii 0) yab (hS.wr 0 rfl rfl hx) ?_))))))));intro w3 e1;replace hS:=hS.st 0 rfl rfl hx (x:=0) rfl e1;clear e1;refine zb (yaa (zs (zq (yad H0) (zq (yad H4) ?_))));obtain ⟨hi4,h⟩:=h;refine zq (zS hi4) ?_;obtain ⟨hx2,h⟩:=h;refine zq (zi underlying34 yab (yaU (hS.rdo 0 rfl) hx2)) (zq (yam (v:=(ii (gi (d.set j.toNat 0) (j-1).toNat))) rfl underlying3 rfl (rd_1 (hS.rdo 0 rfl) hx2 (fun q=>ybe q) rfl)) ?_);obtain ⟨hi5,h⟩:=h;refine zq (zA hi5) (zq (zi underlying34 yab (yaU (hS.rdo 0 rfl) hx2)) (zo (zt (ii ((gi (d.set j.toNat 0) (j-1).toNat)+1)) yab (hS.wr 0 rfl rfl hx2) ?_)));intro w4 e1;replace hS:=hS.st 0 rfl rfl hx2 (x:=(gi (d.set j.toNat 0) (j-1).toNat)+1) rfl e1;clear e1;refine zb (yaa (zs (zq (yad H0) (zq (yad (v:=(ii ((d.length:Int)-1))) H3) (zM (ii ((gi d j.toNat)-1)) ?_)))));obtain ⟨hx3,h⟩:=h;refine zq (zi underlying34 yab (yaU (hS.rdo 0 rfl) hx3)) (zo (zt (ii ((gi d j.toNat)-1)) yab (hS.wr 0 rfl rfl hx3) ?_));intro w5 e1;replace hS:=hS.st 0 rfl rfl hx3 (x:=(gi d j.toNat)-1) rfl e1;clear e1;exact zb (yaa (zs (zQ (.bool (true)) (yaa (yai rfl rfl ⟨_,_,rfl,(hS.sel [0]),h⟩)))))
  · replace h:=h.2 hp;refine zV rfl rfl (zF hp) (zV rfl rfl (zF hp) (zV rfl rfl (zF hp) (zV rfl rfl (zF hp) (zV rfl rfl (zF hp) (zq (yaw (v:=(.bool (false))) (zF hp) rfl) (yaa (yaq rfl (yav rfl (yac (zs (zq (yad H4) (zq zE (yaa ?_)))))))))))));by_cases hp4:j=0
    · replace h:=h.1 hp4;exact zc hp4 (zs (zQ (.bool (false)) (yaa (yai rfl rfl ⟨_,_,rfl,(hS.sel [0]),h⟩))))
    · replace h:=h.2 hp4;refine zd hp4 (yaf (zs (zq (yad H0) (zq (yad H4) ?_))));obtain ⟨hx4,h⟩:=h;refine zq (zi underlying34 yab (yaU (hS.rdo 0 rfl) hx4)) (zq (yam (v:=(ii (gi d j.toNat))) rfl underlying3 rfl (rd_1 (hS.rdo 0 rfl) hx4 (fun q=>ybe q) rfl)) ?_);obtain ⟨hi6,h⟩:=h;refine zq (zS hi6) (zQ (ii ((gi d j.toNat)-1)) (yaa (zs (zq (yad H0) (zq (yad H4) (zq (zi underlying34 yab (yaU (hS.rdo 0 rfl) hx4)) (zo (zt (ii 0) yab (hS.wr 0 rfl rfl hx4) ?_))))))));intro w6 e1;replace hS:=hS.st 0 rfl rfl hx4 (x:=0) rfl e1;clear e1;refine zb (yaa (zs (zq (yad H0) (zq (yad H4) ?_))));obtain ⟨hi7,h⟩:=h;refine zq (zS hi7) ?_;obtain ⟨hx5,h⟩:=h;refine zq (zi underlying34 yab (yaU (hS.rdo 0 rfl) hx5)) (zq (yam (v:=(ii (gi (d.set j.toNat 0) (j-1).toNat))) rfl underlying3 rfl (rd_1 (hS.rdo 0 rfl) hx5 (fun q=>ybe q) rfl)) ?_);obtain ⟨hi8,h⟩:=h;refine zq (zA hi8) (zq (zi underlying34 yab (yaU (hS.rdo 0 rfl) hx5)) (zo (zt (ii ((gi (d.set j.toNat 0) (j-1).toNat)+1)) yab (hS.wr 0 rfl rfl hx5) ?_)));intro w7 e1;replace hS:=hS.st 0 rfl rfl hx5 (x:=(gi (d.set j.toNat 0) (j-1).toNat)+1) rfl e1;clear e1;refine zb (yaa (zs (zq (yad H0) (zq (yad (v:=(ii ((d.length:Int)-1))) H3) (zM (ii ((gi d j.toNat)-1)) ?_)))));obtain ⟨hx6,h⟩:=h;refine zq (zi underlying34 yab (yaU (hS.rdo 0 rfl) hx6)) (zo (zt (ii ((gi d j.toNat)-1)) yab (hS.wr 0 rfl rfl hx6) ?_));intro w8 e1;replace hS:=hS.st 0 rfl rfl hx6 (x:=(gi d j.toNat)-1) rfl e1;clear e1;exact zb (yaa (zs (zQ (.bool (true)) (yaa (yai rfl rfl ⟨_,_,rfl,(hS.sel [0]),h⟩)))))
end Go.Proofs.YtjepipbkiadcpaaGreat

/- Pure forms of functions, made by program (pf.py), each with the proof that the code does so. -/
namespace Go.Proofs.YtjepipbkiadcpaaGreat
open Go Go.RowKit Go.Shelf Go.Proofs.Tryz
set_option maxRecDepth 100000
set_option maxHeartbeats 8000000
end Go.Proofs.YtjepipbkiadcpaaGreat

/- What the finder of ranks comes to. -/
namespace Go.Proofs.YtjepipbkiadcpaaGreat
open Go Go.Proofs.Tryz
def errL(n:Int):List (List Int)→Int
  | []=>0
  | d::t=>if ya6 d n=0 then errL n t else ya6 d n
theorem gx_succ{d:List Int}{t:List (List Int)}{k:Nat} : gx (d::t) (k+1)=gx t k:=by simp [gx]
theorem gx_zero{d:List Int}{t:List (List Int)} : gx (d::t) 0=d:=by simp [gx]
theorem errL_zero{n:Int} : ∀ {l:List (List Int)},(∀ j,j<l.length→ya6 (gx l j) n=0)→errL n l=0
  | [],_=>rfl
  | d::t,h=>by
    have h0:=h 0 (by simp)
    rw [gx_zero] at h0
    unfold errL
    rw [if_pos h0]
    exact errL_zero fun j hj=>by have:=h (j+1) (by simpa using hj);rwa [gx_succ] at this
theorem errL_at{n:Int} : ∀ {l:List (List Int)} {k:Nat},k<l.length→(∀ j,j<k→ya6 (gx l j) n=0)→ya6 (gx l k) n≠0→errL n l=ya6 (gx l k) n
  | [],k,hk,_,_=>by simp at hk
  | d::t,0,hk,h,hn=>by
    rw [gx_zero] at hn ⊢
    unfold errL
    rw [if_neg hn]
  | d::t,k+1,hk,h,hn=>by
    have h0:=h 0 (by omega)
    rw [gx_zero] at h0
    rw [gx_succ] at hn ⊢
    unfold errL
    rw [if_pos h0]
    exact errL_at (by simpa using hk) (fun j hj=>by have:=h (j+1) (by omega);rwa [gx_succ] at this) hn
def givL(n:Int)(es:List E3)(l:List (List Int)):Int:=if ycV n es=0 then errL n l else ycV n es
theorem givL_one{n:Int}{es:List E3}{d:List Int} : givL n es [d]=yaV n es 0 d:=by
  rw [given0]
  unfold givL errL errL
  by_cases e:ya6 d n=0 <;> simp [e]
def keyF(r:List Int):List Int:=cpy (List.replicate 12 (0:Int)) r
theorem ydN(r:List Int):(keyF r).length=12:=by unfold keyF;rw [cpy_length];simp
theorem gi_keyF{r:List Int}{i:Nat}(hi:i<12):gi (keyF r) i=if i<r.length then gi r i else 0:=by
  unfold keyF
  rw [gi_cpy (by simpa using hi),yfo hi]
theorem keyF_inj{n:Nat}{r r':List Int}(hn:n≤12)(h:r.length=n)(h':r'.length=n)(e:keyF r=keyF r'):r=r':=by
  refine yfv (by omega) fun k hk=>?_
  have h1:=gi_keyF (r:=r) (i:=k) (by omega)
  have h2:=gi_keyF (r:=r') (i:=k) (by omega)
  rw [if_pos (by omega)] at h1 h2
  rw [←h1,←h2,e]
structure MOk(n:Nat)(es:List E3)(m:List (List Int×Int)):Prop where
  keys:KOk 12 m
  vals:∀ p∈m,∃ r,p.1=keyF r∧Eff n r (dg r)∧dg r≤5∧RkOk n es r p.2
theorem MOk.nil(n:Nat)(es:List E3):MOk n es []:=⟨KOk.nil 12,fun p hp=>by simp at hp⟩
theorem yig{n:Nat}{r:List Int}(hr:Eff n r (dg r))(h5:dg r≤5):yhl 12 (keyF r):=by
  refine ⟨ydN r,fun x hx=>?_⟩
  obtain ⟨i,hi,rfl⟩:=List.getElem_of_mem hx
  rw [ydN] at hi
  rw [←ybk (by rw [ydN];exact hi),gi_keyF hi]
  split
  · have hi2:i<n:=by rw [←hr.len];assumption
    have:=hr.pos i hi2
    have:=hr.le hi2
    exact i64 (by omega)
  · exact i64 (by omega)
theorem MOk.put{n:Nat}{es:List E3}{m:List (List Int×Int)}(h:MOk n es m){r:List Int}{v:Int}(hr:Eff n r (dg r))(h5:dg r≤5)(hk:RkOk n es r v):MOk n es (mput m (keyF r) v):=by
  have hK:=h.keys.put (yig hr h5) v
  refine ⟨hK,fun p hp=>?_⟩
  rcases mput_mem hp with e | e
  · obtain ⟨j,hj⟩:=List.mem_iff_getElem?.1 hp
    have h1:=mget_at hK.1 (k:=p.1) (v:=p.2) hj
    rw [e,mget_put,if_pos rfl] at h1
    cases h1
    exact ⟨r,e,hr,h5,hk⟩
  · exact h.vals p e
theorem MOk.get{n:Nat}{es:List E3}{m:List (List Int×Int)}(h:MOk n es m)(hn:n≤12){r:List Int}{v:Int}(hr:r.length=n)(hg:mget m (keyF r)=some v):RkOk n es r v:=by
  obtain ⟨r',h1,h2,h3,h4⟩:=h.vals _ (mget_mem hg)
  have e:=keyF_inj hn hr h2.len h1
  subst e;exact h4
theorem yfj:∀ {l K:List (List Int)},l.Nodup→(∀ x∈l,x∈K)→l.length≤K.length
  | [],K,_,_=>Nat.zero_le _
  | a::t,K,h,hs=>by
    have h1:=List.nodup_cons.1 h
    have ha:a∈K:=hs a (by simp)
    have h2:=yfj (l:=t) (K:=K.erase a) h1.2 fun x hx=>(List.mem_erase_of_ne (by rintro rfl;exact h1.1 hx)).2 (hs x (by simp [hx]))
    rw [List.length_erase_of_mem ha] at h2
    have:0<K.length:=List.length_pos_of_mem ha
    simp only [List.length_cons]
    omega
theorem flat_le{f:Nat→List (List Int)}{B:Nat} : ∀ {l:List Nat},(∀ a∈l,(f a).length≤B)→(l.flatMap f).length≤l.length*B
  | [],_=>by simp
  | a::t,h=>by
    rw [List.flatMap_cons,List.length_append,List.length_cons,Nat.add_mul,Nat.one_mul]
    have:=h a (by simp)
    have:=flat_le (f:=f) (l:=t) fun b hb=>h b (by simp [hb])
    omega
theorem eff_list{n k:Nat}{e:List Int}(h:Eff (n+1) e (k:Int)):e∈ycC (n+1) k:=by
  refine (yc7 n k e).2 ⟨h.len,fun a ha=>?_,by rw [yhu,h.deg]⟩
  obtain ⟨i,hi,rfl⟩:=List.getElem_of_mem ha
  rw [←ybk hi]
  exact h.pos i (by rw [←h.len];exact hi)
theorem list_eff{n k:Nat}{e:List Int}(h:e∈ycC (n+1) k):Eff (n+1) e (k:Int):=by
  obtain ⟨h1,h2,h3⟩:=(yc7 n k e).1 h
  exact ⟨h1,fun v hv=>(dg_entry h2 (by omega)).1,by rw [←yhu,h3]⟩
theorem MOk.len{n:Nat}{es:List E3}{m:List (List Int×Int)}(h:MOk n es m)(h1:1≤n)(hn:n≤5):m.length≤7776:=by
  obtain ⟨n,rfl⟩:∃ k,n=k+1:=⟨n-1,by omega⟩
  have hN:(m.map (·.1)).Nodup:=by
    have:=h.keys.1
    unfold List.Nodup
    rw [List.pairwise_map]
    exact this
  have h2:=yfj (K:=(List.range 6).flatMap fun k=>(ycC (n+1) k).map keyF) hN fun x hx=>by
    obtain ⟨p,hp,rfl⟩:=List.mem_map.1 hx
    obtain ⟨r,e,hr,h5, -⟩:=h.vals p hp
    obtain ⟨k,hk⟩:∃ k:Nat,dg r=(k:Int):=⟨(dg r).toNat,by have:=hr.nonneg;omega⟩
    rw [hk] at hr
    rw [List.mem_flatMap]
    exact ⟨k,List.mem_range.2 (by omega),List.mem_map.2 ⟨r,eff_list hr,e.symm⟩⟩
  have h3:=flat_le (f:=fun k=>(ycC (n+1) k).map keyF) (B:=1296) (l:=List.range 6) fun k hk=>by
    rw [List.length_map]
    have h1:=yhv n k
    have h2:(k+1)^n≤6^n:=Nat.pow_le_pow_left (by have:=List.mem_range.1 hk;omega) n
    have h3:6^n≤6^4:=Nat.pow_le_pow_right (by omega) (by omega)
    omega
  simp only [List.length_map,List.length_range] at h2 h3
  omega
structure GOk(n:Nat)(es:List E3):Prop where
  g:yap n es=0
  c:ydT n es=true
  el:es.length≤40
  n1:1≤n
  n5:n≤5
  su:(es.map (·.2.2)).sum≤9
section
variable {n : Nat} {es : List E3}
theorem GOk.E(G:GOk n es):EOk n es:=(ycl G.g).1
theorem GOk.C(G:GOk n es):∀ q,q<n→Conn n es q:=conn_all G.g G.c
theorem GOk.tot(G:GOk n es):tot n es≤18:=tot_few G.E G.n1 (by have:=G.n5;omega) G.su
theorem GOk.giv(G:GOk n es){d:List Int}(hd:d.length=n)(hb:∀ v,v<n → -1000000≤gi d v∧gi d v≤1000000):yaV n es 0 d=0:=by
  have:=G.n1
  have:=G.n5
  unfold yaV;rw [if_pos G.g,if_pos G.c,if_pos ⟨by omega,by omega⟩]
  exact yex hd (by omega) (by omega) fun v hv=>by have:=hb v hv;omega
theorem GOk.small(G:GOk n es){d:List Int}(hb:∀ v,v<n → -200≤gi d v∧gi d v≤200):Small (n:Int) es d :=
  ⟨G.el,fun _=>⟨by have:=G.n5;omega,G.su⟩,fun _ v hv=>hb v (by omega)⟩
theorem RkOk.few(hn:1≤n){d:List Int}(hd:d.length=n){k:Int}(h:RkOk n es d k) : -1≤k∧(k = -1∨k≤dg d):=by
  refine ⟨h.lo,?_⟩
  by_cases hw:Win n es d
  · exact .inr (h.top hn hd hw)
  · exact .inl (h.eq hn (rk_lose hw))
end
end Go.Proofs.YtjepipbkiadcpaaGreat

/- What graph.Loopless and graph.Genus come to. -/
namespace Go.Proofs.YtjepipbkiadcpaaGreat
open Go Go.Proofs.Tryz
def sF:List E3→List E3
  | []=>[]
  | x::t=>List.replicate x.2.2.toNat (x.1,x.2.1,1)++sF t
theorem yij:∀ (a b:List E3),sF (a++b)=sF a++sF b
  | [],b=>rfl
  | x::t,b=>by rw [List.cons_append,sF,sF,yij t b,List.append_assoc]
theorem sF_take{es:List E3}{k:Nat}(hk:k<es.length):sF (es.take (k+1))=sF (es.take k)++List.replicate (ge es k).2.2.toNat ((ge es k).1,(ge es k).2.1,1):=by
  rw [List.take_add_one,List.getElem?_eq_getElem hk,←yed hk,yij]
  simp [sF]
theorem sF_pre{es:List E3}{k:Nat}(hk:k<es.length){j:Nat}(hj:j≤(ge es k).2.2.toNat):sF (es.take k)++List.replicate j ((ge es k).1,(ge es k).2.1,1) <+: sF es:=by
  have h1:es=es.take (k+1)++es.drop (k+1):=(List.take_append_drop _ _).symm
  have h2:sF es=sF (es.take k)++List.replicate (ge es k).2.2.toNat ((ge es k).1,(ge es k).2.1,1)++sF (es.drop (k+1)):=by
    conv=>lhs;rw [h1]
    rw [yij,sF_take hk]
  obtain ⟨i,hi⟩:∃ i,(ge es k).2.2.toNat=j+i:=⟨(ge es k).2.2.toNat-j,by omega⟩
  rw [h2,hi,←List.replicate_append_replicate]
  exact ⟨List.replicate i ((ge es k).1,(ge es k).2.1,1)++sF (es.drop (k+1)),by simp only [List.append_assoc]⟩
theorem sF_few{n:Nat} : ∀ {es:List E3},EOk n es→(sF es).length≤50*es.length
  | [],_=>Nat.le_refl _
  | x::t,h=>by
    have hx:=h x (by simp)
    have:=sF_few (es:=t) fun z hz=>h z (by simp [hz])
    rw [sF,List.length_append,List.length_replicate,List.length_cons]
    omega
def gmap(y:Int×Int×Int):E3:=(y.2.1,y.2.2,1)
end Go.Proofs.YtjepipbkiadcpaaGreat

/- What chips.Next, rank.taken, rank.Witness and rank.AtLeast come to. -/
namespace Go.Proofs.YtjepipbkiadcpaaGreat
open Go Go.Proofs.Tryz
theorem drop_zero{d:List Int}{k:Nat}(h:∀ i,k≤i→i<d.length→gi d i=0):(d.drop k).sum=0:=by
  rw [yhu]
  unfold dg
  rw [yan (g:=fun _=>0) fun i hi=>?_]
  · exact ybV _
  · rw [gi_drop]
    rw [List.length_drop] at hi
    exact h _ (by omega) (by omega)
theorem drop_one{d:List Int}{k:Nat}(hk:k<d.length)(h:∀ i,k<i→i<d.length→gi d i=0):(d.drop k).sum=gi d k:=by
  rw [List.drop_eq_getElem_cons hk,List.sum_cons,drop_zero (k:=k+1) fun i h1 h2=>h i (by omega) h2,ybk hk]
  omega
theorem p_chips_step{d:List Int}{R:Bool→List Int→Prop}(hl:d.length≤1000)(h0:1≤d.length)(hb:∀ j,j<d.length → -1000000≤gi d j∧gi d j≤1000000)(h1:∀ y,yfP d=some y→R true y)(h2:yfP d=none→R false d):ydl d R:=by
  unfold ydl
  refine ⟨i64 (by omega),fun m j=>∃ k:Nat,j=(k:Int)∧m=k∧k<d.length∧∀ i,k<i→i<d.length→gi d i=0,⟨d.length-1,d.length-1,by omega,rfl,by omega,fun i a b=>by omega⟩,?_⟩
  rintro m _ ⟨k,rfl,hm,hk,hz⟩
  simp only [Int.toNat_natCast]
  refine ⟨fun hpos=>⟨by omega,fun e=>⟨i64 (by omega),k-1,by omega,k-1,by omega,rfl,by omega,fun i a b=>?_⟩,fun e=>⟨fun q=>by omega,fun _=>?_⟩⟩,fun hneg=>⟨fun _=>h2 (yha d fun v hv=>drop_zero fun i a b=>hz i (by omega) b),fun q=>by omega⟩⟩
  · by_cases q:i=k
    · rw [q];exact e
    · exact hz i (by omega) b
  · obtain ⟨v,rfl⟩:∃ v,k=v+1:=⟨k-1,by omega⟩
    have e1:(((v+1:Nat):Int)-1).toNat=v:=by omega
    have e2:((d.length:Int)-1).toNat=d.length-1:=by omega
    have hgk:=hb (v+1) hk
    have hgv:=hb v (by omega)
    have hs:gi (d.set (v+1) 0) v=gi d v:=by rw [ya7 hk,if_neg (by omega)]
    rw [e1,e2,hs]
    refine ⟨i64 (by omega),i64 (by omega),by rw [List.length_set];omega,i64 (by omega),by rw [List.length_set,List.length_set];omega,?_⟩
    have hnx:=nextF_some d v (by omega) (by rw [drop_one hk hz];exact e) fun w hw hw2=>drop_zero fun i a b=>hz i (by omega) b
    rw [drop_one hk hz] at hnx
    have e3:((d.set (v+1) 0).set v (gi d v+1)).set (d.length-1) (gi d (v+1)-1)=d.take v++(gi d v+1)::ydH (d.length-v-1) (gi d (v+1)-1):=by
      refine yfv (by rw [List.length_set,List.length_set,List.length_set,next_length (by omega)]) fun i hi=>?_
      rw [List.length_set,List.length_set,List.length_set] at hi
      rw [gi_next (by omega) _ _ hi,ya7 (by rw [List.length_set,List.length_set];omega),ya7 (by rw [List.length_set];omega),ya7 hk]
      by_cases c1:i=d.length-1
      · rw [if_pos c1,if_neg (by omega),if_neg (by omega),if_pos (by omega)]
      · rw [if_neg c1]
        by_cases c2:i=v
        · rw [if_pos c2,if_neg (by omega),if_pos c2]
        · rw [if_neg c2]
          by_cases c3:i<v
          · rw [if_neg (by omega),if_pos c3]
          · rw [if_neg c3,if_neg c2,if_neg (show ¬i+1=d.length by omega)]
            split
            · rfl
            · exact hz i (by omega) hi
    rw [e3]
    exact h1 _ hnx
structure FailAt(n:Nat)(es:List E3)(d:List Int)(k:Nat)(w:List Int):Prop where
  at_:∃ A B,ycC n k=A++w::B∧∀ e∈A,Win n es (sb n d e)
  no:¬Win n es (sb n d w)
theorem first_eq{α:Type}{P:α→Prop} : ∀ {A B A' B':List α} {x x':α},A++x::B=A'++x'::B'→(∀ e∈A,P e)→(∀ e∈A',P e)→¬P x→¬P x'→x=x'
  | [],B,[],B',x,x',h,_,_,_,_=>by injection h
  | [],B,a::A',B',x,x',h,_,h',hx,_=>by injection h with e _;exact absurd (e▸h' a (by simp)) hx
  | a::A,B,[],B',x,x',h,h',_,_,hx=>by injection h with e _;exact absurd (e▸h' a (by simp)) hx
  | a::A,B,a'::A',B',x,x',h,h1,h2,hx,hx'=>by injection h with _ e;exact first_eq e (fun z hz=>h1 z (by simp [hz])) (fun z hz=>h2 z (by simp [hz])) hx hx'
theorem FailAt.eq{n k:Nat}{es:List E3}{d w w':List Int}(h:FailAt n es d k w)(h':FailAt n es d k w'):w=w':=by
  obtain ⟨A,B,e,hA⟩:=h.at_
  obtain ⟨A',B',e',hA'⟩:=h'.at_
  exact first_eq (P:=fun x=>Win n es (sb n d x)) (e.symm.trans e') hA hA' h.no h'.no
theorem FailAt.mem{n k:Nat}{es:List E3}{d w:List Int}(h:FailAt (n+1) es d k w):Eff (n+1) w (k:Int):=by
  obtain ⟨A,B,e, -⟩:=h.at_
  exact list_eff (by rw [e];simp)
def WitOk(n:Nat)(es:List E3)(d w:List Int):Prop:=∃ k,RkOk n es d k∧FailAt n es d (k+1).toNat w
theorem WitOk.eq{n:Nat}(hn:1≤n){es:List E3}{d w w':List Int}(h:WitOk n es d w)(h':WitOk n es d w'):w=w':=by
  obtain ⟨k,h1,h2⟩:=h
  obtain ⟨k',h1',h2'⟩:=h'
  have e:=h1.eq hn h1'
  subst e
  exact h2.eq h2'
structure DOk(n:Nat)(es:List E3)(d:List Int):Prop where
  G:GOk n es
  b:∀ v,v<n → -150≤gi d v∧gi d v≤150
  d5:dg d≤5
theorem list_few{n k:Nat}(hn:n≤4)(hk:k≤6):(ycC (n+1) k).length≤2401:=by
  have h1:=yhv n k
  have h2:(k+1)^n≤7^n:=Nat.pow_le_pow_left (by omega) n
  have h3:7^n≤7^4:=Nat.pow_le_pow_right (by omega) hn
  omega
end Go.Proofs.YtjepipbkiadcpaaGreat

/- Laws of layer 36: proofs, prices, costs, moves. -/
namespace Go.Proofs.YtjepipbkiadcpaaGreat
open Go Go.Proofs.Tryz
theorem yd0{s:List (List Int)}{F:List Int→(Bool→Prop)→Prop}{p:List Int→Bool}{R:Bool→Prop}(hl:s.length≤1000000000)(hF:∀ x (R':Bool→Prop),x∈s→R' (p x)→F x R')(h1:(∀ x∈s,p x=false)→R false)(h2:∀ x∈s,p x=true→R true):yaO s F R:=by
  unfold yaO ybg
  have hm:∀ k,k<s.length→gx s k∈s:=fun k hk=>List.mem_of_getElem? (ycu hk)
  refine ⟨Cnt s.length (fun k=>∀ j,j<k→p (gx s j)=false),Cnt.start (fun j hj=>absurd hj (by omega)),?_⟩
  rintro m _ ⟨k,rfl,rfl,hk,hinv⟩
  simp only [Int.toNat_natCast]
  refine ⟨fun hlt=>⟨by omega,hF _ _ (hm k (by omega)) ⟨fun h=>?_,fun h=>Cnt.next (by omega) (by omega) fun j hj=>?_⟩⟩,fun hge=>?_⟩
  · rw [decide_eq_true (by omega)];exact h2 _ (hm k (by omega)) h
  · by_cases e:j=k
    · subst e;simpa using h
    · exact hinv j (by omega)
  · rw [decide_eq_false (by omega)]
    refine h1 fun x hx=>?_
    obtain ⟨j,hj⟩:=List.getElem?_of_mem hx
    have hjl:=(List.getElem?_eq_some_iff.1 hj).1
    have:=hinv j (by omega)
    rw [ycu hjl] at hj
    cases hj
    exact this
theorem yib.len{n:Nat}{es:List E3}{d out:List Int}(h:yib n es d out):out.length≤n:=by
  obtain ⟨f,_,rfl⟩:=h
  exact filt_len f n
end Go.Proofs.YtjepipbkiadcpaaGreat

/- Pure forms of functions, made by program (pf.py), each with the proof that the code does so. -/
namespace Go.Proofs.YtjepipbkiadcpaaGreat
open Go Go.RowKit Go.Shelf Go.Proofs.Tryz
set_option maxRecDepth 100000
set_option maxHeartbeats 8000000
end Go.Proofs.YtjepipbkiadcpaaGreat

/- What ref25's functions compute by the rule of Cramer. -/
namespace Go.Proofs.YtjepipbkiadcpaaGreat
open Go Go.Proofs.Tryz
section
variable {m q : Nat} {es : List E3}
variable (hl : es.length ≤ 1000000000) (hg : yap ((m + 1 : Nat) : Int) es = 0) (hc : ydT ((m + 1 : Nat) : Int) es = true) (hm : m ≤ 5) (hq : q ≤ m) {d : List Int} (hdl : d.length = m + 1) (hd : ∀ j, j < m + 1 → -1000 ≤ gi d j ∧ gi d j ≤ 1000)
include hl hg hc hm hq hdl hd
end
end Go.Proofs.YtjepipbkiadcpaaGreat

/- What the reference of ranks comes to. -/
namespace Go.Proofs.YtjepipbkiadcpaaGreat
open Go Go.Proofs.Tryz
section
variable {N : Nat} {es : List E3} {d : List Int}
end
theorem given_nat{n:Int}{es:List E3}{d:List Int}(hg:yaV n es 0 d=0)(hD:DOk n.toNat es d):∃ N:Nat,n=((N+1:Nat):Int)∧d.length=N+1:=by
  have h1:=given_all (n:=n.toNat) (q:=0) (es:=es) (d:=d) (by rw [show ((n.toNat:Nat):Int)=n from by have:=ydC hg;omega];exact hg)
  have h2:=ydC hg
  exact ⟨n.toNat-1,by omega,by have:=h1.2.2.2.2.2.2.1;omega⟩
structure FewOk(n:Int)(es:List E3)(d:List Int)(most:Int):Prop where
  s:smallF n es 5 7=true
  l:d.length≤100
  g:yaV n es 0 d=0→lowF n d=true∧dg d≤most
theorem FewOk.el{n:Int}{es:List E3}{d:List Int}{most:Int}(h:FewOk n es d most):es.length≤40:=(of_decide_eq_true h.s).1
end Go.Proofs.YtjepipbkiadcpaaGreat

/- The examples of the chapter on ranks come out right; what the law's small functions come to. -/
namespace Go.Proofs.YtjepipbkiadcpaaGreat
open Go Go.Proofs.Tryz
def tri:List E3:=[(0,1,1),(0,2,1),(1,2,1)]
def k4:List E3:=[(0,1,1),(0,2,1),(0,3,1),(1,2,1),(1,3,1),(2,3,1)]
theorem tri_ok:GOk 3 tri:=⟨by decide,by decide,by decide,by decide,by decide,by decide⟩
theorem al_dec{N k:Nat}{es:List E3}{d:List Int}(S:List (List Int))(h:∀ e∈ycC (N+1) k,∃ s∈S,∀ v,v<N+1→0≤gi (sb (N+1) d e) v-Lp (N+1) es (gi s) v):AL (N+1) es d (k:Int):=fun e he=>by
  obtain ⟨s, -,hs⟩:=h e (eff_list he)
  exact ⟨gi s,hs⟩
theorem lose_dec{n:Nat}{es:List E3}{d:List Int}(G:GOk n es)(q:Nat)(hq:q<n)(h1:∀ v,v<n→v≠q→0≤gi d v)(h2:∀ m,m<2^n→1≤m→m.testBit q=false→¬(∀ v,v<n→m.testBit v=true→outS n es m.testBit v≤gi d v))(hneg:gi d q<0):¬Win n es d:=fun hw=>by
  have:=(win_red (d:=d) (r:=d) (s:=fun _=>0) G.E hq (red_of_dec hq h1 h2) fun v hv=>by rw [yeA];omega).1 hw
  omega
theorem no_dec{N k:Nat}{es:List E3}{d:List Int}(e:List Int)(he:e∈ycC (N+1) k)(h:¬Win (N+1) es (sb (N+1) d e)):¬AL (N+1) es d (k:Int):=fun q=>h (q e (list_eff he))
theorem ex1:RkOk 3 tri [1,1,0] 1:=⟨by omega,al_dec (N:=2) (k:=1) [[0,0,0],[1,1,0]] (by decide),no_dec (N:=2) (k:=2) [0,1,1] (by decide) (lose_dec tri_ok 2 (by decide) (by decide) (by decide) (by decide))⟩
theorem wx1:WitOk 3 tri [1,1,0] [0,1,1]:=⟨1,ex1,⟨[[0,0,2]],[[0,2,0],[1,0,1],[1,1,0],[2,0,0]],by decide,fun e he=>by
  rw [List.mem_singleton] at he
  subst he
  exact ⟨gi [1,1,0],by decide⟩⟩,lose_dec tri_ok 2 (by decide) (by decide) (by decide) (by decide)⟩
end Go.Proofs.YtjepipbkiadcpaaGreat

/- A graph is looked through whatever its length: a right one has few edges. -/
namespace Go.Proofs.YtjepipbkiadcpaaGreat
open Go Go.Proofs.Tryz
theorem p_r08_edge0{n:Int}{es:List E3}{k:Nat}{R:Int→Prop}(hk:k<es.length)(hl:k≤1000000000)(h:R (yeR n (pre es k).1 (pre es k).2 (ge es k))):yde n es (k:Int) R:=by
  unfold yde
  simp only [Int.toNat_natCast]
  generalize hx:ge es k=x at h ⊢
  refine ⟨by omega,(0≤x.1∧x.1<n)∧(0≤x.2.1∧x.2.1<n)∧1≤x.2.2∧x.2.2≤50,fun hJ=>?_,?_⟩
  · have hed:∀ a b,yeR n a b x=if x.1≤x.2.1∧yic a b x.1 x.2.1<0 then 0 else 9:=fun a b=>by unfold yeR;rw [if_pos hJ]
    rw [hed] at h
    refine ⟨fun q=>by rw [if_neg (by omega)] at h;exact h,fun q=>⟨fun h0=>?_,fun h0=>?_⟩⟩
    · have e1:((k:Int)-1).toNat=k-1:=by omega
      rw [e1]
      have hp:pre es k=((ge es (k-1)).1,(ge es (k-1)).2.1):=by unfold pre;rw [if_neg (by omega)]
      rw [hp] at h
      have hc:=ygh (ge es (k-1)).1 (ge es (k-1)).2.1 x.1 x.2.1
      refine ⟨i64 (by omega),by omega,fun q1=>?_,fun q1=>⟨fun q2=>⟨fun q3=>?_,fun q3=>?_⟩,fun q2=>?_⟩⟩
      · rw [if_neg (fun h=>by have:=hc.1 h.2;omega)] at h;exact h
      · rw [if_neg (fun h=>by have:=hc.1 h.2;omega)] at h;exact h
      · rw [if_pos ⟨by omega,hc.2 (by omega)⟩] at h;exact h
      · rw [if_pos ⟨by omega,hc.2 (by omega)⟩] at h;exact h
    · have hp:pre es k=(-1, -1):=by unfold pre;rw [if_pos (by omega)]
      rw [hp,if_pos ⟨by omega,(ygh _ _ _ _).2 (.inl (by omega))⟩] at h
      exact h
  · have hed:¬((0≤x.1∧x.1<n)∧(0≤x.2.1∧x.2.1<n)∧1≤x.2.2∧x.2.2≤50)→R 2:=fun q=>by unfold yeR at h;rwa [if_neg q] at h
    refine yeJ ⟨fun h1=>yeJ ⟨fun h2=>⟨fun h3=>hed (by omega),fun h3=>⟨fun h4=>hed (by omega),fun h4=>?_⟩⟩,fun h2=>hed (by simp at h2;omega)⟩,fun h1=>hed (by simp at h1;omega)⟩
    simp only [decide_eq_true_eq] at h1 h2
    exact ⟨h1,h2,by omega,by omega⟩
theorem gchk_few{n:Int}(hn:n≤12):∀ {es:List E3} {a b:Int},a≤11→b≤11→gchk n a b es=0→(es.length:Int)≤143-12*a-b∨es=[]
  | [],_,_,_,_,_ => .inr rfl
  | x::t,a,b,ha,hb,h=>by
    unfold gchk at h
    split at h
    · rename_i c
      split at h
      · rename_i c2
        have h2:=(ygh _ _ _ _).1 c2.2
        rcases gchk_few hn (by omega) (by omega) h with q | q
        · left;rw [List.length_cons];omega
        · subst q;left;simp;omega
      · omega
    · omega
theorem edges_few{n:Int}{es:List E3}(hg:yap n es=0):es.length≤156:=by
  unfold yap at hg
  split at hg
  · rcases gchk_few (by omega) (by omega) (by omega) hg with q | q
    · omega
    · rw [q];simp
  · omega
theorem p_r08_Check0{n:Int}{es:List E3}{R:Int→Prop}(h:R (yap n es)):ycs n es R:=by
  unfold ycs
  have hout:¬(1≤n∧n≤12)→R 2:=fun q=>by unfold yap at h;rwa [if_neg q] at h
  refine ⟨1≤n∧n≤12,fun hn=>?_,fun q=>hout (by omega),fun q=>⟨fun q2=>hout (by omega),fun q2=>⟨by omega,by omega⟩⟩⟩
  have hg:yap n es=gchk n (-1) (-1) es:=by unfold yap;rw [if_pos hn]
  rw [hg] at h
  refine ⟨fun m i=>∃ k:Nat,i=(k:Int)∧k≤es.length∧m=es.length-k∧gchk n (-1) (-1) es=gchk n (pre es k).1 (pre es k).2 (es.drop k)∧(k=0∨(0≤(pre es k).1∧(pre es k).1<12∧0≤(pre es k).2∧(pre es k).2<12∧(k:Int)≤12*(pre es k).1+(pre es k).2+1)),⟨_,0,rfl,by omega,rfl,rfl, .inl rfl⟩,?_⟩
  rintro m _ ⟨k,rfl,hk,rfl,hinv,hfew⟩
  refine ⟨fun hlt=>p_r08_edge0 (by omega) (by omega) ⟨fun h0=>?_,fun h0=>?_⟩,fun hge=>?_⟩
  · refine ⟨i64 (by omega),es.length-(k+1),by omega,k+1,rfl,by omega,rfl,?_, .inr ?_⟩
    · rw [yfJ (by omega),ydZ,if_pos h0] at hinv
      rw [hinv];simp [pre]
    · have hp:pre es (k+1)=((ge es k).1,(ge es k).2.1):=by simp [pre]
      rw [hp]
      unfold yeR at h0
      split at h0
      · rename_i c
        split at h0
        · rename_i c2
          have h2:=(ygh _ _ _ _).1 c2.2
          rcases hfew with q | q
          · subst q;simp only;omega
          · simp only;omega
        · omega
      · omega
  · rw [yfJ (by omega),ydZ,if_neg h0] at hinv
    rwa [hinv] at h
  · have hk2:k=es.length:=by omega
    rw [hinv,hk2,List.drop_length] at h
    exact h
theorem p_r25_Joined0{n:Int}{es:List E3}{R:Int→Prop}(h:R (ycV n es)):ydA n es R:=by
  unfold ydA
  unfold ycV at h
  refine p_r08_Check0 ⟨fun h0=>?_,fun h0=>by rwa [if_neg h0] at h⟩
  rw [if_pos h0] at h
  have hn:1≤n∧n≤12:=by
    unfold yap at h0
    split at h0
    · assumption
    · omega
  obtain ⟨n,rfl⟩:∃ n':Nat,n=(n':Int):=⟨n.toNat,by omega⟩
  have:=edges_few h0
  exact yiv (by omega) h0 ⟨fun h1=>by rwa [if_pos h1] at h,fun h1=>by rwa [if_neg h1] at h⟩
end Go.Proofs.YtjepipbkiadcpaaGreat

/- What ref25's and ref34's functions compute that try all configurations. -/
namespace Go.Proofs.YtjepipbkiadcpaaGreat
open Go Go.Proofs.Tryz
theorem sm_only_le{n a:Nat}{c:Int}(hc:0≤c){f:Nat→Int}(h:∀ u,u<n→f u≤if u=a then c else 0):sm n f≤c:=by
  refine Int.le_trans (yeh h) ?_
  by_cases ha:a<n
  · rw [yfu _ ha];exact Int.le_refl _
  · rw [yan (g:=fun _=>0) fun u hu=>if_neg (by omega),ybV];exact hc
theorem deg_le_sum:∀ {es:List E3},(∀ x∈es,0≤x.2.2)→∀ n v,deg n es v≤(es.map (·.2.2)).sum
  | [],_,n,v=>by unfold deg;rw [yan (g:=fun _=>0) fun u _=>W_nil v u,ybV];simp
  | x::es,h,n,v=>by
    have h1:=deg_le_sum (es:=es) (fun y hy=>h y (by simp [hy])) n v
    have hx:=h x (by simp)
    unfold deg at h1 ⊢
    rw [yan fun u _=>ye4 x es v u,yc5,List.map_cons,List.sum_cons]
    have h2:sm n (w1 x v)≤x.2.2:=sm_only_le (a:=(x.1+x.2.1-v).toNat) hx fun u hu=>by
      unfold w1
      split
      · rw [if_pos (by omega)];exact Int.le_refl _
      · split <;> omega
    exact Int.add_le_add h2 h1
def topF(n:Nat)(es:List E3)(q:Nat)(v:Nat):Int:=if v=q then 0 else deg n es v-1
section
variable {n : Nat} {es : List E3} {q : Nat}
structure CalmF(n:Nat)(es:List E3)(q:Nat)(d:List Int):Prop where
  nn:∀ v,v<n→0≤gi d v
  sq:gi d q=0
  red:Red n es q d
end
section
variable {m q : Nat} {es : List E3} {d : List Int}
variable (hl : es.length ≤ 1000) (hg : yap ((m + 1 : Nat) : Int) es = 0) (hc : ydT ((m + 1 : Nat) : Int) es = true) (hm : m ≤ 5) (hq : q ≤ m) (ht : ∀ v, v < m + 1 → topF (m + 1) es q v ≤ 8) (hdl : d.length = m + 1) (hd : ∀ j, j < m + 1 → -120 ≤ gi d j ∧ gi d j ≤ 120)
include hl hg hc hm hq ht hdl hd
end
end Go.Proofs.YtjepipbkiadcpaaGreat
