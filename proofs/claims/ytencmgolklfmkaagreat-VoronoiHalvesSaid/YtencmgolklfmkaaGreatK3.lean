/- Texts laid together: Pa, Pb, Pe, Pg, SpA, SpB, SpC, SpE, SpG, Big, SpF. -/
import Derived.Test.YtencmgolklfmkaaGreatK2
set_option linter.unusedVariables false
set_option linter.unusedSimpArgs false
set_option linter.unusedSectionVars false
/- Pure forms of functions, made by program (pf.py), each with the proof that the code does so. -/
namespace Go.Proofs.YtencmgolklfmkaaGreat
open Go Go.RowKit Go.Shelf Go.Proofs.Tryz
set_option maxRecDepth 100000
set_option maxHeartbeats 8000000
def ycF(g:Int)(g2:List E3)(v:Int)(R:Bool→Prop):Prop :=
((0≤v →
R (decide (v<g))) ∧
(¬(0≤v) →
R false))
theorem ygm{O:Nat→Prop}{w:World}{g g2 v Ag lg cg}{R:Bool→Prop}(h:ycF g g2 v R)(hO:∀ k,O k→k<w.heap.size)(hA0:(FP.sl c3 Ag lg cg g2).P O w) :
    Calls Tryz.prog 112 #[(.agg #[(ii g),(.slice Ag lg cg)]),(ii v)] w fun e w'=>∃ r,e = .returned (.bool (r))∧Sep w no O w' (rl [])∧R r:=by
  unfold ycF at h;have hS:Sep w no O w (rl [Res.ro (FP.sl c3 Ag lg cg g2)]):=Sep.startl hO [(FP.sl c3 Ag lg cg g2)] ⟨hA0,trivial⟩;refine yal (l:=[(.agg #[(ii g),(.slice Ag lg cg)]),(ii v)]) func112 rfl ntmps112 zY (zs (zn (ybm (v:=(.agg #[(ii g),(.slice Ag lg cg)])) rfl ?_)));intro g3 w2 hN;replace hS:Sep w no O w2 (stl _ 1 (Res.box 24 g3 [(ii g),(.slice Ag lg cg)])):=hS.new 1 rfl hN;clear hN;refine zb (zQ (.bool (false)) (yaa (zs (zM (ii v) (zq (yiq rfl rfl) (zM (.bool (decide (0≤v))) ?_))))));by_cases hp:0≤v
  · replace h:=h.1 hp;exact zW rfl rfl (zT hp) (zm (ii v)) (zW rfl rfl (zT hp) (yam rfl underlying24 rfl yag) (zW rfl rfl (zT hp) (zl underlying3 (Row.cell (hS.bx 1 rfl) (i:=0) rfl)) (zW rfl rfl (zT hp) zL (zq (yan (v:=(.bool (decide (v<g)))) (zT hp) rfl) (zQ (.bool (decide (v<g))) (yaa (yah rfl rfl ⟨_,rfl,(hS.sel []),h⟩)))))))
  · replace h:=h.2 hp;exact zV rfl rfl (zF hp) (zV rfl rfl (zF hp) (zV rfl rfl (zF hp) (zV rfl rfl (zF hp) (zq (yaj (v:=(.bool (false))) (zF hp) rfl) (zQ (.bool (false)) (yaa (yah rfl rfl ⟨_,rfl,(hS.sel []),h⟩)))))))
def ybn(g:Int)(g2:List E3)(a:Int)(b:Int)(R:Int→Prop):Prop :=
(∃ I2:Nat→Int→Prop,(∃ m0,I2 m0 0)∧∀ m2 i,I2 m2 i → 
((i<(g2.length:Int) →
((0≤i∧i<(g2.length:Int)) ∧
((((ge g2 i.toNat).1)=(mnF a b) →
((((ge g2 i.toNat).2.1)=(mxF a b) →
R ((ge g2 i.toNat).2.2)) ∧
(¬(((ge g2 i.toNat).2.1)=(mxF a b)) →
(In64 (i+1) ∧
∃ m3,m3<m2∧I2 m3 (i+1))))) ∧
(¬(((ge g2 i.toNat).1)=(mnF a b)) →
(In64 (i+1) ∧
∃ m4,m4<m2∧I2 m4 (i+1)))))) ∧
(¬(i<(g2.length:Int)) →
R 0)))
theorem ydd{O:Nat→Prop}{w:World}{g g2 a b Ag lg cg}{R:Int→Prop}(h:ybn g g2 a b R)(hO:∀ k,O k→k<w.heap.size)(hA0:(FP.sl c3 Ag lg cg g2).P O w) :
    Calls Tryz.prog 146 #[(.agg #[(ii g),(.slice Ag lg cg)]),(ii a),(ii b)] w fun e w'=>∃ r,e = .returned (ii r)∧Sep w no O w' (rl [])∧R r:=by
  unfold ybn at h;have hS:Sep w no O w (rl [Res.ro (FP.sl c3 Ag lg cg g2)]):=Sep.startl hO [(FP.sl c3 Ag lg cg g2)] ⟨hA0,trivial⟩;refine yal (l:=[(.agg #[(ii g),(.slice Ag lg cg)]),(ii a),(ii b)]) func146 rfl ntmps146 zY (zs (zn (ybm (v:=(.agg #[(ii g),(.slice Ag lg cg)])) rfl ?_)));intro g3 w2 hN;replace hS:Sep w no O w2 (stl _ 1 (Res.box 24 g3 [(ii g),(.slice Ag lg cg)])):=hS.new 1 rfl hN;clear hN;refine zb (zQ (ii 0) (yaa (yac (zs (zQ (ii 0) (yaa (yad ?_)))))));obtain ⟨I2,⟨m0,h0⟩,hr⟩:=h;refine yax (fun m E ds w'=>∃ i,I2 m i∧ds=[]∧E 1=(ii a)∧E 2=(ii b)∧E 3=(Value.pointer (some ⟨g3,0,none⟩))∧E 7=(ii i)∧Sep w no O w' (rl [Res.box 24 g3 [(ii g),(.slice Ag lg cg)],Res.ro (FP.sl c3 Ag lg cg g2)])) m0 ⟨_,h0,rfl,rfl,rfl,rfl,rfl,(hS.sel [1,0])⟩ ?_;clear h0 hS;rintro m2 E ds w3 ⟨i,h,rfl,H1,H2,H3,H7,hS⟩ ag;replace h:=hr m2 i h;clear hr;refine yac (zs (zq (yab H7) (zq (yam H3 underlying24 rfl ybZ) (zq (zl underlying22 (Row.cell (hS.bx 0 rfl) (i:=1) rfl)) (zq (yaG (n:=g2.length) rfl underlying22 (yaD (hS.rdr 1 rfl))) (zq zL (yaa ?_)))))));by_cases hp:i<(g2.length:Int)
  · replace h:=h.1 hp;refine zc hp (yaf (yac (yad (zs (zq (yam H3 underlying24 rfl ybZ) (zq (zl underlying22 (Row.cell (hS.bx 0 rfl) (i:=1) rfl)) (zq (yab H7) ?_)))))));obtain ⟨hx,h⟩:=h;refine zq (zi underlying22 yaT (yaB (hS.rdr 1 rfl) hx)) (zq (yao (vs:=[(ii ((ge g2 i.toNat).1)),(ii ((ge g2 i.toNat).2.1)),(ii ((ge g2 i.toNat).2.2))]) rfl underlying93 rfl yaT (yhX (hS.rdr 1 rfl) hx (fun q=>ydz q))) ?_);refine zn (yaS yaT ?_);intro g4 w4 hN;replace hS:Sep w no O w4 (stl _ 2 (Res.box 93 g4 [(ii 0),(ii 0),(ii 0)])):=hS.new 2 rfl hN;clear hN;refine zb (zo (yaQ (b:=g4) (o:=0) (cells:=#[(ii ((ge g2 i.toNat).1)),(ii ((ge g2 i.toNat).2.1)),(ii ((ge g2 i.toNat).2.2))]) rfl rfl yaT rfl rfl (yaL (hS.bx 2 rfl) zY) ?_));intro w5 e1;replace hS:=hS.bstn 2 rfl 0 [(ii ((ge g2 i.toNat).1)),(ii ((ge g2 i.toNat).2.1)),(ii ((ge g2 i.toNat).2.2))] e1;clear e1;refine zb (yaa (zs (zq (yam rfl underlying93 rfl yag) (zq (zl underlying3 (Row.cell (hS.bx 2 rfl) (i:=0) rfl)) (zq (yab H1) (zq (yab H2) (zq (v_min2 rfl rfl) (zq zE (zM (.bool (decide (((ge g2 i.toNat).1)=(mnF a b)))) ?_)))))))));by_cases hp2:((ge g2 i.toNat).1)=(mnF a b)
    · replace h:=h.1 hp2;refine zW rfl rfl (zT hp2) (yam rfl underlying93 rfl yag) (zW rfl rfl (zT hp2) (zl underlying3 (Row.cell (hS.bx 2 rfl) (i:=1) rfl)) (zW rfl rfl (zT hp2) (yab H1) (zW rfl rfl (zT hp2) (yab H2) (zW rfl rfl (zT hp2) (v_max2 rfl rfl) (zW rfl rfl (zT hp2) zE (zq (yan (v:=(.bool (decide (((ge g2 i.toNat).2.1)=(mxF a b))))) (zT hp2) rfl) (yaa ?_)))))));by_cases hp3:((ge g2 i.toNat).2.1)=(mxF a b)
      · replace h:=h.1 hp3;exact zc hp3 (zs (zq (yam rfl underlying93 rfl yag) (zq (zl underlying3 (Row.cell (hS.bx 2 rfl) (i:=2) rfl)) (zQ (ii ((ge g2 i.toNat).2.2)) (yaa (yah rfl rfl ⟨_,rfl,(hS.sel []),h⟩))))))
      · replace h:=h.2 hp3;refine zd hp3 (yaf (yae (zr (zq (yab H7) ?_))));obtain ⟨hi,h⟩:=h;refine zq (zA hi) (zQ (ii (i+1)) (yaa ?_));obtain ⟨mq,hlt,h⟩:=h;exact ag mq _ _ _ ⟨_,h,rfl,H1,H2,H3,rfl,(hS.sel [0,1])⟩ hlt
    · replace h:=h.2 hp2;refine zV rfl rfl (zF hp2) (zV rfl rfl (zF hp2) (zV rfl rfl (zF hp2) (zV rfl rfl (zF hp2) (zV rfl rfl (zF hp2) (zV rfl rfl (zF hp2) (zq (yaj (v:=(.bool (false))) (zF hp2) rfl) (yaa (yav rfl (yaf (yae (zr (zq (yab H7) ?_))))))))))));obtain ⟨hi2,h⟩:=h;refine zq (zA hi2) (zQ (ii (i+1)) (yaa ?_));obtain ⟨mq,hlt,h⟩:=h;exact ag mq _ _ _ ⟨_,h,rfl,H1,H2,H3,rfl,(hS.sel [0,1])⟩ hlt
  · replace h:=h.2 hp;exact zd hp (yas rfl (zs (zQ (ii 0) (yaa (yah rfl rfl ⟨_,rfl,(hS.sel []),h⟩)))))
def yc5(d:Int)(d2:List E3)(i:Int)(R:Int→Prop):Prop :=
((0≤i∧i<(d2.length:Int)) ∧
(∃ J2:Prop,(J2→((((ge d2 i.toNat).2.1)<((ge d2 i.toNat).1) →
R 9) ∧
(¬(((ge d2 i.toNat).2.1)<((ge d2 i.toNat).1)) →
((0<i →
(In64 (i-1) ∧
((0≤(i-1)∧(i-1)<(d2.length:Int)) ∧
((((ge d2 i.toNat).1)<((ge d2 (i-1).toNat).1) →
R 9) ∧
(¬(((ge d2 i.toNat).1)<((ge d2 (i-1).toNat).1)) →
((((ge d2 i.toNat).1)=((ge d2 (i-1).toNat).1) →
((((ge d2 i.toNat).2.1)≤((ge d2 (i-1).toNat).2.1) →
R 9) ∧
(¬(((ge d2 i.toNat).2.1)≤((ge d2 (i-1).toNat).2.1)) →
R 0))) ∧
(¬(((ge d2 i.toNat).1)=((ge d2 (i-1).toNat).1)) →
R 0))))))) ∧
(¬(0<i) →
R 0))))) ∧
ycF d d2 ((ge d2 i.toNat).1) (fun r =>
((r=true →
ycF d d2 ((ge d2 i.toNat).2.1) (fun r2 =>
((r2=true →
((((ge d2 i.toNat).2.2)<1 →
R 2) ∧
(¬(((ge d2 i.toNat).2.2)<1) →
((50<((ge d2 i.toNat).2.2) →
R 2) ∧
(¬(50<((ge d2 i.toNat).2.2)) →
J2))))) ∧
(¬(r2=true) →
R 2)))) ∧
(¬(r=true) →
R 2)))))
theorem pok_r08_edge{O:Nat→Prop}{w:World}{d d2 i Ad ld cd}{R:Int→Prop}(h:yc5 d d2 i R)(hO:∀ k,O k→k<w.heap.size)(hA0:(FP.sl c3 Ad ld cd d2).P O w) :
    Calls Tryz.prog 75 #[(.agg #[(ii d),(.slice Ad ld cd)]),(ii i)] w fun e w'=>∃ r3,e = .returned (ii r3)∧Sep w no O w' (rl [])∧R r3:=by
  unfold yc5 at h;have hS:Sep w no O w (rl [Res.ro (FP.sl c3 Ad ld cd d2)]):=Sep.startl hO [(FP.sl c3 Ad ld cd d2)] ⟨hA0,trivial⟩;refine yal (l:=[(.agg #[(ii d),(.slice Ad ld cd)]),(ii i)]) func75 rfl ntmps75 zY (zs (zn (ybm (v:=(.agg #[(ii d),(.slice Ad ld cd)])) rfl ?_)));intro g w2 hN;replace hS:Sep w no O w2 (stl _ 1 (Res.box 24 g [(ii d),(.slice Ad ld cd)])):=hS.new 1 rfl hN;clear hN;refine zb (zQ (ii 0) (yaa (zs (zq (yam rfl underlying24 rfl ybZ) (zq (zl underlying22 (Row.cell (hS.bx 1 rfl) (i:=1) rfl)) (zM (ii i) ?_))))));obtain ⟨hx,h⟩:=h;refine zq (zi underlying22 yaT (yaB (hS.rdr 0 rfl) hx)) (zq (yao (vs:=[(ii ((ge d2 i.toNat).1)),(ii ((ge d2 i.toNat).2.1)),(ii ((ge d2 i.toNat).2.2))]) rfl underlying93 rfl yaT (yhX (hS.rdr 0 rfl) hx (fun q=>ydz q))) ?_);refine zn (yaS yaT ?_);intro g2 w3 hN;replace hS:Sep w no O w3 (stl _ 2 (Res.box 93 g2 [(ii 0),(ii 0),(ii 0)])):=hS.new 2 rfl hN;clear hN;refine zb (zo (yaQ (b:=g2) (o:=0) (cells:=#[(ii ((ge d2 i.toNat).1)),(ii ((ge d2 i.toNat).2.1)),(ii ((ge d2 i.toNat).2.2))]) rfl rfl yaT rfl rfl (yaL (hS.bx 2 rfl) zY) ?_));intro w4 e1;replace hS:=hS.bstn 2 rfl 0 [(ii ((ge d2 i.toNat).1)),(ii ((ge d2 i.toNat).2.1)),(ii ((ge d2 i.toNat).2.2))] e1;clear e1;refine zb (yaa (yac (yac ?_)));obtain ⟨J2,hJ,h⟩:=h;refine ycA (fun E ds w'=>J2∧ds=[]∧E 1=(ii i)∧E 2=(Value.pointer (some ⟨g,0,none⟩))∧E 5=(Value.pointer (some ⟨g2,0,none⟩))∧Sep w no O w' (rl [Res.box 24 g [(ii d),(.slice Ad ld cd)],Res.ro (FP.sl c3 Ad ld cd d2),Res.box 93 g2 [(ii ((ge d2 i.toNat).1)),(ii ((ge d2 i.toNat).2.1)),(ii ((ge d2 i.toNat).2.2))]])) ?_ ?_
  · clear h hS;rintro E ds w5 ⟨h,rfl,H1,H2,H5,hS⟩;replace h:=hJ h;refine yac (zs (zq (yam H5 underlying93 rfl yag) (zq (zl underlying3 (Row.cell (hS.bx 2 rfl) (i:=0) rfl)) (zq (yam H5 underlying93 rfl yag) (zq (zl underlying3 (Row.cell (hS.bx 2 rfl) (i:=1) rfl)) (zq zG (yaa ?_)))))));by_cases hp:((ge d2 i.toNat).2.1)<((ge d2 i.toNat).1)
    · replace h:=h.1 hp;exact zc hp (zs (zQ (ii 9) (yaa (yah rfl rfl ⟨_,rfl,(hS.sel []),h⟩))))
    · replace h:=h.2 hp;refine zd hp (yaf (yac (zs (zq (yab H1) (zq zG (yaa ?_))))));by_cases hp2:0<i
      · replace h:=h.1 hp2;refine zc hp2 (zs (zq (yam H2 underlying24 rfl ybZ) (zq (zl underlying22 (Row.cell (hS.bx 0 rfl) (i:=1) rfl)) (zq (yab H1) ?_))));obtain ⟨hi,h⟩:=h;refine zq (zS hi) ?_;obtain ⟨hx2,h⟩:=h;refine zq (zi underlying22 yaT (yaB (hS.rdr 1 rfl) hx2)) (zq (yao (vs:=[(ii ((ge d2 (i-1).toNat).1)),(ii ((ge d2 (i-1).toNat).2.1)),(ii ((ge d2 (i-1).toNat).2.2))]) rfl underlying93 rfl yaT (yhX (hS.rdr 1 rfl) hx2 (fun q=>ydz q))) ?_);refine zn (yaS yaT ?_);intro g3 w6 hN;replace hS:Sep w no O w6 (stl _ 3 (Res.box 93 g3 [(ii 0),(ii 0),(ii 0)])):=hS.new 3 rfl hN;clear hN;refine zb (zo (yaQ (b:=g3) (o:=0) (cells:=#[(ii ((ge d2 (i-1).toNat).1)),(ii ((ge d2 (i-1).toNat).2.1)),(ii ((ge d2 (i-1).toNat).2.2))]) rfl rfl yaT rfl rfl (yaL (hS.bx 3 rfl) zY) ?_));intro w7 e1;replace hS:=hS.bstn 3 rfl 0 [(ii ((ge d2 (i-1).toNat).1)),(ii ((ge d2 (i-1).toNat).2.1)),(ii ((ge d2 (i-1).toNat).2.2))] e1;clear e1;refine zb (yaa (zs (zq (yam H5 underlying93 rfl yag) (zq (zl underlying3 (Row.cell (hS.bx 2 rfl) (i:=0) rfl)) (zq (yam rfl underlying93 rfl yag) (zq (zl underlying3 (Row.cell (hS.bx 3 rfl) (i:=0) rfl)) (zq zL (zM (.bool (decide (((ge d2 i.toNat).1)<((ge d2 (i-1).toNat).1)))) ?_))))))));by_cases hp3:((ge d2 i.toNat).1)<((ge d2 (i-1).toNat).1)
        · replace h:=h.1 hp3;exact zV rfl rfl (zT hp3) (zV rfl rfl (zT hp3) (zV rfl rfl (zT hp3) (zV rfl rfl (zT hp3) (zV rfl rfl (zT hp3) (zV rfl rfl (zT hp3) (zX (zX (zX (zX (zX (zV rfl rfl (zT hp3) (zq (yan (v:=(.bool (true))) (zT hp3) rfl) (yaa (yaq rfl (zs (zQ (ii 9) (yaa (yah rfl rfl ⟨_,rfl,(hS.sel []),h⟩))))))))))))))))))
        · replace h:=h.2 hp3;refine zW rfl rfl (zF hp3) (yam H5 underlying93 rfl yag) (zW rfl rfl (zF hp3) (zl underlying3 (Row.cell (hS.bx 2 rfl) (i:=0) rfl)) (zW rfl rfl (zF hp3) (yam rfl underlying93 rfl yag) (zW rfl rfl (zF hp3) (zl underlying3 (Row.cell (hS.bx 3 rfl) (i:=0) rfl)) (zW rfl rfl (zF hp3) zE (zW rfl rfl (zF hp3) (zm (.bool (decide (((ge d2 i.toNat).1)=((ge d2 (i-1).toNat).1))))) ?_)))));by_cases hp4:((ge d2 i.toNat).1)=((ge d2 (i-1).toNat).1)
          · replace h:=h.1 hp4;refine zW rfl rfl (zT hp4) (yam H5 underlying93 rfl yag) (zW rfl rfl (zT hp4) (zl underlying3 (Row.cell (hS.bx 2 rfl) (i:=1) rfl)) (zW rfl rfl (zT hp4) (yam rfl underlying93 rfl yag) (zW rfl rfl (zT hp4) (zl underlying3 (Row.cell (hS.bx 3 rfl) (i:=1) rfl)) (zW rfl rfl (zT hp4) (v_leq rfl rfl) (zW rfl rfl (zF hp3) (yan (v:=(.bool (decide (((ge d2 i.toNat).2.1)≤((ge d2 (i-1).toNat).2.1))))) (zT hp4) rfl) (zq (yaj (v:=(.bool (decide (((ge d2 i.toNat).2.1)≤((ge d2 (i-1).toNat).2.1))))) (zF hp3) rfl) (yaa ?_)))))));by_cases hp5:((ge d2 i.toNat).2.1)≤((ge d2 (i-1).toNat).2.1)
            · replace h:=h.1 hp5;exact zc hp5 (zs (zQ (ii 9) (yaa (yah rfl rfl ⟨_,rfl,(hS.sel []),h⟩))))
            · replace h:=h.2 hp5;exact zd hp5 (yaf (zs (zQ (ii 0) (yaa (yah rfl rfl ⟨_,rfl,(hS.sel []),h⟩)))))
          · replace h:=h.2 hp4;exact zV rfl rfl (zF hp4) (zV rfl rfl (zF hp4) (zV rfl rfl (zF hp4) (zV rfl rfl (zF hp4) (zV rfl rfl (zF hp4) (zW rfl rfl (zF hp3) (yaj (v:=(.bool (false))) (zF hp4) rfl) (zq (yaj (v:=(.bool (false))) (zF hp3) rfl) (yaa (yav rfl (yaf (zs (zQ (ii 0) (yaa (yah rfl rfl ⟨_,rfl,(hS.sel []),h⟩)))))))))))))
      · replace h:=h.2 hp2;exact zd hp2 (yaf (zs (zQ (ii 0) (yaa (yah rfl rfl ⟨_,rfl,(hS.sel []),h⟩)))))
  clear hJ;intro j;refine zr (zq (yao (vs:=[(ii d),(.slice Ad ld cd)]) rfl underlying24 rfl yak ⟨Row.cell (hS.bx 1 rfl) (i:=0) rfl,Row.cell (hS.bx 1 rfl) (i:=1) rfl,trivial⟩) (zq (yam rfl underlying93 rfl yag) (zq (zl underlying3 (Row.cell (hS.bx 2 rfl) (i:=0) rfl)) (zn (yai rfl (am2 rfl rfl) enter_112 ((ygm h (yaz _) (hS.rdr 0 rfl)).mono ?_))))));rintro _ w8 ⟨r,rfl,hC,h⟩;replace hS:=hS.pur hC.pure;clear hC;refine ⟨_,rfl,?_⟩;refine zb (zq (yds rfl) (zM (.bool (!(r))) ?_));by_cases hp6:r=true
  · replace h:=h.1 hp6;refine zW rfl rfl (zC (zB hp6)) (yao (vs:=[(ii d),(.slice Ad ld cd)]) rfl underlying24 rfl yak ⟨Row.cell (hS.bx 1 rfl) (i:=0) rfl,Row.cell (hS.bx 1 rfl) (i:=1) rfl,trivial⟩) (zW rfl rfl (zC (zB hp6)) (yam rfl underlying93 rfl yag) (zW rfl rfl (zC (zB hp6)) (zl underlying3 (Row.cell (hS.bx 2 rfl) (i:=1) rfl)) (rl_n (yaA rfl (ybc rfl (zC (zB hp6)))) rfl rfl rfl (yai rfl (am2 rfl rfl) enter_112 ((ygm h (yaz _) (hS.rdr 0 rfl)).mono ?_)))));rintro _ w9 ⟨r2,rfl,hC,h⟩;replace hS:=hS.pur hC.pure;clear hC;refine ⟨_,rfl,?_⟩;refine zb (zW rfl rfl (zC (zB hp6)) (yds rfl) (zq (yaj (v:=(.bool (!(r2)))) (zC (zB hp6)) rfl) (zM (.bool (!(r2))) ?_)));by_cases hp7:r2=true
    · replace h:=h.1 hp7;refine zW rfl rfl (zC (zB hp7)) (yam rfl underlying93 rfl yag) (zW rfl rfl (zC (zB hp7)) (zl underlying3 (Row.cell (hS.bx 2 rfl) (i:=2) rfl)) (zW rfl rfl (zC (zB hp7)) zL (zq (yaj (v:=(.bool (decide (((ge d2 i.toNat).2.2)<1)))) (zC (zB hp7)) rfl) (zM (.bool (decide (((ge d2 i.toNat).2.2)<1))) ?_))));by_cases hp8:((ge d2 i.toNat).2.2)<1
      · replace h:=h.1 hp8;exact zV rfl rfl (zT hp8) (zV rfl rfl (zT hp8) (zV rfl rfl (zT hp8) (zq (yan (v:=(.bool (true))) (zT hp8) rfl) (yaa (yaq rfl (zs (zQ (ii 2) (yaa (yah rfl rfl ⟨_,rfl,(hS.sel []),h⟩)))))))))
      · replace h:=h.2 hp8;refine zW rfl rfl (zF hp8) (yam rfl underlying93 rfl yag) (zW rfl rfl (zF hp8) (zl underlying3 (Row.cell (hS.bx 2 rfl) (i:=2) rfl)) (zW rfl rfl (zF hp8) zG (zq (yaj (v:=(.bool (decide (50<((ge d2 i.toNat).2.2))))) (zF hp8) rfl) (yaa ?_))));by_cases hp9:50<((ge d2 i.toNat).2.2)
        · replace h:=h.1 hp9;exact zc hp9 (zs (zQ (ii 2) (yaa (yah rfl rfl ⟨_,rfl,(hS.sel []),h⟩))))
        · replace h:=h.2 hp9;exact zd hp9 (yaf (j _ _ _ ⟨h,rfl,rfl,rfl,rfl,(hS.sel [1,0,2])⟩))
    · replace h:=h.2 hp7;exact zV rfl rfl (zC (zB (zI hp7))) (zV rfl rfl (zC (zB (zI hp7))) (zV rfl rfl (zC (zB (zI hp7))) (zq (yan (v:=(.bool (true))) (zC (zB (zI hp7))) rfl) (zM (.bool (true)) (zU (zU (zU (zq (yan (v:=(.bool (true))) rfl rfl) (yaa (yaq rfl (zs (zQ (ii 2) (yaa (yah rfl rfl ⟨_,rfl,(hS.sel []),h⟩))))))))))))))
  · replace h:=h.2 hp6;exact zV rfl rfl (zC (zB (zI hp6))) (zV rfl rfl (zC (zB (zI hp6))) (zV rfl rfl (zC (zB (zI hp6))) (zV rfl rfl (zC (zB (zI hp6))) (zV rfl rfl (zC (zB (zI hp6))) (zq (yan (v:=(.bool (true))) (zC (zB (zI hp6))) rfl) (zM (.bool (true)) (zU (zU (zU (zq (yan (v:=(.bool (true))) rfl rfl) (zM (.bool (true)) (zU (zU (zU (zq (yan (v:=(.bool (true))) rfl rfl) (yaa (yaq rfl (zs (zQ (ii 2) (yaa (yah rfl rfl ⟨_,rfl,(hS.sel []),h⟩)))))))))))))))))))))
def ybV(g:Int)(g2:List E3)(R:Int→Prop):Prop :=
(∃ J2:Prop,(J2→(∃ I2:Nat→Int→Prop,(∃ m0,I2 m0 0)∧∀ m2 i,I2 m2 i → 
((i<(g2.length:Int) →
yc5 g g2 i (fun r =>
((r=0 →
(In64 (i+1) ∧
∃ m3,m3<m2∧I2 m3 (i+1))) ∧
(¬(r=0) →
R r)))) ∧
(¬(i<(g2.length:Int)) →
R 0)))) ∧
((g<1 →
R 2) ∧
(¬(g<1) →
((12<g →
R 2) ∧
(¬(12<g) →
J2)))))
theorem yfm{O:Nat→Prop}{w:World}{g g2 Ag lg cg}{R:Int→Prop}(h:ybV g g2 R)(hO:∀ k,O k→k<w.heap.size)(hA0:(FP.sl c3 Ag lg cg g2).P O w) :
    Calls Tryz.prog 36 #[(.agg #[(ii g),(.slice Ag lg cg)])] w fun e w'=>∃ r2,e = .returned (ii r2)∧Sep w no O w' (rl [])∧R r2:=by
  unfold ybV at h;have hS:Sep w no O w (rl [Res.ro (FP.sl c3 Ag lg cg g2)]):=Sep.startl hO [(FP.sl c3 Ag lg cg g2)] ⟨hA0,trivial⟩;refine yal (l:=[(.agg #[(ii g),(.slice Ag lg cg)])]) func36 rfl ntmps36 zY (zs (zn (ybm (v:=(.agg #[(ii g),(.slice Ag lg cg)])) rfl ?_)));intro g3 w2 hN;replace hS:Sep w no O w2 (stl _ 1 (Res.box 24 g3 [(ii g),(.slice Ag lg cg)])):=hS.new 1 rfl hN;clear hN;refine zb (zQ (ii 0) (yaa (yac (yac ?_))));obtain ⟨J2,hJ,h⟩:=h;refine ycA (fun E ds w'=>J2∧ds=[]∧E 1=(Value.pointer (some ⟨g3,0,none⟩))∧Sep w no O w' (rl [Res.box 24 g3 [(ii g),(.slice Ag lg cg)],Res.ro (FP.sl c3 Ag lg cg g2)])) ?_ ?_
  · clear h hS;rintro E ds w3 ⟨h,rfl,H1,hS⟩;replace h:=hJ h;refine yac (zs (zQ (ii 0) (yaa (yad ?_))));obtain ⟨I2,⟨m0,h0⟩,hr⟩:=h;refine yax (fun m E ds w'=>∃ i,I2 m i∧ds=[]∧E 1=(Value.pointer (some ⟨g3,0,none⟩))∧E 3=(ii i)∧Sep w no O w' (rl [Res.box 24 g3 [(ii g),(.slice Ag lg cg)],Res.ro (FP.sl c3 Ag lg cg g2)])) m0 ⟨_,h0,rfl,H1,rfl,(hS.sel [0,1])⟩ ?_;clear h0 hS;rintro m2 E ds w4 ⟨i,h,rfl,H1,H3,hS⟩ ag;replace h:=hr m2 i h;clear hr;refine yac (zs (zq (yab H3) (zq (yam H1 underlying24 rfl ybZ) (zq (zl underlying22 (Row.cell (hS.bx 0 rfl) (i:=1) rfl)) (zq (yaG (n:=g2.length) rfl underlying22 (yaD (hS.rdr 1 rfl))) (zq zL (yaa ?_)))))));by_cases hp:i<(g2.length:Int)
    · replace h:=h.1 hp;refine zc hp (yaf (yac (yad (zs (zq (yao (vs:=[(ii g),(.slice Ag lg cg)]) H1 underlying24 rfl yak ⟨Row.cell (hS.bx 0 rfl) (i:=0) rfl,Row.cell (hS.bx 0 rfl) (i:=1) rfl,trivial⟩) (zq (yab H3) (zn (yai rfl (am2 rfl rfl) enter_75 ((pok_r08_edge h (yaz _) (hS.rdr 1 rfl)).mono ?_)))))))));rintro _ w5 ⟨r,rfl,hC,h⟩;replace hS:=hS.pur hC.pure;clear hC;refine ⟨_,rfl,?_⟩;refine zb (zQ (ii r) (yaa (zs (zM (ii r) (zq zN (yaa ?_))))));by_cases hp2:r=0
      · replace h:=h.1 hp2;refine ze hp2 (yaf (yae (zr (zq (yab H3) ?_))));obtain ⟨hi,h⟩:=h;refine zq (zA hi) (zQ (ii (i+1)) (yaa ?_));obtain ⟨mq,hlt,h⟩:=h;exact ag mq _ _ _ ⟨_,h,rfl,H1,rfl,(hS.sel [0,1])⟩ hlt
      · replace h:=h.2 hp2;exact zf hp2 (zs (zM (ii r) (zQ (ii r) (yaa (yah rfl rfl ⟨_,rfl,(hS.sel []),h⟩)))))
    · replace h:=h.2 hp;exact zd hp (yas rfl (zs (zQ (ii 0) (yaa (yah rfl rfl ⟨_,rfl,(hS.sel []),h⟩)))))
  clear hJ;intro j;refine zr (zq (yam rfl underlying24 rfl yag) (zq (zl underlying3 (Row.cell (hS.bx 1 rfl) (i:=0) rfl)) (zq zL (zM (.bool (decide (g<1))) ?_))));by_cases hp3:g<1
  · replace h:=h.1 hp3;exact zV rfl rfl (zT hp3) (zV rfl rfl (zT hp3) (zV rfl rfl (zT hp3) (zq (yan (v:=(.bool (true))) (zT hp3) rfl) (yaa (yaq rfl (zs (zQ (ii 2) (yaa (yah rfl rfl ⟨_,rfl,(hS.sel []),h⟩)))))))))
  · replace h:=h.2 hp3;refine zW rfl rfl (zF hp3) (yam rfl underlying24 rfl yag) (zW rfl rfl (zF hp3) (zl underlying3 (Row.cell (hS.bx 1 rfl) (i:=0) rfl)) (zW rfl rfl (zF hp3) zG (zq (yaj (v:=(.bool (decide (12<g)))) (zF hp3) rfl) (yaa ?_))));by_cases hp4:12<g
    · replace h:=h.1 hp4;exact zc hp4 (zs (zQ (ii 2) (yaa (yah rfl rfl ⟨_,rfl,(hS.sel []),h⟩))))
    · replace h:=h.2 hp4;exact zd hp4 (yaf (j _ _ _ ⟨h,rfl,rfl,(hS.sel [1,0])⟩))
def yci(g:Int)(g2:List E3)(R:(List (Int×Int))→Prop):Prop :=
(∃ I2:Nat→(List (Int×Int))→Int→Prop,(∃ m0,I2 m0 ([]) 0)∧∀ m2 out i,I2 m2 out i → 
((i<(g2.length:Int) →
(∃ I3:Nat→(List (Int×Int))→Int→Prop,(∃ m0,I3 m0 out 0)∧∀ m3 out2 k,I3 m3 out2 k → 
((0≤i∧i<(g2.length:Int)) ∧
((k<((ge g2 i.toNat).2.2) →
(out2.length+1≤1000000000 ∧
(In64 (k+1) ∧
∃ m4,m4<m3∧I3 m4 (out2++[((ge g2 i.toNat).1,(ge g2 i.toNat).2.1)]) (k+1)))) ∧
(¬(k<((ge g2 i.toNat).2.2)) →
(In64 (i+1) ∧
∃ m5,m5<m2∧I2 m5 out2 (i+1))))))) ∧
(¬(i<(g2.length:Int)) →
R out)))
theorem yep{O:Nat→Prop}{w:World}{g g2 Ag lg cg}{R:(List (Int×Int))→Prop}(h:yci g g2 R)(hO:∀ k,O k→k<w.heap.size)(hA0:(FP.sl c3 Ag lg cg g2).P O w) :
    Calls Tryz.prog 76 #[(.agg #[(ii g),(.slice Ag lg cg)])] w fun e w'=>∃ r Ar lr cr,e = .returned (.slice Ar lr cr)∧Sep w no O w' (rl [Res.own c2 96 Ar lr cr r])∧R r:=by
  unfold yci at h;have hS:Sep w no O w (rl [Res.ro (FP.sl c3 Ag lg cg g2)]):=Sep.startl hO [(FP.sl c3 Ag lg cg g2)] ⟨hA0,trivial⟩;refine yal (l:=[(.agg #[(ii g),(.slice Ag lg cg)])]) func76 rfl ntmps76 zY (zs (zn (ybm (v:=(.agg #[(ii g),(.slice Ag lg cg)])) rfl ?_)));intro g3 w2 hN;replace hS:Sep w no O w2 (stl _ 1 (Res.box 24 g3 [(ii g),(.slice Ag lg cg)])):=hS.new 1 rfl hN;clear hN;refine zb (zQ (.slice none 0 0) (yaa (zs (zQ (.slice none 0 0) (yaa (yac (zs (zQ (ii 0) (yaa (yad ?_))))))))));replace hS:=hS.nil 2 rfl c2 96;obtain ⟨I2,⟨m0,h0⟩,hr⟩:=h;refine yax (fun m E ds w'=>∃ out i Aa Ab Ac,I2 m out i∧ds=[]∧E 1=(Value.pointer (some ⟨g3,0,none⟩))∧E 3=(Value.slice Aa Ab Ac)∧E 4=(ii i)∧Sep w no O w' (rl [Res.own c2 96 Aa Ab Ac out,Res.box 24 g3 [(ii g),(.slice Ag lg cg)],Res.ro (FP.sl c3 Ag lg cg g2)])) m0 ⟨_,_,_,_,_,h0,rfl,rfl,rfl,rfl,(hS.sel [2,1,0])⟩ ?_;clear h0 hS;rintro m2 E ds w3 ⟨out,i,Aa,Ab,Ac,h,rfl,H1,H3,H4,hS⟩ ag;replace h:=hr m2 out i h;clear hr;refine yac (zs (zq (yab H4) (zq (yam H1 underlying24 rfl ybZ) (zq (zl underlying22 (Row.cell (hS.bx 1 rfl) (i:=1) rfl)) (zq (yaG (n:=g2.length) rfl underlying22 (yaD (hS.rdr 2 rfl))) (zq zL (yaa ?_)))))));by_cases hp:i<(g2.length:Int)
  · replace h:=h.1 hp;refine zc hp (yaf (yac (yad (zs (zQ (ii 0) (yaa (yad ?_)))))));obtain ⟨I3,⟨m0,h0⟩,hr⟩:=h;refine yax (fun m E ds w'=>∃ out2 k Ad Ae Af,I3 m out2 k∧ds=[]∧E 1=(Value.pointer (some ⟨g3,0,none⟩))∧E 3=(Value.slice Ad Ae Af)∧E 4=(ii i)∧E 5=(ii k)∧Sep w no O w' (rl [Res.own c2 96 Ad Ae Af out2,Res.box 24 g3 [(ii g),(.slice Ag lg cg)],Res.ro (FP.sl c3 Ag lg cg g2)])) m0 ⟨_,_,_,_,_,h0,rfl,H1,H3,H4,rfl,(hS.sel [0,1,2])⟩ ?_;clear h0 hS;rintro m3 E ds w4 ⟨out2,k,Ad,Ae,Af,h,rfl,H1,H3,H4,H5,hS⟩ again2;replace h:=hr m3 out2 k h;clear hr;refine yac (zs (zq (yab H5) (zq (yam H1 underlying24 rfl ybZ) (zq (zl underlying22 (Row.cell (hS.bx 1 rfl) (i:=1) rfl)) (zq (yab H4) ?_)))));obtain ⟨hx,h⟩:=h;refine zq (zi underlying22 yaT (yaB (hS.rdr 2 rfl) hx)) (zq (yam rfl underlying93 rfl yag) (zq (yar (v:=(ii ((ge g2 i.toNat).2.2))) rfl underlying3 rfl (rd_f (hS.rdr 2 rfl) hx (fun q=>ydz q) 2 rfl)) ?_));refine zq zL (yaa ?_);by_cases hp2:k<((ge g2 i.toNat).2.2)
    · replace h:=h.1 hp2;refine zc hp2 (yaf (yac (yad (ybq [0,1,2,3,4,5,6,7,8,9,10,11,12,13,14,15,16] (fun i=>match i with | 13=>[0] | 14=>[0] | _=>[]) yaC (by kernel_rfl) (by kernel_rfl) ?_))));replace hS:=hS.drew;refine zp (yab H3) (zp (yam H1 underlying24 rfl ybZ) (zp (zl underlying22 (Row.cell (hS.bx 1 rfl) (i:=1) rfl)) (zp (yab H4) (zp (zi underlying22 yaT (yaB (hS.rdr 2 rfl) hx)) (zp (yam rfl underlying93 rfl yag) (zp (yar (v:=(ii ((ge g2 i.toNat).1))) rfl underlying3 rfl (rd_f (hS.rdr 2 rfl) hx (fun q=>ydz q) 0 rfl)) ?_))))));refine zp (yam H1 underlying24 rfl ybZ) (zp (zl underlying22 (Row.cell (hS.bx 1 rfl) (i:=1) rfl)) (zp (yab H4) (zp (zi underlying22 yaT (yaB (hS.rdr 2 rfl) hx)) (zp (yam rfl underlying93 rfl yag) (zp (yar (v:=(ii ((ge g2 i.toNat).2.1))) rfl underlying3 rfl (rd_f (hS.rdr 2 rfl) hx (fun q=>ydz q) 1 rfl)) ?_)))));refine rp_n rfl rfl rfl rfl (n_builda (l:=[(0,(ii ((ge g2 i.toNat).1))),(1,(ii ((ge g2 i.toNat).2.1)))]) (cells:=[(ii ((ge g2 i.toNat).1)),(ii ((ge g2 i.toNat).2.1))]) (bp2 rfl rfl) underlying96 ybk yag (by kernel_rfl) ?_);refine ⟨⟨fun hh=>zZ hh,⟨fun hh=>zZ hh,⟨fun hh=>zZ hh,⟨fun hh=>zZ hh,⟨fun hh=>zZ hh,⟨fun hh=>zZ hh,⟨fun hh=>zZ hh,⟨fun hh=>zZ hh,⟨fun hh=>zZ hh,⟨fun hh=>zZ hh,⟨fun hh=>zZ hh,⟨fun hh=>zZ hh,⟨fun _=>(yab H3),trivial⟩⟩⟩⟩⟩⟩⟩⟩⟩⟩⟩⟩⟩,?_⟩;refine rp_n rfl rfl rfl rfl (yaK (l:=[(0,(.agg #[(ii ((ge g2 i.toNat).1)),(ii ((ge g2 i.toNat).2.1))]))]) (cells:=[(ii ((ge g2 i.toNat).1)),(ii ((ge g2 i.toNat).2.1))]) (bp1 rfl) underlying62 ybk rfl rfl ?_);intro g4 w5 hN;replace hS:=hS.litf (n:=1) 3 rfl (fP (fI .i64) (fI .i64)) hN ([((ge g2 i.toNat).1,(ge g2 i.toNat).2.1)]:List (Int×Int)) rfl (by decide) rfl;clear hN;refine ⟨⟨fun hh=>zZ hh,⟨fun hh=>zZ hh,⟨fun hh=>zZ hh,⟨fun hh=>zZ hh,⟨fun hh=>zZ hh,⟨fun hh=>zZ hh,⟨fun hh=>zZ hh,⟨fun hh=>zZ hh,⟨fun hh=>zZ hh,⟨fun hh=>zZ hh,⟨fun hh=>zZ hh,⟨fun hh=>zZ hh,⟨fun _=>(yab H3),trivial⟩⟩⟩⟩⟩⟩⟩⟩⟩⟩⟩⟩⟩,?_⟩;obtain ⟨hx2,h⟩:=h;refine rp_n rfl rfl rfl rfl (yfv (c:=c2) rfl rfl underlying62 underlying62 ybk rfl rfl (by decide) hS 0 rfl (hS.yo 3 rfl) hx2 ?_);clear hS;intro A c w6 hS;refine zb (zp (za (.slice A (Ae+1) c)) (ybH (yae (zr (zq (yab H5) ?_)))));obtain ⟨hi,h⟩:=h;refine zq (zA hi) (zQ (ii (k+1)) (yaa ?_));obtain ⟨mq,hlt,h⟩:=h;exact again2 mq _ _ _ ⟨_,_,_,_,_,h,rfl,H1,rfl,H4,rfl,(hS.sel [0,1,2])⟩ hlt
    · replace h:=h.2 hp2;refine zd hp2 (yas rfl (yae (zr (zq (yab H4) ?_))));obtain ⟨hi2,h⟩:=h;refine zq (zA hi2) (zQ (ii (i+1)) (yaa ?_));obtain ⟨mq,hlt,h⟩:=h;exact ag mq _ _ _ ⟨_,_,_,_,_,h,rfl,H1,H3,rfl,(hS.sel [0,1,2])⟩ hlt
  · replace h:=h.2 hp;exact zd hp (yas rfl (zs (zq (yab H3) (zQ (.slice Aa Ab Ac) (yaa (yah rfl rfl ⟨_,_,_,_,rfl,(hS.sel [0]),h⟩))))))
def ycz(g:Int)(g2:List E3)(R:Int→Prop):Prop :=
yci g g2 (fun r =>
R (r.length:Int))
theorem yez{O:Nat→Prop}{w:World}{g g2 Ag lg cg}{R:Int→Prop}(h:ycz g g2 R)(hO:∀ k,O k→k<w.heap.size)(hA0:(FP.sl c3 Ag lg cg g2).P O w) :
    Calls Tryz.prog 37 #[(.agg #[(ii g),(.slice Ag lg cg)])] w fun e w'=>∃ r2,e = .returned (ii r2)∧Sep w no O w' (rl [])∧R r2:=by
  unfold ycz at h;have hS:Sep w no O w (rl [Res.ro (FP.sl c3 Ag lg cg g2)]):=Sep.startl hO [(FP.sl c3 Ag lg cg g2)] ⟨hA0,trivial⟩;refine yal (l:=[(.agg #[(ii g),(.slice Ag lg cg)])]) func37 rfl ntmps37 zY (zs (zn (ybm (v:=(.agg #[(ii g),(.slice Ag lg cg)])) rfl ?_)));intro g3 w2 hN;replace hS:Sep w no O w2 (stl _ 1 (Res.box 24 g3 [(ii g),(.slice Ag lg cg)])):=hS.new 1 rfl hN;clear hN;refine zb (zQ (ii 0) (yaa (zs (zq (yao (vs:=[(ii g),(.slice Ag lg cg)]) rfl underlying24 rfl yak ⟨Row.cell (hS.bx 1 rfl) (i:=0) rfl,Row.cell (hS.bx 1 rfl) (i:=1) rfl,trivial⟩) (zn (yai rfl (am1 rfl) yhJ ((yep h (yaz _) (hS.rdr 0 rfl)).mono ?_)))))));rintro _ w3 ⟨r,Ar,lr,cr,rfl,hC,h⟩;replace hS:=hS.call1 (hC.widen (ycv (yaP (fP (fI .i64) (fI .i64)) _ _ _ _ _) ycH) hS.blt) 2 0 rfl;clear hC;refine ⟨_,rfl,?_⟩;exact zb (zq (yaG (n:=r.length) rfl underlying62 (yaD (hS.rdo 2 rfl))) (zQ (ii (r.length:Int)) (yaa (yah rfl rfl ⟨_,rfl,(hS.sel []),h⟩))))
def ydH(g:Int)(g2:List E3)(vertices:Int)(single:Int)(R:Bool→Prop):Prop :=
((40<(g2.length:Int) →
R false) ∧
(¬(40<(g2.length:Int)) →
ybV g g2 (fun r =>
((r=0 →
((g≤vertices →
ycz g g2 (fun r2 =>
R (decide (r2≤single)))) ∧
(¬(g≤vertices) →
R false))) ∧
(¬(r=0) →
R true)))))
theorem pok_r08_small{O:Nat→Prop}{w:World}{g g2 vertices single Ag lg cg}{R:Bool→Prop}(h:ydH g g2 vertices single R)(hO:∀ k,O k→k<w.heap.size)(hA0:(FP.sl c3 Ag lg cg g2).P O w) :
    Calls Tryz.prog 67 #[(.agg #[(ii g),(.slice Ag lg cg)]),(ii vertices),(ii single)] w fun e w'=>∃ r3,e = .returned (.bool (r3))∧Sep w no O w' (rl [])∧R r3:=by
  unfold ydH at h;have hS:Sep w no O w (rl [Res.ro (FP.sl c3 Ag lg cg g2)]):=Sep.startl hO [(FP.sl c3 Ag lg cg g2)] ⟨hA0,trivial⟩;refine yal (l:=[(.agg #[(ii g),(.slice Ag lg cg)]),(ii vertices),(ii single)]) func67 rfl ntmps67 zY (zs (zn (ybm (v:=(.agg #[(ii g),(.slice Ag lg cg)])) rfl ?_)));intro g3 w2 hN;replace hS:Sep w no O w2 (stl _ 1 (Res.box 24 g3 [(ii g),(.slice Ag lg cg)])):=hS.new 1 rfl hN;clear hN;refine zb (zQ (.bool (false)) (yaa (yac (zs (zq (yam rfl underlying24 rfl ybZ) (zq (zl underlying22 (Row.cell (hS.bx 1 rfl) (i:=1) rfl)) (zq (yaG (n:=g2.length) rfl underlying22 (yaD (hS.rdr 0 rfl))) (zq zG (yaa ?_)))))))));by_cases hp:40<(g2.length:Int)
  · replace h:=h.1 hp;exact zc hp (zs (zQ (.bool (false)) (yaa (yah rfl rfl ⟨_,rfl,(hS.sel []),h⟩))))
  · replace h:=h.2 hp;refine zd hp (yaf (yac (zs (zq (yao (vs:=[(ii g),(.slice Ag lg cg)]) rfl underlying24 rfl yak ⟨Row.cell (hS.bx 1 rfl) (i:=0) rfl,Row.cell (hS.bx 1 rfl) (i:=1) rfl,trivial⟩) (zn (yai rfl (am1 rfl) yjd ((yfm h (yaz _) (hS.rdr 0 rfl)).mono ?_)))))));rintro _ w3 ⟨r,rfl,hC,h⟩;replace hS:=hS.pur hC.pure;clear hC;refine ⟨_,rfl,?_⟩;refine zb (zq zN (yaa ?_));by_cases hp2:r=0
    · replace h:=h.1 hp2;refine ze hp2 (yaf (zs (zq (yam rfl underlying24 rfl yag) (zq (zl underlying3 (Row.cell (hS.bx 1 rfl) (i:=0) rfl)) (zM (ii vertices) (zq (v_leq rfl rfl) (zM (.bool (decide (g≤vertices))) ?_)))))));by_cases hp3:g≤vertices
      · replace h:=h.1 hp3;refine zW rfl rfl (zT hp3) (yao (vs:=[(ii g),(.slice Ag lg cg)]) rfl underlying24 rfl yak ⟨Row.cell (hS.bx 1 rfl) (i:=0) rfl,Row.cell (hS.bx 1 rfl) (i:=1) rfl,trivial⟩) (rl_n (yaA rfl (ybc rfl (zT hp3))) rfl rfl rfl (yai rfl (am1 rfl) yhI ((yez h (yaz _) (hS.rdr 0 rfl)).mono ?_)));rintro _ w4 ⟨r2,rfl,hC,h⟩;replace hS:=hS.pur hC.pure;clear hC;refine ⟨_,rfl,?_⟩;exact zb (zW rfl rfl (zT hp3) (zm (ii single)) (zW rfl rfl (zT hp3) (v_leq rfl rfl) (zq (yan (v:=(.bool (decide (r2≤single)))) (zT hp3) rfl) (zQ (.bool (decide (r2≤single))) (yaa (yah rfl rfl ⟨_,rfl,(hS.sel []),h⟩))))))
      · replace h:=h.2 hp3;exact zV rfl rfl (zF hp3) (zV rfl rfl (zF hp3) (zV rfl rfl (zF hp3) (zV rfl rfl (zF hp3) (zq (yaj (v:=(.bool (false))) (zF hp3) rfl) (zQ (.bool (false)) (yaa (yah rfl rfl ⟨_,rfl,(hS.sel []),h⟩)))))))
    · replace h:=h.2 hp2;exact zf hp2 (zs (zQ (.bool (true)) (yaa (yah rfl rfl ⟨_,rfl,(hS.sel []),h⟩))))
def ycQ(g:Int)(g2:List E3)(v:Int)(R:(List Bool)→Prop):Prop :=
((0≤g∧g≤1000000) ∧
((0≤v∧v<((List.replicate g.toNat false).length:Int)) ∧
(∃ I2:Nat→Int→(List Bool)→Prop,(∃ m0,I2 m0 0 ((List.replicate g.toNat false).set v.toNat true))∧∀ m2 round out,I2 m2 round out → 
((round<g →
(∃ I3:Nat→Int→(List Bool)→Prop,(∃ m0,I3 m0 0 out)∧∀ m3 a out2,I3 m3 a out2 → 
((a<g →
(∃ I4:Nat→Int→(List Bool)→Prop,(∃ m0,I4 m0 0 out2)∧∀ m4 b out3,I4 m4 b out3 → 
((b<g →
((0≤a∧a<(out3.length:Int)) ∧
((gb out3 a.toNat=true →
ybn g g2 a b (fun r =>
((0<r →
((0≤b∧b<(out3.length:Int)) ∧
(In64 (b+1) ∧
∃ m5,m5<m4∧I4 m5 (b+1) (out3.set b.toNat true)))) ∧
(¬(0<r) →
(In64 (b+1) ∧
∃ m6,m6<m4∧I4 m6 (b+1) out3))))) ∧
(¬(gb out3 a.toNat=true) →
(In64 (b+1) ∧
∃ m7,m7<m4∧I4 m7 (b+1) out3))))) ∧
(¬(b<g) →
(In64 (a+1) ∧
∃ m8,m8<m3∧I3 m8 (a+1) out3))))) ∧
(¬(a<g) →
(In64 (round+1) ∧
∃ m9,m9<m2∧I2 m9 (round+1) out2))))) ∧
(¬(round<g) →
R out)))))
theorem yiO{O:Nat→Prop}{w:World}{g g2 v Ag lg cg}{R:(List Bool)→Prop}(h:ycQ g g2 v R)(hO:∀ k,O k→k<w.heap.size)(hA0:(FP.sl c3 Ag lg cg g2).P O w) :
    Calls Tryz.prog 107 #[(.agg #[(ii g),(.slice Ag lg cg)]),(ii v)] w fun e w'=>∃ r2 Ar lr cr,e = .returned (.slice Ar lr cr)∧Sep w no O w' (rl [Res.own cB 4 Ar lr cr r2])∧R r2:=by
  unfold ycQ at h;have hS:Sep w no O w (rl [Res.ro (FP.sl c3 Ag lg cg g2)]):=Sep.startl hO [(FP.sl c3 Ag lg cg g2)] ⟨hA0,trivial⟩;refine yal (l:=[(.agg #[(ii g),(.slice Ag lg cg)]),(ii v)]) func107 rfl ntmps107 zY (zs (zn (ybm (v:=(.agg #[(ii g),(.slice Ag lg cg)])) rfl ?_)));intro g3 w2 hN;replace hS:Sep w no O w2 (stl _ 1 (Res.box 24 g3 [(ii g),(.slice Ag lg cg)])):=hS.new 1 rfl hN;clear hN;refine zb (zQ (.slice none 0 0) (yaa (zs (zq (yam rfl underlying24 rfl yag) (zq (zl underlying3 (Row.cell (hS.bx 1 rfl) (i:=0) rfl)) ?_)))));obtain ⟨hx,h⟩:=h;refine zn (yeX rfl rfl underlying94 ybb (by decide) rfl hx ?_);intro g4 w3 hN;replace hS:=hS.made 2 rfl cB (.bool (false)) false (fun _ _=>rfl) hN (by omega);clear hN;refine zb (zQ (.slice (some ⟨g4,0,none⟩) g.toNat g.toNat) (yaa (zs (zM (.slice (some ⟨g4,0,none⟩) g.toNat g.toNat) (zM (ii v) ?_)))));obtain ⟨hx2,h⟩:=h;refine zq (zi underlying94 ybb (yaB (hS.rdo 2 rfl) hx2)) (zo (zt (.bool (true)) ybb (hS.wr 2 rfl rfl hx2) ?_));intro w4 e1;replace hS:=hS.st 2 rfl rfl hx2 (x:=true) rfl e1;clear e1;refine zb (yaa (yac (zs (zQ (ii 0) (yaa (yad ?_))))));obtain ⟨I2,⟨m0,h0⟩,hr⟩:=h;refine yax (fun m E ds w'=>∃ round out,I2 m round out∧ds=[]∧E 2=(Value.pointer (some ⟨g3,0,none⟩))∧E 5=(Value.slice (some ⟨g4,0,none⟩) g.toNat g.toNat)∧E 6=(ii round)∧Sep w no O w' (rl [Res.box 24 g3 [(ii g),(.slice Ag lg cg)],Res.ro (FP.sl c3 Ag lg cg g2),Res.own cB 4 (some ⟨g4,0,none⟩) g.toNat g.toNat out])) m0 ⟨_,_,h0,rfl,rfl,rfl,rfl,(hS.sel [1,0,2])⟩ ?_;clear h0 hS;rintro m2 E ds w5 ⟨round,out,h,rfl,H2,H5,H6,hS⟩ ag;replace h:=hr m2 round out h;clear hr;refine yac (zs (zq (yab H6) (zq (yam H2 underlying24 rfl yag) (zq (zl underlying3 (Row.cell (hS.bx 0 rfl) (i:=0) rfl)) (zq zL (yaa ?_))))));by_cases hp:round<g
  · replace h:=h.1 hp;refine zc hp (yaf (yac (yad (zs (zQ (ii 0) (yaa (yad ?_)))))));obtain ⟨I3,⟨m0,h0⟩,hr⟩:=h;refine yax (fun m E ds w'=>∃ a out2,I3 m a out2∧ds=[]∧E 2=(Value.pointer (some ⟨g3,0,none⟩))∧E 5=(Value.slice (some ⟨g4,0,none⟩) g.toNat g.toNat)∧E 6=(ii round)∧E 7=(ii a)∧Sep w no O w' (rl [Res.box 24 g3 [(ii g),(.slice Ag lg cg)],Res.ro (FP.sl c3 Ag lg cg g2),Res.own cB 4 (some ⟨g4,0,none⟩) g.toNat g.toNat out2])) m0 ⟨_,_,h0,rfl,H2,H5,H6,rfl,(hS.sel [0,1,2])⟩ ?_;clear h0 hS;rintro m3 E ds w6 ⟨a,out2,h,rfl,H2,H5,H6,H7,hS⟩ again2;replace h:=hr m3 a out2 h;clear hr;refine yac (zs (zq (yab H7) (zq (yam H2 underlying24 rfl yag) (zq (zl underlying3 (Row.cell (hS.bx 0 rfl) (i:=0) rfl)) (zq zL (yaa ?_))))));by_cases hp2:a<g
    · replace h:=h.1 hp2;refine zc hp2 (yaf (yac (yad (zs (zQ (ii 0) (yaa (yad ?_)))))));obtain ⟨I4,⟨m0,h0⟩,hr⟩:=h;refine yax (fun m E ds w'=>∃ b out3,I4 m b out3∧ds=[]∧E 2=(Value.pointer (some ⟨g3,0,none⟩))∧E 5=(Value.slice (some ⟨g4,0,none⟩) g.toNat g.toNat)∧E 6=(ii round)∧E 7=(ii a)∧E 8=(ii b)∧Sep w no O w' (rl [Res.box 24 g3 [(ii g),(.slice Ag lg cg)],Res.ro (FP.sl c3 Ag lg cg g2),Res.own cB 4 (some ⟨g4,0,none⟩) g.toNat g.toNat out3])) m0 ⟨_,_,h0,rfl,H2,H5,H6,H7,rfl,(hS.sel [0,1,2])⟩ ?_;clear h0 hS;rintro m4 E ds w7 ⟨b,out3,h,rfl,H2,H5,H6,H7,H8,hS⟩ again3;replace h:=hr m4 b out3 h;clear hr;refine yac (zs (zq (yab H8) (zq (yam H2 underlying24 rfl yag) (zq (zl underlying3 (Row.cell (hS.bx 0 rfl) (i:=0) rfl)) (zq zL (yaa ?_))))));by_cases hp3:b<g
      · replace h:=h.1 hp3;refine zc hp3 (yaf (yac (yad (zs (zq (yab H5) (zq (yab H7) ?_))))));obtain ⟨hx3,h⟩:=h;refine zq (zi underlying94 ybb (yaB (hS.rdo 2 rfl) hx3)) (zq (yar (v:=(.bool (gb out3 a.toNat))) rfl underlying4 rfl (rd_1 (hS.rdo 2 rfl) hx3 (fun q=>yfd q) rfl)) ?_);refine zM (.bool (gb out3 a.toNat)) ?_;by_cases hp4:gb out3 a.toNat=true
        · replace h:=h.1 hp4;refine zW rfl rfl (zC hp4) (yao (vs:=[(ii g),(.slice Ag lg cg)]) H2 underlying24 rfl yak ⟨Row.cell (hS.bx 0 rfl) (i:=0) rfl,Row.cell (hS.bx 0 rfl) (i:=1) rfl,trivial⟩) (zW rfl rfl (zC hp4) (yab H7) (zW rfl rfl (zC hp4) (yab H8) (rl_n (yaA rfl (ybc rfl (zC hp4))) rfl rfl rfl (yai rfl (am3 rfl rfl rfl) ygy ((ydd h (yaz _) (hS.rdr 1 rfl)).mono ?_)))));rintro _ w8 ⟨r,rfl,hC,h⟩;replace hS:=hS.pur hC.pure;clear hC;refine ⟨_,rfl,?_⟩;refine zb (zW rfl rfl (zC hp4) zG (zq (yan (v:=(.bool (decide (0<r)))) (zC hp4) rfl) (yaa ?_)));by_cases hp5:0<r
          · replace h:=h.1 hp5;refine zc hp5 (zr (zq (yab H5) (zq (yab H8) ?_)));obtain ⟨hx4,h⟩:=h;refine zq (zi underlying94 ybb (yaB (hS.rdo 2 rfl) hx4)) (zo (zt (.bool (true)) ybb (hS.wr 2 rfl rfl hx4) ?_));intro w9 e1;replace hS:=hS.st 2 rfl rfl hx4 (x:=true) rfl e1;clear e1;refine zb (yaa (yae (zr (zq (yab H8) ?_))));obtain ⟨hi,h⟩:=h;refine zq (zA hi) (zQ (ii (b+1)) (yaa ?_));obtain ⟨mq,hlt,h⟩:=h;exact again3 mq _ _ _ ⟨_,_,h,rfl,H2,H5,H6,H7,rfl,(hS.sel [0,1,2])⟩ hlt
          · replace h:=h.2 hp5;refine zd hp5 (yaf (yae (zr (zq (yab H8) ?_))));obtain ⟨hi2,h⟩:=h;refine zq (zA hi2) (zQ (ii (b+1)) (yaa ?_));obtain ⟨mq,hlt,h⟩:=h;exact again3 mq _ _ _ ⟨_,_,h,rfl,H2,H5,H6,H7,rfl,(hS.sel [0,1,2])⟩ hlt
        · replace h:=h.2 hp4;refine zV rfl rfl (zC (zI hp4)) (zV rfl rfl (zC (zI hp4)) (zV rfl rfl (zC (zI hp4)) (zV rfl rfl (zC (zI hp4)) (zV rfl rfl (zC (zI hp4)) (zq (yaj (v:=(.bool (false))) (zC (zI hp4)) rfl) (yaa (yav rfl (yaf (yae (zr (zq (yab H8) ?_)))))))))));obtain ⟨hi3,h⟩:=h;refine zq (zA hi3) (zQ (ii (b+1)) (yaa ?_));obtain ⟨mq,hlt,h⟩:=h;exact again3 mq _ _ _ ⟨_,_,h,rfl,H2,H5,H6,H7,rfl,(hS.sel [0,1,2])⟩ hlt
      · replace h:=h.2 hp3;refine zd hp3 (yas rfl (yae (zr (zq (yab H7) ?_))));obtain ⟨hi4,h⟩:=h;refine zq (zA hi4) (zQ (ii (a+1)) (yaa ?_));obtain ⟨mq,hlt,h⟩:=h;exact again2 mq _ _ _ ⟨_,_,h,rfl,H2,H5,H6,rfl,(hS.sel [0,1,2])⟩ hlt
    · replace h:=h.2 hp2;refine zd hp2 (yas rfl (yae (zr (zq (yab H6) ?_))));obtain ⟨hi5,h⟩:=h;refine zq (zA hi5) (zQ (ii (round+1)) (yaa ?_));obtain ⟨mq,hlt,h⟩:=h;exact ag mq _ _ _ ⟨_,_,h,rfl,H2,H5,rfl,(hS.sel [0,1,2])⟩ hlt
  · replace h:=h.2 hp;exact zd hp (yas rfl (zs (zq (yab H5) (zQ (.slice (some ⟨g4,0,none⟩) g.toNat g.toNat) (yaa (yah rfl rfl ⟨_,_,_,_,rfl,(hS.sel [2]),h⟩))))))
def yca(g:Int)(g2:List E3)(R:Int→Prop):Prop :=
((0≤g∧g≤1000000) ∧
(∃ I2:Nat→Int→Int→(List Bool)→Prop,(∃ m0,I2 m0 0 0 (List.replicate g.toNat false))∧∀ m2 n v seen,I2 m2 n v seen → 
((v<g →
((0≤v∧v<(seen.length:Int)) ∧
((gb seen v.toNat=true →
(In64 (v+1) ∧
∃ m3,m3<m2∧I2 m3 n (v+1) seen)) ∧
(¬(gb seen v.toNat=true) →
(In64 (n+1) ∧
ycQ g g2 v (fun r =>
(∃ I3:Nat→Int→(List Bool)→Prop,(∃ m0,I3 m0 0 seen)∧∀ m4 u seen2,I3 m4 u seen2 → 
((u<g →
((0≤u∧u<(seen2.length:Int)) ∧
((gb seen2 u.toNat=true →
(In64 (u+1) ∧
∃ m5,m5<m4∧I3 m5 (u+1) (seen2.set u.toNat true))) ∧
(¬(gb seen2 u.toNat=true) →
((0≤u∧u<(r.length:Int)) ∧
(In64 (u+1) ∧
∃ m6,m6<m4∧I3 m6 (u+1) (seen2.set u.toNat (gb r u.toNat)))))))) ∧
(¬(u<g) →
(In64 (v+1) ∧
∃ m7,m7<m2∧I2 m7 (n+1) (v+1) seen2)))))))))) ∧
(¬(v<g) →
R n))))
theorem ygN{O:Nat→Prop}{w:World}{g g2 Ag lg cg}{R:Int→Prop}(h:yca g g2 R)(hO:∀ k,O k→k<w.heap.size)(hA0:(FP.sl c3 Ag lg cg g2).P O w) :
    Calls Tryz.prog 64 #[(.agg #[(ii g),(.slice Ag lg cg)])] w fun e w'=>∃ r2,e = .returned (ii r2)∧Sep w no O w' (rl [])∧R r2:=by
  unfold yca at h;have hS:Sep w no O w (rl [Res.ro (FP.sl c3 Ag lg cg g2)]):=Sep.startl hO [(FP.sl c3 Ag lg cg g2)] ⟨hA0,trivial⟩;refine yal (l:=[(.agg #[(ii g),(.slice Ag lg cg)])]) func64 rfl ntmps64 zY (zs (zn (ybm (v:=(.agg #[(ii g),(.slice Ag lg cg)])) rfl ?_)));intro g3 w2 hN;replace hS:Sep w no O w2 (stl _ 1 (Res.box 24 g3 [(ii g),(.slice Ag lg cg)])):=hS.new 1 rfl hN;clear hN;refine zb (zQ (ii 0) (yaa (zs (zQ (ii 0) (yaa (zs (zq (yam rfl underlying24 rfl yag) (zq (zl underlying3 (Row.cell (hS.bx 1 rfl) (i:=0) rfl)) ?_))))))));obtain ⟨hx,h⟩:=h;refine zn (yeX rfl rfl underlying94 ybb (by decide) rfl hx ?_);intro g4 w3 hN;replace hS:=hS.made 2 rfl cB (.bool (false)) false (fun _ _=>rfl) hN (by omega);clear hN;refine zb (zQ (.slice (some ⟨g4,0,none⟩) g.toNat g.toNat) (yaa (yac (zs (zQ (ii 0) (yaa (yad ?_)))))));obtain ⟨I2,⟨m0,h0⟩,hr⟩:=h;refine yax (fun m E ds w'=>∃ n v seen,I2 m n v seen∧ds=[]∧E 1=(Value.pointer (some ⟨g3,0,none⟩))∧E 3=(ii n)∧E 4=(Value.slice (some ⟨g4,0,none⟩) g.toNat g.toNat)∧E 5=(ii v)∧Sep w no O w' (rl [Res.box 24 g3 [(ii g),(.slice Ag lg cg)],Res.ro (FP.sl c3 Ag lg cg g2),Res.own cB 4 (some ⟨g4,0,none⟩) g.toNat g.toNat seen])) m0 ⟨_,_,_,h0,rfl,rfl,rfl,rfl,rfl,(hS.sel [1,0,2])⟩ ?_;clear h0 hS;rintro m2 E ds w4 ⟨n,v,seen,h,rfl,H1,H3,H4,H5,hS⟩ ag;replace h:=hr m2 n v seen h;clear hr;refine yac (zs (zq (yab H5) (zq (yam H1 underlying24 rfl yag) (zq (zl underlying3 (Row.cell (hS.bx 0 rfl) (i:=0) rfl)) (zq zL (yaa ?_))))));by_cases hp:v<g
  · replace h:=h.1 hp;refine zc hp (yaf (yac (yad (yac (zs (zq (yab H4) (zq (yab H5) ?_)))))));obtain ⟨hx2,h⟩:=h;refine zq (zi underlying94 ybb (yaB (hS.rdo 2 rfl) hx2)) (zq (yar (v:=(.bool (gb seen v.toNat))) rfl underlying4 rfl (rd_1 (hS.rdo 2 rfl) hx2 (fun q=>yfd q) rfl)) ?_);refine yaa ?_;by_cases hp2:gb seen v.toNat=true
    · replace h:=h.1 hp2;refine yaq (zC hp2) (yas rfl (zr (zq (yab H5) ?_)));obtain ⟨hi,h⟩:=h;refine zq (zA hi) (zQ (ii (v+1)) (yaa ?_));obtain ⟨mq,hlt,h⟩:=h;exact ag mq _ _ _ ⟨_,_,_,h,rfl,H1,H3,H4,rfl,(hS.sel [0,1,2])⟩ hlt
    · replace h:=h.2 hp2;refine yav (zC (zI hp2)) (yaf (zs (zq (yab H3) ?_)));obtain ⟨hi2,h⟩:=h;refine zq (zA hi2) (zQ (ii (n+1)) (yaa (zs (zq (yao (vs:=[(ii g),(.slice Ag lg cg)]) H1 underlying24 rfl yak ⟨Row.cell (hS.bx 0 rfl) (i:=0) rfl,Row.cell (hS.bx 0 rfl) (i:=1) rfl,trivial⟩) (zq (yab H5) (zn (yai rfl (am2 rfl rfl) enter_107 ((yiO h (yaz _) (hS.rdr 1 rfl)).mono ?_))))))));rintro _ w5 ⟨r,Ar,lr,cr,rfl,hC,h⟩;replace hS:=hS.call1 (hC.widen (ycv (yaP fB _ _ _ _ _) ycH) hS.blt) 3 0 rfl;clear hC;refine ⟨_,rfl,?_⟩;refine zb (zQ (.slice Ar lr cr) (yaa (zs (zQ (ii 0) (yaa (yad ?_))))));obtain ⟨I3,⟨m0,h0⟩,hr⟩:=h;refine yax (fun m E ds w'=>∃ u seen2,I3 m u seen2∧ds=[]∧E 1=(Value.pointer (some ⟨g3,0,none⟩))∧E 3=(ii (n+1))∧E 4=(Value.slice (some ⟨g4,0,none⟩) g.toNat g.toNat)∧E 5=(ii v)∧E 6=(Value.slice Ar lr cr)∧E 7=(ii u)∧Sep w no O w' (rl [Res.box 24 g3 [(ii g),(.slice Ag lg cg)],Res.ro (FP.sl c3 Ag lg cg g2),Res.own cB 4 (some ⟨g4,0,none⟩) g.toNat g.toNat seen2,Res.own cB 4 Ar lr cr r])) m0 ⟨_,_,h0,rfl,H1,rfl,H4,H5,rfl,rfl,(hS.sel [0,1,2,3])⟩ ?_;clear h0 hS;rintro m4 E ds w6 ⟨u,seen2,h,rfl,H1,H3,H4,H5,H6,H7,hS⟩ again2;replace h:=hr m4 u seen2 h;clear hr;refine yac (zs (zq (yab H7) (zq (yam H1 underlying24 rfl yag) (zq (zl underlying3 (Row.cell (hS.bx 0 rfl) (i:=0) rfl)) (zq zL (yaa ?_))))));by_cases hp3:u<g
      · replace h:=h.1 hp3;refine zc hp3 (yaf (yac (yad (zr (zq (yab H4) (zq (yab H7) (zq (yab H4) (zq (yab H7) ?_))))))));obtain ⟨hx3,h⟩:=h;refine zq (zi underlying94 ybb (yaB (hS.rdo 2 rfl) hx3)) (zq (yar (v:=(.bool (gb seen2 u.toNat))) rfl underlying4 rfl (rd_1 (hS.rdo 2 rfl) hx3 (fun q=>yfd q) rfl)) ?_);refine zM (.bool (gb seen2 u.toNat)) ?_;by_cases hp4:gb seen2 u.toNat=true
        · replace h:=h.1 hp4;refine zV rfl rfl (zC hp4) (zV rfl rfl (zC hp4) (zV rfl rfl (zC hp4) (zV rfl rfl (zC hp4) (zq (yan (v:=(.bool (true))) (zC hp4) rfl) (zq (zi underlying94 ybb (yaB (hS.rdo 2 rfl) hx3)) (zo (zt (.bool (true)) ybb (hS.wr 2 rfl rfl hx3) ?_)))))));intro w7 e1;replace hS:=hS.st 2 rfl rfl hx3 (x:=true) rfl e1;clear e1;refine zb (yaa (yae (zr (zq (yab H7) ?_))));obtain ⟨hi3,h⟩:=h;refine zq (zA hi3) (zQ (ii (u+1)) (yaa ?_));obtain ⟨mq,hlt,h⟩:=h;exact again2 mq _ _ _ ⟨_,_,h,rfl,H1,H3,H4,H5,H6,rfl,(hS.sel [0,1,2,3])⟩ hlt
        · replace h:=h.2 hp4;refine zW rfl rfl (zC (zI hp4)) (yab H6) (zW rfl rfl (zC (zI hp4)) (yab H7) ?_);obtain ⟨hx4,h⟩:=h;refine zW rfl rfl (zC (zI hp4)) (zi underlying94 ybb (yaB (hS.rdo 3 rfl) hx4)) (zW rfl rfl (zC (zI hp4)) (yar (v:=(.bool (gb r u.toNat))) rfl underlying4 rfl (rd_1 (hS.rdo 3 rfl) hx4 (fun q=>yfd q) rfl)) ?_);refine zq (yaj (v:=(.bool (gb r u.toNat))) (zC (zI hp4)) rfl) (zq (zi underlying94 ybb (yaB (hS.rdo 2 rfl) hx3)) (zo (zt (.bool (gb r u.toNat)) ybb (hS.wr 2 rfl rfl hx3) ?_)));intro w8 e1;replace hS:=hS.st 2 rfl rfl hx3 (x:=gb r u.toNat) rfl e1;clear e1;refine zb (yaa (yae (zr (zq (yab H7) ?_))));obtain ⟨hi4,h⟩:=h;refine zq (zA hi4) (zQ (ii (u+1)) (yaa ?_));obtain ⟨mq,hlt,h⟩:=h;exact again2 mq _ _ _ ⟨_,_,h,rfl,H1,H3,H4,H5,H6,rfl,(hS.sel [0,1,2,3])⟩ hlt
      · replace h:=h.2 hp3;refine zd hp3 (yas rfl (yae (zr (zq (yab H5) ?_))));obtain ⟨hi5,h⟩:=h;refine zq (zA hi5) (zQ (ii (v+1)) (yaa ?_));obtain ⟨mq,hlt,h⟩:=h;exact ag mq _ _ _ ⟨_,_,_,h,rfl,H1,H3,H4,rfl,(hS.sel [0,1,2])⟩ hlt
  · replace h:=h.2 hp;exact zd hp (yas rfl (zs (zq (yab H3) (zQ (ii n) (yaa (yah rfl rfl ⟨_,rfl,(hS.sel []),h⟩))))))
def ybv(g:Int)(g2:List E3)(R:Bool→Prop):Prop :=
yca g g2 (fun r =>
R (decide (r=1)))
theorem ycC{O:Nat→Prop}{w:World}{g g2 Ag lg cg}{R:Bool→Prop}(h:ybv g g2 R)(hO:∀ k,O k→k<w.heap.size)(hA0:(FP.sl c3 Ag lg cg g2).P O w) :
    Calls Tryz.prog 68 #[(.agg #[(ii g),(.slice Ag lg cg)])] w fun e w'=>∃ r2,e = .returned (.bool (r2))∧Sep w no O w' (rl [])∧R r2:=by
  unfold ybv at h;have hS:Sep w no O w (rl [Res.ro (FP.sl c3 Ag lg cg g2)]):=Sep.startl hO [(FP.sl c3 Ag lg cg g2)] ⟨hA0,trivial⟩;refine yal (l:=[(.agg #[(ii g),(.slice Ag lg cg)])]) func68 rfl ntmps68 zY (zs (zn (ybm (v:=(.agg #[(ii g),(.slice Ag lg cg)])) rfl ?_)));intro g3 w2 hN;replace hS:Sep w no O w2 (stl _ 1 (Res.box 24 g3 [(ii g),(.slice Ag lg cg)])):=hS.new 1 rfl hN;clear hN;refine zb (zQ (.bool (false)) (yaa (zs (zq (yao (vs:=[(ii g),(.slice Ag lg cg)]) rfl underlying24 rfl yak ⟨Row.cell (hS.bx 1 rfl) (i:=0) rfl,Row.cell (hS.bx 1 rfl) (i:=1) rfl,trivial⟩) (zn (yai rfl (am1 rfl) enter_64 ((ygN h (yaz _) (hS.rdr 0 rfl)).mono ?_)))))));rintro _ w3 ⟨r,rfl,hC,h⟩;replace hS:=hS.pur hC.pure;clear hC;refine ⟨_,rfl,?_⟩;exact zb (zq zE (zQ (.bool (decide (r=1))) (yaa (yah rfl rfl ⟨_,rfl,(hS.sel []),h⟩))))
end Go.Proofs.YtencmgolklfmkaaGreat

/- Pure forms of functions, made by program (pf.py), each with the proof that the code does so. -/
namespace Go.Proofs.YtencmgolklfmkaaGreat
open Go Go.RowKit Go.Shelf Go.Proofs.Tryz
set_option maxRecDepth 100000
set_option maxHeartbeats 8000000
end Go.Proofs.YtencmgolklfmkaaGreat

/- Pure forms of functions, made by program (pf.py), each with the proof that the code does so. -/
namespace Go.Proofs.YtencmgolklfmkaaGreat
open Go Go.RowKit Go.Shelf Go.Proofs.Tryz
set_option maxRecDepth 100000
set_option maxHeartbeats 8000000
def ybC(s:List Int)(v:Int)(R:Int→Prop):Prop :=
(∃ I2:Nat→Int→Prop,(∃ m0,I2 m0 0)∧∀ m2 v2,I2 m2 v2 → 
((v2<(s.length:Int) →
((0≤v2∧v2<(s.length:Int)) ∧
((v=(gi s v2.toNat) →
R v2) ∧
(¬(v=(gi s v2.toNat)) →
(In64 (v2+1) ∧
∃ m3,m3<m2∧I2 m3 (v2+1)))))) ∧
(¬(v2<(s.length:Int)) →
R (-1))))
theorem yfA{O:Nat→Prop}{w:World}{s v As ls cs}{R:Int→Prop}(h:ybC s v R)(hO:∀ k,O k→k<w.heap.size)(hA0:(FP.sl cI As ls cs s).P O w) :
    Calls Tryz.prog 119 #[(.slice As ls cs),(ii v)] w fun e w'=>∃ r,e = .returned (ii r)∧Sep w no O w' (rl [])∧R r:=by
  unfold ybC at h;have hS:Sep w no O w (rl [Res.ro (FP.sl cI As ls cs s)]):=Sep.startl hO [(FP.sl cI As ls cs s)] ⟨hA0,trivial⟩;refine yal (l:=[(.slice As ls cs),(ii v)]) func119 rfl ntmps119 zY (zs (zQ (ii 0) (yaa (yac (zs (zM (.slice As ls cs) (zq (yaG (n:=s.length) rfl underlying35 (yaD (hS.rdr 0 rfl))) (zM (ii 0) (yaa (yad ?_))))))))));obtain ⟨I2,⟨m0,h0⟩,hr⟩:=h;refine yax (fun m E ds w'=>∃ v2,I2 m v2∧ds=[]∧E 0=(Value.slice As ls cs)∧E 1=(ii v)∧E 7=(ii (s.length:Int))∧E 8=(ii v2)∧Sep w no O w' (rl [Res.ro (FP.sl cI As ls cs s)])) m0 ⟨_,h0,rfl,rfl,rfl,rfl,rfl,(hS.sel [0])⟩ ?_;clear h0 hS;rintro m2 E ds w2 ⟨v2,h,rfl,H0,H1,H7,H8,hS⟩ ag;replace h:=hr m2 v2 h;clear hr;refine zs (zq (ydm H8 H7) (yaa (yac ?_)));by_cases hp:v2<(s.length:Int)
  · replace h:=h.1 hp;refine zc hp (yaf (yac (yad (zs (zq (yab H8) (zQ (ii v2) (yaa (zs (zq (yab H1) (zq (yab H0) (zM (ii v2) ?_)))))))))));obtain ⟨hx,h⟩:=h;refine zq (zi underlying35 yag (yaB (hS.rdr 0 rfl) hx)) (zq (yar (v:=(ii (gi s v2.toNat))) rfl underlying3 rfl (rd_1 (hS.rdr 0 rfl) hx (fun q=>yaF q) rfl)) ?_);refine zq zE (yaa ?_);by_cases hp2:v=(gi s v2.toNat)
    · replace h:=h.1 hp2;exact zc hp2 (zs (zM (ii v2) (zQ (ii v2) (yaa (yah rfl rfl ⟨_,rfl,(hS.sel []),h⟩)))))
    · replace h:=h.2 hp2;refine zd hp2 (yaf (yae (zr ?_)));obtain ⟨hi,h⟩:=h;refine zq (yb3 H8 rfl hi) (zM (ii (v2+1)) (yaa ?_));obtain ⟨mq,hlt,h⟩:=h;exact ag mq _ _ _ ⟨_,h,rfl,H0,H1,H7,rfl,(hS.sel [0])⟩ hlt
  · replace h:=h.2 hp;exact zd hp (yas rfl (zs (zQ (ii (-1)) (yaa (yah rfl rfl ⟨_,rfl,(hS.sel []),h⟩)))))
def ybf(s:List Int)(v:Int)(R:Bool→Prop):Prop :=
ybC s v (fun r =>
R (decide (0≤r)))
theorem ye4{O:Nat→Prop}{w:World}{s v As ls cs}{R:Bool→Prop}(h:ybf s v R)(hO:∀ k,O k→k<w.heap.size)(hA0:(FP.sl cI As ls cs s).P O w) :
    Calls Tryz.prog 88 #[(.slice As ls cs),(ii v)] w fun e w'=>∃ r2,e = .returned (.bool (r2))∧Sep w no O w' (rl [])∧R r2:=by
  unfold ybf at h;have hS:Sep w no O w (rl [Res.ro (FP.sl cI As ls cs s)]):=Sep.startl hO [(FP.sl cI As ls cs s)] ⟨hA0,trivial⟩;refine yal (l:=[(.slice As ls cs),(ii v)]) func88 rfl ntmps88 zY (zs (zQ (.bool (false)) (yaa (zs (zM (.slice As ls cs) (zM (ii v) (zn (yai rfl (am2 rfl rfl) enter_119 ((yfA h (yaz _) (hS.rdr 0 rfl)).mono ?_)))))))));rintro _ w2 ⟨r,rfl,hC,h⟩;replace hS:=hS.pur hC.pure;clear hC;refine ⟨_,rfl,?_⟩;exact zb (zq (yiq rfl rfl) (zQ (.bool (decide (0≤r))) (yaa (yah rfl rfl ⟨_,rfl,(hS.sel []),h⟩))))
def ycn(x:Int)(R:Bool→Prop):Prop :=
R (!(decide (x=x)))
theorem yeN{O:Nat→Prop}{w:World}{x}{R:Bool→Prop}(h:ycn x R)(hO:∀ k,O k→k<w.heap.size) :
    Calls Tryz.prog 136 #[(ii x)] w fun e w'=>∃ r,e = .returned (.bool (r))∧Sep w no O w' (rl [])∧R r:=by
  unfold ycn at h;have hS:Sep w no O w (rl []):=Sep.start w hO;exact yal (l:=[(ii x)]) func136 rfl ntmps136 zY (zs (zQ (.bool (false)) (yaa (zs (zM (ii x) (zM (ii x) (zq zN (zQ (.bool (!(decide (x=x)))) (yaa (yah rfl rfl ⟨_,rfl,(hS.sel []),h⟩))))))))))
end Go.Proofs.YtencmgolklfmkaaGreat

/- Pure forms of functions, made by program (pf.py), each with the proof that the code does so. -/
namespace Go.Proofs.YtencmgolklfmkaaGreat
open Go Go.RowKit Go.Shelf Go.Proofs.Tryz
set_option maxRecDepth 100000
set_option maxHeartbeats 8000000
def ybp(n:Int)(v:Int)(R:Bool→Prop):Prop :=
((0≤v →
R (decide (v<n))) ∧
(¬(0≤v) →
R false))
theorem ydM{O:Nat→Prop}{w:World}{n v}{R:Bool→Prop}(h:ybp n v R)(hO:∀ k,O k→k<w.heap.size) :
    Calls Tryz.prog 117 #[(ii n),(ii v)] w fun e w'=>∃ r,e = .returned (.bool (r))∧Sep w no O w' (rl [])∧R r:=by
  unfold ybp at h;have hS:Sep w no O w (rl []):=Sep.start w hO;refine yal (l:=[(ii n),(ii v)]) func117 rfl ntmps117 zY (zs (zQ (.bool (false)) (yaa (zs (zM (ii v) (zq (yiq rfl rfl) (zM (.bool (decide (0≤v))) ?_)))))));by_cases hp:0≤v
  · replace h:=h.1 hp;exact zW rfl rfl (zT hp) (zm (ii v)) (zW rfl rfl (zT hp) (zm (ii n)) (zW rfl rfl (zT hp) zL (zq (yan (v:=(.bool (decide (v<n)))) (zT hp) rfl) (zQ (.bool (decide (v<n))) (yaa (yah rfl rfl ⟨_,rfl,(hS.sel []),h⟩))))))
  · replace h:=h.2 hp;exact zV rfl rfl (zF hp) (zV rfl rfl (zF hp) (zV rfl rfl (zF hp) (zq (yaj (v:=(.bool (false))) (zF hp) rfl) (zQ (.bool (false)) (yaa (yah rfl rfl ⟨_,rfl,(hS.sel []),h⟩))))))
def ybu(x:Int)(y:Int)(R:Int→Prop):Prop :=
ycn x (fun r =>
ycn y (fun r2 =>
((r=true →
((r2=true →
R 0) ∧
(¬(r2=true) →
R (-1)))) ∧
(¬(r=true) →
((r2=true →
R 1) ∧
(¬(r2=true) →
((x<y →
R (-1)) ∧
(¬(x<y) →
((y<x →
R 1) ∧
(¬(y<x) →
R 0))))))))))
theorem yd7{O:Nat→Prop}{w:World}{x y}{R:Int→Prop}(h:ybu x y R)(hO:∀ k,O k→k<w.heap.size) :
    Calls Tryz.prog 97 #[(ii x),(ii y)] w fun e w'=>∃ r3,e = .returned (ii r3)∧Sep w no O w' (rl [])∧R r3:=by
  unfold ybu at h;have hS:Sep w no O w (rl []):=Sep.start w hO;refine yal (l:=[(ii x),(ii y)]) func97 rfl ntmps97 zY (zs (zQ (ii 0) (yaa (zs (zM (ii x) (zn (yai rfl (am1 rfl) enter_136 ((yeN h (yaz _)).mono ?_))))))));rintro _ w2 ⟨r,rfl,hC,h⟩;replace hS:=hS.pur hC.pure;clear hC;refine ⟨_,rfl,?_⟩;refine zb (zQ (.bool (r)) (yaa (zs (zM (ii y) (zn (yai rfl (am1 rfl) enter_136 ((yeN h (yaz _)).mono ?_)))))));rintro _ w3 ⟨r2,rfl,hC,h⟩;replace hS:=hS.pur hC.pure;clear hC;refine ⟨_,rfl,?_⟩;refine zb (zQ (.bool (r2)) (yaa (yac (zs (zM (.bool (r)) (yaa ?_))))));by_cases hp:r=true
  · replace h:=h.1 hp;refine yaq (zC hp) (yac (zs (zM (.bool (r2)) (yaa ?_))));by_cases hp2:r2=true
    · replace h:=h.1 hp2;exact yaq (zC hp2) (zs (zQ (ii 0) (yaa (yah rfl rfl ⟨_,rfl,(hS.sel []),h⟩))))
    · replace h:=h.2 hp2;exact yav (zC (zI hp2)) (yaf (zs (zQ (ii (-1)) (yaa (yah rfl rfl ⟨_,rfl,(hS.sel []),h⟩)))))
  · replace h:=h.2 hp;refine yav (zC (zI hp)) (yaf (yac (zs (zM (.bool (r2)) (yaa ?_)))));by_cases hp3:r2=true
    · replace h:=h.1 hp3;exact yaq (zC hp3) (zs (zQ (ii 1) (yaa (yah rfl rfl ⟨_,rfl,(hS.sel []),h⟩))))
    · replace h:=h.2 hp3;refine yav (zC (zI hp3)) (yaf (yac (zs (zM (ii x) (zM (ii y) (zq zL (yaa ?_)))))));by_cases hp4:x<y
      · replace h:=h.1 hp4;exact zc hp4 (zs (zQ (ii (-1)) (yaa (yah rfl rfl ⟨_,rfl,(hS.sel []),h⟩))))
      · replace h:=h.2 hp4;refine zd hp4 (yaf (yac (zs (zM (ii x) (zM (ii y) (zq zG (yaa ?_)))))));by_cases hp5:y<x
        · replace h:=h.1 hp5;exact zc hp5 (zs (zQ (ii 1) (yaa (yah rfl rfl ⟨_,rfl,(hS.sel []),h⟩))))
        · replace h:=h.2 hp5;exact zd hp5 (yaf (zs (zQ (ii 0) (yaa (yah rfl rfl ⟨_,rfl,(hS.sel []),h⟩)))))
def yc7(vals:List Int)(R:Int→Prop):Prop :=
(∃ I2:Nat→Int→Prop,(∃ m0,I2 m0 0)∧∀ m2 v,I2 m2 v → 
((v<(vals.length:Int) →
((0≤v∧v<(vals.length:Int)) ∧
(((gi vals v.toNat)=0 →
(In64 (v+1) ∧
∃ m3,m3<m2∧I2 m3 (v+1))) ∧
(¬((gi vals v.toNat)=0) →
R (gi vals v.toNat))))) ∧
(¬(v<(vals.length:Int)) →
R 0)))
theorem pok_cmp_Or_int{O:Nat→Prop}{w:World}{vals Aa Ab Ac}{R:Int→Prop}(h:yc7 vals R)(hO:∀ k,O k→k<w.heap.size)(hA0:(FP.sl cI Aa Ab Ac vals).P O w) :
    Calls Tryz.prog 150 #[(.slice Aa Ab Ac)] w fun e w'=>∃ r,e = .returned (ii r)∧Sep w no O w' (rl [])∧R r:=by
  unfold yc7 at h;have hS:Sep w no O w (rl [Res.ro (FP.sl cI Aa Ab Ac vals)]):=Sep.startl hO [(FP.sl cI Aa Ab Ac vals)] ⟨hA0,trivial⟩;refine yal (l:=[(.slice Aa Ab Ac)]) func150 rfl ntmps150 zY (zs (zQ (ii 0) (yaa (zs (zQ (ii 0) (yaa (yac (zs (zM (.slice Aa Ab Ac) (zq (yaG (n:=vals.length) rfl underlying35 (yaD (hS.rdr 0 rfl))) (zM (ii 0) (yaa (yad ?_)))))))))))));obtain ⟨I2,⟨m0,h0⟩,hr⟩:=h;refine yax (fun m E ds w'=>∃ v,I2 m v∧ds=[]∧E 3=(ii 0)∧E 6=(Value.slice Aa Ab Ac)∧E 7=(ii (vals.length:Int))∧E 8=(ii v)∧Sep w no O w' (rl [Res.ro (FP.sl cI Aa Ab Ac vals)])) m0 ⟨_,h0,rfl,rfl,rfl,rfl,rfl,(hS.sel [0])⟩ ?_;clear h0 hS;rintro m2 E ds w2 ⟨v,h,rfl,H3,H6,H7,H8,hS⟩ ag;replace h:=hr m2 v h;clear hr;refine zs (zq (ydm H8 H7) (yaa (yac ?_)));by_cases hp:v<(vals.length:Int)
  · replace h:=h.1 hp;refine zc hp (yaf (yac (yad (zs ?_))));obtain ⟨hx,h⟩:=h;refine zq (ydA H6 H8 underlying35 yag (yaB (hS.rdr 0 rfl) hx)) (zq (yar (v:=(ii (gi vals v.toNat))) rfl underlying3 rfl (rd_1 (hS.rdr 0 rfl) hx (fun q=>yaF q) rfl)) ?_);refine zQ (ii (gi vals v.toNat)) (yaa (zs (zM (ii (gi vals v.toNat)) (zq (yab H3) (zq zN (yaa ?_))))));by_cases hp2:(gi vals v.toNat)=0
    · replace h:=h.1 hp2;refine ze hp2 (yaf (yae (zr ?_)));obtain ⟨hi,h⟩:=h;refine zq (yb3 H8 rfl hi) (zM (ii (v+1)) (yaa ?_));obtain ⟨mq,hlt,h⟩:=h;exact ag mq _ _ _ ⟨_,h,rfl,H3,H6,H7,rfl,(hS.sel [0])⟩ hlt
    · replace h:=h.2 hp2;exact zf hp2 (zs (zM (ii (gi vals v.toNat)) (zQ (ii (gi vals v.toNat)) (yaa (yah rfl rfl ⟨_,rfl,(hS.sel []),h⟩)))))
  · replace h:=h.2 hp;exact zd hp (yas rfl (zs (zq (yab H3) (zQ (ii 0) (yaa (yah rfl rfl ⟨_,rfl,(hS.sel []),h⟩))))))
def ybU(p:Int)(p2:Int)(q:Int)(q2:Int)(R:Int→Prop):Prop :=
ybu p q (fun r =>
ybu p2 q2 (fun r2 =>
yc7 ([r,r2]) (fun r3 =>
R r3)))
theorem yfu{O:Nat→Prop}{w:World}{p p2 q q2}{R:Int→Prop}(h:ybU p p2 q q2 R)(hO:∀ k,O k→k<w.heap.size) :
    Calls Tryz.prog 118 #[(.agg #[(ii p),(ii p2)]),(.agg #[(ii q),(ii q2)])] w fun e w'=>∃ r4,e = .returned (ii r4)∧Sep w no O w' (rl [])∧R r4:=by
  unfold ybU at h;have hS:Sep w no O w (rl []):=Sep.start w hO;refine yal (l:=[(.agg #[(ii p),(ii p2)]),(.agg #[(ii q),(ii q2)])]) func118 rfl ntmps118 zY (zs (zn (ybm (v:=(.agg #[(ii p),(ii p2)])) rfl ?_)));intro g w2 hN;replace hS:Sep w no O w2 (stl _ 0 (Res.box 126 g [(ii p),(ii p2)])):=hS.new 0 rfl hN;clear hN;refine zb (zn (ybm (v:=(.agg #[(ii q),(ii q2)])) rfl ?_));intro g2 w3 hN;replace hS:Sep w no O w3 (stl _ 1 (Res.box 126 g2 [(ii q),(ii q2)])):=hS.new 1 rfl hN;clear hN;refine zb (zQ (ii 0) (yaa (yac (ybq [0,1,2,3,5,6,7,8,4,9,10,11,12] (fun i=>match i with | 4=>[5,6,7,8] | _=>[]) yaC (by kernel_rfl) (by kernel_rfl) ?_))));replace hS:=hS.drew;refine zp (yam rfl underlying126 rfl yag) (zp (zl underlying3 (Row.cell (hS.bx 0 rfl) (i:=0) rfl)) (zp (yam rfl underlying126 rfl yag) (zp (zl underlying3 (Row.cell (hS.bx 1 rfl) (i:=0) rfl)) (zp (yam rfl underlying126 rfl yag) (zp (zl underlying3 (Row.cell (hS.bx 0 rfl) (i:=1) rfl)) (zp (yam rfl underlying126 rfl yag) (zp (zl underlying3 (Row.cell (hS.bx 1 rfl) (i:=1) rfl)) (rp_n rfl rfl rfl rfl (yai rfl (am2 rfl rfl) enter_97 ((yd7 h (yaz _)).mono ?_))))))))));rintro _ w4 ⟨r,rfl,hC,h⟩;replace hS:=hS.pur hC.pure;clear hC;refine ⟨_,rfl,?_⟩;refine ⟨⟨fun _=>(zl underlying3 (Row.cell (hS.bx 1 rfl) (i:=1) rfl)),⟨fun _=>(yam rfl underlying126 rfl yag),⟨fun _=>(zl underlying3 (Row.cell (hS.bx 0 rfl) (i:=1) rfl)),⟨fun _=>(yam rfl underlying126 rfl yag),⟨fun hh=>zZ hh,⟨fun hh=>zZ hh,⟨fun hh=>zZ hh,⟨fun hh=>zZ hh,trivial⟩⟩⟩⟩⟩⟩⟩⟩,?_⟩;refine rp_n rfl rfl rfl rfl (yai rfl (am2 rfl rfl) enter_97 ((yd7 h (yaz _)).mono ?_));rintro _ w5 ⟨r2,rfl,hC,h⟩;replace hS:=hS.pur hC.pure;clear hC;refine ⟨_,rfl,?_⟩;refine zb (rp_n rfl rfl rfl rfl (yaK (l:=[(0,(ii r)),(1,(ii r2))]) (cells:=[(ii r),(ii r2)]) (bp2 rfl rfl) underlying35 yag rfl rfl ?_));intro g3 w6 hN;replace hS:=hS.litf (n:=2) 2 rfl (fI .i64) hN ([r,r2]:List Int) rfl (by decide) rfl;clear hN;refine zb (rp_n rfl rfl rfl rfl (yai rfl (am1 rfl) enter_150 ((pok_cmp_Or_int h (yaz _) (hS.rdo 2 rfl)).mono ?_)));rintro _ w7 ⟨r3,rfl,hC,h⟩;replace hS:=hS.pur hC.pure;clear hC;refine ⟨_,rfl,?_⟩;exact zb (zp (za (ii r3)) (ybH (yah rfl rfl ⟨_,rfl,(hS.sel []),h⟩)))
def ybF(d:Int)(d2:List E3)(R:Int→Prop):Prop :=
(∃ J2:Prop,(J2→(∃ I2:Nat→Int→Int→Int→Prop,(∃ m0,I2 m0 0 (-1) (-1))∧∀ m2 v v2 v3,I2 m2 v v2 v3 → 
((v<(d2.length:Int) →
((0≤v∧v<(d2.length:Int)) ∧
(∃ J3:Prop,(J3→((((ge d2 v.toNat).2.1)<((ge d2 v.toNat).1) →
R 9) ∧
(¬(((ge d2 v.toNat).2.1)<((ge d2 v.toNat).1)) →
ybU v2 v3 ((ge d2 v.toNat).1) ((ge d2 v.toNat).2.1) (fun r =>
((0≤r →
R 9) ∧
(¬(0≤r) →
(In64 (v+1) ∧
∃ m3,m3<m2∧I2 m3 (v+1) ((ge d2 v.toNat).1) ((ge d2 v.toNat).2.1)))))))) ∧
ybp d ((ge d2 v.toNat).1) (fun r2 =>
((r2=true →
ybp d ((ge d2 v.toNat).2.1) (fun r3 =>
((r3=true →
((((ge d2 v.toNat).2.2)<1 →
R 2) ∧
(¬(((ge d2 v.toNat).2.2)<1) →
((50<((ge d2 v.toNat).2.2) →
R 2) ∧
(¬(50<((ge d2 v.toNat).2.2)) →
J3))))) ∧
(¬(r3=true) →
R 2)))) ∧
(¬(r2=true) →
R 2)))))) ∧
(¬(v<(d2.length:Int)) →
R 0)))) ∧
((d<1 →
R 2) ∧
(¬(d<1) →
((12<d →
R 2) ∧
(¬(12<d) →
J2)))))
theorem ydq{O:Nat→Prop}{w:World}{d d2 Ad ld cd}{R:Int→Prop}(h:ybF d d2 R)(hO:∀ k,O k→k<w.heap.size)(hA0:(FP.sl c3 Ad ld cd d2).P O w) :
    Calls Tryz.prog 86 #[(.agg #[(ii d),(.slice Ad ld cd)])] w fun e w'=>∃ r4,e = .returned (ii r4)∧Sep w no O w' (rl [])∧R r4:=by
  unfold ybF at h;have hS:Sep w no O w (rl [Res.ro (FP.sl c3 Ad ld cd d2)]):=Sep.startl hO [(FP.sl c3 Ad ld cd d2)] ⟨hA0,trivial⟩;refine yal (l:=[(.agg #[(ii d),(.slice Ad ld cd)])]) func86 rfl ntmps86 zY (zs (zn (ybm (v:=(.agg #[(ii d),(.slice Ad ld cd)])) rfl ?_)));intro g w2 hN;replace hS:Sep w no O w2 (stl _ 1 (Res.box 24 g [(ii d),(.slice Ad ld cd)])):=hS.new 1 rfl hN;clear hN;refine zb (zQ (ii 0) (yaa (yac (yac ?_))));obtain ⟨J2,hJ,h⟩:=h;refine ycA (fun E ds w'=>J2∧ds=[]∧E 1=(Value.pointer (some ⟨g,0,none⟩))∧Sep w no O w' (rl [Res.box 24 g [(ii d),(.slice Ad ld cd)],Res.ro (FP.sl c3 Ad ld cd d2)])) ?_ ?_
  · clear h hS;rintro E ds w3 ⟨h,rfl,H1,hS⟩;replace h:=hJ h;refine zs (zn (ycw (l:=[(0,(ii (-1))),(1,(ii (-1)))]) (cells:=[(ii (-1)),(ii (-1))]) (places:=[(0,1),(1,1)]) (bp2 rfl rfl) underlying126 ycd (by kernel_rfl) rfl ?_));refine zb (zn (yaS ycd ?_));intro g2 w4 hN;replace hS:Sep w no O w4 (stl _ 2 (Res.box 126 g2 [(ii 0),(ii 0)])):=hS.new 2 rfl hN;clear hN;refine zb (zo (yaQ (b:=g2) (o:=0) (cells:=#[(ii (-1)),(ii (-1))]) rfl rfl ycd rfl rfl (yaL (hS.bx 2 rfl) zY) ?_));intro w5 e1;replace hS:=hS.bstn 2 rfl 0 [(ii (-1)),(ii (-1))] e1;clear e1;refine zb (yaa (yac (zs (zq (yam H1 underlying24 rfl ybZ) (zq (zl underlying22 (Row.cell (hS.bx 0 rfl) (i:=1) rfl)) (zq (yaG (n:=d2.length) rfl underlying22 (yaD (hS.rdr 1 rfl))) (zM (ii 0) (yaa (yad ?_)))))))));obtain ⟨I2,⟨m0,h0⟩,hr⟩:=h;refine yax (fun m E ds w'=>∃ v v2 v3,I2 m v v2 v3∧ds=[]∧E 1=(Value.pointer (some ⟨g,0,none⟩))∧E 3=(Value.pointer (some ⟨g2,0,none⟩))∧E 17=(Value.slice Ad ld cd)∧E 18=(ii (d2.length:Int))∧E 19=(ii v)∧Sep w no O w' (rl [Res.box 24 g [(ii d),(.slice Ad ld cd)],Res.ro (FP.sl c3 Ad ld cd d2),Res.box 126 g2 [(ii v2),(ii v3)]])) m0 ⟨_,_,_,h0,rfl,H1,rfl,rfl,rfl,rfl,(hS.sel [0,1,2])⟩ ?_;clear h0 hS;rintro m2 E ds w6 ⟨v,v2,v3,h,rfl,H1,H3,H17,H18,H19,hS⟩ ag;replace h:=hr m2 v v2 v3 h;clear hr;refine zs (zq (ydm H19 H18) (yaa (yac ?_)));by_cases hp:v<(d2.length:Int)
    · replace h:=h.1 hp;refine zc hp (yaf (yac (yad (zs ?_))));obtain ⟨hx,h⟩:=h;refine zq (ydA H17 H19 underlying22 yaT (yaB (hS.rdr 1 rfl) hx)) (zq (yao (vs:=[(ii ((ge d2 v.toNat).1)),(ii ((ge d2 v.toNat).2.1)),(ii ((ge d2 v.toNat).2.2))]) rfl underlying93 rfl yaT (yhX (hS.rdr 1 rfl) hx (fun q=>ydz q))) ?_);refine zn (yaS yaT ?_);intro g3 w7 hN;replace hS:Sep w no O w7 (stl _ 3 (Res.box 93 g3 [(ii 0),(ii 0),(ii 0)])):=hS.new 3 rfl hN;clear hN;refine zb (zo (yaQ (b:=g3) (o:=0) (cells:=#[(ii ((ge d2 v.toNat).1)),(ii ((ge d2 v.toNat).2.1)),(ii ((ge d2 v.toNat).2.2))]) rfl rfl yaT rfl rfl (yaL (hS.bx 3 rfl) zY) ?_));intro w8 e1;replace hS:=hS.bstn 3 rfl 0 [(ii ((ge d2 v.toNat).1)),(ii ((ge d2 v.toNat).2.1)),(ii ((ge d2 v.toNat).2.2))] e1;clear e1;refine zb (yaa (zs (zq (yam rfl underlying93 rfl yag) (zq (zl underlying3 (Row.cell (hS.bx 3 rfl) (i:=0) rfl)) (zq (yam rfl underlying93 rfl yag) (zq (zl underlying3 (Row.cell (hS.bx 3 rfl) (i:=1) rfl)) (zn (ycw (l:=[(0,(ii ((ge d2 v.toNat).1))),(1,(ii ((ge d2 v.toNat).2.1)))]) (cells:=[(ii ((ge d2 v.toNat).1)),(ii ((ge d2 v.toNat).2.1))]) (places:=[(0,1),(1,1)]) (bp2 rfl rfl) underlying126 ycd (by kernel_rfl) rfl ?_))))))));refine zb (zn (yaS ycd ?_));intro g4 w9 hN;replace hS:Sep w no O w9 (stl _ 4 (Res.box 126 g4 [(ii 0),(ii 0)])):=hS.new 4 rfl hN;clear hN;refine zb (zo (yaQ (b:=g4) (o:=0) (cells:=#[(ii ((ge d2 v.toNat).1)),(ii ((ge d2 v.toNat).2.1))]) rfl rfl ycd rfl rfl (yaL (hS.bx 4 rfl) zY) ?_));intro w10 e1;replace hS:=hS.bstn 4 rfl 0 [(ii ((ge d2 v.toNat).1)),(ii ((ge d2 v.toNat).2.1))] e1;clear e1;refine zb (yaa (yac (yad (yac ?_))));obtain ⟨J3,hJ,h⟩:=h;refine wt_cutB1 (fun E ds w'=>J3∧ds=[]∧E 1=(Value.pointer (some ⟨g,0,none⟩))∧E 3=(Value.pointer (some ⟨g2,0,none⟩))∧E 5=(Value.pointer (some ⟨g3,0,none⟩))∧E 6=(Value.pointer (some ⟨g4,0,none⟩))∧E 17=(Value.slice Ad ld cd)∧E 18=(ii (d2.length:Int))∧E 19=(ii v)∧Sep w no O w' (rl [Res.box 24 g [(ii d),(.slice Ad ld cd)],Res.ro (FP.sl c3 Ad ld cd d2),Res.box 126 g2 [(ii v2),(ii v3)],Res.box 93 g3 [(ii ((ge d2 v.toNat).1)),(ii ((ge d2 v.toNat).2.1)),(ii ((ge d2 v.toNat).2.2))],Res.box 126 g4 [(ii ((ge d2 v.toNat).1)),(ii ((ge d2 v.toNat).2.1))]])) ?_ ?_
      · clear h hS;rintro E ds w11 ⟨h,rfl,H1,H3,H5,H6,H17,H18,H19,hS⟩;replace h:=hJ h;refine zs (zq (yam H5 underlying93 rfl yag) (zq (zl underlying3 (Row.cell (hS.bx 3 rfl) (i:=0) rfl)) (zq (yam H5 underlying93 rfl yag) (zq (zl underlying3 (Row.cell (hS.bx 3 rfl) (i:=1) rfl)) (zq zG (zM (.bool (decide (((ge d2 v.toNat).2.1)<((ge d2 v.toNat).1)))) ?_))))));by_cases hp2:((ge d2 v.toNat).2.1)<((ge d2 v.toNat).1)
        · replace h:=h.1 hp2;exact zV rfl rfl (zT hp2) (zV rfl rfl (zT hp2) (zV rfl rfl (zT hp2) (zV rfl rfl (zT hp2) (zq (yan (v:=(.bool (true))) (zT hp2) rfl) (zQ (.bool (true)) (yaa (yaq rfl (zs (zQ (ii 9) (yaa (yah rfl rfl ⟨_,rfl,(hS.sel []),h⟩)))))))))))
        · replace h:=h.2 hp2;refine zW rfl rfl (zF hp2) (yao (vs:=[(ii v2),(ii v3)]) H3 underlying126 rfl ycd ⟨Row.cell (hS.bx 2 rfl) (i:=0) rfl,Row.cell (hS.bx 2 rfl) (i:=1) rfl,trivial⟩) (zW rfl rfl (zF hp2) (yao (vs:=[(ii ((ge d2 v.toNat).1)),(ii ((ge d2 v.toNat).2.1))]) H6 underlying126 rfl ycd ⟨Row.cell (hS.bx 4 rfl) (i:=0) rfl,Row.cell (hS.bx 4 rfl) (i:=1) rfl,trivial⟩) (rl_n (yaA rfl (ybc rfl (zF hp2))) rfl rfl rfl (yai rfl (am2 rfl rfl) enter_118 ((yfu h (yaz _)).mono ?_))));rintro _ w12 ⟨r,rfl,hC,h⟩;replace hS:=hS.pur hC.pure;clear hC;refine ⟨_,rfl,?_⟩;refine zb (zW rfl rfl (zF hp2) (yiq rfl rfl) (zq (yaj (v:=(.bool (decide (0≤r)))) (zF hp2) rfl) (zQ (.bool (decide (0≤r))) (yaa ?_))));by_cases hp3:0≤r
          · replace h:=h.1 hp3;exact zc hp3 (zs (zQ (ii 9) (yaa (yah rfl rfl ⟨_,rfl,(hS.sel []),h⟩))))
          · replace h:=h.2 hp3;refine zd hp3 (yaf (yae (zr (zq (yao (vs:=[(ii ((ge d2 v.toNat).1)),(ii ((ge d2 v.toNat).2.1))]) H6 underlying126 rfl ycd ⟨Row.cell (hS.bx 4 rfl) (i:=0) rfl,Row.cell (hS.bx 4 rfl) (i:=1) rfl,trivial⟩) (zo (yaQ (b:=g2) (o:=0) (cells:=#[(ii ((ge d2 v.toNat).1)),(ii ((ge d2 v.toNat).2.1))]) H3 rfl ycd rfl rfl (yaL (hS.bx 2 rfl) zY) ?_))))));intro w13 e1;replace hS:=hS.bstn 2 rfl 0 [(ii ((ge d2 v.toNat).1)),(ii ((ge d2 v.toNat).2.1))] e1;clear e1;refine zb (yaa (yae (zr ?_)));obtain ⟨hi,h⟩:=h;refine zq (yb3 H19 rfl hi) (zM (ii (v+1)) (yaa ?_));obtain ⟨mq,hlt,h⟩:=h;exact ag mq _ _ _ ⟨_,_,_,h,rfl,H1,H3,H17,H18,rfl,(hS.sel [0,1,2])⟩ hlt
      clear hJ;intro j2;refine zr (zq (yam H1 underlying24 rfl yag) (zq (zl underlying3 (Row.cell (hS.bx 0 rfl) (i:=0) rfl)) (zq (yam rfl underlying93 rfl yag) (zq (zl underlying3 (Row.cell (hS.bx 3 rfl) (i:=0) rfl)) (zn (yai rfl (am2 rfl rfl) yij ((ydM h (yaz _)).mono ?_)))))));rintro _ w14 ⟨r2,rfl,hC,h⟩;replace hS:=hS.pur hC.pure;clear hC;refine ⟨_,rfl,?_⟩;refine zb (zq (yds rfl) (zM (.bool (!(r2))) ?_));by_cases hp4:r2=true
      · replace h:=h.1 hp4;refine zW rfl rfl (zC (zB hp4)) (yam H1 underlying24 rfl yag) (zW rfl rfl (zC (zB hp4)) (zl underlying3 (Row.cell (hS.bx 0 rfl) (i:=0) rfl)) (zW rfl rfl (zC (zB hp4)) (yam rfl underlying93 rfl yag) (zW rfl rfl (zC (zB hp4)) (zl underlying3 (Row.cell (hS.bx 3 rfl) (i:=1) rfl)) (rl_n (yaA rfl (ybc rfl (zC (zB hp4)))) rfl rfl rfl (yai rfl (am2 rfl rfl) yij ((ydM h (yaz _)).mono ?_))))));rintro _ w15 ⟨r3,rfl,hC,h⟩;replace hS:=hS.pur hC.pure;clear hC;refine ⟨_,rfl,?_⟩;refine zb (zW rfl rfl (zC (zB hp4)) (yds rfl) (zq (yaj (v:=(.bool (!(r3)))) (zC (zB hp4)) rfl) (zM (.bool (!(r3))) ?_)));by_cases hp5:r3=true
        · replace h:=h.1 hp5;refine zW rfl rfl (zC (zB hp5)) (yam rfl underlying93 rfl yag) (zW rfl rfl (zC (zB hp5)) (zl underlying3 (Row.cell (hS.bx 3 rfl) (i:=2) rfl)) (zW rfl rfl (zC (zB hp5)) zL (zq (yaj (v:=(.bool (decide (((ge d2 v.toNat).2.2)<1)))) (zC (zB hp5)) rfl) (zM (.bool (decide (((ge d2 v.toNat).2.2)<1))) ?_))));by_cases hp6:((ge d2 v.toNat).2.2)<1
          · replace h:=h.1 hp6;exact zV rfl rfl (zT hp6) (zV rfl rfl (zT hp6) (zV rfl rfl (zT hp6) (zq (yan (v:=(.bool (true))) (zT hp6) rfl) (zQ (.bool (true)) (yaa (yaq rfl (zs (zQ (ii 2) (yaa (yah rfl rfl ⟨_,rfl,(hS.sel []),h⟩))))))))))
          · replace h:=h.2 hp6;refine zW rfl rfl (zF hp6) (yam rfl underlying93 rfl yag) (zW rfl rfl (zF hp6) (zl underlying3 (Row.cell (hS.bx 3 rfl) (i:=2) rfl)) (zW rfl rfl (zF hp6) zG (zq (yaj (v:=(.bool (decide (50<((ge d2 v.toNat).2.2))))) (zF hp6) rfl) (zQ (.bool (decide (50<((ge d2 v.toNat).2.2)))) (yaa ?_)))));by_cases hp7:50<((ge d2 v.toNat).2.2)
            · replace h:=h.1 hp7;exact zc hp7 (zs (zQ (ii 2) (yaa (yah rfl rfl ⟨_,rfl,(hS.sel []),h⟩))))
            · replace h:=h.2 hp7;exact zd hp7 (j2 _ _ _ ⟨h,rfl,H1,H3,rfl,rfl,H17,H18,H19,(hS.sel [0,1,2,3,4])⟩)
        · replace h:=h.2 hp5;exact zV rfl rfl (zC (zB (zI hp5))) (zV rfl rfl (zC (zB (zI hp5))) (zV rfl rfl (zC (zB (zI hp5))) (zq (yan (v:=(.bool (true))) (zC (zB (zI hp5))) rfl) (zM (.bool (true)) (zU (zU (zU (zq (yan (v:=(.bool (true))) rfl rfl) (zQ (.bool (true)) (yaa (yaq rfl (zs (zQ (ii 2) (yaa (yah rfl rfl ⟨_,rfl,(hS.sel []),h⟩)))))))))))))))
      · replace h:=h.2 hp4;exact zV rfl rfl (zC (zB (zI hp4))) (zV rfl rfl (zC (zB (zI hp4))) (zV rfl rfl (zC (zB (zI hp4))) (zV rfl rfl (zC (zB (zI hp4))) (zV rfl rfl (zC (zB (zI hp4))) (zV rfl rfl (zC (zB (zI hp4))) (zq (yan (v:=(.bool (true))) (zC (zB (zI hp4))) rfl) (zM (.bool (true)) (zU (zU (zU (zq (yan (v:=(.bool (true))) rfl rfl) (zM (.bool (true)) (zU (zU (zU (zq (yan (v:=(.bool (true))) rfl rfl) (zQ (.bool (true)) (yaa (yaq rfl (zs (zQ (ii 2) (yaa (yah rfl rfl ⟨_,rfl,(hS.sel []),h⟩)))))))))))))))))))))))
    · replace h:=h.2 hp;exact zd hp (yas rfl (zs (zQ (ii 0) (yaa (yah rfl rfl ⟨_,rfl,(hS.sel []),h⟩)))))
  clear hJ;intro j;refine zr (zq (yam rfl underlying24 rfl yag) (zq (zl underlying3 (Row.cell (hS.bx 1 rfl) (i:=0) rfl)) (zq zL (zM (.bool (decide (d<1))) ?_))));by_cases hp8:d<1
  · replace h:=h.1 hp8;exact zV rfl rfl (zT hp8) (zV rfl rfl (zT hp8) (zV rfl rfl (zT hp8) (zq (yan (v:=(.bool (true))) (zT hp8) rfl) (yaa (yaq rfl (zs (zQ (ii 2) (yaa (yah rfl rfl ⟨_,rfl,(hS.sel []),h⟩)))))))))
  · replace h:=h.2 hp8;refine zW rfl rfl (zF hp8) (yam rfl underlying24 rfl yag) (zW rfl rfl (zF hp8) (zl underlying3 (Row.cell (hS.bx 1 rfl) (i:=0) rfl)) (zW rfl rfl (zF hp8) zG (zq (yaj (v:=(.bool (decide (12<d)))) (zF hp8) rfl) (yaa ?_))));by_cases hp9:12<d
    · replace h:=h.1 hp9;exact zc hp9 (zs (zQ (ii 2) (yaa (yah rfl rfl ⟨_,rfl,(hS.sel []),h⟩))))
    · replace h:=h.2 hp9;exact zd hp9 (yaf (j _ _ _ ⟨h,rfl,rfl,(hS.sel [1,0])⟩))
def yb0(g:Int)(g2:List E3)(set2:List Int)(R:Int→Prop):Prop :=
ybF g g2 (fun r =>
((r=0 →
(∃ I2:Nat→Int→Prop,(∃ m0,I2 m0 0)∧∀ m2 v,I2 m2 v → 
((v<(set2.length:Int) →
((0≤v∧v<(set2.length:Int)) ∧
ybp g (gi set2 v.toNat) (fun r2 =>
((r2=true →
((0<v →
(In64 (v-1) ∧
((0≤(v-1)∧(v-1)<(set2.length:Int)) ∧
(((gi set2 v.toNat)≤(gi set2 (v-1).toNat) →
R 9) ∧
(¬((gi set2 v.toNat)≤(gi set2 (v-1).toNat)) →
(In64 (v+1) ∧
∃ m3,m3<m2∧I2 m3 (v+1))))))) ∧
(¬(0<v) →
(In64 (v+1) ∧
∃ m4,m4<m2∧I2 m4 (v+1))))) ∧
(¬(r2=true) →
R 2))))) ∧
(¬(v<(set2.length:Int)) →
R 0)))) ∧
(¬(r=0) →
R r)))
theorem yhv{O:Nat→Prop}{w:World}{g g2 set2 Ag lg cg Aa Ab Ac}{R:Int→Prop}(h:yb0 g g2 set2 R)(hO:∀ k,O k→k<w.heap.size)(hA0:(FP.sl c3 Ag lg cg g2).P O w)(hA1:(FP.sl cI Aa Ab Ac set2).P O w) :
    Calls Tryz.prog 87 #[(.agg #[(ii g),(.slice Ag lg cg)]),(.slice Aa Ab Ac)] w fun e w'=>∃ r3,e = .returned (ii r3)∧Sep w no O w' (rl [])∧R r3:=by
  unfold yb0 at h;have hS:Sep w no O w (rl [Res.ro (FP.sl c3 Ag lg cg g2),Res.ro (FP.sl cI Aa Ab Ac set2)]):=Sep.startl hO [(FP.sl c3 Ag lg cg g2),(FP.sl cI Aa Ab Ac set2)] ⟨hA0,hA1,trivial⟩;refine yal (l:=[(.agg #[(ii g),(.slice Ag lg cg)]),(.slice Aa Ab Ac)]) func87 rfl ntmps87 zY (zs (zn (ybm (v:=(.agg #[(ii g),(.slice Ag lg cg)])) rfl ?_)));intro g3 w2 hN;replace hS:Sep w no O w2 (stl _ 2 (Res.box 24 g3 [(ii g),(.slice Ag lg cg)])):=hS.new 2 rfl hN;clear hN;refine zb (zQ (ii 0) (yaa (yac (zs (zq (yao (vs:=[(ii g),(.slice Ag lg cg)]) rfl underlying24 rfl yak ⟨Row.cell (hS.bx 2 rfl) (i:=0) rfl,Row.cell (hS.bx 2 rfl) (i:=1) rfl,trivial⟩) (zn (yai rfl (am1 rfl) yhE ((ydq h (yaz _) (hS.rdr 0 rfl)).mono ?_))))))));rintro _ w3 ⟨r,rfl,hC,h⟩;replace hS:=hS.pur hC.pure;clear hC;refine ⟨_,rfl,?_⟩;refine zb (zQ (ii r) (yaa (zs (zM (ii r) (zq zN (yaa ?_))))));by_cases hp:r=0
  · replace h:=h.1 hp;refine ze hp (yaf (yac (zs (zM (.slice Aa Ab Ac) (zq (yaG (n:=set2.length) rfl underlying35 (yaD (hS.rdr 1 rfl))) (zM (ii 0) (yaa (yad ?_))))))));obtain ⟨I2,⟨m0,h0⟩,hr⟩:=h;refine yax (fun m E ds w'=>∃ v,I2 m v∧ds=[]∧E 1=(Value.slice Aa Ab Ac)∧E 2=(Value.pointer (some ⟨g3,0,none⟩))∧E 13=(Value.slice Aa Ab Ac)∧E 14=(ii (set2.length:Int))∧E 15=(ii v)∧Sep w no O w' (rl [Res.ro (FP.sl cI Aa Ab Ac set2),Res.box 24 g3 [(ii g),(.slice Ag lg cg)],Res.ro (FP.sl c3 Ag lg cg g2)])) m0 ⟨_,h0,rfl,rfl,rfl,rfl,rfl,rfl,(hS.sel [1,2,0])⟩ ?_;clear h0 hS;rintro m2 E ds w4 ⟨v,h,rfl,H1,H2,H13,H14,H15,hS⟩ ag;replace h:=hr m2 v h;clear hr;refine zs (zq (ydm H15 H14) (yaa (yac ?_)));by_cases hp2:v<(set2.length:Int)
    · replace h:=h.1 hp2;refine zc hp2 (yaf (yac (yad (zs (zq (yab H15) ?_)))));obtain ⟨hx,h⟩:=h;refine zq (ydA H13 H15 underlying35 yag (yaB (hS.rdr 0 rfl) hx)) (zq (yar (v:=(ii (gi set2 v.toNat))) rfl underlying3 rfl (rd_1 (hS.rdr 0 rfl) hx (fun q=>yaF q) rfl)) ?_);refine zQ (ii v) (zQ (ii (gi set2 v.toNat)) (yaa (yac (zs (zq (yam H2 underlying24 rfl yag) (zq (zl underlying3 (Row.cell (hS.bx 1 rfl) (i:=0) rfl)) (zM (ii (gi set2 v.toNat)) (zn (yai rfl (am2 rfl rfl) yij ((ydM h (yaz _)).mono ?_))))))))));rintro _ w5 ⟨r2,rfl,hC,h⟩;replace hS:=hS.pur hC.pure;clear hC;refine ⟨_,rfl,?_⟩;refine zb (zq (yds rfl) (yaa ?_));by_cases hp3:r2=true
      · replace h:=h.1 hp3;refine yav (zC (zB hp3)) (yaf (zs (zM (ii v) (zq zG (zM (.bool (decide (0<v))) ?_)))));by_cases hp4:0<v
        · replace h:=h.1 hp4;refine zW rfl rfl (zT hp4) (zm (ii (gi set2 v.toNat))) (zW rfl rfl (zT hp4) (yab H1) (zW rfl rfl (zT hp4) (zm (ii v)) ?_));obtain ⟨hi,h⟩:=h;refine zW rfl rfl (zT hp4) (zS hi) ?_;obtain ⟨hx2,h⟩:=h;refine zW rfl rfl (zT hp4) (zi underlying35 yag (yaB (hS.rdr 0 rfl) hx2)) (zW rfl rfl (zT hp4) (yar (v:=(ii (gi set2 (v-1).toNat))) rfl underlying3 rfl (rd_1 (hS.rdr 0 rfl) hx2 (fun q=>yaF q) rfl)) ?_);refine zW rfl rfl (zT hp4) (v_leq rfl rfl) (zq (yan (v:=(.bool (decide ((gi set2 v.toNat)≤(gi set2 (v-1).toNat))))) (zT hp4) rfl) (yaa ?_));by_cases hp5:(gi set2 v.toNat)≤(gi set2 (v-1).toNat)
          · replace h:=h.1 hp5;exact zc hp5 (zs (zQ (ii 9) (yaa (yah rfl rfl ⟨_,rfl,(hS.sel []),h⟩))))
          · replace h:=h.2 hp5;refine zd hp5 (yaf (yae (zr ?_)));obtain ⟨hi2,h⟩:=h;refine zq (yb3 H15 rfl hi2) (zM (ii (v+1)) (yaa ?_));obtain ⟨mq,hlt,h⟩:=h;exact ag mq _ _ _ ⟨_,h,rfl,H1,H2,H13,H14,rfl,(hS.sel [0,1,2])⟩ hlt
        · replace h:=h.2 hp4;refine zV rfl rfl (zF hp4) (zV rfl rfl (zF hp4) (zV rfl rfl (zF hp4) (zV rfl rfl (zF hp4) (zV rfl rfl (zF hp4) (zV rfl rfl (zF hp4) (zV rfl rfl (zF hp4) (zq (yaj (v:=(.bool (false))) (zF hp4) rfl) (yaa (yav rfl (yaf (yae (zr ?_))))))))))));obtain ⟨hi3,h⟩:=h;refine zq (yb3 H15 rfl hi3) (zM (ii (v+1)) (yaa ?_));obtain ⟨mq,hlt,h⟩:=h;exact ag mq _ _ _ ⟨_,h,rfl,H1,H2,H13,H14,rfl,(hS.sel [0,1,2])⟩ hlt
      · replace h:=h.2 hp3;exact yaq (zC (zB (zI hp3))) (zs (zQ (ii 2) (yaa (yah rfl rfl ⟨_,rfl,(hS.sel []),h⟩))))
    · replace h:=h.2 hp2;exact zd hp2 (yas rfl (zs (zQ (ii 0) (yaa (yah rfl rfl ⟨_,rfl,(hS.sel []),h⟩)))))
  · replace h:=h.2 hp;exact zf hp (zs (zM (ii r) (zQ (ii r) (yaa (yah rfl rfl ⟨_,rfl,(hS.sel []),h⟩)))))
end Go.Proofs.YtencmgolklfmkaaGreat

/- What the references' pure forms come to: graphs and divisors. -/
namespace Go.Proofs.YtencmgolklfmkaaGreat
open Go Go.Proofs.Tryz
theorem yeA{n v:Int}{es:List E3}{R:Bool→Prop}(h:R (decide (0≤v∧v<n))):ycF n es v R:=by
  unfold ycF
  refine ⟨fun h1=>?_,fun h1=>?_⟩
  · have e:decide (v<n)=decide (0≤v∧v<n):=by simp [h1]
    rw [e];exact h
  · have e:false=decide (0≤v∧v<n):=by simp [h1]
    rw [e];exact h
theorem p_r08_edge{n:Int}{es:List E3}{k:Nat}{R:Int→Prop}(hk:k<es.length)(hl:es.length≤1000000000)(h:R (yeY n (pre es k).1 (pre es k).2 (ge es k))):yc5 n es (k:Int) R:=by
  unfold yc5
  simp only [Int.toNat_natCast]
  generalize hx:ge es k=x at h ⊢
  refine ⟨by omega,(0≤x.1∧x.1<n)∧(0≤x.2.1∧x.2.1<n)∧1≤x.2.2∧x.2.2≤50,fun hJ=>?_,?_⟩
  · have hed:∀ a b,yeY n a b x=if x.1≤x.2.1∧ygK a b x.1 x.2.1<0 then 0 else 9:=fun a b=>by unfold yeY;rw [if_pos hJ]
    rw [hed] at h
    refine ⟨fun q=>by rw [if_neg (by omega)] at h;exact h,fun q=>⟨fun h0=>?_,fun h0=>?_⟩⟩
    · have e1:((k:Int)-1).toNat=k-1:=by omega
      rw [e1]
      have hp:pre es k=((ge es (k-1)).1,(ge es (k-1)).2.1):=by unfold pre;rw [if_neg (by omega)]
      rw [hp] at h
      have hc:=ygt (ge es (k-1)).1 (ge es (k-1)).2.1 x.1 x.2.1
      refine ⟨i64 (by omega),by omega,fun q1=>?_,fun q1=>⟨fun q2=>⟨fun q3=>?_,fun q3=>?_⟩,fun q2=>?_⟩⟩
      · rw [if_neg (fun h=>by have:=hc.1 h.2;omega)] at h;exact h
      · rw [if_neg (fun h=>by have:=hc.1 h.2;omega)] at h;exact h
      · rw [if_pos ⟨by omega,hc.2 (by omega)⟩] at h;exact h
      · rw [if_pos ⟨by omega,hc.2 (by omega)⟩] at h;exact h
    · have hp:pre es k=(-1, -1):=by unfold pre;rw [if_pos (by omega)]
      rw [hp,if_pos ⟨by omega,(ygt _ _ _ _).2 (.inl (by omega))⟩] at h
      exact h
  · have hed:¬((0≤x.1∧x.1<n)∧(0≤x.2.1∧x.2.1<n)∧1≤x.2.2∧x.2.2≤50)→R 2:=fun q=>by unfold yeY at h;rwa [if_neg q] at h
    refine yeA ⟨fun h1=>yeA ⟨fun h2=>⟨fun h3=>hed (by omega),fun h3=>⟨fun h4=>hed (by omega),fun h4=>?_⟩⟩,fun h2=>hed (by simp at h2;omega)⟩,fun h1=>hed (by simp at h1;omega)⟩
    simp only [decide_eq_true_eq] at h1 h2
    exact ⟨h1,h2,by omega,by omega⟩
theorem yhV{n:Int}{es:List E3}{R:Int→Prop}(hl:es.length≤1000000000)(h:R (yat n es)):ybV n es R:=by
  unfold ybV
  have hout:¬(1≤n∧n≤12)→R 2:=fun q=>by unfold yat at h;rwa [if_neg q] at h
  refine ⟨1≤n∧n≤12,fun hn=>?_,fun q=>hout (by omega),fun q=>⟨fun q2=>hout (by omega),fun q2=>⟨by omega,by omega⟩⟩⟩
  have hg:yat n es=gchk n (-1) (-1) es:=by unfold yat;rw [if_pos hn]
  rw [hg] at h
  refine ⟨Cnt es.length (fun k=>gchk n (-1) (-1) es=gchk n (pre es k).1 (pre es k).2 (es.drop k)),Cnt.start rfl,?_⟩
  rintro m _ ⟨k,rfl,rfl,hk,hinv⟩
  refine ⟨fun hlt=>p_r08_edge (by omega) hl ⟨fun h0=>Cnt.next (by omega) (by omega) ?_,fun h0=>?_⟩,fun hge=>?_⟩
  · rw [yfM (by omega),yea,if_pos h0] at hinv
    rw [hinv];simp [pre]
  · rw [yfM (by omega),yea,if_neg h0] at hinv
    rwa [hinv] at h
  · have hk2:k=es.length:=by omega
    rw [hinv,hk2,List.drop_length] at h
    exact h
theorem p_r08_Between' {n:Int}{es:List E3}{a b:Int}{R:Int→Prop}(hl:es.length≤1000000000)(h:R (((es.find? fun x=>decide (x.1=mnF a b∧x.2.1=mxF a b)).map (·.2.2)).getD 0)):ybn n es a b R:=by
  unfold ybn
  refine ⟨Cnt es.length (fun k=>es.find? (fun x=>decide (x.1=mnF a b∧x.2.1=mxF a b))=(es.drop k).find? (fun x=>decide (x.1=mnF a b∧x.2.1=mxF a b))),Cnt.start rfl,?_⟩
  rintro m _ ⟨k,rfl,rfl,hk,hinv⟩
  refine ⟨fun hlt=>?_,fun hge=>?_⟩
  · have hlt:k<es.length:=by omega
    rw [yfM hlt,List.find?_cons] at hinv
    simp only [Int.toNat_natCast]
    refine ⟨by omega,fun h1=>⟨fun h2=>?_,fun h2=>Cnt.next hlt (by omega) ?_⟩,fun h1=>Cnt.next hlt (by omega) ?_⟩
    · rw [hinv] at h;simpa [h1,h2] using h
    · rw [hinv];simp [h2]
    · rw [hinv];simp [h1]
  · have hk2:k=es.length:=by omega
    rw [hinv,hk2,List.drop_length] at h
    exact h
theorem ygQ{n:Int}{es:List E3}{u v:Nat}{R:Int→Prop}(hl:es.length≤1000000000)(hg:yat n es=0)(huv:u≠v)(h:R (W es u v)):ybn n es (u:Int) (v:Int) R :=
  p_r08_Between' hl (by rw [yfO u v huv es (-1) (-1) (ycl hg)];exact h)
def ybd(es:List E3):List (Int×Int):=es.flatMap fun x=>List.replicate x.2.2.toNat (x.1,x.2.1)
theorem endsF_take{es:List E3}{k:Nat}(hk:k<es.length):ybd (es.take (k+1))=ybd (es.take k)++List.replicate (ge es k).2.2.toNat ((ge es k).1,(ge es k).2.1):=by
  unfold ybd
  rw [List.take_add_one,List.getElem?_eq_getElem hk,ydg hk,List.flatMap_append]
  simp
theorem yeh(es:List E3)(hE:∀ x∈es,1≤x.2.2∧x.2.2≤50):((ybd es).length:Int)=(es.map (·.2.2)).sum∧(ybd es).length≤50*es.length:=by
  induction es with
  | nil=>simp [ybd]
  | cons x t ih =>
    have hx:=hE x (by simp)
    have:=ih fun y hy=>hE y (by simp [hy])
    unfold ybd at this ⊢
    rw [List.flatMap_cons,List.length_append,List.length_replicate,List.map_cons,List.sum_cons,List.length_cons]
    omega
theorem p_r08_Ends{n:Int}{es:List E3}{R:List (Int×Int)→Prop}(hl:es.length≤1000)(hE:∀ x∈es,1≤x.2.2∧x.2.2≤50)(h:R (ybd es)):yci n es R:=by
  unfold yci
  have hlen:∀ k,(ybd (es.take k)).length≤50*k:=fun k=>by
    have:=(yeh (es.take k) fun x hx=>hE x (List.mem_of_mem_take hx)).2
    rw [List.length_take] at this
    omega
  refine ⟨fun m out i=>Cnt es.length (fun k=>out=ybd (es.take k)) m i,Cnt.start (by simp [ybd]),?_⟩
  rintro m out _ ⟨k,rfl,rfl,hk,rfl⟩
  refine ⟨fun hlt=>?_,fun hge=>?_⟩
  · have hlt:k<es.length:=by omega
    have hmk:=hE _ (ge_mem hlt)
    have hl2:=hlen k
    simp only [Int.toNat_natCast]
    refine ⟨fun m2 out2 j=>Cnt (ge es k).2.2.toNat (fun i=>out2=ybd (es.take k)++List.replicate i ((ge es k).1,(ge es k).2.1)) m2 j,Cnt.start (by simp),?_⟩
    rintro m2 out2 _ ⟨j,rfl,rfl,hj,rfl⟩
    refine ⟨by omega,fun h1=>⟨?_,Cnt.next (by omega) (by omega) ?_⟩,fun h1=>Cnt.next hlt (by omega) ?_⟩
    · rw [List.length_append,List.length_replicate];omega
    · rw [List.append_assoc,List.replicate_succ']
    · have:j=(ge es k).2.2.toNat:=by omega
      rw [endsF_take hlt,this]
  · have hk2:k=es.length:=by omega
    rw [hk2,List.take_length];exact h
theorem p_r08_Size{n:Int}{es:List E3}{R:Int→Prop}(hl:es.length≤1000)(hE:∀ x∈es,1≤x.2.2∧x.2.2≤50)(h:R ((es.map (·.2.2)).sum)):ycz n es R :=
  p_r08_Ends hl hE (by rw [(yeh es hE).1];exact h)
theorem p_r08_small{n a b:Int}{es:List E3}{R:Bool→Prop}(h:R (smallF n es a b)):ydH n es a b R:=by
  unfold ydH
  unfold smallF at h
  refine ⟨fun h1=>?_,fun h1=>yhV (by omega) ⟨fun h2=>⟨fun h3=>?_,fun h3=>?_⟩,fun h2=>?_⟩⟩
  · rwa [decide_eq_false (by omega)] at h
  · have hE:=gchk_ok es _ _ (ycl h2)
    refine p_r08_Size (by omega) (fun x hx=>(hE x hx).2.2.2.2) ?_
    have e:decide ((es.map (·.2.2)).sum≤b)=decide (es.length≤40∧(yat n es=0→n≤a∧(es.map (·.2.2)).sum≤b)):=by
      rw [decide_eq_decide];constructor
      · intro q;exact ⟨by omega,fun _=>⟨h3,q⟩⟩
      · intro q;exact (q.2 h2).2
    rw [e];exact h
  · rwa [decide_eq_false (fun q=>h3 (q.2 h2).1)] at h
  · rwa [decide_eq_true ⟨by omega,fun q=>absurd q h2⟩] at h
end Go.Proofs.YtencmgolklfmkaaGreat

/- What the references' pure forms come to: connectedness, errors, scripts. -/
namespace Go.Proofs.YtencmgolklfmkaaGreat
open Go Go.Proofs.Tryz
section
variable {n : Nat} {es : List E3}
theorem ygS{v:Nat}{R:List Bool→Prop}(hl:es.length≤1000000000)(hg:yat n es=0)(hv:v<n)(h:∀ o:List Bool,o.length=n→(∀ u,u<n→gb o u=decide (root (yap es) u=root (yap es) v))→R o):ycQ (n:Int) es (v:Int) R:=by
  obtain ⟨hE,hn1,hn12⟩:=ybr hg
  unfold ycQ
  simp only [Int.toNat_natCast]
  refine ⟨by omega,by simp;omega,?_⟩
  let Q:List Bool→Prop:=fun o=>o.length=n∧gb o v=true∧∀ u,u<n→gb o u=true→root (yap es) u=root (yap es) v
  let Z:List Bool→List Bool→Prop:=fun o0 o=>(Cl n es o0→o=o0)∧(o=o0∨cf o<cf o0)∧∀ a,gb o0 a=true→gb o a=true
  have hq4:Q ((List.replicate n false).set v true):=by
    refine ⟨by simp,by rw [ycX (by simpa using hv),if_pos rfl],fun u hu h=>?_⟩
    rw [ycX (by simpa using hv)] at h
    split at h
    · rename_i e;rw [e]
    · rw [gb_rep] at h;cases h
  have hcf0:cf ((List.replicate n false).set v true)+1=n:=by
    rw [cf_set (by simpa using hv) (gb_rep n v)]
    unfold cf
    rw [List.filter_eq_self.2 (fun x hx=>by rw [(List.mem_replicate.1 hx).2];rfl)]
    simp
  have hsetQ:∀ {o:List Bool} {b:Nat},Q o→b<n→root (yap es) b=root (yap es) v→Q (o.set b true):=by
    rintro o b ⟨q1,q4,q5⟩ hb hr
    have hbl:b<o.length:=by omega
    refine ⟨by simpa using q1,?_,fun u hu h=>?_⟩
    · rw [ycX hbl];split <;> first | rfl | exact q4
    · rw [ycX hbl] at h
      split at h
      · rename_i e;rw [e];exact hr
      · exact q5 u hu h
  refine ⟨fun m i o=>Cnt n (fun k=>Q o∧(Cl n es o∨cf o+k+1≤n)) m i,Cnt.start ⟨hq4, .inr (by omega)⟩,?_⟩
  rintro m _ o0 ⟨k,rfl,rfl,hk,hq5,hpr⟩
  refine ⟨fun hlt=>?_,fun hge=>?_⟩
  · refine ⟨fun m i o=>Cnt n (fun a=>Q o∧Z o0 o∧∀ a',a'<a→gb o0 a'=true→∀ b,b<n→0<W es a' b→gb o b=true) m i,Cnt.start ⟨hq5,⟨fun _=>rfl, .inl rfl,fun _ h=>h⟩,fun a' h=>absurd h (by omega)⟩,?_⟩
    rintro m _ o ⟨a,rfl,rfl,ha,hq6,hz,hdone⟩
    refine ⟨fun hlta=>?_,fun hgea=>?_⟩
    · refine ⟨fun m i o=>Cnt n (fun b=>Q o∧Z o0 o∧(∀ a',a'<a→gb o0 a'=true→∀ b,b<n→0<W es a' b→gb o b=true)∧(gb o0 a=true→∀ b',b'<b→0<W es a b'→gb o b'=true)) m i,Cnt.start ⟨hq6,hz,hdone,fun _ b' h=>absurd h (by omega)⟩,?_⟩
      clear hq6 hz hdone hq5
      rintro m _ o ⟨b,rfl,rfl,hb,hq7,hz,hdone,hnow⟩
      have hol:=hq7.1
      refine ⟨fun hltb=>⟨by omega,fun hx=>?_,fun hx=>Cnt.next (by omega) (by omega) ⟨hq7,hz,hdone,fun h=>absurd (hz.2.2 a h) (by simpa using hx)⟩⟩,fun hgeb=>?_⟩
      · simp only [Int.toNat_natCast] at hx ⊢
        have hstep:(a≠b→0<W es a b)→Q (o.set b true)∧Z o0 (o.set b true)∧(∀ a',a'<a→gb o0 a'=true→∀ b',b'<n→0<W es a' b'→gb (o.set b true) b'=true)∧(gb o0 a=true→∀ b',b'<b+1→0<W es a b'→gb (o.set b true) b'=true):=by
          intro hW
          have hbl:b<o.length:=by omega
          have hup:∀ x,gb o x=true→gb (o.set b true) x=true:=fun x h=>by rw [ycX hbl];split <;> first | rfl | exact h
          have hrb:root (yap es) b=root (yap es) v:=by
            have h1:=hq7.2.2 a (by omega) hx
            by_cases eab:a=b
            · rw [←eab];exact h1
            · rw [←root_W hE hn1 hn12 (hW eab)];exact h1
          refine ⟨hsetQ hq7 (by omega) hrb,⟨fun hcl=>?_,?_,fun x h=>hup x (hz.2.2 x h)⟩,fun a' h1 h2 b' h3 h4=>hup _ (hdone a' h1 h2 b' h3 h4),fun h1 b' h2 h3=>?_⟩
          · have e0:=hz.1 hcl
            subst e0
            refine set_same ?_
            by_cases eab:a=b
            · rw [←eab];exact hx
            · exact hcl a b (by omega) (by omega) hx (hW eab)
          · cases hob:gb o b with
            | true=>rw [set_same hob];exact hz.2.1
            | false =>
              have:=cf_set hbl hob
              rcases hz.2.1 with h | h
              · right;rw [←h];omega
              · right;omega
          · by_cases e2:b'=b
            · subst e2;rw [ycX hbl,if_pos rfl]
            · exact hup _ (hnow h1 b' (by omega) h3)
        have hpass:¬0<W es a b→(gb o0 a=true→∀ b',b'<b+1→0<W es a b'→gb o b'=true):=fun h h1 b' h2 h3=>by
          by_cases e2:b'=b
          · subst e2;exact absurd h3 h
          · exact hnow h1 b' (by omega) h3
        by_cases eab:a=b
        · subst eab
          refine p_r08_Between' hl ⟨fun h=>⟨by omega,Cnt.next (by omega) (by omega) (hstep fun h=>absurd rfl h)⟩,fun h=>Cnt.next (by omega) (by omega) ⟨hq7,hz,hdone,hpass (by rw [show W es a a=0 from W_self es a];omega)⟩⟩
        · refine ygQ hl hg eab ⟨fun h=>⟨by omega,Cnt.next (by omega) (by omega) (hstep fun _=>h)⟩,fun h=>Cnt.next (by omega) (by omega) ⟨hq7,hz,hdone,hpass h⟩⟩
      · have hbn:b=n:=by omega
        subst hbn
        refine Cnt.next (by omega) (by omega) ⟨hq7,hz,fun a' h1 h2 b' h3 h4=>?_⟩
        by_cases e2:a'=a
        · subst e2;exact hnow h2 b' h3 h4
        · exact hdone a' (by omega) h2 b' h3 h4
    · have han:a=n:=by omega
      subst han
      refine Cnt.next (by omega) (by omega) ⟨hq6,?_⟩
      by_cases hcl:Cl a es o0
      · rw [hz.1 hcl];exact .inl hcl
      · rcases hz.2.1 with h | h
        · exfalso
          subst h
          exact hcl fun x y hx hy h1 h2=>hdone x hx h1 y hy h2
        · rcases hpr with h2 | h2
          · exact absurd h2 hcl
          · right;omega
  · have hkn:k=n:=by omega
    subst hkn
    rcases hpr with q | q
    · exact h o0 hq5.1 (cl_root hE hn1 hn12 q hv hq5.2.1 hq5.2.2)
    · omega
theorem p_r08_Parts{R:Int→Prop}(hl:es.length≤1000000000)(hg:yat n es=0)(h:∀ k:Int,(k=1↔yd0 n es=true)→R k):yca (n:Int) es R:=by
  obtain ⟨hE,hn1,hn12⟩:=ybr hg
  have hcr:=conn_root hE hn1 hn12
  unfold yca
  simp only [Int.toNat_natCast]
  refine ⟨by omega,?_⟩
  refine ⟨fun m k i o=>Cnt n (fun v=>0≤k∧k≤v∧(v=0→k=0)∧(0<v→1≤k∧(k=1↔∀ x,x<v→root (yap es) x=root (yap es) 0))∧o.length=n∧(∀ u,u<n→(gb o u=true↔∃ x,x<v∧root (yap es) u=root (yap es) x))) m i,
    Cnt.start ⟨by omega,by omega,fun _=>rfl,fun h=>absurd h (by omega),by simp,fun u _=>by rw [gb_rep];simp⟩,?_⟩
  rintro m k _ o ⟨v,rfl,rfl,hv,k0,k1,k2,k3,hol,hseen⟩
  refine ⟨fun hlt=>?_,fun hge=>?_⟩
  · have hlt:v<n:=by omega
    simp only [Int.toNat_natCast]
    refine ⟨by omega,fun hx=>?_,fun hx=>⟨i64 (by omega),ygS hl hg hlt fun ro hrl hro=>?_⟩⟩
    · obtain ⟨x,hxv,hxr⟩:=(hseen v hlt).1 hx
      refine Cnt.next hlt (by omega) ⟨k0,by omega,fun h=>absurd h (by omega),fun _=>?_,hol,fun u hu=>?_⟩
      · have h3:=k3 (by omega)
        refine ⟨h3.1,?_⟩
        rw [h3.2]
        constructor
        · intro h y hy
          by_cases e:y=v
          · subst e;rw [hxr];exact h x hxv
          · exact h y (by omega)
        · intro h y hy;exact h y (by omega)
      · rw [hseen u hu]
        constructor
        · rintro ⟨y,hy,hyr⟩;exact ⟨y,by omega,hyr⟩
        · rintro ⟨y,hy,hyr⟩
          by_cases e:y=v
          · subst e;exact ⟨x,hxv,hyr.trans hxr⟩
          · exact ⟨y,by omega,hyr⟩
    · refine ⟨fun m i o'=>Cnt n (fun u=>o'.length=n∧(∀ x,x<n→(gb o' x=true↔(gb o x=true∨(x<u∧gb ro x=true))))) m i,Cnt.start ⟨hol,fun x _=>by simp⟩,?_⟩
      rintro m _ o' ⟨u,rfl,rfl,hu,hol',hor⟩
      refine ⟨fun hltu=>?_,fun hgeu=>?_⟩
      · have hltu:u<n:=by omega
        simp only [Int.toNat_natCast]
        have hou:=hor u hltu
        have st:∀ b:Bool,(b=true↔(gb o u=true∨gb ro u=true))→(o'.set u b).length=n∧(∀ x,x<n→(gb (o'.set u b) x=true↔(gb o x=true∨(x<u+1∧gb ro x=true)))):=fun b hbb=>by
          refine ⟨by simpa using hol',fun x hx=>?_⟩
          rw [ycX (by omega)]
          by_cases e:x=u
          · subst e
            rw [if_pos rfl,hbb]
            constructor
            · rintro (h | h)
              · exact .inl h
              · exact .inr ⟨by omega,h⟩
            · rintro (h | h)
              · exact .inl h
              · exact .inr h.2
          · rw [if_neg e,hor x hx]
            constructor
            · rintro (h | h)
              · exact .inl h
              · exact .inr ⟨by omega,h.2⟩
            · rintro (h | h)
              · exact .inl h
              · exact .inr ⟨by omega,h.2⟩
        refine ⟨by omega,fun hx2=>Cnt.next hltu (by omega) (st true ?_),fun hx2=>⟨by omega,Cnt.next hltu (by omega) (st _ ?_)⟩⟩
        · have:=hou.1 hx2
          constructor
          · intro _;rcases this with h | h
            · exact .inl h
            · exact .inr h.2
          · intro _;rfl
        · constructor
          · intro h;exact .inr h
          · rintro (h | h)
            · exact absurd (hou.2 (.inl h)) hx2
            · exact h
      · have hun:u=n:=by omega
        subst hun
        have hnew:¬ ∃ x,x<v∧root (yap es) v=root (yap es) x:=fun h=>hx ((hseen v hlt).2 h)
        refine Cnt.next (by omega) (by omega) ⟨by omega,by omega,fun h=>absurd h (by omega),fun _=>⟨by omega,?_⟩,hol',fun x hxn=>?_⟩
        · by_cases e0:v=0
          · subst e0
            have:=k2 rfl
            subst this
            constructor
            · intro _ y hy;rw [show y=0 by omega]
            · intro _;rfl
          · have h3:=k3 (by omega)
            constructor
            · intro h;omega
            · intro h;exact absurd ⟨0,by omega,h v (by omega)⟩ hnew
        · rw [hor x hxn,hseen x hxn,hro x hxn,decide_eq_true_eq]
          constructor
          · rintro (⟨y,hy,hyr⟩ | h)
            · exact ⟨y,by omega,hyr⟩
            · exact ⟨v,by omega,h.2⟩
          · rintro ⟨y,hy,hyr⟩
            by_cases e:y=v
            · subst e;exact .inr ⟨hxn,hyr⟩
            · exact .inl ⟨y,by omega,hyr⟩
  · have hvn:v=n:=by omega
    subst hvn
    refine h k ?_
    rw [(k3 (by omega)).2,hcr]
theorem yde{R:Bool→Prop}(hl:es.length≤1000000000)(hg:yat n es=0)(h:R (yd0 n es)):ybv (n:Int) es R :=
  p_r08_Parts hl hg fun k hk=>by
    have e:decide (k=1)=yd0 n es:=by rw [Bool.eq_iff_iff,decide_eq_true_eq];exact hk
    rw [e];exact h
end
section
variable {n q : Int} {es : List E3} {d s : List Int}
end
end Go.Proofs.YtencmgolklfmkaaGreat

/- What the pure forms of the program's and the library's small functions come to. -/
namespace Go.Proofs.YtencmgolklfmkaaGreat
open Go Go.Proofs.Tryz
end Go.Proofs.YtencmgolklfmkaaGreat

/- What the library's pure forms come to: search, minimum, order. -/
namespace Go.Proofs.YtencmgolklfmkaaGreat
open Go Go.Proofs.Tryz
theorem p_slices_Index{s:List Int}{v:Int}{R:Int→Prop}(hl:s.length≤1000000000)(h1:∀ k:Nat,k<s.length→gi s k=v→R (k:Int))(h2:(∀ k,k<s.length→gi s k≠v)→R (-1)):ybC s v R:=by
  unfold ybC
  refine ⟨Cnt s.length (fun k=>∀ j,j<k→gi s j≠v),Cnt.start (fun j hj=>absurd hj (by omega)),?_⟩
  rintro m _ ⟨k,rfl,rfl,hk,hinv⟩
  simp only [Int.toNat_natCast]
  refine ⟨fun hlt=>⟨by omega,fun h=>h1 k (by omega) h.symm,fun h=>Cnt.next (by omega) (by omega) fun j hj=>?_⟩,fun hge=>h2 fun j hj=>hinv j (by omega)⟩
  by_cases e:j=k
  · subst e;exact fun q=>h q.symm
  · exact hinv j (by omega)
theorem yg7{s:List Int}{v:Int}{R:Bool→Prop}(hl:s.length≤1000000000)(h:R (decide (v∈s))):ybf s v R:=by
  unfold ybf
  refine p_slices_Index hl (fun k hk hp=>?_) (fun hn=>?_)
  · rw [decide_eq_true (by rw [←hp];exact yjg hk)] at h
    have e:decide (0≤(k:Int))=true:=by simp
    rw [e];exact h
  · have e:¬v∈s:=fun q=>by
      obtain ⟨k,hk,rfl⟩:=List.getElem_of_mem q
      exact hn k hk (ybe hk)
    rw [decide_eq_false e] at h;exact h
end Go.Proofs.YtencmgolklfmkaaGreat

/- What the pure forms of chips, graph and firing come to. -/
namespace Go.Proofs.YtencmgolklfmkaaGreat
open Go Go.Proofs.Tryz
theorem yeI{n v:Int}{R:Bool→Prop}(h:R (decide (0≤v∧v<n))):ybp n v R:=by
  unfold ybp
  refine ⟨fun h1=>?_,fun h1=>?_⟩
  · have e:decide (v<n)=decide (0≤v∧v<n):=by simp [h1]
    rw [e];exact h
  · have e:false=decide (0≤v∧v<n):=by simp [h1]
    rw [e];exact h
theorem ygZ{a b:Int}{R:Int→Prop}(h:R (cmpF a b)):ybu a b R:=by
  unfold ybu ycn
  unfold cmpF at h
  refine ⟨fun q=>absurd q (by simp),fun _=>⟨fun q=>absurd q (by simp),fun _=>⟨fun h1=>by rwa [if_pos h1] at h,fun h1=>?_⟩⟩⟩
  rw [if_neg h1] at h
  refine ⟨fun h2=>by rwa [if_pos h2] at h,fun h2=>by rwa [if_neg h2] at h⟩
theorem p_cmp_Or2{x y:Int}{R:Int→Prop}(h:R (orF x y)):yc7 [x,y] R:=by
  unfold yc7
  unfold orF at h
  refine ⟨Cnt 2 (fun k=>∀ j,j<k→gi [x,y] j=0),Cnt.start (fun j hj=>absurd hj (by omega)),?_⟩
  rintro m _ ⟨k,rfl,rfl,hk,hinv⟩
  simp only [Int.toNat_natCast,List.length_cons,List.length_nil]
  have hk3:k=0∨k=1∨k=2:=by omega
  have g0:gi [x,y] 0=x:=rfl
  have g1:gi [x,y] 1=y:=rfl
  have hnx:gi [x,y] k=0→∀ j,j<k+1→gi [x,y] j=0:=fun q j hj=>by
    by_cases e:j=k
    · subst e;exact q
    · exact hinv j (by omega)
  refine ⟨fun hlt=>⟨by omega,fun q=>Cnt.next (by omega) (by omega) (hnx q),fun q=>?_⟩,fun hge=>?_⟩
  · rcases hk3 with rfl | rfl | rfl
    · rw [g0] at q ⊢;rwa [if_pos q] at h
    · have h0:=hinv 0 (by omega)
      rw [g0] at h0
      rw [g1];rwa [if_neg (fun q2=>q2 h0)] at h
    · exact absurd hlt (by omega)
  · have:k=2:=by omega
    subst this
    have h0:=hinv 0 (by omega)
    have h1:=hinv 1 (by omega)
    rw [g0] at h0
    rw [g1] at h1
    rw [if_neg (fun q2=>q2 h0),h1] at h;exact h
theorem p_pair_compare{a b c d:Int}{R:Int→Prop}(h:R (ygK a b c d)):ybU a b c d R :=
  ygZ (ygZ (p_cmp_Or2 h))
theorem yc9{n:Int}{es:List E3}{R:Int→Prop}(hl:es.length≤1000000000)(h:R (yat n es)):ybF n es R:=by
  unfold ybF
  have hout:¬(1≤n∧n≤12)→R 2:=fun q=>by unfold yat at h;rwa [if_neg q] at h
  refine ⟨1≤n∧n≤12,fun hn=>?_,fun q=>hout (by omega),fun q=>⟨fun q2=>hout (by omega),fun q2=>⟨by omega,by omega⟩⟩⟩
  have hg:yat n es=gchk n (-1) (-1) es:=by unfold yat;rw [if_pos hn]
  rw [hg] at h
  refine ⟨fun m i a b=>Cnt es.length (fun k=>a=(pre es k).1∧b=(pre es k).2∧gchk n (-1) (-1) es=gchk n (pre es k).1 (pre es k).2 (es.drop k)) m i,Cnt.start ⟨rfl,rfl,rfl⟩,?_⟩
  rintro m _ _ _ ⟨k,rfl,rfl,hk,rfl,rfl,hinv⟩
  simp only [Int.toNat_natCast]
  refine ⟨fun hlt=>⟨by omega,?_⟩,fun hge=>?_⟩
  · have hlt:k<es.length:=by omega
    rw [yfM hlt,yea] at hinv
    generalize hx:ge es k=x at hinv ⊢
    have hed:R (if yeY n (pre es k).1 (pre es k).2 x=0 then gchk n x.1 x.2.1 (es.drop (k+1)) else yeY n (pre es k).1 (pre es k).2 x):=by rw [←hinv];exact h
    have h2:¬((0≤x.1∧x.1<n)∧(0≤x.2.1∧x.2.1<n)∧1≤x.2.2∧x.2.2≤50)→R 2:=fun q=>by
      unfold yeY at hed;rw [if_neg q,if_neg (by omega)] at hed;exact hed
    refine ⟨(0≤x.1∧x.1<n)∧(0≤x.2.1∧x.2.1<n)∧1≤x.2.2∧x.2.2≤50,fun hJ=>?_,yeI ⟨fun q1=>yeI ⟨fun q2=>⟨fun q3=>h2 (by omega),fun q3=>⟨fun q4=>h2 (by omega),fun q4=>?_⟩⟩,fun q2=>h2 (by simp at q2;omega)⟩,fun q1=>h2 (by simp at q1;omega)⟩⟩
    · have he:yeY n (pre es k).1 (pre es k).2 x=if x.1≤x.2.1∧ygK (pre es k).1 (pre es k).2 x.1 x.2.1<0 then 0 else 9:=by unfold yeY;rw [if_pos hJ]
      rw [he] at hed hinv
      refine ⟨fun q=>?_,fun q=>p_pair_compare ⟨fun q2=>?_,fun q2=>Cnt.next hlt (by omega) ⟨?_,?_,?_⟩⟩⟩
      · rw [if_neg (show ¬(x.1≤x.2.1∧_) by omega),if_neg (by omega)] at hed;exact hed
      · rw [if_neg (show ¬(x.1≤x.2.1∧_) by omega),if_neg (by omega)] at hed;exact hed
      · simp [pre,hx]
      · simp [pre,hx]
      · have hc:x.1≤x.2.1∧ygK (pre es k).1 (pre es k).2 x.1 x.2.1<0:=⟨by omega,by omega⟩
        rw [if_pos hc,if_pos rfl] at hinv
        rw [hinv]
        simp [pre,hx]
    · simp only [decide_eq_true_eq] at q1 q2
      exact ⟨q1,q2,by omega,by omega⟩
  · have hk2:k=es.length:=by omega
    rw [hinv,hk2,List.drop_length] at h
    exact h
def e1(x:E3)(s:Nat→Int)(v:Nat):Int:=(if (v:Int)=x.1 then x.2.2*(s x.1.toNat-s x.2.1.toNat) else 0)-(if (v:Int)=x.2.1 then x.2.2*(s x.1.toNat-s x.2.1.toNat) else 0)
section
variable {n : Nat} {es : List E3} {d s : List Int}
end
end Go.Proofs.YtencmgolklfmkaaGreat

/- A graph is looked through whatever its length: a right one has few edges. -/
namespace Go.Proofs.YtencmgolklfmkaaGreat
open Go Go.Proofs.Tryz
end Go.Proofs.YtencmgolklfmkaaGreat

/- What firing a set comes to. -/
namespace Go.Proofs.YtencmgolklfmkaaGreat
open Go Go.Proofs.Tryz
section
variable {n : Nat} {es : List E3} {d : List Int} {set : List Int}
theorem p_graph_Subset{R:Int→Prop}(hl:es.length≤1000000000)(hsl:set.length≤1000000000)(hg:yat n es=0)(hr:∀ k,k<set.length→0≤gi set k∧gi set k<n)(hs:∀ k,k+1<set.length→gi set k<gi set (k+1))(h:R 0):yb0 (n:Int) es set R:=by
  unfold yb0
  refine yc9 hl ⟨fun _=>?_,fun q=>absurd hg q⟩
  refine ⟨Cnt set.length (fun _=>True),Cnt.start trivial,?_⟩
  rintro m _ ⟨k,rfl,rfl,hk, -⟩
  simp only [Int.toNat_natCast]
  refine ⟨fun hlt=>⟨by omega,yeI ⟨fun _=>⟨fun hk0=>⟨i64 (by omega),by omega,fun q=>?_,fun _=>Cnt.next (by omega) (by omega) trivial⟩,fun _=>Cnt.next (by omega) (by omega) trivial⟩,fun q=>absurd (decide_eq_true (hr k (by omega))) q⟩⟩,fun _=>h⟩
  have:=hs (k-1) (by omega)
  rw [show k-1+1=k by omega] at this
  rw [show ((k:Int)-1).toNat=k-1 by omega] at q
  omega
end
end Go.Proofs.YtencmgolklfmkaaGreat
