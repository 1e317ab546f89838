/- Texts laid together: PVa_2, TabT, PVb, PFe, Mk, Gn, Va, Vn, Vs, Vt, Vu, Vd, Co, Pt, Ve, Vf, Vg, IndV, Vh. -/
import Derived.Test.YtencmgolklfmkaaGreatK4
set_option linter.unusedVariables false
set_option linter.unusedSimpArgs false
set_option linter.unusedSectionVars false
/- Pure forms of functions, made by program (pf.py), each with the proof that the code does so. -/
namespace Go.Proofs.YtencmgolklfmkaaGreat
open Go Go.RowKit Go.Shelf Go.Proofs.Tryz
set_option maxRecDepth 100000
set_option maxHeartbeats 8000000
def ybg(x:List Int)(y:List Int)(R:(List Int)→Prop):Prop :=
ya1 x (fun r =>
(∃ I2:Nat→Int→(List Int)→Prop,(∃ m0,I2 m0 0 r)∧∀ m2 v out,I2 m2 v out → 
((v<(y.length:Int) →
((0≤v∧v<(out.length:Int)) ∧
((0≤v∧v<(y.length:Int)) ∧
(In64 ((gi out v.toNat)-(gi y v.toNat)) ∧
(In64 (v+1) ∧
∃ m3,m3<m2∧I2 m3 (v+1) (out.set v.toNat ((gi out v.toNat)-(gi y v.toNat)))))))) ∧
(¬(v<(y.length:Int)) →
R out))))
theorem yc2{O:Nat→Prop}{w:World}{x y Ax lx cx Ay ly cy}{R:(List Int)→Prop}(h:ybg x y R)(hO:∀ k,O k→k<w.heap.size)(hA0:(FP.sl cI Ax lx cx x).P O w)(hA1:(FP.sl cI Ay ly cy y).P O w) :
    Calls Tryz.prog 60 #[(.slice Ax lx cx),(.slice Ay ly cy)] w fun e w'=>∃ r2 Ar2 lr2 cr2,e = .returned (.slice Ar2 lr2 cr2)∧Sep w no O w' (rl [Res.own cI 3 Ar2 lr2 cr2 r2])∧R r2:=by
  unfold ybg at h;have hS:Sep w no O w (rl [Res.ro (FP.sl cI Ax lx cx x),Res.ro (FP.sl cI Ay ly cy y)]):=Sep.startl hO [(FP.sl cI Ax lx cx x),(FP.sl cI Ay ly cy y)] ⟨hA0,hA1,trivial⟩;refine yal (l:=[(.slice Ax lx cx),(.slice Ay ly cy)]) func60 rfl ntmps60 zY (zs (zQ (.slice none 0 0) (yaa (zs (zM (.slice Ax lx cx) (zn (yai rfl (am1 rfl) enter_79 ((ycx h (yaz _) (hS.rdr 0 rfl)).mono ?_))))))));rintro _ w2 ⟨r,Ar,lr,cr,rfl,hC,h⟩;replace hS:=hS.call1 (hC.widen (ycv (yaP (fI .i64) _ _ _ _ _) ycH) hS.blt) 2 0 rfl;clear hC;refine ⟨_,rfl,?_⟩;refine zb (zQ (.slice Ar lr cr) (yaa (yac (zs (zM (.slice Ay ly cy) (zq (yaG (n:=y.length) rfl underlying35 (yaD (hS.rdr 1 rfl))) (zM (ii 0) (yaa (yad ?_)))))))));obtain ⟨I2,⟨m0,h0⟩,hr⟩:=h;refine yax (fun m E ds w'=>∃ v out,I2 m v out∧ds=[]∧E 1=(Value.slice Ay ly cy)∧E 5=(Value.slice Ar lr cr)∧E 10=(ii (y.length:Int))∧E 11=(ii v)∧Sep w no O w' (rl [Res.ro (FP.sl cI Ay ly cy y),Res.own cI 3 Ar lr cr out])) m0 ⟨_,_,h0,rfl,rfl,rfl,rfl,rfl,(hS.sel [1,2])⟩ ?_;clear h0 hS;rintro m2 E ds w3 ⟨v,out,h,rfl,H1,H5,H10,H11,hS⟩ ag;replace h:=hr m2 v out h;clear hr;refine zs (zq (ydm H11 H10) (yaa (yac ?_)));by_cases hp:v<(y.length:Int)
  · replace h:=h.1 hp;refine zc hp (yaf (yac (yad (zs (zq (yab H11) (zQ (ii v) (yaa (ybq [0,1,2,3,4,5,6,7,8,9,10] st0 yaC (by kernel_rfl) (by kernel_rfl) ?_))))))));replace hS:=hS.drew;refine zp (yab H5) (zp (zm (ii v)) ?_);obtain ⟨hx,h⟩:=h;refine zp (zi underlying35 yag (yaB (hS.rdo 1 rfl) hx)) (zp (yar (v:=(ii (gi out v.toNat))) rfl underlying3 rfl (rd_1 (hS.rdo 1 rfl) hx (fun q=>yaF q) rfl)) ?_);refine zp (yab H1) (zp (zm (ii v)) ?_);obtain ⟨hx2,h⟩:=h;refine zp (zi underlying35 yag (yaB (hS.rdr 0 rfl) hx2)) (zp (yar (v:=(ii (gi y v.toNat))) rfl underlying3 rfl (rd_1 (hS.rdr 0 rfl) hx2 (fun q=>yaF q) rfl)) ?_);obtain ⟨hi,h⟩:=h;refine zp (zS hi) (zp (zi underlying35 yag (yaB (hS.rdo 1 rfl) hx)) (rp_n0 rfl rfl rfl (zt (ii ((gi out v.toNat)-(gi y v.toNat))) yag (hS.wr 1 rfl rfl hx) ?_)));intro w4 e1;replace hS:=hS.st 1 rfl rfl hx (x:=(gi out v.toNat)-(gi y v.toNat)) rfl e1;clear e1;refine zb (ybH (yae (zr ?_)));obtain ⟨hi2,h⟩:=h;refine zq (yb3 H11 rfl hi2) (zM (ii (v+1)) (yaa ?_));obtain ⟨mq,hlt,h⟩:=h;exact ag mq _ _ _ ⟨_,_,h,rfl,H1,H5,H10,rfl,(hS.sel [0,1])⟩ hlt
  · replace h:=h.2 hp;exact zd hp (yas rfl (zs (zq (yab H5) (zQ (.slice Ar lr cr) (yaa (yah rfl rfl ⟨_,_,_,_,rfl,(hS.sel [1]),h⟩))))))
def ycG(l:List (List Int))(x:List Int)(k:Int)(R:Prop):Prop :=
R
theorem yeB{O:Nat→Prop}{w:World}{l x k Al ll cl Ax lx cx}{R:Prop}(h:ycG l x k R)(hO:∀ k,O k→k<w.heap.size)(hA0:(FP.sl (cL cI) Al ll cl l).P O w)(hA1:(FP.sl cI Ax lx cx x).P O w) :
    Calls Tryz.prog 53 #[(.slice Al ll cl),(.slice Ax lx cx),(ii k)] w fun e w'=>∃ gr gr2 gr3,e = .returned (.func (Fn.func 103) #[] #[(.pointer (some ⟨gr,0,none⟩)),(.pointer (some ⟨gr2,0,none⟩)),(.pointer (some ⟨gr3,0,none⟩))])∧Sep w no O w' (rl [Res.box 27 gr [(.slice Al ll cl)],Res.box 35 gr2 [(.slice Ax lx cx)],Res.box 3 gr3 [(ii k)]])∧R:=by
  unfold ycG at h;have hS:Sep w no O w (rl [Res.ro (FP.sl (cL cI) Al ll cl l),Res.ro (FP.sl cI Ax lx cx x)]):=Sep.startl hO [(FP.sl (cL cI) Al ll cl l),(FP.sl cI Ax lx cx x)] ⟨hA0,hA1,trivial⟩;refine yal (l:=[(.slice Al ll cl),(.slice Ax lx cx),(ii k)]) func53 rfl ntmps53 zY (zs (zn (ybm (v:=(.slice Al ll cl)) rfl ?_)));intro g w2 hN;replace hS:Sep w no O w2 (stl _ 2 (Res.box 27 g [(.slice Al ll cl)])):=hS.new 2 rfl hN;clear hN;refine zb (zn (ybm (v:=(.slice Ax lx cx)) rfl ?_));intro g2 w3 hN;replace hS:Sep w no O w3 (stl _ 3 (Res.box 35 g2 [(.slice Ax lx cx)])):=hS.new 3 rfl hN;clear hN;refine zb (zn (ybm (v:=(ii k)) rfl ?_));intro g3 w4 hN;replace hS:Sep w no O w4 (stl _ 4 (Res.box 3 g3 [(ii k)])):=hS.new 4 rfl hN;clear hN;exact zb (zQ Value.nilFunc (yaa (zs (zq (ykf (am0) (am3 rfl rfl rfl)) (zQ (.func (Fn.func 103) #[] #[(.pointer (some ⟨g,0,none⟩)),(.pointer (some ⟨g2,0,none⟩)),(.pointer (some ⟨g3,0,none⟩))]) (yaa (yah rfl rfl ⟨_,_,_,rfl,(hS.sel [2,3,4]),h⟩)))))))
def yby(g:Int)(g2:List E3)(x:List Int)(R:(List (List Int))→Int→Prop):Prop :=
yco g g2 (fun r r2 =>
((r2=0 →
(((x.length:Int)=(r.length:Int) →
(∃ I2:Nat→Int→Prop,(∃ m0,I2 m0 0)∧∀ m2 v,I2 m2 v → 
((v<(x.length:Int) →
((0≤v∧v<(x.length:Int)) ∧
(((gi x v.toNat)<(-1048576) →
R ([]) 2) ∧
(¬((gi x v.toNat)<(-1048576)) →
((1048576<(gi x v.toNat) →
R ([]) 2) ∧
(¬(1048576<(gi x v.toNat)) →
(In64 (v+1) ∧
∃ m3,m3<m2∧I2 m3 (v+1)))))))) ∧
(¬(v<(x.length:Int)) →
yba r g (fun r3 =>
R r3 0))))) ∧
(¬((x.length:Int)=(r.length:Int)) →
R ([]) 8))) ∧
(¬(r2=0) →
R ([]) r2)))
theorem ydy{O:Nat→Prop}{w:World}{g g2 x Ag lg cg Ax lx cx}{R:(List (List Int))→Int→Prop}(h:yby g g2 x R)(hO:∀ k,O k→k<w.heap.size)(hA0:(FP.sl c3 Ag lg cg g2).P O w)(hA1:(FP.sl cI Ax lx cx x).P O w) :
    Calls Tryz.prog 49 #[(.agg #[(ii g),(.slice Ag lg cg)]),(.slice Ax lx cx)] w fun e w'=>∃ r4 r5 Ar3 lr3 cr3,e = .returned (.tuple #[(.slice Ar3 lr3 cr3),(ii r5)])∧Sep w no O w' (rl [Res.ro (FP.sl (cL cI) Ar3 lr3 cr3 r4)])∧R r4 r5:=by
  unfold yby at h;have hS:Sep w no O w (rl [Res.ro (FP.sl c3 Ag lg cg g2),Res.ro (FP.sl cI Ax lx cx x)]):=Sep.startl hO [(FP.sl c3 Ag lg cg g2),(FP.sl cI Ax lx cx x)] ⟨hA0,hA1,trivial⟩;refine yal (l:=[(.agg #[(ii g),(.slice Ag lg cg)]),(.slice Ax lx cx)]) func49 rfl ntmps49 zY (zs (zn (ybm (v:=(.agg #[(ii g),(.slice Ag lg cg)])) rfl ?_)));intro g3 w2 hN;replace hS:Sep w no O w2 (stl _ 2 (Res.box 24 g3 [(ii g),(.slice Ag lg cg)])):=hS.new 2 rfl hN;clear hN;refine zb (zQ (.slice none 0 0) (zQ (ii 0) (yaa (zs (zq (yao (vs:=[(ii g),(.slice Ag lg cg)]) rfl underlying24 rfl yak ⟨Row.cell (hS.bx 2 rfl) (i:=0) rfl,Row.cell (hS.bx 2 rfl) (i:=1) rfl,trivial⟩) (zn (yai rfl (am1 rfl) enter_39 ((yeQ h (yaz _) (hS.rdr 0 rfl)).mono ?_))))))));rintro _ w3 ⟨r,r2,Ar,lr,cr,rfl,hC,h⟩;replace hS:=hS.call1 (hC.widen (ycv (yaP (fP (fI .i64) (fI .i64)) _ _ _ _ _) ycH) hS.blt) 3 0 rfl;clear hC;refine ⟨_,rfl,?_⟩;refine zb (zM (.tuple #[(.slice Ar lr cr),(ii r2)]) (zq (zx (.slice Ar lr cr)) (zq (zx (ii r2)) (zQ (.slice Ar lr cr) (zQ (ii r2) (yaa (yac (zs (zM (ii r2) (zq zN (yaa ?_)))))))))));by_cases hp:r2=0
  · replace h:=h.1 hp;refine ze hp (yaf (yac (zs (zM (.slice Ax lx cx) (zq (yaG (n:=x.length) rfl underlying35 (yaD (hS.rdr 1 rfl))) (zM (.slice Ar lr cr) (zq (yaG (n:=r.length) rfl underlying62 (yaD (hS.rdo 3 rfl))) (zq zN (yaa ?_)))))))));by_cases hp2:(x.length:Int)=(r.length:Int)
    · replace h:=h.1 hp2;refine ze hp2 (yaf (yac (zs (zM (.slice Ax lx cx) (zq (yaG (n:=x.length) rfl underlying35 (yaD (hS.rdr 1 rfl))) (zM (ii 0) (yaa (yad ?_))))))));obtain ⟨I2,⟨m0,h0⟩,hr⟩:=h;refine yax (fun m E ds w'=>∃ v,I2 m v∧ds=[]∧E 2=(Value.pointer (some ⟨g3,0,none⟩))∧E 6=(Value.slice Ar lr cr)∧E 23=(Value.slice Ax lx cx)∧E 24=(ii (x.length:Int))∧E 25=(ii v)∧Sep w no O w' (rl [Res.box 24 g3 [(ii g),(.slice Ag lg cg)],Res.ro (FP.sl c3 Ag lg cg g2),Res.own c2 96 Ar lr cr r,Res.ro (FP.sl cI Ax lx cx x)])) m0 ⟨_,h0,rfl,rfl,rfl,rfl,rfl,rfl,(hS.sel [2,0,3,1])⟩ ?_;clear h0 hS;rintro m2 E ds w4 ⟨v,h,rfl,H2,H6,H23,H24,H25,hS⟩ ag;replace h:=hr m2 v h;clear hr;refine zs (zq (ydm H25 H24) (yaa (yac ?_)));by_cases hp3:v<(x.length:Int)
      · replace h:=h.1 hp3;refine zc hp3 (yaf (yac (yad (zs ?_))));obtain ⟨hx,h⟩:=h;refine zq (ydA H23 H25 underlying35 yag (yaB (hS.rdr 3 rfl) hx)) (zq (yar (v:=(ii (gi x v.toNat))) rfl underlying3 rfl (rd_1 (hS.rdr 3 rfl) hx (fun q=>yaF q) rfl)) ?_);refine zQ (ii (gi x v.toNat)) (yaa (zs (zM (ii (gi x v.toNat)) (zq zL (zM (.bool (decide ((gi x v.toNat)<(-1048576)))) ?_)))));by_cases hp4:(gi x v.toNat)<(-1048576)
        · replace h:=h.1 hp4;refine zV rfl rfl (zT hp4) (zV rfl rfl (zT hp4) (zq (yan (v:=(.bool (true))) (zT hp4) rfl) (yaa (yaq rfl (zs (zQ (.slice none 0 0) (zQ (ii 2) (yaa ?_))))))));replace hS:=hS.addro 4 rfl _ (yeK (cL cI) _ _);exact ya7 rfl rfl rfl ⟨_,_,_,_,_,rfl,(hS.sel [4]),h⟩
        · replace h:=h.2 hp4;refine zW rfl rfl (zF hp4) (zm (ii (gi x v.toNat))) (zW rfl rfl (zF hp4) zG (zq (yaj (v:=(.bool (decide (1048576<(gi x v.toNat))))) (zF hp4) rfl) (yaa ?_)));by_cases hp5:1048576<(gi x v.toNat)
          · replace h:=h.1 hp5;refine zc hp5 (zs (zQ (.slice none 0 0) (zQ (ii 2) (yaa ?_))));replace hS:=hS.addro 4 rfl _ (yeK (cL cI) _ _);exact ya7 rfl rfl rfl ⟨_,_,_,_,_,rfl,(hS.sel [4]),h⟩
          · replace h:=h.2 hp5;refine zd hp5 (yaf (yae (zr ?_)));obtain ⟨hi,h⟩:=h;refine zq (yb3 H25 rfl hi) (zM (ii (v+1)) (yaa ?_));obtain ⟨mq,hlt,h⟩:=h;exact ag mq _ _ _ ⟨_,h,rfl,H2,H6,H23,H24,rfl,(hS.sel [0,1,2,3])⟩ hlt
      · replace h:=h.2 hp3;refine zd hp3 (yas rfl (zs (zq (yab H6) (zq (yam H2 underlying24 rfl yag) (zq (zl underlying3 (Row.cell (hS.bx 0 rfl) (i:=0) rfl)) ?_)))));replace hS:=hS.frz 2 rfl;refine zn (yai rfl (am2 rfl rfl) enter_40 ((yei h hS.blt (hS.ro 2 rfl)).mono ?_));rintro _ w5 ⟨r3,Ar2,lr2,cr2,rfl,hC,h⟩;replace hS:=hS.call1 hC 4 0 rfl;clear hC;refine ⟨_,rfl,?_⟩;exact zb (zQ (.slice Ar2 lr2 cr2) (zQ (ii 0) (yaa (ya7 rfl rfl rfl ⟨_,_,_,_,_,rfl,(hS.sel [4]),h⟩))))
    · replace h:=h.2 hp2;refine zf hp2 (zs (zQ (.slice none 0 0) (zQ (ii 8) (yaa ?_))));replace hS:=hS.addro 4 rfl _ (yeK (cL cI) _ _);exact ya7 rfl rfl rfl ⟨_,_,_,_,_,rfl,(hS.sel [4]),h⟩
  · replace h:=h.2 hp;refine zf hp (zs (zM (ii r2) (zQ (.slice none 0 0) (zQ (ii r2) (yaa ?_)))));replace hS:=hS.addro 4 rfl _ (yeK (cL cI) _ _);exact ya7 rfl rfl rfl ⟨_,_,_,_,_,rfl,(hS.sel [4]),h⟩
def ybI(cap:List (List Int))(cap2:List Int)(cap3:Int)(Pr R:List (List Int)→Prop):Prop :=
(∃ I2:Nat→(List (List Int))→Int→Prop,(∃ m0,I2 m0 ([]) 0)∧∀ m2 pre2 v,I2 m2 pre2 v → 
((v<(cap.length:Int) →
((0≤v∧v<(cap.length:Int)) ∧
ya2 cap2 (gx cap v.toNat) (fun r =>
(In64 (2*r) ∧
ya2 (gx cap v.toNat) (gx cap v.toNat) (fun r2 =>
(In64 (cap3*r2) ∧
(((cap3*r2)<(2*r) →
(Pr (pre2++[(gx cap v.toNat)]) ∧
((In64 (v+1) ∧
∃ m3,m3<m2∧I2 m3 (pre2++[(gx cap v.toNat)]) (v+1)) ∧
True))) ∧
(¬((cap3*r2)<(2*r)) →
(In64 (v+1) ∧
∃ m4,m4<m2∧I2 m4 pre2 (v+1)))))))))) ∧
(¬(v<(cap.length:Int)) →
R pre2)))
theorem ydT{w:World}{T0 G0:BS}{cap cap2 cap3 gc Aa Ab Ac gc2 Ad Ae Af gc3}{Pr R:List (List Int)→Prop}(h:ybI cap cap2 cap3 Pr R)(hS0:Sep w G0 T0 w (rl [Res.box 27 gc [(Value.slice Aa Ab Ac)],Res.ro (FP.sl (cL cI) Aa Ab Ac cap),Res.box 35 gc2 [(Value.slice Ad Ae Af)],Res.ro (FP.sl cI Ad Ae Af cap2),Res.box 3 gc3 [(Value.int .i64 cap3)]])) :
    yhG Tryz.prog 103 #[(.pointer (some ⟨gc,0,none⟩)),(.pointer (some ⟨gc2,0,none⟩)),(.pointer (some ⟨gc3,0,none⟩))] (fun (x:List Int) (b:(Option Addr×Nat×Nat))=>#[(.slice b.1 b.2.1 b.2.2)]) (fun (x:List Int) (b:(Option Addr×Nat×Nat))=>(FP.sl cI b.1 b.2.1 b.2.2 x)) Pr R T0 G0 w:=by
  unfold ybI at h;intro l J Jx T1 w1 hs hJ hp hT;obtain ⟨G,hJ,hS⟩:=gen_startP hS0 hs hJ hp hT;clear hS0 hp hT;refine yh5 (l:=[(.func (.yield l) #[] #[]),(.pointer (some ⟨gc,0,none⟩)),(.pointer (some ⟨gc2,0,none⟩)),(.pointer (some ⟨gc3,0,none⟩))]) func103 rfl ntmps103 zY rfl (zs (zq (zl underlying27 (Row.cell (hS.bx 0 rfl) (i:=0) rfl)) (zq (yaG (n:=cap.length) rfl underlying27 (yaD (hS.rdr 1 rfl))) (zM (ii 0) (yaa (yad ?_))))));obtain ⟨I2,⟨m0,h0⟩,hr⟩:=h;refine yax (fun m E ds w'=>∃ pre2 v,∃ T2:BS,∃ G2:BS,∃ wb2:World,I2 m pre2 v∧ds=[]∧E 0=(Value.func (.yield l) #[] #[])∧E 2=(Value.pointer (some ⟨gc2,0,none⟩))∧E 3=(Value.pointer (some ⟨gc3,0,none⟩))∧E 7=(Value.slice Aa Ab Ac)∧E 8=(ii (cap.length:Int))∧E 9=(ii v)∧J T2 G2 pre2 wb2∧Sep wb2 G2 T2 w' (rl [Res.box 35 gc2 [(.slice Ad Ae Af)],Res.ro (FP.sl cI Ad Ae Af cap2),Res.box 3 gc3 [(ii cap3)],Res.ro (FP.sl (cL cI) Aa Ab Ac cap)])) m0 ⟨_,_,_,_,_,h0,rfl,rfl,rfl,rfl,rfl,rfl,rfl,hJ,(hS.sel [2,3,4,1])⟩ ?_;clear h0 hS hJ;rintro m2 E ds w2 ⟨pre2,v,T2,G2,wb2,h,rfl,H0,H2,H3,H7,H8,H9,hJ,hS⟩ ag;replace h:=hr m2 pre2 v h;clear hr;refine zs (zq (ydm H9 H8) (yaa (yac ?_)));by_cases hp:v<(cap.length:Int)
  · replace h:=h.1 hp;refine zc hp (yaf (yac (yad (zs ?_))));obtain ⟨hx,h⟩:=h;refine zq (ydA H7 H9 underlying27 yaJ (yaB (hS.rdr 3 rfl) hx)) ?_;obtain ⟨A,l2,c,hc,hq⟩:=hS.el 3 rfl hx 4 5 rfl rfl (by decide);replace hS:=hq;clear hq;refine zq (yar (v:=(.slice A l2 c)) rfl underlying35 rfl (hS.clr 5 rfl)) (zQ (.slice A l2 c) (yaa (yac (ybq [0,1,4,5,6,2,3,7,8,9,10,11,12,13,14,15] (fun i=>match i with | 2=>[4,5,6] | 7=>[4,3] | _=>[]) yaC (by kernel_rfl) (by kernel_rfl) ?_))));replace hS:=hS.drew;refine zp (yar H2 underlying35 rfl (Row.cell (hS.bx 0 rfl) (i:=0) rfl)) (zp (zm (.slice A l2 c)) (zp (yar H3 underlying3 rfl (Row.cell (hS.bx 2 rfl) (i:=0) rfl)) (zp (zm (.slice A l2 c)) (zp (zm (.slice A l2 c)) (rp_n rfl rfl rfl rfl (yai rfl (am2 rfl rfl) yhR ((yck h (yaz _) (hS.rdr 1 rfl) (hS.rdr 4 rfl)).mono ?_)))))));rintro _ w3 ⟨r,rfl,hC,h⟩;replace hS:=hS.pur hC.pure;clear hC;refine ⟨_,rfl,?_⟩;refine ⟨⟨fun _=>(zm (.slice A l2 c)),⟨fun _=>(zm (.slice A l2 c)),⟨fun _=>(yar H3 underlying3 rfl (Row.cell (hS.bx 2 rfl) (i:=0) rfl)),⟨fun hh=>zZ hh,⟨fun hh=>zZ hh,trivial⟩⟩⟩⟩⟩,?_⟩;obtain ⟨hi,h⟩:=h;refine zp (v_mul rfl rfl hi) (rp_n rfl rfl rfl rfl (yai rfl (am2 rfl rfl) yhR ((yck h (yaz _) (hS.rdr 4 rfl) (hS.rdr 4 rfl)).mono ?_)));rintro _ w4 ⟨r2,rfl,hC,h⟩;replace hS:=hS.pur hC.pure;clear hC;refine ⟨_,rfl,?_⟩;refine ⟨⟨fun _=>(v_mul rfl rfl hi),⟨fun hh=>zZ hh,⟨fun hh=>zZ hh,⟨fun _=>(yar H3 underlying3 rfl (Row.cell (hS.bx 2 rfl) (i:=0) rfl)),⟨fun hh=>zZ hh,⟨fun hh=>zZ hh,trivial⟩⟩⟩⟩⟩⟩,?_⟩;obtain ⟨hi2,h⟩:=h;refine zp (v_mul rfl rfl hi2) (zp zG (zp (zm (.bool (decide ((cap3*r2)<(2*r))))) ?_));by_cases hp2:(cap3*r2)<(2*r)
    · replace h:=h.1 hp2;refine rp_q (yaA rfl (ybc rfl (zT hp2))) rfl rfl (yab H0) (rp_q (yaA rfl (ybc rfl (zT hp2))) rfl rfl (zm (.slice A l2 c)) ?_);obtain ⟨hPr,hyes,hno⟩:=h;refine rp_n (yaA rfl (ybc rfl (zT hp2))) rfl rfl rfl (n_yield (m:=1) rfl (am1 rfl) (gen_yieldP (x:=(gx cap v.toNat)) (b:=(A,l2,c)) hs hJ hS hPr (hS.ro 4 rfl) ?_ ?_))
      · clear hno hJ hS;have h:=hyes;clear hyes;intro T3 w5 hJ hS;generalize OwnB _=G3 at hJ hS;refine ⟨_,rfl,?_⟩;refine zb (rp_q (yaA rfl (ybc rfl (zT hp2))) rfl rfl (yds rfl) (zp (yan (v:=(.bool (!(true)))) (zT hp2) rfl) (ybH (yav (zC (zB rfl)) (yaf (yae (zr ?_)))))));obtain ⟨hi3,h⟩:=h;refine zq (yb3 H9 rfl hi3) (zM (ii (v+1)) (yaa ?_));obtain ⟨mq,hlt,h⟩:=h;exact ag mq _ _ _ ⟨_,_,_,_,_,h,rfl,H0,H2,H3,H7,H8,rfl,hJ,(hS.sel [0,1,2,3])⟩ hlt
      · clear hyes hJ hS;have h:=hno;clear hno;intro T4 w6 hJ hS;generalize OwnB _=G4 at hJ hS;refine ⟨_,rfl,?_⟩;exact zb (rp_q (yaA rfl (ybc rfl (zT hp2))) rfl rfl (yds rfl) (zp (yan (v:=(.bool (!(false)))) (zT hp2) rfl) (ybH (yaq (zC (zB rfl)) (wt_ret0 rfl ⟨⟨_,rfl⟩,gen_endxP hs hJ hS⟩)))))
    · replace h:=h.2 hp2;refine rp_p (ycq rfl (ybc rfl (zF hp2)) rfl) rfl (rp_p (ycq rfl (ybc rfl (zF hp2)) rfl) rfl (rp_p (ycq rfl (ybc rfl (zF hp2)) rfl) rfl (rp_p (ycq rfl (ybc rfl (zF hp2)) rfl) rfl (zp (yaj (v:=(.bool (false))) (zF hp2) rfl) (ybH (yav rfl (yaf (yae (zr ?_)))))))));obtain ⟨hi4,h⟩:=h;refine zq (yb3 H9 rfl hi4) (zM (ii (v+1)) (yaa ?_));obtain ⟨mq,hlt,h⟩:=h;exact ag mq _ _ _ ⟨_,_,_,_,_,h,rfl,H0,H2,H3,H7,H8,rfl,hJ,(hS.sel [0,1,2,3])⟩ hlt
  · replace h:=h.2 hp;exact zd hp (yas rfl (yiv rfl ⟨⟨_,rfl⟩,gen_endP hs hJ hS h⟩))
def yb4(l:List (List Int))(x:List Int)(R:(List Int)→Int→Bool→Prop):Prop :=
ya1 x (fun r =>
(∃ I2:Nat→(List Int)→Int→Prop,(∃ m0,I2 m0 r 0)∧∀ m2 x2 n,I2 m2 x2 n → 
ycG l x2 1 ((∃ Pr Rr:List (List Int)→Prop,ybI l x2 1 Pr Rr ∧
(∃ K:List (List Int)→(List Int)→Prop,∃ I3:List (List Int)→Prop,I3 [] ∧
(∀ pre y,I3 pre→Pr (pre++[y]) →
K (pre++[y]) y) ∧
(∀ ys,I3 ys→Rr ys →
R x2 n true) ∧
(∀ (ys2:List (List Int)) (first:List Int),K ys2 first → 
(∀ nil:Bool,(nil=true→first=[]) →
((nil=true →
R x2 n true) ∧
(¬(nil=true) →
((n=4096 →
R ([]) 0 false) ∧
(¬(n=4096) →
ybg x2 first (fun r2 =>
(In64 (n+1) ∧
∃ m3,m3<m2∧I2 m3 r2 (n+1))))))))))))))
theorem yek{O:Nat→Prop}{w:World}{l x Al ll cl Ax lx cx}{R:(List Int)→Int→Bool→Prop}(h:yb4 l x R)(hO:∀ k,O k→k<w.heap.size)(hA0:(FP.sl (cL cI) Al ll cl l).P O w)(hA1:(FP.sl cI Ax lx cx x).P O w) :
    Calls Tryz.prog 50 #[(.slice Al ll cl),(.slice Ax lx cx)] w fun e w'=>∃ r3 r4 r5 Ar3 lr3 cr3,e = .returned (.tuple #[(.slice Ar3 lr3 cr3),(ii r4),(.bool (r5))])∧Sep w no O w' (rl [Res.ro (FP.sl cI Ar3 lr3 cr3 r3)])∧R r3 r4 r5:=by
  unfold yb4 at h;have hS:Sep w no O w (rl [Res.ro (FP.sl (cL cI) Al ll cl l),Res.ro (FP.sl cI Ax lx cx x)]):=Sep.startl hO [(FP.sl (cL cI) Al ll cl l),(FP.sl cI Ax lx cx x)] ⟨hA0,hA1,trivial⟩;refine yfE (l:=[(.slice Al ll cl),(.slice Ax lx cx)]) func50 rfl ntmps50 zY (zs (zQ (.slice none 0 0) (zQ (ii 0) (zQ (.bool (false)) (yaa (zs (zM (.slice Ax lx cx) (zn (yai rfl (am1 rfl) enter_79 ((ycx h (yaz _) (hS.rdr 1 rfl)).mono ?_))))))))));rintro _ w2 ⟨r,Ar,lr,cr,rfl,hC,h⟩;replace hS:=hS.call1 (hC.widen (ycv (yaP (fI .i64) _ _ _ _ _) ycH) hS.blt) 2 0 rfl;clear hC;refine ⟨_,rfl,?_⟩;refine zb (zQ (.slice Ar lr cr) (yaa (zs (zQ (ii 0) (yaa (yad ?_))))));replace hS:=hS.dfs0 3 rfl;obtain ⟨I2,⟨m0,h0⟩,hr⟩:=h;refine yax (fun m E ds w'=>∃ x2 n Ax2 lx2 cx2 Gd,I2 m x2 n∧ds=(List.map mark Gd)∧E 0=(Value.slice Al ll cl)∧E 1=(Value.slice Ax2 lx2 cx2)∧E 7=(ii n)∧Sep w no O w' (rl [Res.own cI 3 Ax2 lx2 cx2 x2,Res.ro (FP.sl (cL cI) Al ll cl l),dfrs Gd])) m0 ⟨_,_,_,_,_,[],h0,rfl,rfl,rfl,rfl,(hS.sel [2,0,3])⟩ ?_;clear h0 hS;rintro m2 E ds w3 ⟨x2,n,Ax2,lx2,cx2,Gd,h,rfl,H0,H1,H7,hS⟩ ag;replace h:=hr m2 x2 n h;clear hr;refine yac (yad (zs (zn (yaS yaJ ?_))));intro g w4 hN;replace hS:Sep w no O w4 (stl _ 3 (Res.box 35 g [(.slice none 0 0)])):=hS.new 3 rfl hN;clear hN;refine zb (yaa (yac (zs (zq (yab H0) (zq (yab H1) (zn (yai rfl (am3 rfl rfl rfl) enter_53 ((yeB h (yaz _) (hS.rdr 1 rfl) (hS.rdo 0 rfl)).mono ?_))))))));rintro _ w5 ⟨gc,gc2,gc3,rfl,hC,h⟩;replace hS:=hS.call3 (hC.widen (ycv (flat_box _ _ _) (ycv (flat_box _ _ _) (ycv (flat_box _ _ _) ycH))) hS.blt) 4 5 6 rfl rfl rfl (by decide) (by decide) (by decide);clear hC;refine ⟨_,rfl,?_⟩;refine zb (yaa (yad ?_));replace hS:=hS.frz 0 rfl;replace hS:=hS.addro 7 rfl _ (yeK cI _ _);obtain ⟨Pr,Rr,hgp,K,I3,h0,hb,h,hx⟩:=h;refine wt_iterSP hS [2,1,0,3] [4,1,5,0,6] (by decide) (by decide) ⟨.inl (by decide), .inr rfl, .inl (by decide), .inr rfl, .inl (by decide),trivial⟩ rfl enter_103 (val:=(fun (x:List Int) (b:(Option Addr×Nat×Nat))=>#[(.slice b.1 b.2.1 b.2.2)])) (pass:=(fun (x:List Int) (b:(Option Addr×Nat×Nat))=>(FP.sl cI b.1 b.2.1 b.2.2 x))) (Pr:=Pr) (R:=Rr) (fun _ _=>rfl) rfl (fun pr LL=>I3 pr∧LL=[dfrs Gd,Res.ro (FP.sl (cL cI) Al ll cl l),Res.ro (FP.sl cI Ax2 lx2 cx2 x2),Res.box 35 g [(.slice none 0 0)]]) (fun c ys LL=>c=some 2∧∃ first Aa Ab,∃ Ac:Nat,K ys first∧LL=[dfrs Gd,Res.ro (FP.sl (cL cI) Al ll cl l),Res.ro (FP.sl cI Ax2 lx2 cx2 x2),Res.box 35 g [(.slice Aa Ab Ac)],Res.ro (FP.sl cI Aa Ab Ac first)]) ⟨h0,rfl⟩ (fun T G hG=>ydT hgp hG) ?_ ?_ ?_
  · clear h h0 hS hgp;rintro ll rdy busy S O2 pre y ⟨A,l2,c⟩ w6 _ ⟨hI,rfl⟩ hPr hpass hS;have h:=hb pre y hI hPr;clear hb hI hPr;replace hS:=hS.addro 5 rfl _ hpass;clear hpass;refine yaE (ydD ll) (zQ (.slice A l2 c) (yaa (yhq fun a ra=>⟨rfl,_,_,ra,hS,⟨4,rfl⟩,?_⟩)));intro w8 hw;replace hS:=hS.flip 4 rfl busy hw;clear hw ra a;refine yad (yac (yaE (ydD ll) (zM (.slice A l2 c) (zo (zt (.slice A l2 c) yaJ (hS.bwr 3 rfl (j:=0) rfl) ?_)))));intro w9 e1;replace hS:=hS.bst 3 rfl 0 (.slice A l2 c) e1;clear e1;exact zb (yaa (wt_leave rfl fun a r=>⟨_,⟨rfl,_,_,_,_,h,rfl⟩,(hS.sel [0,1,2,3,5,4])⟩))
  · clear hb h0 hS hgp;rintro D ys w7 _ hRr ⟨hI,rfl⟩ hS;replace h:=h ys hI hRr;clear hI hRr;refine yae (yac (yad (zs (zq (zl underlying35 (Row.cell (hS.bx 3 rfl) (i:=0) rfl)) (zq (v_seql rfl rfl underlying35) (zQ (.bool (true)) (yaa (yaq rfl (zs (zq (yab H1) (zq (yab H7) (zQ (.slice Ax2 lx2 cx2) (zQ (ii n) (zQ (.bool (true)) (yaa ?_)))))))))))))));replace hS:=hS.dfspush 4 0 rfl rfl rfl;exact wt_retk3 (rs:=(D::Gd)) (hS.dfsn 0 rfl) (hS.dfsm 0 rfl) rfl rfl rfl rfl (fun w9 hk=>⟨_,_,_,_,_,_,rfl,(hS.unmark [0] [2] (by decide) (by decide) (undfs 0 rfl) hk),h⟩)
  · clear h hb h0 hS hgp;rintro D2 c ys2 w10 _ ⟨rfl,first,Aa,Ab,Ac,hK,rfl⟩ hS;have h:=hx ys2 first hK;clear hx hK;refine jump_to rfl (yac (yad (zs (zq (zl underlying35 (Row.cell (hS.bx 3 rfl) (i:=0) rfl)) ?_))));obtain ⟨nil,hn⟩:∃ b,Option.isNone Aa=b:=⟨_,rfl⟩;replace h:=h nil (by rw [←hn];exact rd_nil (hS.rdr 4 rfl));refine zq (v_seqlx rfl rfl underlying35 hn) (zQ (.bool (nil)) (yaa ?_));by_cases hp:nil=true
    · replace h:=h.1 hp;refine yaq (zC hp) (zs (zq (yab H1) (zq (yab H7) (zQ (.slice Ax2 lx2 cx2) (zQ (ii n) (zQ (.bool (true)) (yaa ?_)))))));replace hS:=hS.dfspush 5 0 rfl rfl rfl;exact wt_retk3 (rs:=(D2::Gd)) (hS.dfsn 0 rfl) (hS.dfsm 0 rfl) rfl rfl rfl rfl (fun w9 hk=>⟨_,_,_,_,_,_,rfl,(hS.unmark [0] [2] (by decide) (by decide) (undfs 0 rfl) hk),h⟩)
    · replace h:=h.2 hp;refine yav (zC (zI hp)) (zs (zq (yab H7) (zq zE (zQ (.bool (decide (n=4096))) (yaa ?_)))));by_cases hp2:n=4096
      · replace h:=h.1 hp2;refine zc hp2 (zs (zQ (.slice none 0 0) (zQ (ii 0) (zQ (.bool (false)) (yaa ?_)))));replace hS:=hS.addro 6 rfl _ (yeK cI _ _);replace hS:=hS.dfspush 5 0 rfl rfl rfl;exact wt_retk3 (rs:=(D2::Gd)) (hS.dfsn 0 rfl) (hS.dfsm 0 rfl) rfl rfl rfl rfl (fun w9 hk=>⟨_,_,_,_,_,_,rfl,(hS.unmark [0] [6] (by decide) (by decide) (undfs 0 rfl) hk),h⟩)
      · replace h:=h.2 hp2;refine zd hp2 (yaf (yae (zr (zq (yab H1) (zq (zl underlying35 (Row.cell (hS.bx 3 rfl) (i:=0) rfl)) (zn (yai rfl (am2 rfl rfl) yhF ((yc2 h (yaz _) (hS.rdr 2 rfl) (hS.rdr 4 rfl)).mono ?_))))))));rintro _ w11 ⟨r2,Ar2,lr2,cr2,rfl,hC,h⟩;replace hS:=hS.call1 (hC.widen (ycv (yaP (fI .i64) _ _ _ _ _) ycH) hS.blt) 6 0 rfl;clear hC;refine ⟨_,rfl,?_⟩;refine zb (zQ (.slice Ar2 lr2 cr2) (yaa (yae (zr (zq (yab H7) ?_)))));obtain ⟨hi,h⟩:=h;refine zq (zA hi) (zQ (ii (n+1)) (yaa ?_));replace hS:=hS.dfspush 5 0 rfl rfl rfl;obtain ⟨mq,hlt,h⟩:=h;exact ag mq _ _ _ ⟨_,_,_,_,_,(D2::Gd),h,rfl,H0,rfl,rfl,(hS.sel [6,1,0])⟩ hlt
def yc3(g:Int)(g2:List E3)(x:List Int)(R:(List Int)→Int→Int→Prop):Prop :=
yby g g2 x (fun r r2 =>
((r2=0 →
yb4 r x (fun r3 r4 r5 =>
((r5=true →
R r3 r4 0) ∧
(¬(r5=true) →
R ([]) 0 12)))) ∧
(¬(r2=0) →
R ([]) 0 r2)))
theorem yg8{O:Nat→Prop}{w:World}{g g2 x Ag lg cg Ax lx cx}{R:(List Int)→Int→Int→Prop}(h:yc3 g g2 x R)(hO:∀ k,O k→k<w.heap.size)(hA0:(FP.sl c3 Ag lg cg g2).P O w)(hA1:(FP.sl cI Ax lx cx x).P O w) :
    Calls Tryz.prog 15 #[(.agg #[(ii g),(.slice Ag lg cg)]),(.slice Ax lx cx)] w fun e w'=>∃ r6 r7 r8 Ar3 lr3 cr3,e = .returned (.tuple #[(.slice Ar3 lr3 cr3),(ii r7),(ii r8)])∧Sep w no O w' (rl [Res.ro (FP.sl cI Ar3 lr3 cr3 r6)])∧R r6 r7 r8:=by
  unfold yc3 at h;have hS:Sep w no O w (rl [Res.ro (FP.sl c3 Ag lg cg g2),Res.ro (FP.sl cI Ax lx cx x)]):=Sep.startl hO [(FP.sl c3 Ag lg cg g2),(FP.sl cI Ax lx cx x)] ⟨hA0,hA1,trivial⟩;refine yal (l:=[(.agg #[(ii g),(.slice Ag lg cg)]),(.slice Ax lx cx)]) func15 rfl ntmps15 zY (zs (zn (ybm (v:=(.agg #[(ii g),(.slice Ag lg cg)])) rfl ?_)));intro g3 w2 hN;replace hS:Sep w no O w2 (stl _ 2 (Res.box 24 g3 [(ii g),(.slice Ag lg cg)])):=hS.new 2 rfl hN;clear hN;refine zb (zQ (.slice none 0 0) (zQ (ii 0) (zQ (ii 0) (yaa (zs (zq (yao (vs:=[(ii g),(.slice Ag lg cg)]) rfl underlying24 rfl yak ⟨Row.cell (hS.bx 2 rfl) (i:=0) rfl,Row.cell (hS.bx 2 rfl) (i:=1) rfl,trivial⟩) (zM (.slice Ax lx cx) (zn (yai rfl (am2 rfl rfl) enter_49 ((ydy h hS.blt (hS.ro 0 rfl) (hS.ro 1 rfl)).mono ?_))))))))));rintro _ w3 ⟨r,r2,Ar,lr,cr,rfl,hC,h⟩;replace hS:=hS.call1 hC 3 0 rfl;clear hC;refine ⟨_,rfl,?_⟩;refine zb (zM (.tuple #[(.slice Ar lr cr),(ii r2)]) (zq (zx (.slice Ar lr cr)) (zq (zx (ii r2)) (zQ (.slice Ar lr cr) (zQ (ii r2) (yaa (yac (zs (zM (ii r2) (zq zN (yaa ?_)))))))))));by_cases hp:r2=0
  · replace h:=h.1 hp;refine ze hp (yaf (zs (zM (.slice Ar lr cr) (zM (.slice Ax lx cx) (zn (yai rfl (am2 rfl rfl) enter_50 ((yek h hS.blt (hS.ro 3 rfl) (hS.ro 1 rfl)).mono ?_)))))));rintro _ w4 ⟨r3,r4,r5,Ar2,lr2,cr2,rfl,hC,h⟩;replace hS:=hS.call1 hC 4 0 rfl;clear hC;refine ⟨_,rfl,?_⟩;refine zb (zM (.tuple #[(.slice Ar2 lr2 cr2),(ii r4),(.bool (r5))]) (zq (zx (.slice Ar2 lr2 cr2)) (zq (zx (ii r4)) (zq (zx (.bool (r5))) (zQ (.slice Ar2 lr2 cr2) (zQ (ii r4) (zQ (.bool (r5)) (yaa (yac (zs (zM (.bool (r5)) (zq (yds rfl) (yaa ?_)))))))))))));by_cases hp2:r5=true
    · replace h:=h.1 hp2;exact yav (zC (zB hp2)) (yaf (zs (zM (.slice Ar2 lr2 cr2) (zM (ii r4) (zQ (.slice Ar2 lr2 cr2) (zQ (ii r4) (zQ (ii 0) (yaa (yfh rfl rfl rfl rfl ⟨_,_,_,_,_,_,rfl,(hS.sel [4]),h⟩)))))))))
    · replace h:=h.2 hp2;refine yaq (zC (zB (zI hp2))) (zs (zQ (.slice none 0 0) (zQ (ii 0) (zQ (ii 12) (yaa ?_)))));replace hS:=hS.addro 5 rfl _ (yeK cI _ _);exact yfh rfl rfl rfl rfl ⟨_,_,_,_,_,_,rfl,(hS.sel [5]),h⟩
  · replace h:=h.2 hp;refine zf hp (zs (zM (ii r2) (zQ (.slice none 0 0) (zQ (ii 0) (zQ (ii r2) (yaa ?_))))));replace hS:=hS.addro 4 rfl _ (yeK cI _ _);exact yfh rfl rfl rfl rfl ⟨_,_,_,_,_,_,rfl,(hS.sel [4]),h⟩
def ybh(f:List Int)(v:Int)(R:Int→Prop):Prop :=
(∃ I2:Nat→Int→Prop,(∃ m0,I2 m0 v)∧∀ m2 v2,I2 m2 v2 → 
((0≤v2∧v2<12) ∧
(((gi f v2.toNat)=v2 →
R v2) ∧
(¬((gi f v2.toNat)=v2) →
∃ m3,m3<m2∧I2 m3 (gi f v2.toNat)))))
theorem ydJ{S O:Nat→Prop}{w:World}{f v gc}{R:Int→Prop}(h:ybh f v R)(hS:Sep w S O w (rl [Res.own cI 121 (some ⟨gc,0,none⟩) 12 12 f])) :
    Calls Tryz.prog 105 #[(.pointer (some ⟨gc,0,none⟩)),(ii v)] w fun e w'=>∃ r,e = .returned (ii r)∧Sep w S O w' (rl [Res.own cI 121 (some ⟨gc,0,none⟩) 12 12 f])∧R r:=by
  unfold ybh at h;refine yal (l:=[(.pointer (some ⟨gc,0,none⟩)),(ii v)]) func105 rfl ntmps105 zY (zs (zQ (ii 0) (yaa (yac (yad ?_)))));obtain ⟨I2,⟨m0,h0⟩,hr⟩:=h;refine yax (fun m E ds w'=>∃ v2,I2 m v2∧ds=[]∧E 0=(Value.pointer (some ⟨gc,0,none⟩))∧E 1=(ii v2)∧Sep w S O w' (rl [Res.own cI 121 (some ⟨gc,0,none⟩) 12 12 f])) m0 ⟨_,h0,rfl,rfl,rfl,(hS.sel [0])⟩ ?_;clear h0 hS;rintro m2 E ds w2 ⟨v2,h,rfl,H0,H1,hS⟩ ag;replace h:=hr m2 v2 h;clear hr;refine yac (zs (zq (yab (v:=(.pointer (some ⟨gc,0,none⟩))) H0) (zq (yab H1) (zq (v_nil rfl) ?_))));obtain ⟨hx,h⟩:=h;have hy:=yhj (hS.rdo 0 rfl) hx;refine zq (yew rfl rfl underlying121 yag hx) (zq (yar (v:=(ii (gi f v2.toNat))) rfl underlying3 rfl (rd_1 (hS.rdo 0 rfl) hy (fun q=>yaF q) rfl)) ?_);refine zq (yab H1) (zq zN (yaa ?_));by_cases hp:(gi f v2.toNat)=v2
  · replace h:=h.1 hp;exact ze hp (yas rfl (zs (zq (yab H1) (zQ (ii v2) (yaa (yah rfl rfl ⟨_,rfl,(hS.sel [0]),h⟩))))))
  · replace h:=h.2 hp;refine zf hp (yaf (yad (zr (zq (yab (v:=(.pointer (some ⟨gc,0,none⟩))) H0) (zq (yab H1) (zq (v_nil rfl) ?_))))));have hy2:=yhj (hS.rdo 0 rfl) hx;refine zq (yew rfl rfl underlying121 yag hx) (zq (yar (v:=(ii (gi f v2.toNat))) rfl underlying3 rfl (rd_1 (hS.rdo 0 rfl) hy2 (fun q=>yaF q) rfl)) ?_);refine zQ (ii (gi f v2.toNat)) (yaa (yae ?_));obtain ⟨mq,hlt,h⟩:=h;exact ag mq _ _ _ ⟨_,h,rfl,H0,rfl,(hS.sel [0])⟩ hlt
def ycp(g:Int)(g2:List E3)(R:Int→Int→Prop):Prop :=
ybF g g2 (fun r =>
((r=0 →
(∃ I2:Nat→Int→(List Int)→Prop,(∃ m0,I2 m0 0 (List.replicate 12 (0:Int)))∧∀ m2 v f,I2 m2 v f → 
((v<12 →
((0≤v∧v<12) ∧
(In64 (v+1) ∧
∃ m3,m3<m2∧I2 m3 (v+1) (f.set v.toNat v)))) ∧
(¬(v<12) →
yc0 g g2 ((∃ Pr Rr:List E3→Prop,ybt g g2 Pr Rr ∧
(∃ I3:List E3→(List Int)→Int→Prop,I3 [] f 0 ∧
(∀ pre y y2 y3 f2 genus,I3 pre f2 genus→Pr (pre++[(y,y2,y3)]) →
ybh f2 y2 (fun r2 =>
ybh f2 y3 (fun r3 =>
(∃ J2:Int→Prop,(∀ (genus2:Int),J2 genus2→((0≤(mxF r2 r3)∧(mxF r2 r3)<12) ∧
I3 (pre++[(y,y2,y3)]) (f2.set (mxF r2 r3).toNat (mnF r2 r3)) genus2)) ∧
((r2=r3 →
(In64 (genus+1) ∧
J2 (genus+1))) ∧
(¬(r2=r3) →
J2 genus)))))) ∧
(∀ ys f2 genus,I3 ys f2 genus→Rr ys →
R genus 0)))))))) ∧
(¬(r=0) →
R 0 r)))
theorem yir{O:Nat→Prop}{w:World}{g g2 Ag lg cg}{R:Int→Int→Prop}(h:ycp g g2 R)(hO:∀ k,O k→k<w.heap.size)(hA0:(FP.sl c3 Ag lg cg g2).P O w) :
    Calls Tryz.prog 57 #[(.agg #[(ii g),(.slice Ag lg cg)])] w fun e w'=>∃ r4 r5,e = .returned (.tuple #[(ii r4),(ii r5)])∧Sep w no O w' (rl [])∧R r4 r5:=by
  unfold ycp at h;have hS:Sep w no O w (rl [Res.ro (FP.sl c3 Ag lg cg g2)]):=Sep.startl hO [(FP.sl c3 Ag lg cg g2)] ⟨hA0,trivial⟩;refine yfE (l:=[(.agg #[(ii g),(.slice Ag lg cg)])]) func57 rfl ntmps57 zY (zs (zn (ybm (v:=(.agg #[(ii g),(.slice Ag lg cg)])) rfl ?_)));intro g3 w2 hN;replace hS:Sep w no O w2 (stl _ 1 (Res.box 24 g3 [(ii g),(.slice Ag lg cg)])):=hS.new 1 rfl hN;clear hN;refine zb (zQ (ii 0) (zQ (ii 0) (yaa (yac (zs (zq (yao (vs:=[(ii g),(.slice Ag lg cg)]) rfl underlying24 rfl yak ⟨Row.cell (hS.bx 1 rfl) (i:=0) rfl,Row.cell (hS.bx 1 rfl) (i:=1) rfl,trivial⟩) (zn (yai rfl (am1 rfl) yhE ((ydq h (yaz _) (hS.rdr 0 rfl)).mono ?_)))))))));rintro _ w3 ⟨r,rfl,hC,h⟩;replace hS:=hS.pur hC.pure;clear hC;refine ⟨_,rfl,?_⟩;refine zb (zQ (ii r) (yaa (zs (zM (ii r) (zq zN (yaa ?_))))));by_cases hp:r=0
  · replace h:=h.1 hp;refine ze hp (yaf (zs (zn (yaS info_121 ?_))));intro g4 w4 hN;replace hS:=hS.made (n:=12) 2 rfl cI (ii 0) (0:Int) (fun _ _=>rfl) (hN:New _ _ _ (Array.replicate 12 (ii 0)) 121) (by decide);clear hN;refine zb (yaa (yac (zs (zM (ii 0) (yaa (yad ?_))))));obtain ⟨I2,⟨m0,h0⟩,hr⟩:=h;refine yax (fun m E ds w'=>∃ v f,I2 m v f∧ds=[]∧E 1=(Value.pointer (some ⟨g3,0,none⟩))∧E 5=(Value.pointer (some ⟨g4,0,none⟩))∧E 17=(ii v)∧Sep w no O w' (rl [Res.box 24 g3 [(ii g),(.slice Ag lg cg)],Res.ro (FP.sl c3 Ag lg cg g2),Res.own cI 121 (some ⟨g4,0,none⟩) 12 12 f])) m0 ⟨_,_,h0,rfl,rfl,rfl,rfl,(hS.sel [1,0,2])⟩ ?_;clear h0 hS;rintro m2 E ds w5 ⟨v,f,h,rfl,H1,H5,H17,hS⟩ ag;replace h:=hr m2 v f h;clear hr;refine zs (zq (ydm H17 rfl) (yaa (yac ?_)));by_cases hp2:v<12
    · replace h:=h.1 hp2;refine zc hp2 (yaf (yac (yad (zs (zq (yab H17) (zQ (ii v) (yaa (zr (zM (ii v) (zM (ii v) ?_))))))))));obtain ⟨hx,h⟩:=h;have hy:=yhj (hS.rdo 2 rfl) hx;refine zq (yew H5 rfl underlying121 yag hx) (zo (zt (ii v) yag (hS.wr 2 rfl rfl hy) ?_));intro w6 e1;replace hS:=hS.st 2 rfl rfl hy (x:=v) rfl e1;clear e1;refine zb (yaa (yae (zr ?_)));obtain ⟨hi,h⟩:=h;refine zq (yb3 H17 rfl hi) (zM (ii (v+1)) (yaa ?_));obtain ⟨mq,hlt,h⟩:=h;exact ag mq _ _ _ ⟨_,_,h,rfl,H1,H5,rfl,(hS.sel [0,1,2])⟩ hlt
    · replace h:=h.2 hp2;refine zd hp2 (yas rfl (zs (zn (yaS yag ?_))));intro g5 w7 hN;replace hS:Sep w no O w7 (stl _ 3 (Res.box 3 g5 [(ii 0)])):=hS.new 3 rfl hN;clear hN;refine zb (zo (zt (ii 0) yag (hS.bwr 3 rfl (j:=0) rfl) ?_));intro w8 e1;replace hS:=hS.bst 3 rfl 0 (ii 0) e1;clear e1;refine zb (yaa (yac (zs (zq (yao (vs:=[(ii g),(.slice Ag lg cg)]) H1 underlying24 rfl yak ⟨Row.cell (hS.bx 0 rfl) (i:=0) rfl,Row.cell (hS.bx 0 rfl) (i:=1) rfl,trivial⟩) (zn (yai rfl (am1 rfl) enter_104 ((yeM h hS.blt (hS.ro 1 rfl)).mono ?_)))))));rintro _ w9 ⟨gc,rfl,hC,h⟩;replace hS:=hS.call1 hC 4 0 rfl;clear hC;refine ⟨_,rfl,?_⟩;refine zb (yaa (yad ?_));obtain ⟨Pr,Rr,hgp,I3,h0,hb,h⟩:=h;refine wt_iterS hS [2,3] [4,1] (by decide) (by decide) ⟨.inl (by decide), .inr rfl,trivial⟩ rfl enter_142 (val:=(fun (x:E3)=>#[(ii x.1),(.agg #[(ii x.2.1),(ii x.2.2)])])) (pass:=(fun _=>FP.tt)) (Pr:=Pr) (R:=Rr) (fun _=>rfl) rfl (fun pr LL=>∃ f2 genus,I3 pr f2 genus∧LL=[Res.own cI 121 (some ⟨g4,0,none⟩) 12 12 f2,Res.box 3 g5 [(ii genus)]]) (fun _ _ _=>False) ⟨_,_,h0,rfl⟩ (fun T G hG=>yee hgp hG) ?_ ?_ (fun _ _ _ _ _ hx=>hx.elim)
      · clear h h0 hS hgp;rintro ll rdy busy S O2 pre ⟨y,y2,y3⟩ w10 _ ⟨f2,genus,hI,rfl⟩ hPr hpass hS;have h:=hb pre y y2 y3 f2 genus hI hPr;clear hb hI hPr;clear hpass;refine yaE (ydD ll) (zn (yaS ycd ?_));intro g6 w12 hN;replace hS:Sep w10 S O2 w12 (stl _ 3 (Res.box 126 g6 [(ii 0),(ii 0)])):=hS.new 3 rfl hN;clear hN;refine zb (zo (yaQ (b:=g6) (o:=0) (cells:=#[(ii y2),(ii y3)]) rfl rfl ycd rfl rfl (yaL (hS.bx 3 rfl) zY) ?_));intro w13 e1;replace hS:=hS.bstn 3 rfl 0 [(ii y2),(ii y3)] e1;clear e1;refine zb (yaa (yhq fun a ra=>⟨rfl,_,_,ra,hS,⟨2,rfl⟩,?_⟩));intro w14 hw;replace hS:=hS.flip 2 rfl busy hw;clear hw ra a;refine yad (yac (ybq [0,1,3,4,2,5,6,7] (fun i=>match i with | 2=>[3,4] | _=>[]) (ydD ll) (by kernel_rfl) (by kernel_rfl) ?_));replace hS:=hS.drew;refine zp (yam rfl underlying126 rfl yag) (zp (zl underlying3 (Row.cell (hS.bx 3 rfl) (i:=0) rfl)) (zp (yam rfl underlying126 rfl yag) (zp (zl underlying3 (Row.cell (hS.bx 3 rfl) (i:=1) rfl)) ?_)));have hB:=hS.lend (asc [(0,0)]) [0] (by decide) ⟨.inl (ya5 rfl),trivial⟩;refine rp_n rfl rfl rfl rfl (ydt (vs:=#[(.pointer (some ⟨g4,0,none⟩)),(ii y2)]) (us:=#[]) rfl (am2 H5 rfl) enter_105 ((ya4 (by simp) (ydJ h hB)).mono ?_));rintro _ w15 ⟨r2,rfl,hC,h⟩;replace hS:=hS.back (asc [(0,0)]) (ydl (by decide)) hC;clear hC hB;refine ⟨_,rfl,?_⟩;refine ⟨⟨fun _=>(zl underlying3 (Row.cell (hS.bx 3 rfl) (i:=1) rfl)),⟨fun _=>(yam rfl underlying126 rfl yag),⟨fun hh=>zZ hh,⟨fun hh=>zZ hh,trivial⟩⟩⟩⟩,?_⟩;have hB:=hS.lend (asc [(0,0)]) [0] (by decide) ⟨.inl (ya5 rfl),trivial⟩;refine rp_n rfl rfl rfl rfl (ydt (vs:=#[(.pointer (some ⟨g4,0,none⟩)),(ii y3)]) (us:=#[]) rfl (am2 H5 rfl) enter_105 ((ya4 (by simp) (ydJ h hB)).mono ?_));rintro _ w16 ⟨r3,rfl,hC,h⟩;replace hS:=hS.back (asc [(0,0)]) (ydl (by decide)) hC;clear hC hB;refine ⟨_,rfl,?_⟩;refine zb (zp (za (ii r2)) (zp (za (ii r3)) (ybH (yac (yac (yaE (ydD ll) (zM (ii r2) (zM (ii r3) (zq zE (yaa ?_))))))))));obtain ⟨J2,hJ,h⟩:=h;refine wt_cutT0 (fun E ds w'=>∃ genus2,J2 genus2∧ds=[]∧E 5=(Value.pointer (some ⟨g4,0,none⟩))∧E 7=(Value.pointer (some ⟨g5,0,none⟩))∧E 10=(ii r2)∧E 11=(ii r3)∧Sep w10 S O2 w' (rl [Res.obj ll busy,Res.own cI 121 (some ⟨g4,0,none⟩) 12 12 f2,Res.box 3 g5 [(ii genus2)]])) ?_ ?_
        · clear h hS;rintro E ds w17 ⟨genus2,h,rfl,H5,H7,H10,H11,hS⟩;replace h:=hJ genus2 h;refine yaE (ydD ll) (zq (yab H10) (zq (yab H11) (zq (v_max2 rfl rfl) (zq (yab H10) (zq (yab H11) (zq (v_min2 rfl rfl) ?_))))));obtain ⟨hx2,h⟩:=h;have hy2:=yhj (hS.rdo 1 rfl) hx2;refine zq (yew H5 rfl underlying121 yag hx2) (zo (zt (ii (mnF r2 r3)) yag (hS.wr 1 rfl rfl hy2) ?_));intro w18 e1;replace hS:=hS.st 1 rfl rfl hy2 (x:=mnF r2 r3) rfl e1;clear e1;exact zb (yaa (yae (yhq fun a r=>⟨_,⟨_,_,h,rfl⟩,(hS.sel [1,2,0])⟩)))
        clear hJ;intro j;by_cases hp3:r2=r3
        · replace h:=h.1 hp3;refine zc hp3 (yaE (ydD ll) (zq (zl underlying3 (Row.cell (hS.bx 1 rfl) (i:=0) rfl)) ?_));obtain ⟨hi2,h⟩:=h;refine zq (zA hi2) (zo (zt (ii (genus+1)) yag (hS.bwr 1 rfl (j:=0) rfl) ?_));intro w19 e1;replace hS:=hS.bst 1 rfl 0 (ii (genus+1)) e1;clear e1;exact zb (yaa (j _ _ _ ⟨_,h,rfl,H5,rfl,rfl,rfl,(hS.sel [2,0,1])⟩))
        · replace h:=h.2 hp3;exact zd hp3 (yaf (j _ _ _ ⟨_,h,rfl,H5,rfl,rfl,rfl,(hS.sel [2,0,1])⟩))
      · clear hb h0 hS hgp;rintro D ys w11 _ hRr ⟨f2,genus,hI,rfl⟩ hS;replace h:=h ys f2 genus hI hRr;clear hI hRr;exact yae (zs (zq (zl underlying3 (Row.cell (hS.bx 1 rfl) (i:=0) rfl)) (zQ (ii genus) (zQ (ii 0) (yaa (yhT (rs:=[D]) (by simp) (hS.marked 2 rfl) rfl rfl rfl (fun w9 hk=>⟨_,_,rfl,(hS.unmark [2] [] (by decide) (by decide) (yhc 2 rfl) hk),h⟩)))))))
  · replace h:=h.2 hp;exact zf hp (zs (zM (ii r) (zQ (ii 0) (zQ (ii r) (yaa (yhT (rs:=[]) (by simp) (by simp) rfl rfl rfl (fun w9 hk=>⟨_,_,rfl,(hS.unmark [] [] (by decide) (by decide) (by simp) hk),h⟩)))))))
def ybX(z:List Int)(cap:List Int)(R:Bool→Prop):Prop :=
yaO cap z (fun r =>
R r)
theorem yfT{O:Nat→Prop}{w:World}{z cap Az lz cz gc Aa Ab Ac}{R:Bool→Prop}(h:ybX z cap R)(hO:∀ k,O k→k<w.heap.size)(hA0:(FP.sl cI Az lz cz z).P O w)(hA1:(FP.bx 35 gc [(Value.slice Aa Ab Ac)]).P O w)(hA2:(FP.sl cI Aa Ab Ac cap).P O w) :
    Calls Tryz.prog 61 #[(.slice Az lz cz),(.pointer (some ⟨gc,0,none⟩))] w fun e w'=>∃ r2,e = .returned (.bool (r2))∧Sep w no O w' (rl [])∧R r2:=by
  unfold ybX at h;have hS:Sep w no O w (rl [Res.ro (FP.sl cI Az lz cz z),Res.ro (FP.bx 35 gc [(.slice Aa Ab Ac)]),Res.ro (FP.sl cI Aa Ab Ac cap)]):=Sep.startl hO [(FP.sl cI Az lz cz z),(FP.bx 35 gc [(.slice Aa Ab Ac)]),(FP.sl cI Aa Ab Ac cap)] ⟨hA0,hA1,hA2,trivial⟩;refine yal (l:=[(.slice Az lz cz),(.pointer (some ⟨gc,0,none⟩))]) func61 rfl ntmps61 zY (zs (zQ (.bool (false)) (yaa (zs (zq (zl underlying35 (Row.cell (hS.bxr 1 rfl) (i:=0) rfl)) (zM (.slice Az lz cz) (zn (yai rfl (am2 rfl rfl) ykc ((yb8 h (yaz _) (hS.rdr 2 rfl) (hS.rdr 0 rfl)).mono ?_)))))))));rintro _ w2 ⟨r,rfl,hC,h⟩;replace hS:=hS.pur hC.pure;clear hC;refine ⟨_,rfl,?_⟩;exact zb (zQ (.bool (r)) (yaa (yah rfl rfl ⟨_,rfl,(hS.sel []),h⟩)))
def ycP(n:Int)(R:Bool→Prop):Prop :=
((n<(-9) →
R true) ∧
(¬(n<(-9)) →
R (decide (9<n))))
theorem yfD{O:Nat→Prop}{w:World}{n}{R:Bool→Prop}(h:ycP n R)(hO:∀ k,O k→k<w.heap.size) :
    Calls Tryz.prog 58 #[(ii n)] w fun e w'=>∃ r,e = .returned (.bool (r))∧Sep w no O w' (rl [])∧R r:=by
  unfold ycP at h;have hS:Sep w no O w (rl []):=Sep.start w hO;refine yal (l:=[(ii n)]) func58 rfl ntmps58 zY (zs (zQ (.bool (false)) (yaa (zs (zM (ii n) (zq zL (zM (.bool (decide (n<(-9)))) ?_)))))));by_cases hp:n<(-9)
  · replace h:=h.1 hp;exact zV rfl rfl (zT hp) (zV rfl rfl (zT hp) (zq (yan (v:=(.bool (true))) (zT hp) rfl) (zQ (.bool (true)) (yaa (yah rfl rfl ⟨_,rfl,(hS.sel []),h⟩)))))
  · replace h:=h.2 hp;exact zW rfl rfl (zF hp) (zm (ii n)) (zW rfl rfl (zF hp) zG (zq (yaj (v:=(.bool (decide (9<n)))) (zF hp) rfl) (zQ (.bool (decide (9<n))) (yaa (yah rfl rfl ⟨_,rfl,(hS.sel []),h⟩)))))
def yct(d:Int)(d2:List E3)(i:List Int)(R:(List (List Int))→Int→Int→Prop):Prop :=
yby d d2 i (fun r r2 =>
((r2=0 →
ycp d d2 (fun r3 r4 =>
((r4=0 →
(∃ J2:Prop,(J2→yb4 r i (fun r5 r6 r7 =>
((r7=true →
ya2 r5 r5 (fun r8 =>
ybg i r5 (fun r9 =>
(∃ I2:Nat→(List (List Int))→Int→Prop,(∃ m0,I2 m0 ([r9]) 0)∧∀ m2 v v2,I2 m2 v v2 → 
((v2<(v.length:Int) →
(∃ I3:Nat→(List (List Int))→Int→Prop,(∃ m0,I3 m0 v 0)∧∀ m3 v3 v4,I3 m3 v3 v4 → 
((v4<(r.length:Int) →
((0≤v4∧v4<(r.length:Int)) ∧
((0≤v2∧v2<(v3.length:Int)) ∧
ybg (gx v3 v2.toNat) (gx r v4.toNat) (fun r10 =>
ybg i r10 (fun r11 =>
ya2 r11 r11 (fun r12 =>
((r12=r8 →
yaX v3 (fun x R=>ybX x r10 R) (fun r13 =>
((r13=true →
(In64 (v4+1) ∧
∃ m4,m4<m3∧I3 m4 v3 (v4+1))) ∧
(¬(r13=true) →
(v3.length+1≤1000000000 ∧
(In64 (v4+1) ∧
∃ m5,m5<m3∧I3 m5 (v3++[r10]) (v4+1))))))) ∧
(¬(r12=r8) →
(In64 (v4+1) ∧
∃ m6,m6<m3∧I3 m6 v3 (v4+1)))))))))) ∧
(¬(v4<(r.length:Int)) →
(In64 (v2+1) ∧
∃ m7,m7<m2∧I2 m7 v3 (v2+1)))))) ∧
(¬(v2<(v.length:Int)) →
ydr v (fun y =>
R y r8 0))))))) ∧
(¬(r7=true) →
R ([]) 0 12)))) ∧
((4<r3 →
R ([]) 0 12) ∧
(¬(4<r3) →
yaR i (fun x2 R=>ycP x2 R) (fun r14 =>
((r14=true →
R ([]) 0 12) ∧
(¬(r14=true) →
J2))))))) ∧
(¬(r4=0) →
R ([]) 0 r4)))) ∧
(¬(r2=0) →
R ([]) 0 r2)))
theorem ygq{O:Nat→Prop}{w:World}{d d2 i Ad ld cd Ai li ci}{R:(List (List Int))→Int→Int→Prop}(h:yct d d2 i R)(hO:∀ k,O k→k<w.heap.size)(hA0:(FP.sl c3 Ad ld cd d2).P O w)(hA1:(FP.sl cI Ai li ci i).P O w) :
    Calls Tryz.prog 21 #[(.agg #[(ii d),(.slice Ad ld cd)]),(.slice Ai li ci)] w fun e w'=>∃ r15 r16 r17 Ar6 lr6 cr6,e = .returned (.tuple #[(.slice Ar6 lr6 cr6),(ii r16),(ii r17)])∧Sep w no O w' (rl [Res.own (cL cI) 35 Ar6 lr6 cr6 r15])∧R r15 r16 r17:=by
  unfold yct at h;have hS:Sep w no O w (rl [Res.ro (FP.sl c3 Ad ld cd d2),Res.ro (FP.sl cI Ai li ci i)]):=Sep.startl hO [(FP.sl c3 Ad ld cd d2),(FP.sl cI Ai li ci i)] ⟨hA0,hA1,trivial⟩;refine yal (l:=[(.agg #[(ii d),(.slice Ad ld cd)]),(.slice Ai li ci)]) func21 rfl ntmps21 zY (zs (zn (ybm (v:=(.agg #[(ii d),(.slice Ad ld cd)])) rfl ?_)));intro g w2 hN;replace hS:Sep w no O w2 (stl _ 2 (Res.box 24 g [(ii d),(.slice Ad ld cd)])):=hS.new 2 rfl hN;clear hN;refine zb (zQ (.slice none 0 0) (zQ (ii 0) (zQ (ii 0) (yaa (zs (zq (yao (vs:=[(ii d),(.slice Ad ld cd)]) rfl underlying24 rfl yak ⟨Row.cell (hS.bx 2 rfl) (i:=0) rfl,Row.cell (hS.bx 2 rfl) (i:=1) rfl,trivial⟩) (zM (.slice Ai li ci) (zn (yai rfl (am2 rfl rfl) enter_49 ((ydy h hS.blt (hS.ro 0 rfl) (hS.ro 1 rfl)).mono ?_))))))))));rintro _ w3 ⟨r,r2,Ar,lr,cr,rfl,hC,h⟩;replace hS:=hS.call1 hC 3 0 rfl;clear hC;refine ⟨_,rfl,?_⟩;refine zb (zM (.tuple #[(.slice Ar lr cr),(ii r2)]) (zq (zx (.slice Ar lr cr)) (zq (zx (ii r2)) (zQ (.slice Ar lr cr) (zQ (ii r2) (yaa (yac (zs (zM (ii r2) (zq zN (yaa ?_)))))))))));by_cases hp:r2=0
  · replace h:=h.1 hp;refine ze hp (yaf (zs (zq (yao (vs:=[(ii d),(.slice Ad ld cd)]) rfl underlying24 rfl yak ⟨Row.cell (hS.bx 2 rfl) (i:=0) rfl,Row.cell (hS.bx 2 rfl) (i:=1) rfl,trivial⟩) (zn (yai rfl (am1 rfl) enter_57 ((yir h (yaz _) (hS.rdr 0 rfl)).mono ?_))))));rintro _ w4 ⟨r3,r4,rfl,hC,h⟩;replace hS:=hS.pur hC.pure;clear hC;refine ⟨_,rfl,?_⟩;refine zb (zM (.tuple #[(ii r3),(ii r4)]) (zq (zx (ii r3)) (zq (zx (ii r4)) (zQ (ii r3) (zQ (ii r4) (yaa (yac (zs (zM (ii r4) (zq zN (yaa ?_)))))))))));by_cases hp2:r4=0
    · replace h:=h.1 hp2;refine ze hp2 (yaf (yac (yac ?_)));obtain ⟨J2,hJ,h⟩:=h;refine ycA (fun E ds w'=>J2∧ds=[]∧E 1=(Value.slice Ai li ci)∧E 7=(Value.slice Ar lr cr)∧Sep w no O w' (rl [Res.ro (FP.sl cI Ai li ci i),Res.ro (FP.sl (cL cI) Ar lr cr r)])) ?_ ?_
      · clear h hS;rintro E ds w5 ⟨h,rfl,H1,H7,hS⟩;replace h:=hJ h;refine zs (zq (yab H7) (zq (yab H1) (zn (yai rfl (am2 rfl rfl) enter_50 ((yek h hS.blt (hS.ro 1 rfl) (hS.ro 0 rfl)).mono ?_)))));rintro _ w6 ⟨r5,r6,r7,Ar2,lr2,cr2,rfl,hC,h⟩;replace hS:=hS.call1 hC 2 0 rfl;clear hC;refine ⟨_,rfl,?_⟩;refine zb (zM (.tuple #[(.slice Ar2 lr2 cr2),(ii r6),(.bool (r7))]) (zq (zx (.slice Ar2 lr2 cr2)) (zq (zx (ii r6)) (zq (zx (.bool (r7))) (zQ (.slice Ar2 lr2 cr2) (zQ (ii r6) (zQ (.bool (r7)) (yaa (yac (zs (zM (.bool (r7)) (zq (yds rfl) (yaa ?_)))))))))))));by_cases hp3:r7=true
        · replace h:=h.1 hp3;refine yav (zC (zB hp3)) (yaf (zs (zM (.slice Ar2 lr2 cr2) (zM (.slice Ar2 lr2 cr2) (zn (yai rfl (am2 rfl rfl) yhR ((yck h (yaz _) (hS.rdr 2 rfl) (hS.rdr 2 rfl)).mono ?_)))))));rintro _ w7 ⟨r8,rfl,hC,h⟩;replace hS:=hS.pur hC.pure;clear hC;refine ⟨_,rfl,?_⟩;refine zb (zQ (ii r8) (yaa (zs (zq (yab H1) (zM (.slice Ar2 lr2 cr2) (zn (yai rfl (am2 rfl rfl) yhF ((yc2 h (yaz _) (hS.rdr 0 rfl) (hS.rdr 2 rfl)).mono ?_))))))));rintro _ w8 ⟨r9,Ar3,lr3,cr3,rfl,hC,h⟩;replace hS:=hS.call1 (hC.widen (ycv (yaP (fI .i64) _ _ _ _ _) ycH) hS.blt) 3 0 rfl;clear hC;refine ⟨_,rfl,?_⟩;refine zb ?_;replace hS:=hS.frz 3 rfl;refine zn (yaK (l:=[(0,(.slice Ar3 lr3 cr3))]) (cells:=[(.slice Ar3 lr3 cr3)]) (bp1 rfl) underlying27 yaJ rfl rfl ?_);intro g2 w9 hN;replace hS:=hS.lit (n:=1) (c:=(cL cI)) 4 rfl hN ([r9]:List (List Int)) rfl (by decide) ⟨[(.slice Ar3 lr3 cr3)],_,rfl,(ro_R (hS.ro 3 rfl)),rfl⟩;clear hN;refine zb (zQ (.slice (some ⟨g2,0,none⟩) 1 1) (yaa (yac (zs (zQ (ii 0) (yaa (yad ?_)))))));obtain ⟨I2,⟨m0,h0⟩,hr⟩:=h;refine yax (fun m E ds w'=>∃ v v2 Av lv cv,I2 m v v2∧ds=[]∧E 1=(Value.slice Ai li ci)∧E 7=(Value.slice Ar lr cr)∧E 13=(ii r8)∧E 14=(Value.slice Av lv cv)∧E 15=(ii v2)∧Sep w no O w' (rl [Res.own (cL cI) 35 Av lv cv v,Res.ro (FP.sl cI Ai li ci i),Res.ro (FP.sl (cL cI) Ar lr cr r)])) m0 ⟨_,_,_,_,_,h0,rfl,H1,H7,rfl,rfl,rfl,(hS.sel [4,0,1])⟩ ?_;clear h0 hS;rintro m2 E ds w10 ⟨v,v2,Av,lv,cv,h,rfl,H1,H7,H13,H14,H15,hS⟩ ag;replace h:=hr m2 v v2 h;clear hr;refine yac (zs (zq (yab H15) (zq (yab H14) (zq (yaG (n:=v.length) rfl underlying27 (yaD (hS.rdo 0 rfl))) (zq zL (yaa ?_))))));by_cases hp4:v2<(v.length:Int)
          · replace h:=h.1 hp4;refine zc hp4 (yaf (yac (yad (zs (zq (yab H7) (zq (yaG (n:=r.length) rfl underlying27 (yaD (hS.rdr 2 rfl))) (zM (ii 0) (yaa (yad ?_)))))))));obtain ⟨I3,⟨m0,h0⟩,hr⟩:=h;refine yax (fun m E ds w'=>∃ v3 v4 Av2 lv2 cv2,I3 m v3 v4∧ds=[]∧E 1=(Value.slice Ai li ci)∧E 7=(Value.slice Ar lr cr)∧E 13=(ii r8)∧E 14=(Value.slice Av2 lv2 cv2)∧E 15=(ii v2)∧E 65=(Value.slice Ar lr cr)∧E 66=(ii (r.length:Int))∧E 67=(ii v4)∧Sep w no O w' (rl [Res.own (cL cI) 35 Av2 lv2 cv2 v3,Res.ro (FP.sl cI Ai li ci i),Res.ro (FP.sl (cL cI) Ar lr cr r)])) m0 ⟨_,_,_,_,_,h0,rfl,H1,H7,H13,H14,H15,rfl,rfl,rfl,(hS.sel [0,1,2])⟩ ?_;clear h0 hS;rintro m3 E ds w11 ⟨v3,v4,Av2,lv2,cv2,h,rfl,H1,H7,H13,H14,H15,H65,H66,H67,hS⟩ again2;replace h:=hr m3 v3 v4 h;clear hr;refine zs (zq (ydm H67 H66) (yaa (yac ?_)));by_cases hp5:v4<(r.length:Int)
            · replace h:=h.1 hp5;refine zc hp5 (yaf (yac (yad (zs ?_))));obtain ⟨hx,h⟩:=h;refine zq (ydA H65 H67 underlying27 yaJ (yaB (hS.rdr 2 rfl) hx)) ?_;obtain ⟨A,l,c,hc,hq⟩:=hS.el 2 rfl hx 3 4 rfl rfl (by decide);replace hS:=hq;clear hq;refine zq (yar (v:=(.slice A l c)) rfl underlying35 rfl (hS.clr 4 rfl)) (zQ (.slice A l c) (yaa (zs (zq (yab H14) (zq (yab H15) ?_)))));obtain ⟨hx2,h⟩:=h;refine zq (zi underlying27 yaJ (yaB (hS.rdo 0 rfl) hx2)) ?_;obtain ⟨A2,l2,c4,hc2,hq⟩:=hS.elo 0 rfl hx2 5 rfl;replace hS:=hq;clear hq;refine zq (yar (v:=(.slice A2 l2 c4)) rfl underlying35 rfl hc2) (zM (.slice A l c) (zn (yai rfl (am2 rfl rfl) yhF ((yc2 h (yaz _) (hS.rdr 5 rfl) (hS.rdr 3 rfl)).mono ?_))));rintro _ w12 ⟨r10,Ar4,lr4,cr4,rfl,hC,h⟩;replace hS:=hS.call1 (hC.widen (ycv (yaP (fI .i64) _ _ _ _ _) ycH) hS.blt) 6 0 rfl;clear hC;refine ⟨_,rfl,?_⟩;refine zb (zn (yaS yaJ ?_));intro g3 w13 hN;replace hS:Sep w no O w13 (stl _ 7 (Res.box 35 g3 [(.slice none 0 0)])):=hS.new 7 rfl hN;clear hN;refine zb (zo (zt (.slice Ar4 lr4 cr4) yaJ (hS.bwr 7 rfl (j:=0) rfl) ?_));intro w14 e1;replace hS:=hS.bst 7 rfl 0 (.slice Ar4 lr4 cr4) e1;clear e1;refine zb (yaa (zs (zq (yab H1) (zq (zl underlying35 (Row.cell (hS.bx 7 rfl) (i:=0) rfl)) (zn (yai rfl (am2 rfl rfl) yhF ((yc2 h (yaz _) (hS.rdr 1 rfl) (hS.rdo 6 rfl)).mono ?_)))))));rintro _ w15 ⟨r11,Ar5,lr5,cr5,rfl,hC,h⟩;replace hS:=hS.call1 (hC.widen (ycv (yaP (fI .i64) _ _ _ _ _) ycH) hS.blt) 8 0 rfl;clear hC;refine ⟨_,rfl,?_⟩;refine zb (zQ (.slice Ar5 lr5 cr5) (yaa (zs (zM (.slice Ar5 lr5 cr5) (zM (.slice Ar5 lr5 cr5) (zn (yai rfl (am2 rfl rfl) yhR ((yck h (yaz _) (hS.rdo 8 rfl) (hS.rdo 8 rfl)).mono ?_))))))));rintro _ w16 ⟨r12,rfl,hC,h⟩;replace hS:=hS.pur hC.pure;clear hC;refine ⟨_,rfl,?_⟩;refine zb (zq (yab H13) (zq zE (zM (.bool (decide (r12=r8))) ?_)));by_cases hp6:r12=r8
              · replace h:=h.1 hp6;refine zW rfl rfl (zT hp6) (yab H14) (zW rfl rfl (zT hp6) (ykf (am0) (am1 rfl)) ?_);replace hS:=hS.frzb 7 rfl;replace hS:=hS.frz 6 rfl;refine rl_n (yaA rfl (ybc rfl (zT hp6))) rfl rfl rfl (yai rfl (am2 rfl rfl) enter_29 ((ydN h (yaz _) (hS.rdo 0 rfl) (fun w' hk=>⟨61,#[(.pointer (some ⟨g3,0,none⟩))],rfl,enter_61,fun x Ax lx cx R hF hz0=>ya4 (by simp) (yfT hF (yaz _) hz0 (FP.sub _ (FP.keep _ (FP.sub _ (hS.ro 7 rfl) (fun _ _ h=>h.elim):FP.P _ no _) hk) fun _ _ h=>h.elim) (FP.sub _ (FP.keep _ (FP.sub _ (hS.ro 6 rfl) (fun _ _ h=>h.elim):FP.P _ no _) hk) fun _ _ h=>h.elim))⟩)).mono ?_));rintro _ w17 ⟨r13,rfl,hC,h⟩;replace hS:=hS.pur hC.pure;clear hC;refine ⟨_,rfl,?_⟩;refine zb (zW rfl rfl (zT hp6) (yds rfl) (zq (yan (v:=(.bool (!(r13)))) (zT hp6) rfl) (yaa ?_)));by_cases hp7:r13=true
                · replace h:=h.1 hp7;refine yav (zC (zB hp7)) (yaf (yae (zr ?_)));obtain ⟨hi,h⟩:=h;refine zq (yb3 H67 rfl hi) (zM (ii (v4+1)) (yaa ?_));obtain ⟨mq,hlt,h⟩:=h;exact again2 mq _ _ _ ⟨_,_,_,_,_,h,rfl,H1,H7,H13,H14,H15,H65,H66,rfl,(hS.sel [0,1,2])⟩ hlt
                · replace h:=h.2 hp7;refine yaq (zC (zB (zI hp7))) (zr (zq (yab H14) (zq (zl underlying35 (Row.cell (hS.bxr 7 rfl) (i:=0) rfl)) (zn (yaK (l:=[(0,(.slice Ar4 lr4 cr4))]) (cells:=[(.slice Ar4 lr4 cr4)]) (bp1 rfl) underlying27 yaJ rfl rfl ?_)))));intro g4 w18 hN;replace hS:=hS.lit (n:=1) (c:=(cL cI)) 9 rfl hN ([r10]:List (List Int)) rfl (by decide) ⟨[(.slice Ar4 lr4 cr4)],_,rfl,(ro_R (hS.ro 6 rfl)),rfl⟩;clear hN;refine zb ?_;obtain ⟨hx3,h⟩:=h;refine zn (yfv (c:=(cL cI)) rfl rfl underlying27 underlying27 yaJ rfl rfl (by decide) hS 0 rfl (hS.yo 9 rfl) hx3 ?_);clear hS;intro A3 c5 w19 hS;refine zb (zQ (.slice A3 (lv2+1) c5) (yaa (yae (zr ?_))));obtain ⟨hi2,h⟩:=h;refine zq (yb3 H67 rfl hi2) (zM (ii (v4+1)) (yaa ?_));obtain ⟨mq,hlt,h⟩:=h;exact again2 mq _ _ _ ⟨_,_,_,_,_,h,rfl,H1,H7,H13,rfl,H15,H65,H66,rfl,(hS.sel [0,1,2])⟩ hlt
              · replace h:=h.2 hp6;refine zV rfl rfl (zF hp6) (zV rfl rfl (zF hp6) (zV rfl rfl (zF hp6) (zV rfl rfl (zF hp6) (zq (yaj (v:=(.bool (false))) (zF hp6) rfl) (yaa (yav rfl (yaf (yae (zr ?_)))))))));obtain ⟨hi3,h⟩:=h;refine zq (yb3 H67 rfl hi3) (zM (ii (v4+1)) (yaa ?_));obtain ⟨mq,hlt,h⟩:=h;exact again2 mq _ _ _ ⟨_,_,_,_,_,h,rfl,H1,H7,H13,H14,H15,H65,H66,rfl,(hS.sel [0,1,2])⟩ hlt
            · replace h:=h.2 hp5;refine zd hp5 (yas rfl (yae (zr (zq (yab H15) ?_))));obtain ⟨hi4,h⟩:=h;refine zq (zA hi4) (zQ (ii (v2+1)) (yaa ?_));obtain ⟨mq,hlt,h⟩:=h;exact ag mq _ _ _ ⟨_,_,_,_,_,h,rfl,H1,H7,H13,H14,rfl,(hS.sel [0,1,2])⟩ hlt
          · replace h:=h.2 hp4;refine zd hp4 (yas rfl (zs (zq (yab H14) ?_)));have hB:=hS.lend (asc [(0,0)]) [0] (by decide) ⟨.inl (ya5 rfl),trivial⟩;refine zn (ydt (vs:=#[(.slice Av lv cv),(.func (Fn.func 47) #[] #[])]) (us:=#[]) rfl (am2 rfl rfl) enter_46 ((ya4 (by simp) (yeH h hB)).mono ?_));rintro _ w20 ⟨y,rfl,hC,h⟩;replace hS:=hS.back (asc [(0,0)]) (ydl (by decide)) hC;clear hC hB;refine ⟨_,rfl,?_⟩;exact zb (yaa (zs (zq (yab H14) (zq (yab H13) (zQ (.slice Av lv cv) (zQ (ii r8) (zQ (ii 0) (yaa (yfh rfl rfl rfl rfl ⟨_,_,_,_,_,_,rfl,(hS.sel [0]),h⟩)))))))))
        · replace h:=h.2 hp3;refine yaq (zC (zB (zI hp3))) (zs (zQ (.slice none 0 0) (zQ (ii 0) (zQ (ii 12) (yaa ?_)))));replace hS:=hS.nil 3 rfl (cL cI) 35;exact yfh rfl rfl rfl rfl ⟨_,_,_,_,_,_,rfl,(hS.sel [3]),h⟩
      clear hJ;intro j;refine zr (zM (ii r3) (zq zG (zM (.bool (decide (4<r3))) ?_)));by_cases hp8:4<r3
      · replace h:=h.1 hp8;refine zV rfl rfl (zT hp8) (zV rfl rfl (zT hp8) (zq (yan (v:=(.bool (true))) (zT hp8) rfl) (yaa (yaq rfl (zs (zQ (.slice none 0 0) (zQ (ii 0) (zQ (ii 12) (yaa ?_)))))))));replace hS:=hS.nil 4 rfl (cL cI) 35;exact yfh rfl rfl rfl rfl ⟨_,_,_,_,_,_,rfl,(hS.sel [4]),h⟩
      · replace h:=h.2 hp8;refine zW rfl rfl (zF hp8) (zm (.slice Ai li ci)) (rl_n (yaA rfl (ybc rfl (zF hp8))) rfl rfl rfl (yai rfl (am2 rfl rfl) ykb ((ycs h (yaz _) (hS.rdr 1 rfl) (fun w' hk=>⟨58,#[],rfl,enter_58,fun x2 R hF=>ya4 (by simp) (yfD hF (yaz _))⟩)).mono ?_)));rintro _ w21 ⟨r14,rfl,hC,h⟩;replace hS:=hS.pur hC.pure;clear hC;refine ⟨_,rfl,?_⟩;refine zb (zq (yaj (v:=(.bool (r14))) (zF hp8) rfl) (yaa ?_));by_cases hp9:r14=true
        · replace h:=h.1 hp9;refine yaq (zC hp9) (zs (zQ (.slice none 0 0) (zQ (ii 0) (zQ (ii 12) (yaa ?_)))));replace hS:=hS.nil 4 rfl (cL cI) 35;exact yfh rfl rfl rfl rfl ⟨_,_,_,_,_,_,rfl,(hS.sel [4]),h⟩
        · replace h:=h.2 hp9;exact yav (zC (zI hp9)) (yaf (j _ _ _ ⟨h,rfl,rfl,rfl,(hS.sel [1,3])⟩))
    · replace h:=h.2 hp2;refine zf hp2 (zs (zM (ii r4) (zQ (.slice none 0 0) (zQ (ii 0) (zQ (ii r4) (yaa ?_))))));replace hS:=hS.nil 4 rfl (cL cI) 35;exact yfh rfl rfl rfl rfl ⟨_,_,_,_,_,_,rfl,(hS.sel [4]),h⟩
  · replace h:=h.2 hp;refine zf hp (zs (zM (ii r2) (zQ (.slice none 0 0) (zQ (ii 0) (zQ (ii r2) (yaa ?_))))));replace hS:=hS.nil 4 rfl (cL cI) 35;exact yfh rfl rfl rfl rfl ⟨_,_,_,_,_,_,rfl,(hS.sel [4]),h⟩
def yb6(g:Int)(g2:List E3)(x:List Int)(k:Int)(R:Bool→Int→Prop):Prop :=
yby g g2 x (fun r r2 =>
((r2=0 →
(∃ J2:Prop,(J2→ycG r x k ((∃ Pr Rr:List (List Int)→Prop,ybI r x k Pr Rr ∧
(∃ I2:List (List Int)→Prop,I2 [] ∧
(∀ pre y,I2 pre→Pr (pre++[y]) →
R false 0) ∧
(∀ ys,I2 ys→Rr ys →
R true 0))))) ∧
((k<1 →
R false 2) ∧
(¬(k<1) →
((1048576<k →
R false 2) ∧
(¬(1048576<k) →
J2)))))) ∧
(¬(r2=0) →
R false r2)))
theorem yen{O:Nat→Prop}{w:World}{g g2 x k Ag lg cg Ax lx cx}{R:Bool→Int→Prop}(h:yb6 g g2 x k R)(hO:∀ k,O k→k<w.heap.size)(hA0:(FP.sl c3 Ag lg cg g2).P O w)(hA1:(FP.sl cI Ax lx cx x).P O w) :
    Calls Tryz.prog 17 #[(.agg #[(ii g),(.slice Ag lg cg)]),(.slice Ax lx cx),(ii k)] w fun e w'=>∃ r7 r8,e = .returned (.tuple #[(.bool (r7)),(ii r8)])∧Sep w no O w' (rl [])∧R r7 r8:=by
  unfold yb6 at h;have hS:Sep w no O w (rl [Res.ro (FP.sl c3 Ag lg cg g2),Res.ro (FP.sl cI Ax lx cx x)]):=Sep.startl hO [(FP.sl c3 Ag lg cg g2),(FP.sl cI Ax lx cx x)] ⟨hA0,hA1,trivial⟩;refine yfE (l:=[(.agg #[(ii g),(.slice Ag lg cg)]),(.slice Ax lx cx),(ii k)]) func17 rfl ntmps17 zY (zs (zn (ybm (v:=(.agg #[(ii g),(.slice Ag lg cg)])) rfl ?_)));intro g3 w2 hN;replace hS:Sep w no O w2 (stl _ 2 (Res.box 24 g3 [(ii g),(.slice Ag lg cg)])):=hS.new 2 rfl hN;clear hN;refine zb (zn (yaS ybb ?_));intro g4 w3 hN;replace hS:Sep w no O w3 (stl _ 3 (Res.box 4 g4 [(.bool (false))])):=hS.new 3 rfl hN;clear hN;refine zb (zn (yaS yhg ?_));intro g5 w4 hN;replace hS:Sep w no O w4 (stl _ 4 (Res.box 28 g5 [(ii 0)])):=hS.new 4 rfl hN;clear hN;refine zb (yaa (zs (zq (yao (vs:=[(ii g),(.slice Ag lg cg)]) rfl underlying24 rfl yak ⟨Row.cell (hS.bx 2 rfl) (i:=0) rfl,Row.cell (hS.bx 2 rfl) (i:=1) rfl,trivial⟩) (zM (.slice Ax lx cx) (zn (yai rfl (am2 rfl rfl) enter_49 ((ydy h hS.blt (hS.ro 0 rfl) (hS.ro 1 rfl)).mono ?_)))))));rintro _ w5 ⟨r,r2,Ar,lr,cr,rfl,hC,h⟩;replace hS:=hS.call1 hC 5 0 rfl;clear hC;refine ⟨_,rfl,?_⟩;refine zb (zM (.tuple #[(.slice Ar lr cr),(ii r2)]) (zq (zx (.slice Ar lr cr)) (zq (zx (ii r2)) (zQ (.slice Ar lr cr) (zQ (ii r2) (yaa (yac (zs (zM (ii r2) (zq zN (yaa ?_)))))))))));by_cases hp:r2=0
  · replace h:=h.1 hp;refine ze hp (yaf (yac (yac ?_)));obtain ⟨J2,hJ,h⟩:=h;refine ycA (fun E ds w'=>J2∧ds=[]∧E 1=(Value.slice Ax lx cx)∧E 2=(ii k)∧E 6=(Value.pointer (some ⟨g4,0,none⟩))∧E 7=(Value.pointer (some ⟨g5,0,none⟩))∧E 8=(Value.slice Ar lr cr)∧Sep w no O w' (rl [Res.ro (FP.sl cI Ax lx cx x),Res.box 4 g4 [(.bool (false))],Res.box 28 g5 [(ii 0)],Res.ro (FP.sl (cL cI) Ar lr cr r)])) ?_ ?_
    · clear h hS;rintro E ds w6 ⟨h,rfl,H1,H2,H6,H7,H8,hS⟩;replace h:=hJ h;refine yac (zs (zq (yab H8) (zq (yab H1) (zq (yab H2) (zn (yai rfl (am3 rfl rfl rfl) enter_53 ((yeB h hS.blt (hS.ro 3 rfl) (hS.ro 0 rfl)).mono ?_)))))));rintro _ w7 ⟨gc,gc2,gc3,rfl,hC,h⟩;replace hS:=hS.call3 hC 4 5 6 rfl rfl rfl (by decide) (by decide) (by decide);clear hC;refine ⟨_,rfl,?_⟩;refine zb (yaa (yad ?_));obtain ⟨Pr,Rr,hgp,I2,h0,hb,h⟩:=h;refine wt_iterSP hS [1,2] [4,3,5,0,6] (by decide) (by decide) ⟨.inl (by decide), .inr rfl, .inl (by decide), .inr rfl, .inl (by decide),trivial⟩ rfl enter_103 (val:=(fun (x:List Int) (b:(Option Addr×Nat×Nat))=>#[(.slice b.1 b.2.1 b.2.2)])) (pass:=(fun (x:List Int) (b:(Option Addr×Nat×Nat))=>(FP.sl cI b.1 b.2.1 b.2.2 x))) (Pr:=Pr) (R:=Rr) (fun _ _=>rfl) rfl (fun pr LL=>I2 pr∧LL=[Res.box 4 g4 [(.bool (false))],Res.box 28 g5 [(ii 0)]]) (fun c ys LL=>c=none∧∃ r5 r6,LL=[Res.box 4 g4 [(.bool (r5))],Res.box 28 g5 [(ii r6)]]∧R r5 r6) ⟨h0,rfl⟩ (fun T G hG=>ydT hgp hG) ?_ ?_ ?_
      · clear h h0 hS hgp;rintro ll rdy busy S O2 pre y ⟨A,l,c⟩ w8 _ ⟨hI,rfl⟩ hPr hpass hS;have h:=hb pre y hI hPr;clear hb hI hPr;replace hS:=hS.addro 3 rfl _ hpass;clear hpass;refine yaf (yhq fun a ra=>⟨rfl,_,_,ra,hS,⟨2,rfl⟩,?_⟩);intro w10 hw;replace hS:=hS.flip 2 rfl busy hw;clear hw ra a;refine yad (yac (yaE (ydD ll) (zo (yg5 (v:=(.bool (false))) H6 rfl rfl ybb (hS.bwr 0 rfl (j:=0) rfl) ?_))));intro w11 e1;replace hS:=hS.bst 0 rfl 0 (.bool (false)) e1;clear e1;refine zb (zo (yg5 (v:=(ii 0)) H7 rfl rfl yhg (hS.bwr 1 rfl (j:=0) rfl) ?_));intro w12 e1;replace hS:=hS.bst 1 rfl 0 (ii 0) e1;clear e1;exact zb (yaa (yfs fun a r=>⟨_,⟨rfl,false,0,rfl,h⟩,(hS.sel [0,1,2])⟩))
      · clear hb h0 hS hgp;rintro D ys w9 _ hRr ⟨hI,rfl⟩ hS;replace h:=h ys hI hRr;clear hI hRr;refine yae (zs (zo (yg5 (v:=(.bool (true))) H6 rfl rfl ybb (hS.bwr 0 rfl (j:=0) rfl) ?_)));intro w13 e1;replace hS:=hS.bst 0 rfl 0 (.bool (true)) e1;clear e1;refine zb (zo (yg5 (v:=(ii 0)) H7 rfl rfl yhg (hS.bwr 1 rfl (j:=0) rfl) ?_));intro w14 e1;replace hS:=hS.bst 1 rfl 0 (ii 0) e1;clear e1;exact zb (yaa (yfs (yil (rs:=[D]) hS 0 1 rfl rfl [2] (yhc 2 rfl) (by decide) (by decide) (by simp) (hS.marked 2 rfl) rfl H6 H7 underlying4 rfl underlying28 rfl (fun w9 hk=>⟨_,_,rfl,(hS.unmark [2] [] (by decide) (by decide) (yhc 2 rfl) hk),h⟩))))
      · clear h hb h0 hS hgp;rintro D2 c ys W9 _ ⟨rfl,r5,r6,rfl,h⟩ hS;exact yil (rs:=[D2]) hS 0 1 rfl rfl [2] (yhc 2 rfl) (by decide) (by decide) (by simp) (hS.marked 2 rfl) rfl H6 H7 underlying4 rfl underlying28 rfl (fun w9 hk=>⟨_,_,rfl,(hS.unmark [2] [] (by decide) (by decide) (yhc 2 rfl) hk),h⟩)
    clear hJ;intro j;refine zr (zM (ii k) (zq zL (zM (.bool (decide (k<1))) ?_)));by_cases hp2:k<1
    · replace h:=h.1 hp2;refine zV rfl rfl (zT hp2) (zV rfl rfl (zT hp2) (zq (yan (v:=(.bool (true))) (zT hp2) rfl) (yaa (yaq rfl (zs (zo (zt (.bool (false)) ybb (hS.bwr 3 rfl (j:=0) rfl) ?_)))))));intro w15 e1;replace hS:=hS.bst 3 rfl 0 (.bool (false)) e1;clear e1;refine zb (zo (zt (ii 2) yhg (hS.bwr 4 rfl (j:=0) rfl) ?_));intro w16 e1;replace hS:=hS.bst 4 rfl 0 (ii 2) e1;clear e1;exact zb (yaa (yfs (yil (rs:=[]) hS 3 4 rfl rfl [] (by simp) (by decide) (by decide) (by simp) (by simp) rfl rfl rfl underlying4 rfl underlying28 rfl (fun w9 hk=>⟨_,_,rfl,(hS.unmark [] [] (by decide) (by decide) (by simp) hk),h⟩))))
    · replace h:=h.2 hp2;refine zW rfl rfl (zF hp2) (zm (ii k)) (zW rfl rfl (zF hp2) zG (zq (yaj (v:=(.bool (decide (1048576<k)))) (zF hp2) rfl) (yaa ?_)));by_cases hp3:1048576<k
      · replace h:=h.1 hp3;refine zc hp3 (zs (zo (zt (.bool (false)) ybb (hS.bwr 3 rfl (j:=0) rfl) ?_)));intro w17 e1;replace hS:=hS.bst 3 rfl 0 (.bool (false)) e1;clear e1;refine zb (zo (zt (ii 2) yhg (hS.bwr 4 rfl (j:=0) rfl) ?_));intro w18 e1;replace hS:=hS.bst 4 rfl 0 (ii 2) e1;clear e1;exact zb (yaa (yfs (yil (rs:=[]) hS 3 4 rfl rfl [] (by simp) (by decide) (by decide) (by simp) (by simp) rfl rfl rfl underlying4 rfl underlying28 rfl (fun w9 hk=>⟨_,_,rfl,(hS.unmark [] [] (by decide) (by decide) (by simp) hk),h⟩))))
      · replace h:=h.2 hp3;exact zd hp3 (yaf (j _ _ _ ⟨h,rfl,rfl,rfl,rfl,rfl,rfl,(hS.sel [1,3,4,5])⟩))
  · replace h:=h.2 hp;refine zf hp (zs (zM (ii r2) (zo (zt (.bool (false)) ybb (hS.bwr 3 rfl (j:=0) rfl) ?_))));intro w19 e1;replace hS:=hS.bst 3 rfl 0 (.bool (false)) e1;clear e1;refine zb (zo (zt (ii r2) yhg (hS.bwr 4 rfl (j:=0) rfl) ?_));intro w20 e1;replace hS:=hS.bst 4 rfl 0 (ii r2) e1;clear e1;exact zb (yaa (yfs (yil (rs:=[]) hS 3 4 rfl rfl [] (by simp) (by decide) (by decide) (by simp) (by simp) rfl rfl rfl underlying4 rfl underlying28 rfl (fun w9 hk=>⟨_,_,rfl,(hS.unmark [] [] (by decide) (by decide) (by simp) hk),h⟩))))
def ykq(n:Int)(ends:List (Int×Int))(x:List Int)(R:(List Int)→Prop):Prop :=
((0≤n∧n≤1000000) ∧
(∃ I2:Nat→Int→(List Int)→Prop,(∃ m0,I2 m0 0 (List.replicate n.toNat (0:Int)))∧∀ m2 v out,I2 m2 v out → 
((v<(ends.length:Int) →
((0≤v∧v<(ends.length:Int)) ∧
((0≤(1:Int)∧(1:Int)<2) ∧
((0≤((gx ends v.toNat).2)∧((gx ends v.toNat).2)<(out.length:Int)) ∧
((0≤v∧v<(x.length:Int)) ∧
(In64 ((gi out ((gx ends v.toNat).2).toNat)+(gi x v.toNat)) ∧
((0≤(0:Int)∧(0:Int)<2) ∧
((0≤((gx ends v.toNat).1)∧((gx ends v.toNat).1)<(((out.set ((gx ends v.toNat).2).toNat ((gi out ((gx ends v.toNat).2).toNat)+(gi x v.toNat))).length:Nat):Int)) ∧
(In64 ((gi (out.set ((gx ends v.toNat).2).toNat ((gi out ((gx ends v.toNat).2).toNat)+(gi x v.toNat))) ((gx ends v.toNat).1).toNat)-(gi x v.toNat)) ∧
(In64 (v+1) ∧
∃ m3,m3<m2∧I2 m3 (v+1) ((out.set ((gx ends v.toNat).2).toNat ((gi out ((gx ends v.toNat).2).toNat)+(gi x v.toNat))).set ((gx ends v.toNat).1).toNat ((gi (out.set ((gx ends v.toNat).2).toNat ((gi out ((gx ends v.toNat).2).toNat)+(gi x v.toNat))) ((gx ends v.toNat).1).toNat)-(gi x v.toNat))))))))))))) ∧
(¬(v<(ends.length:Int)) →
R out))))
theorem ykM{O:Nat→Prop}{w:World}{n ends x Aa Ab Ac Ax lx cx}{R:(List Int)→Prop}(h:ykq n ends x R)(hO:∀ k,O k→k<w.heap.size)(hA0:(FP.sl c2 Aa Ab Ac ends).P O w)(hA1:(FP.sl cI Ax lx cx x).P O w) :
    Calls Tryz.prog 70 #[(ii n),(.slice Aa Ab Ac),(.slice Ax lx cx)] w fun e w'=>∃ r Ar lr cr,e = .returned (.slice Ar lr cr)∧Sep w no O w' (rl [Res.own cI 3 Ar lr cr r])∧R r:=by
  unfold ykq at h;have hS:Sep w no O w (rl [Res.ro (FP.sl c2 Aa Ab Ac ends),Res.ro (FP.sl cI Ax lx cx x)]):=Sep.startl hO [(FP.sl c2 Aa Ab Ac ends),(FP.sl cI Ax lx cx x)] ⟨hA0,hA1,trivial⟩;refine yal (l:=[(ii n),(.slice Aa Ab Ac),(.slice Ax lx cx)]) func70 rfl ntmps70 zY (zs (zQ (.slice none 0 0) (yaa (zs (zM (ii n) ?_)))));obtain ⟨hx,h⟩:=h;refine zn (yeX rfl rfl underlying35 yag (by decide) rfl hx ?_);intro g w2 hN;replace hS:=hS.made 2 rfl cI (ii 0) (0:Int) (fun _ _=>rfl) hN (by omega);clear hN;refine zb (zQ (.slice (some ⟨g,0,none⟩) n.toNat n.toNat) (yaa (yac (zs (zM (.slice Aa Ab Ac) (zq (yaG (n:=ends.length) rfl underlying62 (yaD (hS.rdr 0 rfl))) (zM (ii 0) (yaa (yad ?_)))))))));obtain ⟨I2,⟨m0,h0⟩,hr⟩:=h;refine yax (fun m E ds w'=>∃ v out,I2 m v out∧ds=[]∧E 2=(Value.slice Ax lx cx)∧E 7=(Value.slice (some ⟨g,0,none⟩) n.toNat n.toNat)∧E 12=(Value.slice Aa Ab Ac)∧E 13=(ii (ends.length:Int))∧E 14=(ii v)∧Sep w no O w' (rl [Res.ro (FP.sl cI Ax lx cx x),Res.own cI 3 (some ⟨g,0,none⟩) n.toNat n.toNat out,Res.ro (FP.sl c2 Aa Ab Ac ends)])) m0 ⟨_,_,h0,rfl,rfl,rfl,rfl,rfl,rfl,(hS.sel [1,2,0])⟩ ?_;clear h0 hS;rintro m2 E ds w3 ⟨v,out,h,rfl,H2,H7,H12,H13,H14,hS⟩ ag;replace h:=hr m2 v out h;clear hr;refine zs (zq (ydm H14 H13) (yaa (yac ?_)));by_cases hp:v<(ends.length:Int)
  · replace h:=h.1 hp;refine zc hp (yaf (yac (yad (zs (zq (yab H14) ?_)))));obtain ⟨hx2,h⟩:=h;refine zq (ydA H12 H14 underlying62 ybk (yaB (hS.rdr 2 rfl) hx2)) (zq (yao (vs:=[(ii ((gx ends v.toNat).1)),(ii ((gx ends v.toNat).2))]) rfl underlying96 rfl ybk (yhX (hS.rdr 2 rfl) hx2 (fun q=>ycO q))) ?_);refine zn (yaS ybk ?_);intro g2 w4 hN;replace hS:Sep w no O w4 (stl _ 3 (Res.box 96 g2 [(ii 0),(ii 0)])):=hS.new 3 rfl hN;clear hN;refine zb (zQ (ii v) (zo (yaQ (b:=g2) (o:=0) (cells:=#[(ii ((gx ends v.toNat).1)),(ii ((gx ends v.toNat).2))]) rfl rfl ybk rfl rfl (yaL (hS.bx 3 rfl) zY) ?_)));intro w5 e1;replace hS:=hS.bstn 3 rfl 0 [(ii ((gx ends v.toNat).1)),(ii ((gx ends v.toNat).2))] e1;clear e1;refine zb (yaa (yac (ybq [0,1,2,3,4,5,6,7,8,9,10,11] st0 yaC (by kernel_rfl) (by kernel_rfl) ?_)));replace hS:=hS.drew;refine zp (yab H7) ?_;obtain ⟨hx3,h⟩:=h;refine zp (ybE rfl rfl underlying96 yag hx3) (zp (zl underlying3 (Row.cell (hS.bx 3 rfl) (i:=1) rfl)) ?_);obtain ⟨hx4,h⟩:=h;refine zp (zi underlying35 yag (yaB (hS.rdo 1 rfl) hx4)) (zp (yar (v:=(ii (gi out ((gx ends v.toNat).2).toNat))) rfl underlying3 rfl (rd_1 (hS.rdo 1 rfl) hx4 (fun q=>yaF q) rfl)) ?_);refine zp (yab H2) (zp (zm (ii v)) ?_);obtain ⟨hx5,h⟩:=h;refine zp (zi underlying35 yag (yaB (hS.rdr 0 rfl) hx5)) (zp (yar (v:=(ii (gi x v.toNat))) rfl underlying3 rfl (rd_1 (hS.rdr 0 rfl) hx5 (fun q=>yaF q) rfl)) ?_);obtain ⟨hi,h⟩:=h;refine zp (zA hi) (zp (zi underlying35 yag (yaB (hS.rdo 1 rfl) hx4)) (rp_n0 rfl rfl rfl (zt (ii ((gi out ((gx ends v.toNat).2).toNat)+(gi x v.toNat))) yag (hS.wr 1 rfl rfl hx4) ?_)));intro w6 e1;replace hS:=hS.st 1 rfl rfl hx4 (x:=(gi out ((gx ends v.toNat).2).toNat)+(gi x v.toNat)) rfl e1;clear e1;refine zb (ybH (ybq [0,1,2,3,4,5,6,7,8,9,10,11] st0 yaC (by kernel_rfl) (by kernel_rfl) ?_));replace hS:=hS.drew;refine zp (yab H7) ?_;obtain ⟨hx6,h⟩:=h;refine zp (ybE rfl rfl underlying96 yag hx6) (zp (zl underlying3 (Row.cell (hS.bx 3 rfl) (i:=0) rfl)) ?_);obtain ⟨hx7,h⟩:=h;refine zp (zi underlying35 yag (yaB (hS.rdo 1 rfl) hx7)) (zp (yar (v:=(ii (gi (out.set ((gx ends v.toNat).2).toNat ((gi out ((gx ends v.toNat).2).toNat)+(gi x v.toNat))) ((gx ends v.toNat).1).toNat))) rfl underlying3 rfl (rd_1 (hS.rdo 1 rfl) hx7 (fun q=>yaF q) rfl)) ?_);refine zp (yab H2) (zp (zm (ii v)) (zp (zi underlying35 yag (yaB (hS.rdr 0 rfl) hx5)) (zp (yar (v:=(ii (gi x v.toNat))) rfl underlying3 rfl (rd_1 (hS.rdr 0 rfl) hx5 (fun q=>yaF q) rfl)) ?_)));obtain ⟨hi2,h⟩:=h;refine zp (zS hi2) (zp (zi underlying35 yag (yaB (hS.rdo 1 rfl) hx7)) (rp_n0 rfl rfl rfl (zt (ii ((gi (out.set ((gx ends v.toNat).2).toNat ((gi out ((gx ends v.toNat).2).toNat)+(gi x v.toNat))) ((gx ends v.toNat).1).toNat)-(gi x v.toNat))) yag (hS.wr 1 rfl rfl hx7) ?_)));intro w7 e1;replace hS:=hS.st 1 rfl rfl hx7 (x:=(gi (out.set ((gx ends v.toNat).2).toNat ((gi out ((gx ends v.toNat).2).toNat)+(gi x v.toNat))) ((gx ends v.toNat).1).toNat)-(gi x v.toNat)) rfl e1;clear e1;refine zb (ybH (yae (zr ?_)));obtain ⟨hi3,h⟩:=h;refine zq (yb3 H14 rfl hi3) (zM (ii (v+1)) (yaa ?_));obtain ⟨mq,hlt,h⟩:=h;exact ag mq _ _ _ ⟨_,_,h,rfl,H2,H7,H12,H13,rfl,(hS.sel [0,1,2])⟩ hlt
  · replace h:=h.2 hp;exact zd hp (yas rfl (zs (zq (yab H7) (zQ (.slice (some ⟨g,0,none⟩) n.toNat n.toNat) (yaa (yah rfl rfl ⟨_,_,_,_,rfl,(hS.sel [1]),h⟩))))))
def ykj(e2:Int)(e3:Int)(cap:List Int)(R:Bool→(List Int)→Prop):Prop :=
((0≤(0:Int)∧(0:Int)<2) ∧
((0≤e2∧e2<(cap.length:Int)) ∧
((0≤(1:Int)∧(1:Int)<2) ∧
((0≤e3∧e3<(cap.length:Int)) ∧
(((gi cap e2.toNat)=(gi cap e3.toNat) →
R false cap) ∧
(¬((gi cap e2.toNat)=(gi cap e3.toNat)) →
(∃ I2:Nat→Int→(List Int)→Prop,(∃ m0,I2 m0 0 cap)∧∀ m2 v v2,I2 m2 v v2 → 
((v<(cap.length:Int) →
((0≤v∧v<(v2.length:Int)) ∧
(((gi v2 v.toNat)=(gi cap e3.toNat) →
(In64 (v+1) ∧
∃ m3,m3<m2∧I2 m3 (v+1) (v2.set v.toNat (gi cap e2.toNat)))) ∧
(¬((gi v2 v.toNat)=(gi cap e3.toNat)) →
(In64 (v+1) ∧
∃ m4,m4<m2∧I2 m4 (v+1) v2))))) ∧
(¬(v<(cap.length:Int)) →
R true v2)))))))))
theorem ykA{S O:Nat→Prop}{w:World}{e2 e3 cap gc Aa Ab Ac}{R:Bool→(List Int)→Prop}(h:ykj e2 e3 cap R)(hS:Sep w S O w (rl [Res.box 35 gc [(Value.slice Aa Ab Ac)],Res.own cI 3 Aa Ab Ac cap])) :
    Calls Tryz.prog 163 #[(.agg #[(ii e2),(ii e3)]),(.pointer (some ⟨gc,0,none⟩))] w fun e w'=>∃ r z,e = .returned (.bool (r))∧Sep w S O w' (rl [Res.box 35 gc [(.slice Aa Ab Ac)],Res.own cI 3 Aa Ab Ac z])∧R r z:=by
  unfold ykj at h;refine yal (l:=[(.agg #[(ii e2),(ii e3)]),(.pointer (some ⟨gc,0,none⟩))]) func163 rfl ntmps163 zY (zs (zn (ybm (v:=(.agg #[(ii e2),(ii e3)])) rfl ?_)));intro g w2 hN;replace hS:Sep w S O w2 (stl _ 2 (Res.box 96 g [(ii e2),(ii e3)])):=hS.new 2 rfl hN;clear hN;refine zb (zQ (.bool (false)) (yaa (yac (ybq [0,1,2,3,4,5,6,7,8,9,10,11] st0 yaC (by kernel_rfl) (by kernel_rfl) ?_))));replace hS:=hS.drew;refine zp (zl underlying35 (Row.cell (hS.bx 0 rfl) (i:=0) rfl)) ?_;obtain ⟨hx,h⟩:=h;refine zp (ybE rfl rfl underlying96 yag hx) (zp (zl underlying3 (Row.cell (hS.bx 2 rfl) (i:=0) rfl)) ?_);obtain ⟨hx2,h⟩:=h;refine zp (zi underlying35 yag (yaB (hS.rdo 1 rfl) hx2)) (zp (yar (v:=(ii (gi cap e2.toNat))) rfl underlying3 rfl (rd_1 (hS.rdo 1 rfl) hx2 (fun q=>yaF q) rfl)) ?_);refine zp (zl underlying35 (Row.cell (hS.bx 0 rfl) (i:=0) rfl)) ?_;obtain ⟨hx3,h⟩:=h;refine zp (ybE rfl rfl underlying96 yag hx3) (zp (zl underlying3 (Row.cell (hS.bx 2 rfl) (i:=1) rfl)) ?_);obtain ⟨hx4,h⟩:=h;refine zp (zi underlying35 yag (yaB (hS.rdo 1 rfl) hx4)) (zp (yar (v:=(ii (gi cap e3.toNat))) rfl underlying3 rfl (rd_1 (hS.rdo 1 rfl) hx4 (fun q=>yaF q) rfl)) ?_);refine zp (za (ii (gi cap e2.toNat))) (zp (za (ii (gi cap e3.toNat))) (ybH (yac (zs (zM (ii (gi cap e2.toNat)) (zM (ii (gi cap e3.toNat)) (zq zE (yaa ?_))))))));by_cases hp:(gi cap e2.toNat)=(gi cap e3.toNat)
  · replace h:=h.1 hp;exact zc hp (zs (zQ (.bool (false)) (yaa (yah rfl rfl ⟨_,_,rfl,(hS.sel [0,1]),h⟩))))
  · replace h:=h.2 hp;refine zd hp (yaf (yac (zs (zq (zl underlying35 (Row.cell (hS.bx 0 rfl) (i:=0) rfl)) (zq (yaG (n:=cap.length) rfl underlying35 (yaD (hS.rdo 1 rfl))) (zM (ii 0) (yaa (yad ?_))))))));obtain ⟨I2,⟨m0,h0⟩,hr⟩:=h;refine yax (fun m E ds w'=>∃ v v2,I2 m v v2∧ds=[]∧E 1=(Value.pointer (some ⟨gc,0,none⟩))∧E 4=(ii (gi cap e2.toNat))∧E 5=(ii (gi cap e3.toNat))∧E 21=(Value.slice Aa Ab Ac)∧E 22=(ii (cap.length:Int))∧E 23=(ii v)∧Sep w S O w' (rl [Res.box 35 gc [(.slice Aa Ab Ac)],Res.own cI 3 Aa Ab Ac v2])) m0 ⟨_,_,h0,rfl,rfl,rfl,rfl,rfl,rfl,rfl,(hS.sel [0,1])⟩ ?_;clear h0 hS;rintro m2 E ds w3 ⟨v,v2,h,rfl,H1,H4,H5,H21,H22,H23,hS⟩ ag;replace h:=hr m2 v v2 h;clear hr;refine zs (zq (ydm H23 H22) (yaa (yac ?_)));by_cases hp2:v<(cap.length:Int)
    · replace h:=h.1 hp2;refine zc hp2 (yaf (yac (yad (zs (zq (yab H23) ?_)))));obtain ⟨hx5,h⟩:=h;refine zq (ydA H21 H23 underlying35 yag (yaB (hS.rdo 1 rfl) hx5)) (zq (yar (v:=(ii (gi v2 v.toNat))) rfl underlying3 rfl (rd_1 (hS.rdo 1 rfl) hx5 (fun q=>yaF q) rfl)) ?_);refine zQ (ii v) (zQ (ii (gi v2 v.toNat)) (yaa (zs (zM (ii (gi v2 v.toNat)) (zq (yab H5) (zq zE (yaa ?_)))))));by_cases hp3:(gi v2 v.toNat)=(gi cap e3.toNat)
      · replace h:=h.1 hp3;refine zc hp3 (zr (zq (yar H1 underlying35 rfl (Row.cell (hS.bx 0 rfl) (i:=0) rfl)) (zM (ii v) (zq (yab H4) (zq (zi underlying35 yag (yaB (hS.rdo 1 rfl) hx5)) (zo (zt (ii (gi cap e2.toNat)) yag (hS.wr 1 rfl rfl hx5) ?_)))))));intro w4 e1;replace hS:=hS.st 1 rfl rfl hx5 (x:=gi cap e2.toNat) rfl e1;clear e1;refine zb (yaa (yae (zr ?_)));obtain ⟨hi,h⟩:=h;refine zq (yb3 H23 rfl hi) (zM (ii (v+1)) (yaa ?_));obtain ⟨mq,hlt,h⟩:=h;exact ag mq _ _ _ ⟨_,_,h,rfl,H1,H4,H5,H21,H22,rfl,(hS.sel [0,1])⟩ hlt
      · replace h:=h.2 hp3;refine zd hp3 (yaf (yae (zr ?_)));obtain ⟨hi2,h⟩:=h;refine zq (yb3 H23 rfl hi2) (zM (ii (v+1)) (yaa ?_));obtain ⟨mq,hlt,h⟩:=h;exact ag mq _ _ _ ⟨_,_,h,rfl,H1,H4,H5,H21,H22,rfl,(hS.sel [0,1])⟩ hlt
    · replace h:=h.2 hp2;exact zd hp2 (yas rfl (zs (zQ (.bool (true)) (yaa (yah rfl rfl ⟨_,_,rfl,(hS.sel [0,1]),h⟩)))))
def ykh(l:List (Int×Int))(f:List Int)(R:(List Bool)→(List Int)→Prop):Prop :=
((0≤(l.length:Int)∧(l.length:Int)≤1000000) ∧
(∃ I2:Nat→Int→(List Int)→(List Bool)→Prop,(∃ m0,I2 m0 0 f (List.replicate (l.length:Int).toNat false))∧∀ m2 v f2 out,I2 m2 v f2 out → 
((v<(l.length:Int) →
((0≤v∧v<(l.length:Int)) ∧
ykj ((gx l v.toNat).1) ((gx l v.toNat).2) f2 (fun r y =>
((0≤v∧v<(out.length:Int)) ∧
(In64 (v+1) ∧
∃ m3,m3<m2∧I2 m3 (v+1) y (out.set v.toNat r)))))) ∧
(¬(v<(l.length:Int)) →
R out f2))))
theorem ykw{S O:Nat→Prop}{w:World}{l f Al ll cl gc Af lf cf}{R:(List Bool)→(List Int)→Prop}(h:ykh l f R)(hS:Sep w S O w (rl [Res.ro (FP.sl c2 Al ll cl l),Res.box 35 gc [(Value.slice Af lf cf)],Res.own cI 3 Af lf cf f])) :
    Calls Tryz.prog 162 #[(.slice Al ll cl),(.func (Fn.func 163) #[] #[(.pointer (some ⟨gc,0,none⟩))])] w fun e w'=>∃ r2 z Ar lr cr,e = .returned (.slice Ar lr cr)∧Sep w S O w' (rl [Res.box 35 gc [(.slice Af lf cf)],Res.own cI 3 Af lf cf z,Res.own cB 4 Ar lr cr r2])∧R r2 z:=by
  unfold ykh at h;refine yal (l:=[(.slice Al ll cl),(.func (Fn.func 163) #[] #[(.pointer (some ⟨gc,0,none⟩))])]) func162 rfl ntmps162 zY (zs (zQ (.slice none 0 0) (yaa (zs (zM (.slice Al ll cl) (zq (yaG (n:=l.length) rfl underlying62 (yaD (hS.rdr 0 rfl))) ?_))))));obtain ⟨hx,h⟩:=h;refine zn (yeX rfl rfl underlying94 ybb (by decide) rfl hx ?_);intro g w2 hN;replace hS:=hS.made 3 rfl cB (.bool (false)) false (fun _ _=>rfl) hN (by omega);clear hN;refine zb (zQ (.slice (some ⟨g,0,none⟩) ((l.length:Int).toNat) ((l.length:Int).toNat)) (yaa (yac (zs (zM (.slice Al ll cl) (zq (yaG (n:=l.length) rfl underlying62 (yaD (hS.rdr 0 rfl))) (zM (ii 0) (yaa (yad ?_)))))))));obtain ⟨I2,⟨m0,h0⟩,hr⟩:=h;refine yax (fun m E ds w'=>∃ v f2 out,I2 m v f2 out∧ds=[]∧E 1=(Value.func (Fn.func 163) #[] #[(.pointer (some ⟨gc,0,none⟩))])∧E 5=(Value.slice (some ⟨g,0,none⟩) ((l.length:Int).toNat) ((l.length:Int).toNat))∧E 11=(Value.slice Al ll cl)∧E 12=(ii (l.length:Int))∧E 13=(ii v)∧Sep w S O w' (rl [Res.box 35 gc [(.slice Af lf cf)],Res.own cI 3 Af lf cf f2,Res.own cB 4 (some ⟨g,0,none⟩) ((l.length:Int).toNat) ((l.length:Int).toNat) out,Res.ro (FP.sl c2 Al ll cl l)])) m0 ⟨_,_,_,h0,rfl,rfl,rfl,rfl,rfl,rfl,(hS.sel [1,2,3,0])⟩ ?_;clear h0 hS;rintro m2 E ds w3 ⟨v,f2,out,h,rfl,H1,H5,H11,H12,H13,hS⟩ ag;replace h:=hr m2 v f2 out h;clear hr;refine zs (zq (ydm H13 H12) (yaa (yac ?_)));by_cases hp:v<(l.length:Int)
  · replace h:=h.1 hp;refine zc hp (yaf (yac (yad (zs (zq (yab H13) ?_)))));obtain ⟨hx2,h⟩:=h;refine zq (ydA H11 H13 underlying62 ybk (yaB (hS.rdr 3 rfl) hx2)) (zq (yao (vs:=[(ii ((gx l v.toNat).1)),(ii ((gx l v.toNat).2))]) rfl underlying96 rfl ybk (yhX (hS.rdr 3 rfl) hx2 (fun q=>ycO q))) ?_);refine zn (yaS ybk ?_);intro g2 w4 hN;replace hS:Sep w S O w4 (stl _ 4 (Res.box 96 g2 [(ii 0),(ii 0)])):=hS.new 4 rfl hN;clear hN;refine zb (zQ (ii v) (zo (yaQ (b:=g2) (o:=0) (cells:=#[(ii ((gx l v.toNat).1)),(ii ((gx l v.toNat).2))]) rfl rfl ybk rfl rfl (yaL (hS.bx 4 rfl) zY) ?_)));intro w5 e1;replace hS:=hS.bstn 4 rfl 0 [(ii ((gx l v.toNat).1)),(ii ((gx l v.toNat).2))] e1;clear e1;refine zb (yaa (zr (zq (yab (v:=(.slice (some ⟨g,0,none⟩) ((l.length:Int).toNat) ((l.length:Int).toNat))) H5) (zM (ii v) (zq (yab (v:=(Value.func (Fn.func 163) #[] #[(.pointer (some ⟨gc,0,none⟩))])) H1) (zq (yao (vs:=[(ii ((gx l v.toNat).1)),(ii ((gx l v.toNat).2))]) rfl underlying96 rfl ybk ⟨Row.cell (hS.bx 4 rfl) (i:=0) rfl,Row.cell (hS.bx 4 rfl) (i:=1) rfl,trivial⟩) ?_))))));have hB:=hS.lend (asc [(0,0),(1,1)]) [0,1] (by decide) ⟨.inl (ya5 rfl), .inl (ya5 rfl),trivial⟩;refine zn (ydt (vs:=#[(.agg #[(ii ((gx l v.toNat).1)),(ii ((gx l v.toNat).2))])]) (us:=#[(.pointer (some ⟨gc,0,none⟩))]) rfl (am1 rfl) enter_163 ((ya4 (by simp) (ykA h hB)).mono ?_));rintro _ w6 ⟨r,y,rfl,hC,h⟩;replace hS:=hS.back (asc [(0,0),(1,1)]) (ydl (by decide)) hC;clear hC hB;refine ⟨_,rfl,?_⟩;refine zb ?_;obtain ⟨hx3,h⟩:=h;refine zq (zi underlying94 ybb (yaB (hS.rdo 2 rfl) hx3)) (zo (zt (.bool (r)) ybb (hS.wr 2 rfl rfl hx3) ?_));intro w7 e1;replace hS:=hS.st 2 rfl rfl hx3 (x:=r) rfl e1;clear e1;refine zb (yaa (yae (zr ?_)));obtain ⟨hi,h⟩:=h;refine zq (yb3 H13 rfl hi) (zM (ii (v+1)) (yaa ?_));obtain ⟨mq,hlt,h⟩:=h;exact ag mq _ _ _ ⟨_,_,_,h,rfl,H1,H5,H11,H12,rfl,(hS.sel [0,1,2,3])⟩ hlt
  · replace h:=h.2 hp;exact zd hp (yas rfl (zs (zq (yab (v:=(.slice (some ⟨g,0,none⟩) ((l.length:Int).toNat) ((l.length:Int).toNat))) H5) (zQ (.slice (some ⟨g,0,none⟩) ((l.length:Int).toNat) ((l.length:Int).toNat)) (yaa (yah rfl rfl ⟨_,_,_,_,_,rfl,(hS.sel [0,1,2]),h⟩))))))
def ykp(n:Int)(ends:List (Int×Int))(R:(List Bool)→Prop):Prop :=
((0≤n∧n≤1000000) ∧
(∃ I2:Nat→Int→(List Int)→Prop,(∃ m0,I2 m0 0 (List.replicate n.toNat (0:Int)))∧∀ m2 v part,I2 m2 v part → 
((v<(((List.replicate n.toNat (0:Int)).length:Nat):Int) →
((0≤v∧v<(part.length:Int)) ∧
(In64 (v+1) ∧
∃ m3,m3<m2∧I2 m3 (v+1) (part.set v.toNat v)))) ∧
(¬(v<(((List.replicate n.toNat (0:Int)).length:Nat):Int)) →
ykh ends part (fun r y =>
R r)))))
theorem ykL{O:Nat→Prop}{w:World}{n ends Aa Ab Ac}{R:(List Bool)→Prop}(h:ykp n ends R)(hO:∀ k,O k→k<w.heap.size)(hA0:(FP.sl c2 Aa Ab Ac ends).P O w) :
    Calls Tryz.prog 147 #[(ii n),(.slice Aa Ab Ac)] w fun e w'=>∃ r2 Ar2 lr2 cr2,e = .returned (.slice Ar2 lr2 cr2)∧Sep w no O w' (rl [Res.own cB 4 Ar2 lr2 cr2 r2])∧R r2:=by
  unfold ykp at h;have hS:Sep w no O w (rl [Res.ro (FP.sl c2 Aa Ab Ac ends)]):=Sep.startl hO [(FP.sl c2 Aa Ab Ac ends)] ⟨hA0,trivial⟩;refine yal (l:=[(ii n),(.slice Aa Ab Ac)]) func147 rfl ntmps147 zY (zs (zQ (.slice none 0 0) (yaa (zs (zM (ii n) ?_)))));obtain ⟨hx,h⟩:=h;refine zn (yeX rfl rfl underlying35 yag (by decide) rfl hx ?_);intro g w2 hN;replace hS:=hS.made 1 rfl cI (ii 0) (0:Int) (fun _ _=>rfl) hN (by omega);clear hN;refine zb (zn (yaS yaJ ?_));intro g2 w3 hN;replace hS:Sep w no O w3 (stl _ 2 (Res.box 35 g2 [(.slice none 0 0)])):=hS.new 2 rfl hN;clear hN;refine zb (zo (zt (.slice (some ⟨g,0,none⟩) n.toNat n.toNat) yaJ (hS.bwr 2 rfl (j:=0) rfl) ?_));intro w4 e1;replace hS:=hS.bst 2 rfl 0 (.slice (some ⟨g,0,none⟩) n.toNat n.toNat) e1;clear e1;refine zb (yaa (yac (zs (zq (zl underlying35 (Row.cell (hS.bx 2 rfl) (i:=0) rfl)) (zq (yaG (n:=(List.replicate n.toNat (0:Int)).length) rfl underlying35 (yaD (hS.rdo 1 rfl))) (zM (ii 0) (yaa (yad ?_))))))));obtain ⟨I2,⟨m0,h0⟩,hr⟩:=h;refine yax (fun m E ds w'=>∃ v part,I2 m v part∧ds=[]∧E 1=(Value.slice Aa Ab Ac)∧E 5=(Value.pointer (some ⟨g2,0,none⟩))∧E 10=(ii (((List.replicate n.toNat (0:Int)).length:Nat):Int))∧E 11=(ii v)∧Sep w no O w' (rl [Res.ro (FP.sl c2 Aa Ab Ac ends),Res.box 35 g2 [(.slice (some ⟨g,0,none⟩) n.toNat n.toNat)],Res.own cI 3 (some ⟨g,0,none⟩) n.toNat n.toNat part])) m0 ⟨_,_,h0,rfl,rfl,rfl,rfl,rfl,(hS.sel [0,2,1])⟩ ?_;clear h0 hS;rintro m2 E ds w5 ⟨v,part,h,rfl,H1,H5,H10,H11,hS⟩ ag;replace h:=hr m2 v part h;clear hr;refine zs (zq (ydm H11 H10) (yaa (yac ?_)));by_cases hp:v<(((List.replicate n.toNat (0:Int)).length:Nat):Int)
  · replace h:=h.1 hp;refine zc hp (yaf (yac (yad (zs (zq (yab H11) (zQ (ii v) (yaa (zr (zq (yar H5 underlying35 rfl (Row.cell (hS.bx 1 rfl) (i:=0) rfl)) (zM (ii v) (zM (ii v) ?_)))))))))));obtain ⟨hx2,h⟩:=h;refine zq (zi underlying35 yag (yaB (hS.rdo 2 rfl) hx2)) (zo (zt (ii v) yag (hS.wr 2 rfl rfl hx2) ?_));intro w6 e1;replace hS:=hS.st 2 rfl rfl hx2 (x:=v) rfl e1;clear e1;refine zb (yaa (yae (zr ?_)));obtain ⟨hi,h⟩:=h;refine zq (yb3 H11 rfl hi) (zM (ii (v+1)) (yaa ?_));obtain ⟨mq,hlt,h⟩:=h;exact ag mq _ _ _ ⟨_,_,h,rfl,H1,H5,H10,rfl,(hS.sel [0,1,2])⟩ hlt
  · replace h:=h.2 hp;refine zd hp (yas rfl (zs (zq (yab H1) (zq (ykf (am0) (am1 H5)) ?_))));have hB:=hS.lend (asc [(1,0),(2,1),(3,2)]) [0,1,2] (by decide) ⟨.inr rfl, .inl (ya5 rfl), .inl (ya5 rfl),trivial⟩;refine zn (ydt (vs:=#[(.slice Aa Ab Ac),(.func (Fn.func 163) #[] #[(.pointer (some ⟨g2,0,none⟩))])]) (us:=#[]) rfl (am2 rfl rfl) enter_162 ((ya4 (by simp) (ykw h hB)).mono ?_));rintro _ w7 ⟨r,y,Ar,lr,cr,rfl,hC,h⟩;replace hS:=hS.back (asc [(1,0),(2,1),(3,2)]) (ydl (by decide)) hC;clear hC hB;refine ⟨_,rfl,?_⟩;exact zb (zQ (.slice Ar lr cr) (yaa (yah rfl rfl ⟨_,_,_,_,rfl,(hS.sel [3]),h⟩)))
def ykk(ends:List (Int×Int))(in2:List Bool)(e2:Int)(cap:Int)(cap2:List E3)(R:(List Int)→Prop):Prop :=
((0≤(ends.length:Int)∧(ends.length:Int)≤1000000) ∧
((0≤e2∧e2<(((List.replicate (ends.length:Int).toNat (0:Int)).length:Nat):Int)) ∧
(∃ I2:Nat→Int→(List Int)→Prop,(∃ m0,I2 m0 0 ((List.replicate (ends.length:Int).toNat (0:Int)).set e2.toNat 1))∧∀ m2 v out,I2 m2 v out → 
((v<(ends.length:Int) →
((0≤v∧v<(in2.length:Int)) ∧
((gb in2 v.toNat=true →
yki cap ends in2 v (fun r =>
ycY ends r (fun r2 =>
((0≤e2∧e2<(r2.length:Int)) ∧
(In64 (-(gi r2 e2.toNat)) ∧
((0≤v∧v<(out.length:Int)) ∧
(In64 (v+1) ∧
∃ m3,m3<m2∧I2 m3 (v+1) (out.set v.toNat (-(gi r2 e2.toNat)))))))))) ∧
(¬(gb in2 v.toNat=true) →
(In64 (v+1) ∧
∃ m4,m4<m2∧I2 m4 (v+1) out))))) ∧
(¬(v<(ends.length:Int)) →
R out)))))
theorem ykC{O:Nat→Prop}{w:World}{ends in2 e2 cap cap2 Ad Ae Af Ag Ah Ai gc Aa Ab Ac}{R:(List Int)→Prop}(h:ykk ends in2 e2 cap cap2 R)(hO:∀ k,O k→k<w.heap.size)(hA0:(FP.sl c2 Ad Ae Af ends).P O w)(hA1:(FP.sl cB Ag Ah Ai in2).P O w)(hA2:(FP.bx 24 gc [(Value.int .i64 cap),(Value.slice Aa Ab Ac)]).P O w)(hA3:(FP.sl c3 Aa Ab Ac cap2).P O w) :
    Calls Tryz.prog 110 #[(.slice Ad Ae Af),(.slice Ag Ah Ai),(ii e2),(.pointer (some ⟨gc,0,none⟩))] w fun e w'=>∃ r3 Ar3 lr3 cr3,e = .returned (.slice Ar3 lr3 cr3)∧Sep w no O w' (rl [Res.own cI 3 Ar3 lr3 cr3 r3])∧R r3:=by
  unfold ykk at h;have hS:Sep w no O w (rl [Res.ro (FP.sl c2 Ad Ae Af ends),Res.ro (FP.sl cB Ag Ah Ai in2),Res.ro (FP.bx 24 gc [(ii cap),(.slice Aa Ab Ac)]),Res.ro (FP.sl c3 Aa Ab Ac cap2)]):=Sep.startl hO [(FP.sl c2 Ad Ae Af ends),(FP.sl cB Ag Ah Ai in2),(FP.bx 24 gc [(ii cap),(.slice Aa Ab Ac)]),(FP.sl c3 Aa Ab Ac cap2)] ⟨hA0,hA1,hA2,hA3,trivial⟩;refine yal (l:=[(.slice Ad Ae Af),(.slice Ag Ah Ai),(ii e2),(.pointer (some ⟨gc,0,none⟩))]) func110 rfl ntmps110 zY (zs (zQ (.slice none 0 0) (yaa (zs (zM (.slice Ad Ae Af) (zq (yaG (n:=ends.length) rfl underlying62 (yaD (hS.rdr 0 rfl))) ?_))))));obtain ⟨hx,h⟩:=h;refine zn (yeX rfl rfl underlying35 yag (by decide) rfl hx ?_);intro g w2 hN;replace hS:=hS.made 4 rfl cI (ii 0) (0:Int) (fun _ _=>rfl) hN (by omega);clear hN;refine zb (zQ (.slice (some ⟨g,0,none⟩) ((ends.length:Int).toNat) ((ends.length:Int).toNat)) (yaa (zs (zM (.slice (some ⟨g,0,none⟩) ((ends.length:Int).toNat) ((ends.length:Int).toNat)) (zM (ii e2) ?_)))));obtain ⟨hx2,h⟩:=h;refine zq (zi underlying35 yag (yaB (hS.rdo 4 rfl) hx2)) (zo (zt (ii 1) yag (hS.wr 4 rfl rfl hx2) ?_));intro w3 e1;replace hS:=hS.st 4 rfl rfl hx2 (x:=1) rfl e1;clear e1;refine zb (yaa (yac (zs (zM (.slice Ad Ae Af) (zq (yaG (n:=ends.length) rfl underlying62 (yaD (hS.rdr 0 rfl))) (zM (ii 0) (yaa (yad ?_))))))));obtain ⟨I2,⟨m0,h0⟩,hr⟩:=h;refine yax (fun m E ds w'=>∃ v out,I2 m v out∧ds=[]∧E 0=(Value.slice Ad Ae Af)∧E 1=(Value.slice Ag Ah Ai)∧E 2=(ii e2)∧E 3=(Value.pointer (some ⟨gc,0,none⟩))∧E 8=(Value.slice (some ⟨g,0,none⟩) ((ends.length:Int).toNat) ((ends.length:Int).toNat))∧E 17=(ii (ends.length:Int))∧E 18=(ii v)∧Sep w no O w' (rl [Res.ro (FP.sl c2 Ad Ae Af ends),Res.ro (FP.sl cB Ag Ah Ai in2),Res.ro (FP.bx 24 gc [(ii cap),(.slice Aa Ab Ac)]),Res.ro (FP.sl c3 Aa Ab Ac cap2),Res.own cI 3 (some ⟨g,0,none⟩) ((ends.length:Int).toNat) ((ends.length:Int).toNat) out])) m0 ⟨_,_,h0,rfl,rfl,rfl,rfl,rfl,rfl,rfl,rfl,(hS.sel [0,1,2,3,4])⟩ ?_;clear h0 hS;rintro m2 E ds w4 ⟨v,out,h,rfl,H0,H1,H2,H3,H8,H17,H18,hS⟩ ag;replace h:=hr m2 v out h;clear hr;refine zs (zq (ydm H18 H17) (yaa (yac ?_)));by_cases hp:v<(ends.length:Int)
  · replace h:=h.1 hp;refine zc hp (yaf (yac (yad (zs (zq (yab H18) (zQ (ii v) (yaa (zs (zq (yab H1) (zM (ii v) ?_))))))))));obtain ⟨hx3,h⟩:=h;refine zq (zi underlying94 ybb (yaB (hS.rdr 1 rfl) hx3)) (zq (yar (v:=(.bool (gb in2 v.toNat))) rfl underlying4 rfl (rd_1 (hS.rdr 1 rfl) hx3 (fun q=>yfd q) rfl)) ?_);refine yaa ?_;by_cases hp2:gb in2 v.toNat=true
    · replace h:=h.1 hp2;refine yaq (zC hp2) (zr (zq (yab (v:=(.slice (some ⟨g,0,none⟩) ((ends.length:Int).toNat) ((ends.length:Int).toNat))) H8) (zM (ii v) (zq (yab H0) (zq (yam H3 underlying24 rfl yag) (zq (zl underlying3 (Row.cell (hS.bxr 2 rfl) (i:=0) rfl)) (zq (yab H0) (zq (yab H1) (zM (ii v) (zn (yai rfl (am4 rfl rfl rfl rfl) enter_111 ((ykN h (yaz _) (hS.rdr 0 rfl) (hS.rdr 1 rfl)).mono ?_))))))))))));rintro _ w5 ⟨r,Ar,lr,cr,rfl,hC,h⟩;replace hS:=hS.call1 (hC.widen (ycv (yaP (fI .i64) _ _ _ _ _) ycH) hS.blt) 5 0 rfl;clear hC;refine ⟨_,rfl,?_⟩;refine zb (zn (yai rfl (am2 rfl rfl) enter_94 ((yhb h (yaz _) (hS.rdr 0 rfl) (hS.rdo 5 rfl)).mono ?_)));rintro _ w6 ⟨r2,Ar2,lr2,cr2,rfl,hC,h⟩;replace hS:=hS.call1 (hC.widen (ycv (yaP (fI .i64) _ _ _ _ _) ycH) hS.blt) 6 0 rfl;clear hC;refine ⟨_,rfl,?_⟩;refine zb (zq (yab H2) ?_);obtain ⟨hx4,h⟩:=h;refine zq (zi underlying35 yag (yaB (hS.rdo 6 rfl) hx4)) (zq (yar (v:=(ii (gi r2 e2.toNat))) rfl underlying3 rfl (rd_1 (hS.rdo 6 rfl) hx4 (fun q=>yaF q) rfl)) ?_);obtain ⟨hi,h⟩:=h;refine zq (v_neg rfl hi) ?_;obtain ⟨hx5,h⟩:=h;refine zq (zi underlying35 yag (yaB (hS.rdo 4 rfl) hx5)) (zo (zt (ii (-(gi r2 e2.toNat))) yag (hS.wr 4 rfl rfl hx5) ?_));intro w7 e1;replace hS:=hS.st 4 rfl rfl hx5 (x := -(gi r2 e2.toNat)) rfl e1;clear e1;refine zb (yaa (yae (zr ?_)));obtain ⟨hi2,h⟩:=h;refine zq (yb3 H18 rfl hi2) (zM (ii (v+1)) (yaa ?_));obtain ⟨mq,hlt,h⟩:=h;exact ag mq _ _ _ ⟨_,_,h,rfl,H0,H1,H2,H3,H8,H17,rfl,(hS.sel [0,1,2,3,4])⟩ hlt
    · replace h:=h.2 hp2;refine yav (zC (zI hp2)) (yaf (yae (zr ?_)));obtain ⟨hi3,h⟩:=h;refine zq (yb3 H18 rfl hi3) (zM (ii (v+1)) (yaa ?_));obtain ⟨mq,hlt,h⟩:=h;exact ag mq _ _ _ ⟨_,_,h,rfl,H0,H1,H2,H3,H8,H17,rfl,(hS.sel [0,1,2,3,4])⟩ hlt
  · replace h:=h.2 hp;exact zd hp (yas rfl (zs (zq (yab (v:=(.slice (some ⟨g,0,none⟩) ((ends.length:Int).toNat) ((ends.length:Int).toNat))) H8) (zQ (.slice (some ⟨g,0,none⟩) ((ends.length:Int).toNat) ((ends.length:Int).toNat)) (yaa (yah rfl rfl ⟨_,_,_,_,rfl,(hS.sel [4]),h⟩))))))
def ykv(g:Int)(g2:List E3)(tree:Bool)(vector:Int)(vector2:List E3)(R:(List (List Int))→Int→Prop):Prop :=
yko g g2 (fun r r2 =>
((r2=0 →
ykp g r (fun r3 =>
(∃ I2:Nat→(List (List Int))→Int→Prop,(∃ m0,I2 m0 ([]) 0)∧∀ m2 out v,I2 m2 out v → 
((v<(r.length:Int) →
((0≤v∧v<(r3.length:Int)) ∧
(((gb r3 v.toNat==tree)=true →
ykk r r3 v vector vector2 (fun r4 =>
(out.length+1≤1000000000 ∧
(In64 (v+1) ∧
∃ m3,m3<m2∧I2 m3 (out++[r4]) (v+1))))) ∧
(¬((gb r3 v.toNat==tree)=true) →
(In64 (v+1) ∧
∃ m4,m4<m2∧I2 m4 out (v+1)))))) ∧
(¬(v<(r.length:Int)) →
R out 0))))) ∧
(¬(r2=0) →
R ([]) r2)))
theorem ykK{O:Nat→Prop}{w:World}{g g2 tree vector vector2 Ag lg cg gc Ad Ae Af}{R:(List (List Int))→Int→Prop}(h:ykv g g2 tree vector vector2 R)(hO:∀ k,O k→k<w.heap.size)(hA0:(FP.sl c3 Ag lg cg g2).P O w)(hA1:(FP.bx 24 gc [(Value.int .i64 vector),(Value.slice Ad Ae Af)]).P O w)(hA2:(FP.sl c3 Ad Ae Af vector2).P O w) :
    Calls Tryz.prog 109 #[(.agg #[(ii g),(.slice Ag lg cg)]),(.bool (tree)),(.func (Fn.func 110) #[] #[(.pointer (some ⟨gc,0,none⟩))])] w fun e w'=>∃ r5 r6 Ar4 lr4 cr4,e = .returned (.tuple #[(.slice Ar4 lr4 cr4),(ii r6)])∧Sep w no O w' (rl [Res.own (cL cI) 35 Ar4 lr4 cr4 r5])∧R r5 r6:=by
  unfold ykv at h;have hS:Sep w no O w (rl [Res.ro (FP.sl c3 Ag lg cg g2),Res.ro (FP.bx 24 gc [(ii vector),(.slice Ad Ae Af)]),Res.ro (FP.sl c3 Ad Ae Af vector2)]):=Sep.startl hO [(FP.sl c3 Ag lg cg g2),(FP.bx 24 gc [(ii vector),(.slice Ad Ae Af)]),(FP.sl c3 Ad Ae Af vector2)] ⟨hA0,hA1,hA2,trivial⟩;refine yal (l:=[(.agg #[(ii g),(.slice Ag lg cg)]),(.bool (tree)),(.func (Fn.func 110) #[] #[(.pointer (some ⟨gc,0,none⟩))])]) func109 rfl ntmps109 zY (zs (zn (ybm (v:=(.agg #[(ii g),(.slice Ag lg cg)])) rfl ?_)));intro g3 w2 hN;replace hS:Sep w no O w2 (stl _ 3 (Res.box 24 g3 [(ii g),(.slice Ag lg cg)])):=hS.new 3 rfl hN;clear hN;refine zb (zQ (.slice none 0 0) (zQ (ii 0) (yaa (zs (zq (yao (vs:=[(ii g),(.slice Ag lg cg)]) rfl underlying24 rfl yak ⟨Row.cell (hS.bx 3 rfl) (i:=0) rfl,Row.cell (hS.bx 3 rfl) (i:=1) rfl,trivial⟩) (zn (yai rfl (am1 rfl) enter_108 ((ykB h (yaz _) (hS.rdr 0 rfl)).mono ?_))))))));rintro _ w3 ⟨r,r2,Ar,lr,cr,rfl,hC,h⟩;replace hS:=hS.call1 (hC.widen (ycv (yaP (fP (fI .i64) (fI .i64)) _ _ _ _ _) ycH) hS.blt) 4 0 rfl;clear hC;refine ⟨_,rfl,?_⟩;refine zb (zM (.tuple #[(.slice Ar lr cr),(ii r2)]) (zq (zx (.slice Ar lr cr)) (zq (zx (ii r2)) (zQ (.slice Ar lr cr) (zQ (ii r2) (yaa (yac (zs (zM (ii r2) (zq zN (yaa ?_)))))))))));by_cases hp:r2=0
  · replace h:=h.1 hp;refine ze hp (yaf (zs (zq (yam rfl underlying24 rfl yag) (zq (zl underlying3 (Row.cell (hS.bx 3 rfl) (i:=0) rfl)) (zM (.slice Ar lr cr) (zn (yai rfl (am2 rfl rfl) enter_147 ((ykL h (yaz _) (hS.rdo 4 rfl)).mono ?_))))))));rintro _ w4 ⟨r3,Ar2,lr2,cr2,rfl,hC,h⟩;replace hS:=hS.call1 (hC.widen (ycv (yaP fB _ _ _ _ _) ycH) hS.blt) 5 0 rfl;clear hC;refine ⟨_,rfl,?_⟩;refine zb (zQ (.slice Ar2 lr2 cr2) (yaa (zs (zQ (.slice none 0 0) (yaa (yac (zs (zM (.slice Ar lr cr) (zq (yaG (n:=r.length) rfl underlying62 (yaD (hS.rdo 4 rfl))) (zM (ii 0) (yaa (yad ?_))))))))))));replace hS:=hS.nil 6 rfl (cL cI) 35;obtain ⟨I2,⟨m0,h0⟩,hr⟩:=h;refine yax (fun m E ds w'=>∃ out v Aa Ab Ac,I2 m out v∧ds=[]∧E 1=(Value.bool (tree))∧E 2=(Value.func (Fn.func 110) #[] #[(.pointer (some ⟨gc,0,none⟩))])∧E 8=(Value.slice Ar lr cr)∧E 10=(Value.slice Ar2 lr2 cr2)∧E 11=(Value.slice Aa Ab Ac)∧E 26=(ii (r.length:Int))∧E 27=(ii v)∧Sep w no O w' (rl [Res.own (cL cI) 35 Aa Ab Ac out,Res.ro (FP.bx 24 gc [(ii vector),(.slice Ad Ae Af)]),Res.ro (FP.sl c3 Ad Ae Af vector2),Res.own c2 96 Ar lr cr r,Res.own cB 4 Ar2 lr2 cr2 r3])) m0 ⟨_,_,_,_,_,h0,rfl,rfl,rfl,rfl,rfl,rfl,rfl,rfl,(hS.sel [6,1,2,4,5])⟩ ?_;clear h0 hS;rintro m2 E ds w5 ⟨out,v,Aa,Ab,Ac,h,rfl,H1,H2,H8,H10,H11,H26,H27,hS⟩ ag;replace h:=hr m2 out v h;clear hr;refine zs (zq (ydm H27 H26) (yaa (yac ?_)));by_cases hp2:v<(r.length:Int)
    · replace h:=h.1 hp2;refine zc hp2 (yaf (yac (yad (zs (zq (yab H27) (zQ (ii v) (yaa (zs (zq (yab H10) (zM (ii v) ?_))))))))));obtain ⟨hx,h⟩:=h;refine zq (zi underlying94 ybb (yaB (hS.rdo 4 rfl) hx)) (zq (yar (v:=(.bool (gb r3 v.toNat))) rfl underlying4 rfl (rd_1 (hS.rdo 4 rfl) hx (fun q=>yfd q) rfl)) ?_);refine zq (yab H1) (zq (v_beql rfl rfl underlying4) (yaa ?_));by_cases hp3:(gb r3 v.toNat==tree)=true
      · replace h:=h.1 hp3;refine yaq (zC hp3) (zr (zq (yab H11) (zq (yab (v:=(Value.func (Fn.func 110) #[] #[(.pointer (some ⟨gc,0,none⟩))])) H2) (zq (yab H8) (zq (yab H10) (zM (ii v) (zn (ydt (vs:=#[(.slice Ar lr cr),(.slice Ar2 lr2 cr2),(ii v)]) (us:=#[(.pointer (some ⟨gc,0,none⟩))]) rfl (am3 rfl rfl rfl) enter_110 ((ya4 (by simp) (ykC h (yaz _) (hS.rdo 3 rfl) (hS.rdo 4 rfl) (FP.sub _ (hS.ro 1 rfl) (fun _ _ h=>h.elim):FP.P _ no _) (FP.sub _ (hS.ro 2 rfl) (fun _ _ h=>h.elim):FP.P _ no _))).mono ?_)))))))));rintro _ w6 ⟨r4,Ar3,lr3,cr3,rfl,hC,h⟩;replace hS:=hS.call1 (hC.widen (ycv (yaP (fI .i64) _ _ _ _ _) ycH) hS.blt) 5 0 rfl;clear hC;refine ⟨_,rfl,?_⟩;refine zb ?_;replace hS:=hS.frz 5 rfl;refine zn (yaK (l:=[(0,(.slice Ar3 lr3 cr3))]) (cells:=[(.slice Ar3 lr3 cr3)]) (bp1 rfl) underlying27 yaJ rfl rfl ?_);intro g4 w7 hN;replace hS:=hS.lit (n:=1) (c:=(cL cI)) 6 rfl hN ([r4]:List (List Int)) rfl (by decide) ⟨[(.slice Ar3 lr3 cr3)],_,rfl,(ro_R (hS.ro 5 rfl)),rfl⟩;clear hN;refine zb ?_;obtain ⟨hx2,h⟩:=h;refine zn (yfv (c:=(cL cI)) rfl rfl underlying27 underlying27 yaJ rfl rfl (by decide) hS 0 rfl (hS.yo 6 rfl) hx2 ?_);clear hS;intro A c w8 hS;refine zb (zQ (.slice A (Ab+1) c) (yaa (yae (zr ?_))));obtain ⟨hi,h⟩:=h;refine zq (yb3 H27 rfl hi) (zM (ii (v+1)) (yaa ?_));obtain ⟨mq,hlt,h⟩:=h;exact ag mq _ _ _ ⟨_,_,_,_,_,h,rfl,H1,H2,H8,H10,rfl,H26,rfl,(hS.sel [0,1,2,3,4])⟩ hlt
      · replace h:=h.2 hp3;refine yav (zC (zI hp3)) (yaf (yae (zr ?_)));obtain ⟨hi2,h⟩:=h;refine zq (yb3 H27 rfl hi2) (zM (ii (v+1)) (yaa ?_));obtain ⟨mq,hlt,h⟩:=h;exact ag mq _ _ _ ⟨_,_,_,_,_,h,rfl,H1,H2,H8,H10,H11,H26,rfl,(hS.sel [0,1,2,3,4])⟩ hlt
    · replace h:=h.2 hp2;exact zd hp2 (yas rfl (zs (zq (yab H11) (zQ (.slice Aa Ab Ac) (zQ (ii 0) (yaa (ya7 rfl rfl rfl ⟨_,_,_,_,_,rfl,(hS.sel [0]),h⟩)))))))
  · replace h:=h.2 hp;refine zf hp (zs (zM (ii r2) (zQ (.slice none 0 0) (zQ (ii r2) (yaa ?_)))));replace hS:=hS.nil 5 rfl (cL cI) 35;exact ya7 rfl rfl rfl ⟨_,_,_,_,_,rfl,(hS.sel [5]),h⟩
def ykm(g:Int)(g2:List E3)(R:(List (List Int))→Int→Prop):Prop :=
ykv g g2 false g g2 (fun r r2 =>
R r r2)
theorem ykJ{O:Nat→Prop}{w:World}{g g2 Ag lg cg}{R:(List (List Int))→Int→Prop}(h:ykm g g2 R)(hO:∀ k,O k→k<w.heap.size)(hA0:(FP.sl c3 Ag lg cg g2).P O w) :
    Calls Tryz.prog 72 #[(.agg #[(ii g),(.slice Ag lg cg)])] w fun e w'=>∃ r3 r4 Ar2 lr2 cr2,e = .returned (.tuple #[(.slice Ar2 lr2 cr2),(ii r4)])∧Sep w no O w' (rl [Res.own (cL cI) 35 Ar2 lr2 cr2 r3])∧R r3 r4:=by
  unfold ykm at h;have hS:Sep w no O w (rl [Res.ro (FP.sl c3 Ag lg cg g2)]):=Sep.startl hO [(FP.sl c3 Ag lg cg g2)] ⟨hA0,trivial⟩;refine yal (l:=[(.agg #[(ii g),(.slice Ag lg cg)])]) func72 rfl ntmps72 zY (zs (zn (ybm (v:=(.agg #[(ii g),(.slice Ag lg cg)])) rfl ?_)));intro g3 w2 hN;replace hS:Sep w no O w2 (stl _ 1 (Res.box 24 g3 [(ii g),(.slice Ag lg cg)])):=hS.new 1 rfl hN;clear hN;refine zb (zQ (.slice none 0 0) (zQ (ii 0) (yaa (zs (zq (yao (vs:=[(ii g),(.slice Ag lg cg)]) rfl underlying24 rfl yak ⟨Row.cell (hS.bx 1 rfl) (i:=0) rfl,Row.cell (hS.bx 1 rfl) (i:=1) rfl,trivial⟩) (zq (ykf (am0) (am1 rfl)) ?_))))));replace hS:=hS.frzb 1 rfl;replace hS:=hS.addro 2 rfl _ (hS.ro 0 rfl);refine zn (ydt (vs:=#[(.agg #[(ii g),(.slice Ag lg cg)]),(.bool (false)),(.func (Fn.func 110) #[] #[(.pointer (some ⟨g3,0,none⟩))])]) (us:=#[]) rfl (am3 rfl rfl rfl) enter_109 ((ya4 (by simp) (ykK h hS.blt (hS.ro 0 rfl) (hS.ro 1 rfl) (hS.ro 2 rfl))).mono ?_));rintro _ w3 ⟨r,r2,Ar,lr,cr,rfl,hC,h⟩;replace hS:=hS.call1 hC 3 0 rfl;clear hC;refine ⟨_,rfl,?_⟩;exact zb (zq (zx (.slice Ar lr cr)) (zq (zx (ii r2)) (zQ (.slice Ar lr cr) (zQ (ii r2) (yaa (ya7 rfl rfl rfl ⟨_,_,_,_,_,rfl,(hS.sel [3]),h⟩))))))
def yku(x:List Int)(y:List Int)(R:Int→Prop):Prop :=
(∃ I2:Nat→Int→Int→Prop,(∃ m0,I2 m0 0 0)∧∀ m2 sum v,I2 m2 sum v → 
((v<(x.length:Int) →
((0≤v∧v<(x.length:Int)) ∧
((0≤v∧v<(y.length:Int)) ∧
(In64 ((gi x v.toNat)*(gi y v.toNat)) ∧
(In64 (sum+((gi x v.toNat)*(gi y v.toNat))) ∧
(In64 (v+1) ∧
∃ m3,m3<m2∧I2 m3 (sum+((gi x v.toNat)*(gi y v.toNat))) (v+1))))))) ∧
(¬(v<(x.length:Int)) →
R sum)))
theorem ykT{O:Nat→Prop}{w:World}{x y Ax lx cx Ay ly cy}{R:Int→Prop}(h:yku x y R)(hO:∀ k,O k→k<w.heap.size)(hA0:(FP.sl cI Ax lx cx x).P O w)(hA1:(FP.sl cI Ay ly cy y).P O w) :
    Calls Tryz.prog 74 #[(.slice Ax lx cx),(.slice Ay ly cy)] w fun e w'=>∃ r,e = .returned (ii r)∧Sep w no O w' (rl [])∧R r:=by
  unfold yku at h;have hS:Sep w no O w (rl [Res.ro (FP.sl cI Ax lx cx x),Res.ro (FP.sl cI Ay ly cy y)]):=Sep.startl hO [(FP.sl cI Ax lx cx x),(FP.sl cI Ay ly cy y)] ⟨hA0,hA1,trivial⟩;refine yal (l:=[(.slice Ax lx cx),(.slice Ay ly cy)]) func74 rfl ntmps74 zY (zs (zQ (ii 0) (yaa (zs (zQ (ii 0) (yaa (yac (zs (zM (.slice Ax lx cx) (zq (yaG (n:=x.length) rfl underlying35 (yaD (hS.rdr 0 rfl))) (zM (ii 0) (yaa (yad ?_)))))))))))));obtain ⟨I2,⟨m0,h0⟩,hr⟩:=h;refine yax (fun m E ds w'=>∃ sum v,I2 m sum v∧ds=[]∧E 1=(Value.slice Ay ly cy)∧E 5=(ii sum)∧E 8=(Value.slice Ax lx cx)∧E 9=(ii (x.length:Int))∧E 10=(ii v)∧Sep w no O w' (rl [Res.ro (FP.sl cI Ay ly cy y),Res.ro (FP.sl cI Ax lx cx x)])) m0 ⟨_,_,h0,rfl,rfl,rfl,rfl,rfl,rfl,(hS.sel [1,0])⟩ ?_;clear h0 hS;rintro m2 E ds w2 ⟨sum,v,h,rfl,H1,H5,H8,H9,H10,hS⟩ ag;replace h:=hr m2 sum v h;clear hr;refine zs (zq (ydm H10 H9) (yaa (yac ?_)));by_cases hp:v<(x.length:Int)
  · replace h:=h.1 hp;refine zc hp (yaf (yac (yad (zs (zq (yab H10) ?_)))));obtain ⟨hx,h⟩:=h;refine zq (ydA H8 H10 underlying35 yag (yaB (hS.rdr 1 rfl) hx)) (zq (yar (v:=(ii (gi x v.toNat))) rfl underlying3 rfl (rd_1 (hS.rdr 1 rfl) hx (fun q=>yaF q) rfl)) ?_);refine zQ (ii v) (zQ (ii (gi x v.toNat)) (yaa (zr (zq (yab H5) (zM (ii (gi x v.toNat)) (zq (yab H1) (zM (ii v) ?_)))))));obtain ⟨hx2,h⟩:=h;refine zq (zi underlying35 yag (yaB (hS.rdr 0 rfl) hx2)) (zq (yar (v:=(ii (gi y v.toNat))) rfl underlying3 rfl (rd_1 (hS.rdr 0 rfl) hx2 (fun q=>yaF q) rfl)) ?_);obtain ⟨hi,h⟩:=h;refine zq (v_mul rfl rfl hi) ?_;obtain ⟨hi2,h⟩:=h;refine zq (zA hi2) (zQ (ii (sum+((gi x v.toNat)*(gi y v.toNat)))) (yaa (yae (zr ?_))));obtain ⟨hi3,h⟩:=h;refine zq (yb3 H10 rfl hi3) (zM (ii (v+1)) (yaa ?_));obtain ⟨mq,hlt,h⟩:=h;exact ag mq _ _ _ ⟨_,_,h,rfl,H1,rfl,H8,H9,rfl,(hS.sel [0,1])⟩ hlt
  · replace h:=h.2 hp;exact zd hp (yas rfl (zs (zq (yab H5) (zQ (ii sum) (yaa (yah rfl rfl ⟨_,rfl,(hS.sel []),h⟩))))))
def ykt(n:Int)(R:Bool→Prop):Prop :=
R (!(decide (n=0)))
theorem ykF{O:Nat→Prop}{w:World}{n}{R:Bool→Prop}(h:ykt n R)(hO:∀ k,O k→k<w.heap.size) :
    Calls Tryz.prog 71 #[(ii n)] w fun e w'=>∃ r,e = .returned (.bool (r))∧Sep w no O w' (rl [])∧R r:=by
  unfold ykt at h;have hS:Sep w no O w (rl []):=Sep.start w hO;exact yal (l:=[(ii n)]) func71 rfl ntmps71 zY (zs (zQ (.bool (false)) (yaa (zs (zM (ii n) (zq zN (zQ (.bool (!(decide (n=0)))) (yaa (yah rfl rfl ⟨_,rfl,(hS.sel []),h⟩)))))))))
def yks(c:List Int)(cap:List Int)(R:Bool→Prop):Prop :=
yku c cap (fun r =>
R (!(decide (r=0))))
theorem ykI{O:Nat→Prop}{w:World}{c cap Ac lc cc gc Aa Ab Ad}{R:Bool→Prop}(h:yks c cap R)(hO:∀ k,O k→k<w.heap.size)(hA0:(FP.sl cI Ac lc cc c).P O w)(hA1:(FP.bx 35 gc [(Value.slice Aa Ab Ad)]).P O w)(hA2:(FP.sl cI Aa Ab Ad cap).P O w) :
    Calls Tryz.prog 73 #[(.slice Ac lc cc),(.pointer (some ⟨gc,0,none⟩))] w fun e w'=>∃ r2,e = .returned (.bool (r2))∧Sep w no O w' (rl [])∧R r2:=by
  unfold yks at h;have hS:Sep w no O w (rl [Res.ro (FP.sl cI Ac lc cc c),Res.ro (FP.bx 35 gc [(.slice Aa Ab Ad)]),Res.ro (FP.sl cI Aa Ab Ad cap)]):=Sep.startl hO [(FP.sl cI Ac lc cc c),(FP.bx 35 gc [(.slice Aa Ab Ad)]),(FP.sl cI Aa Ab Ad cap)] ⟨hA0,hA1,hA2,trivial⟩;refine yal (l:=[(.slice Ac lc cc),(.pointer (some ⟨gc,0,none⟩))]) func73 rfl ntmps73 zY (zs (zQ (.bool (false)) (yaa (zs (zM (.slice Ac lc cc) (zq (zl underlying35 (Row.cell (hS.bxr 1 rfl) (i:=0) rfl)) (zn (yai rfl (am2 rfl rfl) enter_74 ((ykT h (yaz _) (hS.rdr 0 rfl) (hS.rdr 2 rfl)).mono ?_)))))))));rintro _ w2 ⟨r,rfl,hC,h⟩;replace hS:=hS.pur hC.pure;clear hC;refine ⟨_,rfl,?_⟩;exact zb (zq zN (zQ (.bool (!(decide (r=0)))) (yaa (yah rfl rfl ⟨_,rfl,(hS.sel []),h⟩))))
def ykl(g:Int)(g2:List E3)(x:List Int)(R:Bool→Bool→Int→Prop):Prop :=
ykr g g2 x (fun r r2 =>
((r2=0 →
ykq g r x (fun r3 =>
yaR r3 (fun x2 R=>ykt x2 R) (fun r4 =>
ykm g g2 (fun r5 r6 =>
((r6=0 →
yaX r5 (fun x3 R=>yks x3 x R) (fun r7 =>
R (!(r4)) (!(r7)) 0)) ∧
(¬(r6=0) →
R false false r6)))))) ∧
(¬(r2=0) →
R false false r2)))
theorem ykz{O:Nat→Prop}{w:World}{g g2 x Ag lg cg Ax lx cx}{R:Bool→Bool→Int→Prop}(h:ykl g g2 x R)(hO:∀ k,O k→k<w.heap.size)(hA0:(FP.sl c3 Ag lg cg g2).P O w)(hA1:(FP.sl cI Ax lx cx x).P O w) :
    Calls Tryz.prog 34 #[(.agg #[(ii g),(.slice Ag lg cg)]),(.slice Ax lx cx)] w fun e w'=>∃ r8 r9 r10,e = .returned (.tuple #[(.bool (r8)),(.bool (r9)),(ii r10)])∧Sep w no O w' (rl [])∧R r8 r9 r10:=by
  unfold ykl at h;have hS:Sep w no O w (rl [Res.ro (FP.sl c3 Ag lg cg g2),Res.ro (FP.sl cI Ax lx cx x)]):=Sep.startl hO [(FP.sl c3 Ag lg cg g2),(FP.sl cI Ax lx cx x)] ⟨hA0,hA1,trivial⟩;refine yal (l:=[(.agg #[(ii g),(.slice Ag lg cg)]),(.slice Ax lx cx)]) func34 rfl ntmps34 zY (zs (zn (ybm (v:=(.agg #[(ii g),(.slice Ag lg cg)])) rfl ?_)));intro g3 w2 hN;replace hS:Sep w no O w2 (stl _ 2 (Res.box 24 g3 [(ii g),(.slice Ag lg cg)])):=hS.new 2 rfl hN;clear hN;refine zb (zn (ybm (v:=(.slice Ax lx cx)) rfl ?_));intro g4 w3 hN;replace hS:Sep w no O w3 (stl _ 3 (Res.box 35 g4 [(.slice Ax lx cx)])):=hS.new 3 rfl hN;clear hN;refine zb (zQ (.bool (false)) (zQ (.bool (false)) (zQ (ii 0) (yaa (zs (zq (yao (vs:=[(ii g),(.slice Ag lg cg)]) rfl underlying24 rfl yak ⟨Row.cell (hS.bx 2 rfl) (i:=0) rfl,Row.cell (hS.bx 2 rfl) (i:=1) rfl,trivial⟩) (zq (zl underlying35 (Row.cell (hS.bx 3 rfl) (i:=0) rfl)) (zn (yai rfl (am2 rfl rfl) enter_69 ((ykG h (yaz _) (hS.rdr 0 rfl) (hS.rdr 1 rfl)).mono ?_))))))))));rintro _ w4 ⟨r,r2,Ar,lr,cr,rfl,hC,h⟩;replace hS:=hS.call1 (hC.widen (ycv (yaP (fP (fI .i64) (fI .i64)) _ _ _ _ _) ycH) hS.blt) 4 0 rfl;clear hC;refine ⟨_,rfl,?_⟩;refine zb (zM (.tuple #[(.slice Ar lr cr),(ii r2)]) (zq (zx (.slice Ar lr cr)) (zq (zx (ii r2)) (zQ (.slice Ar lr cr) (zQ (ii r2) (yaa (yac (zs (zM (ii r2) (zq zN (yaa ?_)))))))))));by_cases hp:r2=0
  · replace h:=h.1 hp;refine ze hp (yaf (zs (zq (yam rfl underlying24 rfl yag) (zq (zl underlying3 (Row.cell (hS.bx 2 rfl) (i:=0) rfl)) (zM (.slice Ar lr cr) (zq (zl underlying35 (Row.cell (hS.bx 3 rfl) (i:=0) rfl)) (zn (yai rfl (am3 rfl rfl rfl) enter_70 ((ykM h (yaz _) (hS.rdo 4 rfl) (hS.rdr 1 rfl)).mono ?_)))))))));rintro _ w5 ⟨r3,Ar2,lr2,cr2,rfl,hC,h⟩;replace hS:=hS.call1 (hC.widen (ycv (yaP (fI .i64) _ _ _ _ _) ycH) hS.blt) 5 0 rfl;clear hC;refine ⟨_,rfl,?_⟩;refine zb (zn (yai rfl (am2 rfl rfl) ykb ((ycs h (yaz _) (hS.rdo 5 rfl) (fun w' hk=>⟨71,#[],rfl,enter_71,fun x2 R hF=>ya4 (by simp) (ykF hF (yaz _))⟩)).mono ?_)));rintro _ w6 ⟨r4,rfl,hC,h⟩;replace hS:=hS.pur hC.pure;clear hC;refine ⟨_,rfl,?_⟩;refine zb (zq (yds rfl) (zQ (.bool (!(r4))) (yaa (zs (zq (yao (vs:=[(ii g),(.slice Ag lg cg)]) rfl underlying24 rfl yak ⟨Row.cell (hS.bx 2 rfl) (i:=0) rfl,Row.cell (hS.bx 2 rfl) (i:=1) rfl,trivial⟩) (zn (yai rfl (am1 rfl) enter_72 ((ykJ h hS.blt (hS.ro 0 rfl)).mono ?_))))))));rintro _ w7 ⟨r5,r6,Ar3,lr3,cr3,rfl,hC,h⟩;replace hS:=hS.call1 hC 6 0 rfl;clear hC;refine ⟨_,rfl,?_⟩;refine zb (zM (.tuple #[(.slice Ar3 lr3 cr3),(ii r6)]) (zq (zx (.slice Ar3 lr3 cr3)) (zq (zx (ii r6)) (zQ (.slice Ar3 lr3 cr3) (zQ (ii r6) (yaa (yac (zs (zM (ii r6) (zq zN (yaa ?_)))))))))));by_cases hp2:r6=0
    · replace h:=h.1 hp2;refine ze hp2 (yaf (zs (zM (.slice Ar3 lr3 cr3) (zq (ykf (am0) (am1 rfl)) ?_))));replace hS:=hS.frzb 3 rfl;refine zn (yai rfl (am2 rfl rfl) enter_29 ((ydN h (yaz _) (hS.rdo 6 rfl) (fun w' hk=>⟨73,#[(.pointer (some ⟨g4,0,none⟩))],rfl,enter_73,fun x3 Ax2 lx2 cx2 R hF hz0=>ya4 (by simp) (ykI hF (yaz _) hz0 (FP.sub _ (FP.keep _ (FP.sub _ (hS.ro 3 rfl) (fun _ _ h=>h.elim):FP.P _ no _) hk) fun _ _ h=>h.elim) (FP.sub _ (FP.keep _ (FP.sub _ (hS.ro 1 rfl) (fun _ _ h=>h.elim):FP.P _ no _) hk) fun _ _ h=>h.elim))⟩)).mono ?_));rintro _ w8 ⟨r7,rfl,hC,h⟩;replace hS:=hS.pur hC.pure;clear hC;refine ⟨_,rfl,?_⟩;exact zb (zq (yds rfl) (zQ (.bool (!(r7))) (yaa (zs (zM (.bool (!(r4))) (zM (.bool (!(r7))) (zQ (.bool (!(r4))) (zQ (.bool (!(r7))) (zQ (ii 0) (yaa (yfh rfl rfl rfl rfl ⟨_,_,_,rfl,(hS.sel []),h⟩)))))))))))
    · replace h:=h.2 hp2;exact zf hp2 (zs (zM (ii r6) (zQ (.bool (false)) (zQ (.bool (false)) (zQ (ii r6) (yaa (yfh rfl rfl rfl rfl ⟨_,_,_,rfl,(hS.sel []),h⟩)))))))
  · replace h:=h.2 hp;exact zf hp (zs (zM (ii r2) (zQ (.bool (false)) (zQ (.bool (false)) (zQ (ii r2) (yaa (yfh rfl rfl rfl rfl ⟨_,_,_,rfl,(hS.sel []),h⟩)))))))
end Go.Proofs.YtencmgolklfmkaaGreat

/- Table, whose rows stay one's own; printed by tab.py. -/
namespace Go.Proofs.YtencmgolklfmkaaGreat
open Go Go.RowKit Go.Shelf Go.Proofs.Tryz
set_option maxRecDepth 100000
end Go.Proofs.YtencmgolklfmkaaGreat

/- Pure forms of functions, made by program (pf.py), each with the proof that the code does so. -/
namespace Go.Proofs.YtencmgolklfmkaaGreat
open Go Go.RowKit Go.Shelf Go.Proofs.Tryz
set_option maxRecDepth 100000
set_option maxHeartbeats 8000000
def ydb(g:Int)(g2:List E3)(R:Int→Prop):Prop :=
ybV g g2 (fun r =>
((r=0 →
ybv g g2 (fun r2 =>
((r2=true →
R 0) ∧
(¬(r2=true) →
R 13)))) ∧
(¬(r=0) →
R r)))
theorem ygn{O:Nat→Prop}{w:World}{g g2 Ag lg cg}{R:Int→Prop}(h:ydb g g2 R)(hO:∀ k,O k→k<w.heap.size)(hA0:(FP.sl c3 Ag lg cg g2).P O w) :
    Calls Tryz.prog 33 #[(.agg #[(ii g),(.slice Ag lg cg)])] w fun e w'=>∃ r3,e = .returned (ii r3)∧Sep w no O w' (rl [])∧R r3:=by
  unfold ydb at h;have hS:Sep w no O w (rl [Res.ro (FP.sl c3 Ag lg cg g2)]):=Sep.startl hO [(FP.sl c3 Ag lg cg g2)] ⟨hA0,trivial⟩;refine yal (l:=[(.agg #[(ii g),(.slice Ag lg cg)])]) func33 rfl ntmps33 zY (zs (zn (ybm (v:=(.agg #[(ii g),(.slice Ag lg cg)])) rfl ?_)));intro g3 w2 hN;replace hS:Sep w no O w2 (stl _ 1 (Res.box 24 g3 [(ii g),(.slice Ag lg cg)])):=hS.new 1 rfl hN;clear hN;refine zb (zQ (ii 0) (yaa (yac (zs (zq (yao (vs:=[(ii g),(.slice Ag lg cg)]) rfl underlying24 rfl yak ⟨Row.cell (hS.bx 1 rfl) (i:=0) rfl,Row.cell (hS.bx 1 rfl) (i:=1) rfl,trivial⟩) (zn (yai rfl (am1 rfl) yjd ((yfm h (yaz _) (hS.rdr 0 rfl)).mono ?_))))))));rintro _ w3 ⟨r,rfl,hC,h⟩;replace hS:=hS.pur hC.pure;clear hC;refine ⟨_,rfl,?_⟩;refine zb (zQ (ii r) (yaa (zs (zM (ii r) (zq zN (yaa ?_))))));by_cases hp:r=0
  · replace h:=h.1 hp;refine ze hp (yaf (yac (zs (zq (yao (vs:=[(ii g),(.slice Ag lg cg)]) rfl underlying24 rfl yak ⟨Row.cell (hS.bx 1 rfl) (i:=0) rfl,Row.cell (hS.bx 1 rfl) (i:=1) rfl,trivial⟩) (zn (yai rfl (am1 rfl) yhU ((ycC h (yaz _) (hS.rdr 0 rfl)).mono ?_)))))));rintro _ w4 ⟨r2,rfl,hC,h⟩;replace hS:=hS.pur hC.pure;clear hC;refine ⟨_,rfl,?_⟩;refine zb (zq (yds rfl) (yaa ?_));by_cases hp2:r2=true
    · replace h:=h.1 hp2;exact yav (zC (zB hp2)) (yaf (zs (zQ (ii 0) (yaa (yah rfl rfl ⟨_,rfl,(hS.sel []),h⟩)))))
    · replace h:=h.2 hp2;exact yaq (zC (zB (zI hp2))) (zs (zQ (ii 13) (yaa (yah rfl rfl ⟨_,rfl,(hS.sel []),h⟩))))
  · replace h:=h.2 hp;exact zf hp (zs (zM (ii r) (zQ (ii r) (yaa (yah rfl rfl ⟨_,rfl,(hS.sel []),h⟩)))))
def yi1(x:List Int)(y:List Int)(R:Int→Prop):Prop :=
(∃ I2:Nat→Int→Int→Prop,(∃ m0,I2 m0 0 0)∧∀ m2 sum i,I2 m2 sum i → 
((i<(x.length:Int) →
((0≤i∧i<(x.length:Int)) ∧
((0≤i∧i<(y.length:Int)) ∧
∃ m3,m3<m2∧I2 m3 (IntKind.i64.wrap (sum+(IntKind.i64.wrap ((gi x i.toNat)*(gi y i.toNat))))) (IntKind.i64.wrap (i+1))))) ∧
(¬(i<(x.length:Int)) →
R sum)))
theorem yjk{O:Nat→Prop}{w:World}{x y Ax lx cx Ay ly cy}{R:Int→Prop}(h:yi1 x y R)(hO:∀ k,O k→k<w.heap.size)(hA0:(FP.sl cI Ax lx cx x).P O w)(hA1:(FP.sl cI Ay ly cy y).P O w) :
    Calls Tryz.prog 27 #[(.slice Ax lx cx),(.slice Ay ly cy)] w fun e w'=>∃ r,e = .returned (ii r)∧Sep w no O w' (rl [])∧R r:=by
  unfold yi1 at h;have hS:Sep w no O w (rl [Res.ro (FP.sl cI Ax lx cx x),Res.ro (FP.sl cI Ay ly cy y)]):=Sep.startl hO [(FP.sl cI Ax lx cx x),(FP.sl cI Ay ly cy y)] ⟨hA0,hA1,trivial⟩;refine yal (l:=[(.slice Ax lx cx),(.slice Ay ly cy)]) func27 rfl ntmps27 zY (zs (zQ (ii 0) (yaa (zs (zQ (ii 0) (yaa (yac (zs (zQ (ii 0) (yaa (yad ?_)))))))))));obtain ⟨I2,⟨m0,h0⟩,hr⟩:=h;refine yax (fun m E ds w'=>∃ sum i,I2 m sum i∧ds=[]∧E 0=(Value.slice Ax lx cx)∧E 1=(Value.slice Ay ly cy)∧E 5=(ii sum)∧E 6=(ii i)∧Sep w no O w' (rl [Res.ro (FP.sl cI Ax lx cx x),Res.ro (FP.sl cI Ay ly cy y)])) m0 ⟨_,_,h0,rfl,rfl,rfl,rfl,rfl,(hS.sel [0,1])⟩ ?_;clear h0 hS;rintro m2 E ds w2 ⟨sum,i,h,rfl,H0,H1,H5,H6,hS⟩ ag;replace h:=hr m2 sum i h;clear hr;refine yac (zs (zq (yab H6) (zq (yab H0) (zq (yaG (n:=x.length) rfl underlying35 (yaD (hS.rdr 0 rfl))) (zq zL (yaa ?_))))));by_cases hp:i<(x.length:Int)
  · replace h:=h.1 hp;refine zc hp (yaf (yac (yad (ybq [0,1,2,3,4,5,6,7,8,9,10,11] st0 yaC (by kernel_rfl) (by kernel_rfl) ?_))));replace hS:=hS.drew;refine zp (yab H5) (zp (yab H0) (zp (yab H6) ?_));obtain ⟨hx,h⟩:=h;refine zp (zi underlying35 yag (yaB (hS.rdr 0 rfl) hx)) (zp (yar (v:=(ii (gi x i.toNat))) rfl underlying3 rfl (rd_1 (hS.rdr 0 rfl) hx (fun q=>yaF q) rfl)) ?_);refine zp (yab H1) (zp (yab H6) ?_);obtain ⟨hx2,h⟩:=h;refine zp (zi underlying35 yag (yaB (hS.rdr 1 rfl) hx2)) (zp (yar (v:=(ii (gi y i.toNat))) rfl underlying3 rfl (rd_1 (hS.rdr 1 rfl) hx2 (fun q=>yaF q) rfl)) ?_);refine zp (v_mulw rfl rfl) (zp (v_addw rfl rfl) (zp (za (ii (IntKind.i64.wrap (sum+(IntKind.i64.wrap ((gi x i.toNat)*(gi y i.toNat))))))) (ybH (yae (zr (zq (yab H6) (zq (v_addw rfl rfl) (zQ (ii (IntKind.i64.wrap (i+1))) (yaa ?_)))))))));obtain ⟨mq,hlt,h⟩:=h;exact ag mq _ _ _ ⟨_,_,h,rfl,H0,H1,rfl,rfl,(hS.sel [0,1])⟩ hlt
  · replace h:=h.2 hp;exact zd hp (yas rfl (zs (zq (yab H5) (zQ (ii sum) (yaa (yah rfl rfl ⟨_,rfl,(hS.sel []),h⟩))))))
def ye6(a:List Int)(b:List Int)(R:Bool→Prop):Prop :=
ydk a b (fun r =>
R r)
theorem yi9{O:Nat→Prop}{w:World}{a b Aa la ca Ab lb cb}{R:Bool→Prop}(h:ye6 a b R)(hO:∀ k,O k→k<w.heap.size)(hA0:(FP.sl cI Aa la ca a).P O w)(hA1:(FP.sl cI Ab lb cb b).P O w) :
    Calls Tryz.prog 19 #[(.slice Aa la ca),(.slice Ab lb cb)] w fun e w'=>∃ r2,e = .returned (.bool (r2))∧Sep w no O w' (rl [])∧R r2:=by
  unfold ye6 at h;have hS:Sep w no O w (rl [Res.ro (FP.sl cI Aa la ca a),Res.ro (FP.sl cI Ab lb cb b)]):=Sep.startl hO [(FP.sl cI Aa la ca a),(FP.sl cI Ab lb cb b)] ⟨hA0,hA1,trivial⟩;refine yal (l:=[(.slice Aa la ca),(.slice Ab lb cb)]) func19 rfl ntmps19 zY (zs (zQ (.bool (false)) (yaa (zs (zM (.slice Aa la ca) (zM (.slice Ab lb cb) (zn (yai rfl (am2 rfl rfl) enter_55 ((yhx h (yaz _) (hS.rdr 0 rfl) (hS.rdr 1 rfl)).mono ?_)))))))));rintro _ w2 ⟨r,rfl,hC,h⟩;replace hS:=hS.pur hC.pure;clear hC;refine ⟨_,rfl,?_⟩;exact zb (zQ (.bool (r)) (yaa (yah rfl rfl ⟨_,rfl,(hS.sel []),h⟩)))
def ya0(a:List (List Int))(b:List (List Int))(R:Bool→Prop):Prop :=
(((a.length:Int)=(b.length:Int) →
(∃ I2:Nat→Int→Prop,(∃ m0,I2 m0 0)∧∀ m2 i,I2 m2 i → 
((i<(a.length:Int) →
((0≤i∧i<(a.length:Int)) ∧
((0≤i∧i<(b.length:Int)) ∧
ye6 (gx a i.toNat) (gx b i.toNat) (fun r =>
((r=true →
(In64 (i+1) ∧
∃ m3,m3<m2∧I2 m3 (i+1))) ∧
(¬(r=true) →
R false)))))) ∧
(¬(i<(a.length:Int)) →
R true)))) ∧
(¬((a.length:Int)=(b.length:Int)) →
R false))
theorem yb2{O:Nat→Prop}{w:World}{a b Aa la ca Ab lb cb}{R:Bool→Prop}(h:ya0 a b R)(hO:∀ k,O k→k<w.heap.size)(hA0:(FP.sl (cL cI) Aa la ca a).P O w)(hA1:(FP.sl (cL cI) Ab lb cb b).P O w) :
    Calls Tryz.prog 14 #[(.slice Aa la ca),(.slice Ab lb cb)] w fun e w'=>∃ r2,e = .returned (.bool (r2))∧Sep w no O w' (rl [])∧R r2:=by
  unfold ya0 at h;have hS:Sep w no O w (rl [Res.ro (FP.sl (cL cI) Aa la ca a),Res.ro (FP.sl (cL cI) Ab lb cb b)]):=Sep.startl hO [(FP.sl (cL cI) Aa la ca a),(FP.sl (cL cI) Ab lb cb b)] ⟨hA0,hA1,trivial⟩;refine yal (l:=[(.slice Aa la ca),(.slice Ab lb cb)]) func14 rfl ntmps14 zY (zs (zQ (.bool (false)) (yaa (yac (zs (zM (.slice Aa la ca) (zq (yaG (n:=a.length) rfl underlying27 (yaD (hS.rdr 0 rfl))) (zM (.slice Ab lb cb) (zq (yaG (n:=b.length) rfl underlying27 (yaD (hS.rdr 1 rfl))) (zq zN (yaa ?_)))))))))));by_cases hp:(a.length:Int)=(b.length:Int)
  · replace h:=h.1 hp;refine ze hp (yaf (yac (zs (zQ (ii 0) (yaa (yad ?_))))));obtain ⟨I2,⟨m0,h0⟩,hr⟩:=h;refine yax (fun m E ds w'=>∃ i,I2 m i∧ds=[]∧E 0=(Value.slice Aa la ca)∧E 1=(Value.slice Ab lb cb)∧E 5=(ii i)∧Sep w no O w' (rl [Res.ro (FP.sl (cL cI) Aa la ca a),Res.ro (FP.sl (cL cI) Ab lb cb b)])) m0 ⟨_,h0,rfl,rfl,rfl,rfl,(hS.sel [0,1])⟩ ?_;clear h0 hS;rintro m2 E ds w2 ⟨i,h,rfl,H0,H1,H5,hS⟩ ag;replace h:=hr m2 i h;clear hr;refine yac (zs (zq (yab H5) (zq (yab H0) (zq (yaG (n:=a.length) rfl underlying27 (yaD (hS.rdr 0 rfl))) (zq zL (yaa ?_))))));by_cases hp2:i<(a.length:Int)
    · replace h:=h.1 hp2;refine zc hp2 (yaf (yac (yad (yac (ybq [0,1,2,3,4,5,6,7,8,9] st0 yaC (by kernel_rfl) (by kernel_rfl) ?_)))));replace hS:=hS.drew;refine zp (yab H0) (zp (yab H5) ?_);obtain ⟨hx,h⟩:=h;refine zp (zi underlying27 yaJ (yaB (hS.rdr 0 rfl) hx)) ?_;obtain ⟨A,l,c,hc,hq⟩:=hS.el 0 rfl hx 2 3 rfl rfl (by decide);replace hS:=hq;clear hq;refine zp (yar (v:=(.slice A l c)) rfl underlying35 rfl (hS.clr 3 rfl)) (zp (yab H1) (zp (yab H5) ?_));obtain ⟨hx2,h⟩:=h;refine zp (zi underlying27 yaJ (yaB (hS.rdr 1 rfl) hx2)) ?_;obtain ⟨A2,l2,c4,hc2,hq⟩:=hS.el 1 rfl hx2 4 5 rfl rfl (by decide);replace hS:=hq;clear hq;refine zp (yar (v:=(.slice A2 l2 c4)) rfl underlying35 rfl (hS.clr 5 rfl)) (rp_n rfl rfl rfl rfl (yai rfl (am2 rfl rfl) enter_19 ((yi9 h (yaz _) (hS.rdr 2 rfl) (hS.rdr 4 rfl)).mono ?_)));rintro _ w3 ⟨r,rfl,hC,h⟩;replace hS:=hS.pur hC.pure;clear hC;refine ⟨_,rfl,?_⟩;refine zb (zp (yds rfl) (ybH ?_));by_cases hp3:r=true
      · replace h:=h.1 hp3;refine yav (zC (zB hp3)) (yaf (yae (zr (zq (yab H5) ?_))));obtain ⟨hi,h⟩:=h;refine zq (zA hi) (zQ (ii (i+1)) (yaa ?_));obtain ⟨mq,hlt,h⟩:=h;exact ag mq _ _ _ ⟨_,h,rfl,H0,H1,rfl,(hS.sel [0,1])⟩ hlt
      · replace h:=h.2 hp3;exact yaq (zC (zB (zI hp3))) (zs (zQ (.bool (false)) (yaa (yah rfl rfl ⟨_,rfl,(hS.sel []),h⟩))))
    · replace h:=h.2 hp2;exact zd hp2 (yas rfl (zs (zQ (.bool (true)) (yaa (yah rfl rfl ⟨_,rfl,(hS.sel []),h⟩)))))
  · replace h:=h.2 hp;exact zf hp (zs (zQ (.bool (false)) (yaa (yah rfl rfl ⟨_,rfl,(hS.sel []),h⟩))))
def yd4(x:List Int)(R:(List Int)→Prop):Prop :=
(∃ I2:Nat→(List Int)→Int→Prop,(∃ m0,I2 m0 ([]) 0)∧∀ m2 out e2,I2 m2 out e2 → 
((e2<(x.length:Int) →
((0≤e2∧e2<(x.length:Int)) ∧
(In64 (-(gi x e2.toNat)) ∧
(out.length+1≤1000000000 ∧
(In64 (e2+1) ∧
∃ m3,m3<m2∧I2 m3 (out++[-(gi x e2.toNat)]) (e2+1)))))) ∧
(¬(e2<(x.length:Int)) →
R out)))
theorem ykE{O:Nat→Prop}{w:World}{x Ax lx cx}{R:(List Int)→Prop}(h:yd4 x R)(hO:∀ k,O k→k<w.heap.size)(hA0:(FP.sl cI Ax lx cx x).P O w) :
    Calls Tryz.prog 35 #[(.slice Ax lx cx)] w fun e w'=>∃ r Ar lr cr,e = .returned (.slice Ar lr cr)∧Sep w no O w' (rl [Res.own cI 3 Ar lr cr r])∧R r:=by
  unfold yd4 at h;have hS:Sep w no O w (rl [Res.ro (FP.sl cI Ax lx cx x)]):=Sep.startl hO [(FP.sl cI Ax lx cx x)] ⟨hA0,trivial⟩;refine yal (l:=[(.slice Ax lx cx)]) func35 rfl ntmps35 zY (zs (zQ (.slice none 0 0) (yaa (zs (zQ (.slice none 0 0) (yaa (yac (zs (zQ (ii 0) (yaa (yad ?_)))))))))));replace hS:=hS.nil 1 rfl cI 3;obtain ⟨I2,⟨m0,h0⟩,hr⟩:=h;refine yax (fun m E ds w'=>∃ out e2 Aa Ab Ac,I2 m out e2∧ds=[]∧E 0=(Value.slice Ax lx cx)∧E 3=(Value.slice Aa Ab Ac)∧E 4=(ii e2)∧Sep w no O w' (rl [Res.own cI 3 Aa Ab Ac out,Res.ro (FP.sl cI Ax lx cx x)])) m0 ⟨_,_,_,_,_,h0,rfl,rfl,rfl,rfl,(hS.sel [1,0])⟩ ?_;clear h0 hS;rintro m2 E ds w2 ⟨out,e2,Aa,Ab,Ac,h,rfl,H0,H3,H4,hS⟩ ag;replace h:=hr m2 out e2 h;clear hr;refine yac (zs (zq (yab H4) (zq (yab H0) (zq (yaG (n:=x.length) rfl underlying35 (yaD (hS.rdr 1 rfl))) (zq zL (yaa ?_))))));by_cases hp:e2<(x.length:Int)
  · replace h:=h.1 hp;refine zc hp (yaf (yac (yad (zr (zq (yab H3) (zq (yab H0) (zq (yab H4) ?_)))))));obtain ⟨hx,h⟩:=h;refine zq (zi underlying35 yag (yaB (hS.rdr 1 rfl) hx)) (zq (yar (v:=(ii (gi x e2.toNat))) rfl underlying3 rfl (rd_1 (hS.rdr 1 rfl) hx (fun q=>yaF q) rfl)) ?_);obtain ⟨hi,h⟩:=h;refine zq (v_neg rfl hi) (zn (yaK (l:=[(0,(ii (-(gi x e2.toNat))))]) (cells:=[(ii (-(gi x e2.toNat)))]) (bp1 rfl) underlying35 yag rfl rfl ?_));intro g w3 hN;replace hS:=hS.litf (n:=1) 2 rfl (fI .i64) hN ([-(gi x e2.toNat)]:List Int) rfl (by decide) rfl;clear hN;refine zb ?_;obtain ⟨hx2,h⟩:=h;refine zn (yfv (c:=cI) rfl rfl underlying35 underlying35 yag rfl rfl (by decide) hS 0 rfl (hS.yo 2 rfl) hx2 ?_);clear hS;intro A c w4 hS;refine zb (zQ (.slice A (Ab+1) c) (yaa (yae (zr (zq (yab H4) ?_)))));obtain ⟨hi2,h⟩:=h;refine zq (zA hi2) (zQ (ii (e2+1)) (yaa ?_));obtain ⟨mq,hlt,h⟩:=h;exact ag mq _ _ _ ⟨_,_,_,_,_,h,rfl,H0,rfl,rfl,(hS.sel [0,1])⟩ hlt
  · replace h:=h.2 hp;exact zd hp (yas rfl (zs (zq (yab H3) (zQ (.slice Aa Ab Ac) (yaa (yah rfl rfl ⟨_,_,_,_,rfl,(hS.sel [0]),h⟩))))))
end Go.Proofs.YtencmgolklfmkaaGreat

/- The forms. -/

/- The graph with some single edges: the reference and the program. -/
namespace Go.Proofs.YtencmgolklfmkaaGreat
open Go Go.RowKit Go.Shelf Go.Proofs.Tryz
def cellJ(T:List (List Int))(k j:Nat):Option E3:=if 0<gi (gx T k) (k+j) then some ((k:Int),((k+j:Nat):Int),gi (gx T k) (k+j)) else none
def rowJ(d:Nat)(T:List (List Int))(k:Nat):List E3:=(List.range (d-k)).filterMap (cellJ T k)
def yiR(d:Nat)(T:List (List Int)):List E3:=(List.range d).flatMap (rowJ d T)
def isE(a b:Int)(e:Int×Int):Bool:=decide (mnF e.1 e.2=a∧mxF e.1 e.2=b)
def cntE(l:List (Int×Int))(a b:Int):Int:=(l.countP (isE a b):Int)
def rowT(d:Nat)(l:List (Int×Int))(a:Nat):List Int:=(List.range d).map fun (b:Nat)=>cntE l (a:Int) (b:Int)
def tabE(d:Nat)(l:List (Int×Int)):List (List Int):=(List.range d).map (rowT d l)
theorem yf9(d:Nat)(l:List (Int×Int))(a:Nat):(rowT d l a).length=d:=by simp [rowT]
theorem ygb(d:Nat)(l:List (Int×Int)):(tabE d l).length=d:=by simp [tabE]
theorem yfG{d:Nat}{l:List (Int×Int)}{a:Nat}(h:a<d):gx (tabE d l) a=rowT d l a:=by
  rw [yaM (by rw [ygb];exact h)];simp [tabE]
theorem yg4{d:Nat}{l:List (Int×Int)}{a b:Nat}(h:b<d):gi (rowT d l a) b=cntE l a b:=by
  rw [ybe (by rw [yf9];exact h)];simp [rowT]
theorem ydF(l:List (Int×Int))(e:Int×Int)(a b:Int):cntE (l++[e]) a b=cntE l a b+if mnF e.1 e.2=a∧mxF e.1 e.2=b then 1 else 0:=by
  unfold cntE
  rw [List.countP_append]
  by_cases h:mnF e.1 e.2=a∧mxF e.1 e.2=b
  · simp [List.countP_cons,isE,h]
  · simp [List.countP_cons,isE,h]
theorem yic(l:List (Int×Int))(a b:Int):0≤cntE l a b:=Int.natCast_nonneg _
structure BagOk(d:Nat)(l:List (Int×Int))(M:List (List Int×Int)):Prop where
  key:KOk 2 M
  at_:∀ p∈M,∃ a b:Nat,a≤b∧b<d∧p.1=[(a:Int),(b:Int)]∧p.2=cntE l a b∧0<p.2
  get:∀ a b:Int,(mget M [a,b]).getD 0=cntE l a b
  len:M.length≤l.length
theorem BagOk.nil(d:Nat):BagOk d [] []:=⟨KOk.nil 2,fun p h=>by simp at h,fun a b=>by simp [mget,cntE],Nat.le_refl _⟩
theorem keyOk2{d a b:Nat}(hd:d≤12)(h1:a≤b)(h2:b<d):KeyOk 2 [(a:Int),(b:Int)]:=by
  refine ⟨rfl,fun x hx=>?_⟩
  simp only [List.mem_cons,List.not_mem_nil,or_false] at hx
  rcases hx with rfl | rfl <;> exact ⟨by omega,by omega⟩
theorem BagOk.put{d:Nat}{l:List (Int×Int)}{M:List (List Int×Int)}(h:BagOk d l M)(hd:d≤12){e:Int×Int}{a b:Nat}(h1:a≤b)(h2:b<d)(ha:mnF e.1 e.2=a)(hb:mxF e.1 e.2=b):BagOk d (l++[e]) (mput M [(a:Int),(b:Int)] (cntE l a b+1)):=by
  have hk:=h.key.put (keyOk2 hd h1 h2) (cntE l a b+1)
  refine ⟨hk,fun p hp=>?_,fun x y=>?_,by have:=h.len;rw [mput_length,List.length_append,List.length_singleton];split <;> omega⟩
  · obtain ⟨j,hj⟩:=List.getElem?_of_mem hp
    have hg:=mget_at hk.1 (k:=p.1) (v:=p.2) hj
    rw [mget_put] at hg
    by_cases q:[(a:Int),(b:Int)]=p.1
    · rw [if_pos q] at hg
      refine ⟨a,b,h1,h2,q.symm,?_,?_⟩
      · rw [ydF,if_pos ⟨ha,hb⟩];exact (Option.some.inj hg).symm
      · rw [←Option.some.inj hg];have:=yic l a b;omega
    · rw [if_neg q] at hg
      obtain ⟨x,y,h3,h4,h5,h6,h7⟩:=h.at_ _ (mget_mem hg)
      refine ⟨x,y,h3,h4,h5,?_,h7⟩
      rw [ydF,if_neg,Int.add_zero]
      · exact h6
      · rintro ⟨q1,q2⟩
        rw [ha] at q1;rw [hb] at q2
        have h5:p.1=[(x:Int),(y:Int)]:=h5
        exact q (by rw [h5,q1,q2])
  · rw [mget_put,ydF,ha,hb,←h.get x y]
    by_cases q:(a:Int)=x∧(b:Int)=y
    · rw [if_pos (by rw [q.1,q.2]),if_pos q,h.get x y,←q.1,←q.2];rfl
    · rw [if_neg (fun z=>q (by simpa using z)),if_neg q,Int.add_zero]
def eM(p:List Int×Int):E3:=(gi p.1 0,gi p.1 1,p.2)
theorem nodupN_le:∀ {l K:List Nat},l.Nodup→(∀ x∈l,x∈K)→l.length≤K.length
  | [],K,_,_=>Nat.zero_le _
  | a::t,K,hn,hs=>by
    rw [List.nodup_cons] at hn
    have ha:a∈K:=hs a (by simp)
    have h2:=nodupN_le (l:=t) (K:=K.erase a) hn.2 fun x hx=>(List.mem_erase_of_ne (by rintro rfl;exact hn.1 hx)).2 (hs x (by simp [hx]))
    rw [List.length_erase_of_mem ha] at h2
    have:0<K.length:=List.length_pos_of_mem ha
    rw [List.length_cons];omega
theorem ydp{d:Nat}{l:List (Int×Int)}{x:E3} : x∈yiR d (tabE d l)↔∃ a b:Nat,a≤b∧b<d∧0<cntE l a b∧x=((a:Int),(b:Int),cntE l a b):=by
  unfold yiR
  simp only [List.mem_flatMap,List.mem_range,rowJ,List.mem_filterMap]
  constructor
  · rintro ⟨a,ha,j,hj,hx⟩
    unfold cellJ at hx
    rw [yfG ha,yg4 (by omega)] at hx
    split at hx
    · rename_i hp
      exact ⟨a,a+j,by omega,by omega,hp,(Option.some.inj hx).symm⟩
    · cases hx
  · rintro ⟨a,b,h1,h2,h3,rfl⟩
    refine ⟨a,by omega,b-a,by omega,?_⟩
    unfold cellJ
    rw [yfG (by omega),yg4 (by omega),show a+(b-a)=b by omega,if_pos h3]
def ltE(x y:E3):Prop:=x.1<y.1∨x.1=y.1∧x.2.1<y.2.1
theorem BagOk.mem{d:Nat}{l:List (Int×Int)}{M:List (List Int×Int)}(h:BagOk d l M)(x:E3):x∈M.map eM↔x∈yiR d (tabE d l):=by
  rw [ydp,List.mem_map]
  constructor
  · rintro ⟨p,hp,rfl⟩
    obtain ⟨a,b,h1,h2,h3,h4,h5⟩:=h.at_ p hp
    exact ⟨a,b,h1,h2,by rw [←h4];exact h5,by unfold eM;rw [h3,h4];rfl⟩
  · rintro ⟨a,b,h1,h2,h3,rfl⟩
    have hg:=h.get a b
    cases hq:mget M [(a:Int),(b:Int)] with
    | none=>rw [hq] at hg;simp at hg;omega
    | some v =>
      rw [hq] at hg
      have hg:v=cntE l a b:=hg
      exact ⟨_,mget_mem hq,by unfold eM;rw [hg];rfl⟩
theorem BagOk.nodup{d:Nat}{l:List (Int×Int)}{M:List (List Int×Int)}(h:BagOk d l M):(M.map eM).Nodup:=by
  unfold List.Nodup
  rw [List.pairwise_map]
  refine h.key.1.imp_of_mem ?_
  intro p q hp hq hne he
  obtain ⟨a,b,_,_,h3,_,_⟩:=h.at_ p hp
  obtain ⟨a',b',_,_,h3',_,_⟩:=h.at_ q hq
  apply hne
  unfold eM at he
  rw [h3,h3'] at he ⊢
  have e1:(a:Int)=a':=congrArg Prod.fst he
  have e2:(b:Int)=b':=congrArg (fun z:E3=>z.2.1) he
  rw [e1,e2]
end Go.Proofs.YtencmgolklfmkaaGreat

/- The facts of a graph that is made of ends: in normal form, its size, its genus, its degrees. -/
namespace Go.Proofs.YtencmgolklfmkaaGreat
open Go Go.RowKit Go.Shelf Go.Proofs.Tryz
def sF:List E3→List E3
  | []=>[]
  | x::t=>List.replicate x.2.2.toNat (x.1,x.2.1,1)++sF t
theorem yhZ:∀ (a b:List E3),sF (a++b)=sF a++sF b
  | [],b=>rfl
  | x::t,b=>by rw [List.cons_append,sF,sF,yhZ t b,List.append_assoc]
theorem sF_take{es:List E3}{k:Nat}(hk:k<es.length):sF (es.take (k+1))=sF (es.take k)++List.replicate (ge es k).2.2.toNat ((ge es k).1,(ge es k).2.1,1):=by
  rw [List.take_add_one,List.getElem?_eq_getElem hk,←ydg hk,yhZ]
  simp [sF]
theorem sF_pre{es:List E3}{k:Nat}(hk:k<es.length){j:Nat}(hj:j≤(ge es k).2.2.toNat):sF (es.take k)++List.replicate j ((ge es k).1,(ge es k).2.1,1) <+: sF es:=by
  have h1:es=es.take (k+1)++es.drop (k+1):=(List.take_append_drop _ _).symm
  have h2:sF es=sF (es.take k)++List.replicate (ge es k).2.2.toNat ((ge es k).1,(ge es k).2.1,1)++sF (es.drop (k+1)):=by
    conv=>lhs;rw [h1]
    rw [yhZ,sF_take hk]
  obtain ⟨i,hi⟩:∃ i,(ge es k).2.2.toNat=j+i:=⟨(ge es k).2.2.toNat-j,by omega⟩
  rw [h2,hi,←List.replicate_append_replicate]
  exact ⟨List.replicate i ((ge es k).1,(ge es k).2.1,1)++sF (es.drop (k+1)),by simp only [List.append_assoc]⟩
theorem sF_ok{n:Nat} : ∀ {es:List E3},EOk n es→EOk n (sF es)
  | [],_=>fun x hx=>by simp [sF] at hx
  | y::t,h=>fun x hx=>by
    rw [sF,List.mem_append] at hx
    rcases hx with q | q
    · have:=h y (by simp)
      have e:=(List.mem_replicate.1 q).2
      subst e
      simp only
      omega
    · exact sF_ok (fun z hz=>h z (by simp [hz])) x q
theorem W_rep(a b:Int)(l:List E3)(v u:Nat):∀ k:Nat,W (List.replicate k (a,b,1)++l) v u=(k:Int)*w1 (a,b,1) v u+W l v u
  | 0=>by simp
  | k+1=>by
    rw [List.replicate_succ,List.cons_append,ygV,W_rep a b l v u k,Int.natCast_add,Int.add_mul]
    omega
theorem W_sF{n:Nat}(v u:Nat):∀ {es:List E3},EOk n es→W (sF es) v u=W es v u
  | [],_=>rfl
  | x::t,h=>by
    have hx:=h x (by simp)
    rw [sF,W_rep,ygV,W_sF v u (fun z hz=>h z (by simp [hz]))]
    have:((x.2.2.toNat:Nat):Int)*w1 (x.1,x.2.1,1) v u=w1 x v u:=by
      unfold w1
      simp only
      split
      · omega
      · omega
    omega
theorem sF_len{n:Nat} : ∀ {es:List E3},EOk n es→((sF es).length:Int)=(es.map (·.2.2)).sum
  | [],_=>rfl
  | x::t,h=>by
    have hx:=h x (by simp)
    have:=sF_len (es:=t) fun z hz=>h z (by simp [hz])
    rw [sF,List.length_append,List.length_replicate,List.map_cons,List.sum_cons,←this]
    omega
theorem sF_few{n:Nat} : ∀ {es:List E3},EOk n es→(sF es).length≤50*es.length
  | [],_=>Nat.le_refl _
  | x::t,h=>by
    have hx:=h x (by simp)
    have:=sF_few (es:=t) fun z hz=>h z (by simp [hz])
    rw [sF,List.length_append,List.length_replicate,List.length_cons]
    omega
def gmap(y:Int×Int×Int):E3:=(y.2.1,y.2.2,1)
theorem yeV{n:Nat}{es:List E3}(hE:EOk n es)(hl:es.length≤1000):ybt (n:Int) es (fun l=>l.map gmap <+: sF es) (fun l=>l.map gmap=sF es):=by
  unfold ybt
  refine ⟨fun m pre e2 v=>Cnt es.length (fun k=>pre.map gmap=sF (es.take k)∧0≤e2∧e2≤50*k) m v,Cnt.start ⟨rfl,by omega,by omega⟩,?_⟩
  rintro m pre e2 _ ⟨k,rfl,rfl,hk,hpre,he0,he1⟩
  simp only [Int.toNat_natCast]
  refine ⟨fun hlt=>⟨by omega,?_⟩,fun hge=>?_⟩
  · have hkl:k<es.length:=by omega
    have hx:=hE _ (List.mem_of_getElem? (ydz hkl))
    refine ⟨fun m pre e3 v=>Cnt (ge es k).2.2.toNat (fun j=>pre.map gmap=sF (es.take k)++List.replicate j ((ge es k).1,(ge es k).2.1,1)∧0≤e3∧e3≤50*k+j) m v,Cnt.start ⟨by simpa using hpre,he0,by omega⟩,?_⟩
    rintro m3 pre3 e3 _ ⟨j,rfl,rfl,hj,hp3,h30,h31⟩
    have hstep:∀ e:Int,(pre3++[(e,(ge es k).1,(ge es k).2.1)]).map gmap=sF (es.take k)++List.replicate (j+1) ((ge es k).1,(ge es k).2.1,1):=fun e=>by
      rw [List.map_append,hp3,List.replicate_succ',List.append_assoc];rfl
    refine ⟨fun h1=>⟨?_,⟨i64 (by omega),Cnt.next (by omega) (by omega) ⟨hstep e3,by omega,by omega⟩⟩,trivial⟩,fun h1=>Cnt.next (by omega) (by omega) ⟨?_,by omega,by omega⟩⟩
    · show (pre3++[(e3,(ge es k).1,(ge es k).2.1)]).map gmap <+: sF es
      rw [hstep];exact sF_pre hkl (by omega)
    · have e:j=(ge es k).2.2.toNat:=by omega
      rw [sF_take hkl,hp3,e]
  · have e:k=es.length:=by omega
    rw [e,List.take_length] at hpre
    exact hpre
def yeG(F:List Nat):List Int:=F.map fun v:Nat=>(v:Int)
theorem yhS{F:List Nat}{v:Nat}(hv:v<F.length):gi (yeG F) v=(gn F v:Int):=by
  unfold yeG
  rw [ybe (by simpa using hv),yfl hv];simp
theorem ygI{F:List Nat}(hF:ycb F){v:Nat}(hv:v<12){R:Int→Prop}(h:R (root F v)):ybh (yeG F) (v:Int) R:=by
  unfold ybh
  refine ⟨fun m x=>∃ u:Nat,x=u∧m=u∧u<12∧root F u=root F v,⟨v,v,rfl,rfl,hv,rfl⟩,?_⟩
  rintro m _ ⟨u,rfl,hm,hu,hr⟩
  have hg:gi (yeG F) u=(gn F u:Int):=yhS (by rw [hF.1];exact hu)
  have hle:=hF.2 u hu
  simp only [Int.toNat_natCast,hg]
  refine ⟨by omega,fun e=>?_,fun e=>⟨gn F u,by omega,gn F u,rfl,rfl,by omega,?_⟩⟩
  · rw [ycm (F:=F) (v:=u) (by omega)] at hr
    rw [hr];exact h
  · rw [←yed hF hu (by omega)];exact hr
theorem yid{F:List Nat}(hF:ycb F){a b:Nat}(ha:a<12)(hb:b<12)(hne:root F a≠root F b):∀ k,k≤12→yay (ycu F a b) k+(if max (root F a) (root F b)<k then 1 else 0)=yay F k
  | 0,_=>by simp [yay]
  | k+1,hk=>by
    have ih:=yid hF ha hb hne k (by omega)
    have hj:=yga hF ha hb k (by omega)
    have ra:=yd6 hF ha
    have rb:=yd6 hF hb
    rw [yay,yay]
    have hM:root F (max (root F a) (root F b))=max (root F a) (root F b):=by
      rcases Nat.le_total (root F a) (root F b) with q | q
      · rw [Nat.max_eq_right q];exact rb
      · rw [Nat.max_eq_left q];exact ra
    have hm:root F (min (root F a) (root F b))=min (root F a) (root F b):=by
      rcases Nat.le_total (root F a) (root F b) with q | q
      · rw [Nat.min_eq_left q];exact ra
      · rw [Nat.min_eq_right q];exact rb
    by_cases e1:k=max (root F a) (root F b)
    · have h1:root F k=k:=by rw [e1];exact hM
      rw [if_pos (h1.trans e1)] at hj
      rw [if_neg (by omega:¬root (ycu F a b) k=k),if_pos h1,if_pos (by omega)]
      rw [if_neg (by omega)] at ih
      omega
    · have h2:root (ycu F a b) k=k↔root F k=k:=by
        rw [hj]
        split
        · rename_i e2
          constructor
          · intro e3;rw [←e3] at e2;rw [hm] at e2;omega
          · intro e3;omega
        · exact Iff.rfl
      by_cases e3:root F k=k
      · rw [if_pos (h2.2 e3),if_pos e3]
        by_cases e4:max (root F a) (root F b)<k
        · rw [if_pos e4] at ih;rw [if_pos (by omega)];omega
        · rw [if_neg e4] at ih;rw [if_neg (by omega)];omega
      · rw [if_neg (fun q=>e3 (h2.1 q)),if_neg e3]
        by_cases e4:max (root F a) (root F b)<k
        · rw [if_pos e4] at ih;rw [if_pos (by omega)];omega
        · rw [if_neg e4] at ih;rw [if_neg (by omega)];omega
theorem yiJ{F:List Nat}(hF:ycb F){a b:Nat}(ha:a<12)(hb:b<12)(he:root F a=root F b):∀ k,k≤12→yay (ycu F a b) k=yay F k
  | 0,_=>rfl
  | k+1,hk=>by
    have ih:=yiJ hF ha hb he k (by omega)
    have hj:=yga hF ha hb k (by omega)
    rw [yay,yay,ih,hj,he]
    simp only [Nat.max_self,Nat.min_self]
    congr 2
    split
    · rename_i e;rw [e]
    · rfl
theorem yhk:∀ k,k≤12→yay ycr k=k
  | 0,_=>rfl
  | k+1,hk=>by
    rw [yay,yhk k (by omega),if_pos]
    exact ycm (by rw [yfl (by simpa [ycr] using (by omega:k<12))];simp [ycr])
theorem yfW(l:List E3)(x:E3):yap (l++[x])=ycu (yap l) x.1.toNat x.2.1.toNat:=by
  unfold yap;rw [List.foldl_append];rfl
theorem castF_join{F:List Nat}{a b:Nat} : (yeG F).set (mxF (root F a) (root F b)).toNat (mnF (root F a) (root F b))=yeG (ycu F a b):=by
  unfold yeG ycu
  rw [List.map_set,mxF_eq,mnF_eq]
  congr 1
  · omega
  · omega
theorem p_graph_Genus{n:Nat}{es:List E3}{R:Int→Int→Prop}(hl:es.length≤1000)(hg:yat n es=0)(hc:∀ q,q<n→Conn n es q)(h:R ((es.map (·.2.2)).sum+1-n) 0):ycp n es R:=by
  obtain ⟨hE,hn1,hn12⟩:=ybr hg
  unfold ycp
  refine yc9 (by omega) ⟨fun _=>?_,fun q=>absurd hg q⟩
  refine ⟨fun m v f=>Cnt 12 (fun k=>f.length=12∧∀ i,i<k→gi f i=(i:Int)) m v,Cnt.start ⟨by simp,fun i hi=>absurd hi (by omega)⟩,?_⟩
  rintro m _ f ⟨k,rfl,rfl,hk,hfl,hf⟩
  simp only [Int.toNat_natCast]
  refine ⟨fun hlt=>⟨by omega,Cnt.next (by omega) (by omega) ⟨by simpa using hfl,fun i hi=>?_⟩⟩,fun hge=>?_⟩
  · rw [ycM (by omega)]
    split
    · omega
    · exact hf i (by omega)
  have e12:k=12:=by omega
  subst e12
  have hf0:f=yeG ycr:=ygj (by rw [hfl];rfl) fun i hi=>by
    rw [hf i (by omega),yhS (by show i<(List.range 12).length;simpa using (by omega:i<12)),yfl (by simpa [ycr] using (by omega:i<12))]
    simp [ycr]
  show ∃ Pr Rr:List (Int×Int×Int)→Prop,_
  refine ⟨_,_,yeV hE hl,fun pre f2 genus=>pre.map gmap <+: sF es∧f2=yeG (yap (pre.map gmap))∧genus+n-(yay (yap (pre.map gmap)) n:Int)=pre.length∧0≤genus∧genus≤pre.length,⟨List.nil_prefix,hf0,?_,by omega,by simp⟩,?_,?_⟩
  · show (0:Int)+n-(yay ycr n:Int)=0
    rw [yhk n hn12];omega
  · rintro pre e a b f2 genus ⟨hp,rfl,hcount,h0,h1⟩ hPr
    have hPr:(pre++[(e,a,b)]).map gmap <+: sF es:=hPr
    have hE2:=sF_ok hE
    have hmem:(a,b,1)∈sF es:=hPr.subset (by simp [gmap])
    have hx:=hE2 _ hmem
    simp only at hx
    obtain ⟨a,rfl⟩:∃ k:Nat,a=(k:Int):=⟨a.toNat,by omega⟩
    obtain ⟨b,rfl⟩:∃ k:Nat,b=(k:Int):=⟨b.toNat,by omega⟩
    have hF:ycb (yap (pre.map gmap)):=yaU _ fun x hx=>by
      have:=hE2 x (hp.subset hx)
      omega
    have hplen:pre.length≤50*es.length:=by
      have h2:=hp.length_le
      have h3:=sF_few hE
      rw [List.length_map] at h2
      omega
    have hsn:(pre++[(e,(a:Int),(b:Int))]).map gmap=pre.map gmap++[((a:Int),(b:Int),1)]:=by rw [List.map_append];rfl
    have hjs:yap ((pre++[(e,(a:Int),(b:Int))]).map gmap)=ycu (yap (pre.map gmap)) a b:=by rw [hsn,yfW];simp
    have ra:=ycj hF a (by omega)
    have rb:=ycj hF b (by omega)
    have hrl:∀ v,v<n→root (yap (pre.map gmap)) v<n:=fun v hv=>by have:=(ycj hF v (by omega)).1;omega
    have hra:=hrl a (by omega)
    have hrb:=hrl b (by omega)
    refine ygI hF (by omega) (ygI hF (by omega) ?_)
    have hmx:0≤mxF (root (yap (pre.map gmap)) a:Int) (root (yap (pre.map gmap)) b)∧mxF (root (yap (pre.map gmap)) a:Int) (root (yap (pre.map gmap)) b)<12:=by rw [mxF_eq];omega
    refine ⟨fun g2=>g2=genus+if root (yap (pre.map gmap)) a=root (yap (pre.map gmap)) b then 1 else 0,fun g2 hg2=>⟨hmx,hPr,by rw [hjs];exact castF_join,?_,?_,?_⟩,fun q=>⟨i64 (by omega),by rw [if_pos (by omega)]⟩,fun q=>by rw [if_neg (by omega)];omega⟩
    · rw [hjs,hg2,List.length_append,List.length_singleton]
      by_cases q:root (yap (pre.map gmap)) a=root (yap (pre.map gmap)) b
      · rw [if_pos q,yiJ hF (by omega) (by omega) q n hn12];omega
      · have:=yid hF (by omega) (by omega) q n hn12
        rw [if_pos (by omega)] at this
        rw [if_neg q];omega
    · rw [hg2];split <;> omega
    · rw [hg2,List.length_append,List.length_singleton];split <;> omega
  · rintro ys f2 genus ⟨hp,rfl,hcount,h0,h1⟩ hR
    have hR:ys.map gmap=sF es:=hR
    have hE2:=sF_ok hE
    have hc2:yd0 n (sF es)=true:=(yhM hE2 hn1 hn12 (q:=0) (by omega)).2 fun S h0 h1=>by
      obtain ⟨v,u,a,b,c,d,e⟩:=hc 0 (by omega) S h0 h1
      exact ⟨v,u,a,b,c,d,by rw [W_sF v u hE];exact e⟩
    unfold yd0 at hc2
    rw [beq_iff_eq,Int.toNat_natCast] at hc2
    rw [hR,hc2] at hcount
    have hlen:=sF_len hE
    rw [←hR,List.length_map] at hlen
    have e:genus=(es.map (·.2.2)).sum+1-n:=by omega
    rw [e];exact h
def ya6(d:Nat)(l:List (Int×Int)):Prop:=∀ e∈l,(0≤e.1∧e.1<d)∧0≤e.2∧e.2<d
def Joins(l:List (Int×Int))(v u:Nat):Prop:=((v:Int),(u:Int))∈l∨((u:Int),(v:Int))∈l
end Go.Proofs.YtencmgolklfmkaaGreat

/- Directed cycles, plainly: closed walks yiM single edges, circulations, what is nearest. No program in sight. -/
namespace Go.Proofs.YtencmgolklfmkaaGreat
open Go Go.Proofs.Tryz
abbrev Dart:=Nat×Bool
def dfr_ (E:List (Int×Int))(d:Dart):Int:=if d.2=true then (gx E d.1).1 else (gx E d.1).2
def dto(E:List (Int×Int))(d:Dart):Int:=if d.2=true then (gx E d.1).2 else (gx E d.1).1
def sg(b:Bool):Int:=if b=true then 1 else -1
theorem ycJ(b:Bool):sg b=1∨sg b = -1:=by cases b <;> simp [sg]
def bdy(m:Nat)(E:List (Int×Int))(x:Nat→Int)(v:Int):Int:=sm m fun i=>x i*((if (gx E i).2=v then 1 else 0)-if (gx E i).1=v then 1 else 0)
def Circ(m:Nat)(E:List (Int×Int))(x:Nat→Int):Prop:=∀ v,bdy m E x v=0
def Ch(E:List (Int×Int)):Int→List Dart→Int→Prop
  | u,[],v=>u=v
  | u,d::p,v=>dfr_ E d=u∧Ch E (dto E d) p v
def vec:List Dart→Nat→Int
  | [],_=>0
  | d::p,i=>(if d.1=i then sg d.2 else 0)+vec p i
section
variable {m : Nat} {E : List (Int × Int)}
theorem bdy_add(x y:Nat→Int)(v:Int):bdy m E (fun i=>x i+y i) v=bdy m E x v+bdy m E y v:=by
  unfold bdy
  rw [←ydu]
  exact yaw fun i _=>by rw [Int.add_mul]
theorem bdy_sub(x y:Nat→Int)(v:Int):bdy m E (fun i=>x i-y i) v=bdy m E x v-bdy m E y v:=by
  unfold bdy
  rw [←ygl]
  exact yaw fun i _=>by rw [Int.sub_mul]
theorem yib{x y:Nat→Int}(h:∀ i,i<m→x i=y i)(v:Int):bdy m E x v=bdy m E y v:=yaw fun i hi=>by rw [h i hi]
theorem Circ.sub{x y:Nat→Int}(hx:Circ m E x)(hy:Circ m E y):Circ m E (fun i=>x i-y i):=fun v=>by rw [bdy_sub,hx v,hy v];rfl
theorem Circ.congr{x y:Nat→Int}(hx:Circ m E x)(h:∀ i,i<m→x i=y i):Circ m E y:=fun v=>by rw [←yib h];exact hx v
theorem sm_at{n a:Nat}(ha:a<n){f:Nat→Int}(h:∀ k,k<n→k≠a→f k=0):sm n f=f a:=by
  have q:=ygg (f a) ha
  rw [←q]
  exact yaw fun i hi=>by
    by_cases e:i=a
    · rw [if_pos e,e]
    · rw [if_neg e,h i hi e]
theorem bdy_one{d:Dart}(hd:d.1<m)(v:Int):bdy m E (fun i=>if d.1=i then sg d.2 else 0) v=(if dto E d=v then 1 else 0)-if dfr_ E d=v then 1 else 0:=by
  unfold bdy
  rw [sm_at hd fun k _ hk=>by show (if d.1=k then sg d.2 else 0)*_=0;rw [if_neg (fun q=>hk q.symm),Int.zero_mul]]
  show (if d.1=d.1 then sg d.2 else 0)*_=_
  rw [if_pos rfl]
  obtain ⟨i,b⟩:=d
  cases b
  · simp only [sg,dto,dfr_,Bool.false_eq_true,if_false];omega
  · simp only [sg,dto,dfr_,if_true];omega
theorem bdy_vec:∀ {p:List Dart} {u v:Int},Ch E u p v→(∀ d∈p,d.1<m)→∀ w,bdy m E (vec p) w=(if v=w then 1 else 0)-if u=w then 1 else 0
  | [],u,v,h,_,w=>by
    have h:u=v:=h
    subst h
    show bdy m E (fun _=>0) w=_
    unfold bdy
    rw [yaw (g:=fun _=>0) fun i _=>Int.zero_mul _,ybY];omega
  | d::p,u,v,h,hm,w=>by
    obtain ⟨h1,h2⟩:=h
    have e:bdy m E (vec (d::p)) w=bdy m E (fun i=>(if d.1=i then sg d.2 else 0)+vec p i) w:=rfl
    rw [e,bdy_add,bdy_one (hm d (by simp)),bdy_vec h2 (fun x hx=>hm x (by simp [hx])),h1]
    omega
theorem Ch.append:∀ {p q:List Dart} {u v w:Int},Ch E u p v→Ch E v q w→Ch E u (p++q) w
  | [],q,u,v,w,h1,h2=>by have h1:u=v:=h1;subst h1;exact h2
  | d::p,q,u,v,w,h1,h2=>⟨h1.1,h1.2.append h2⟩
theorem Ch.split:∀ {p q:List Dart} {u w:Int},Ch E u (p++q) w→∃ v,Ch E u p v∧Ch E v q w
  | [],q,u,w,h=>⟨u,rfl,h⟩
  | d::p,q,u,w,h=>by
    obtain ⟨v,h1,h2⟩:=Ch.split (p:=p) h.2
    exact ⟨v,⟨h.1,h1⟩,h2⟩
theorem Ch.head{d:Dart}{p:List Dart}{u v:Int}(h:Ch E u (d::p) v):u=dfr_ E d:=h.1.symm
structure DCyc(m:Nat)(E:List (Int×Int))(s:Int)(p:List Dart):Prop where
  ne:p≠[]
  ch:Ch E s p s
  fr:(p.map (dfr_ E)).Nodup
  ed:(p.map Prod.fst).Nodup
  lt:∀ d∈p,d.1<m
  le:∀ d∈p,s≤dfr_ E d
theorem yjJ:∀ {p:List Dart} {i:Nat},(∀ d∈p,d.1≠i)→vec p i=0
  | [],_,_=>rfl
  | d::p,i,h=>by
    show (if d.1=i then sg d.2 else 0)+vec p i=0
    rw [if_neg (h d (by simp)),yjJ fun x hx=>h x (by simp [hx])];rfl
theorem yho:∀ {p:List Dart},(p.map Prod.fst).Nodup→∀ {d:Dart},d∈p→vec p d.1=sg d.2
  | [],_,d,h=>by cases h
  | c::p,hn,d,h=>by
    rw [List.map_cons,List.nodup_cons] at hn
    show (if c.1=d.1 then sg c.2 else 0)+vec p d.1=sg d.2
    rcases List.mem_cons.1 h with rfl | h
    · rw [if_pos rfl,yjJ fun x hx e=>hn.1 (by rw [←e];exact List.mem_map_of_mem hx)];omega
    · rw [if_neg (fun e=>hn.1 (by rw [e];exact List.mem_map_of_mem h)),yho hn.2 h];omega
theorem yip{p:List Dart}(hn:(p.map Prod.fst).Nodup){i:Nat}(h:vec p i≠0):∃ d∈p,d.1=i∧vec p i=sg d.2:=by
  by_cases q:∃ d∈p,d.1=i
  · obtain ⟨d,hd,rfl⟩:=q
    exact ⟨d,hd,rfl,yho hn hd⟩
  · exact absurd (yjJ fun d hd e=>q ⟨d,hd,e⟩) h
theorem ygL{p:List Dart}(hn:(p.map Prod.fst).Nodup)(i:Nat):vec p i=0∨vec p i=1∨vec p i = -1:=by
  by_cases h:vec p i=0
  · exact .inl h
  · obtain ⟨d,_,_,e⟩:=yip hn h
    rw [e];exact .inr (ycJ _)
theorem DCyc.circ{s:Int}{p:List Dart}(h:DCyc m E s p):Circ m E (vec p):=fun w=>by rw [bdy_vec h.ch h.lt];omega
def Pos(m:Nat)(z:Nat→Int)(d:Dart):Prop:=d.1<m∧0<z d.1*sg d.2
theorem exists_neg{f:Nat→Int} : ∀ {n:Nat},sm n f=0→(∃ i,i<n∧0<f i)→∃ i,i<n∧f i<0:=by
  intro n h ⟨i,hi,hp⟩
  refine Classical.byContradiction fun q=>?_
  have h0:∀ j,j<n→0≤f j:=fun j hj=>Int.not_lt.1 fun hn=>q ⟨j,hj,hn⟩
  have:=ygu h0 i hi
  omega
theorem pos_next{z:Nat→Int}(hz:Circ m E z){d:Dart}(hd:Pos m z d):∃ d',Pos m z d'∧dfr_ E d'=dto E d:=by
  by_cases hl:dfr_ E d=dto E d
  · exact ⟨d,hd,hl⟩
  · have hv:=hz (dto E d)
    obtain ⟨i,hi,hn⟩:=exists_neg hv ⟨d.1,hd.1,by
      have h2:=hd.2
      obtain ⟨i,b⟩:=d
      cases b
      · simp only [dfr_,dto,Bool.false_eq_true,if_false,sg] at *
        rw [if_neg hl,if_pos trivial];omega
      · simp only [dfr_,dto,if_true,sg] at *
        rw [if_neg hl];omega⟩
    have hn:z i*((if (gx E i).2=dto E d then 1 else 0)-if (gx E i).1=dto E d then 1 else 0)<0:=hn
    by_cases h2:(gx E i).2=dto E d
    · by_cases h1:(gx E i).1=dto E d
      · rw [if_pos h2,if_pos h1] at hn;omega
      · rw [if_pos h2,if_neg h1] at hn
        exact ⟨(i,false),⟨hi,by show 0<z i*(-1);omega⟩,h2⟩
    · by_cases h1:(gx E i).1=dto E d
      · rw [if_neg h2,if_pos h1] at hn
        exact ⟨(i,true),⟨hi,by show 0<z i*1;omega⟩,h1⟩
      · rw [if_neg h2,if_neg h1] at hn;omega
theorem yhY{n:Nat}{l:List Int}(hn:l.Nodup)(h:∀ x∈l,0≤x∧x<n):l.length≤n:=by
  have h2:(l.map Int.toNat).Nodup:=by
    rw [List.Nodup,List.pairwise_map]
    exact List.Pairwise.imp_of_mem (fun {a b} ha hb hne e=>hne (by have:=h a ha;have:=h b hb;omega)) hn
  have:=nodupN_le h2 (K:=List.range n) fun x hx=>by
    obtain ⟨y,hy,rfl⟩:=List.mem_map.1 hx
    have:=h y hy
    rw [List.mem_range];omega
  simpa using this
theorem ya6.fr{n:Nat}(hE:ya6 n E){d:Dart}(hd:d.1<E.length):(0≤dfr_ E d∧dfr_ E d<n)∧0≤dto E d∧dto E d<n:=by
  have:=hE (gx E d.1) (by rw [yaM hd];exact List.getElem_mem hd)
  obtain ⟨i,b⟩:=d
  cases b
  · exact ⟨this.2,this.1⟩
  · exact this
theorem close_walk{n:Nat}(hE:ya6 n E){z:Nat→Int}(hz:Circ E.length E z):∀ (k:Nat) (p:List Dart) (u v:Int),n≤p.length+k→Ch E u p v→(p.map (dfr_ E)).Nodup→v∉p.map (dfr_ E)→(∀ d∈p,Pos E.length z d)→(∃ d,Pos E.length z d∧dfr_ E d=v) →
    ∃ (s:Int) (c:List Dart),c≠[]∧Ch E s c s∧(c.map (dfr_ E)).Nodup∧∀ d∈c,Pos E.length z d:=by
  intro k
  induction k with
  | zero =>
    intro p u v hk hc hn hv hp ⟨d,hd,hdv⟩
    have hn2:(v::p.map (dfr_ E)).Nodup:=List.nodup_cons.2 ⟨hv,hn⟩
    have:=yhY (n:=n) hn2 fun x hx=>by
      rcases List.mem_cons.1 hx with rfl | hx
      · rw [←hdv];exact (hE.fr hd.1).1
      · obtain ⟨y,hy,rfl⟩:=List.mem_map.1 hx
        exact (hE.fr (hp y hy).1).1
    simp at this
    omega
  | succ k ih =>
    intro p u v hk hc hn hv hp ⟨d,hd,hdv⟩
    have hc2:Ch E u (p++[d]) (dto E d):=hc.append ⟨hdv,rfl⟩
    have hn2:((p++[d]).map (dfr_ E)).Nodup:=by
      rw [List.map_append,List.nodup_append]
      refine ⟨hn,by simp,fun a ha b hb e=>?_⟩
      simp at hb
      subst e
      rw [hb,hdv] at ha
      exact hv ha
    have hp2:∀ x∈p++[d],Pos E.length z x:=fun x hx=>by
      rcases List.mem_append.1 hx with q | q
      · exact hp x q
      · rw [List.mem_singleton.1 q];exact hd
    by_cases hin:dto E d∈(p++[d]).map (dfr_ E)
    · obtain ⟨d0,hd0,e0⟩:=List.mem_map.1 hin
      obtain ⟨p1,p2,e⟩:=List.append_of_mem hd0
      rw [e] at hc2 hn2 hp2
      obtain ⟨w,h1,h2⟩:=hc2.split
      have hw:=h2.head
      rw [hw,e0] at h2
      refine ⟨dto E d,d0::p2,by simp,h2,?_,fun x hx=>hp2 x (List.mem_append_right _ hx)⟩
      rw [List.map_append,List.nodup_append] at hn2
      exact hn2.2.1
    · exact ih (p++[d]) u _ (by simp;omega) hc2 hn2 hin hp2 (pos_next hz hd)
theorem exists_min{α:Type}(f:α→Int):∀ {l:List α},l≠[]→∃ a∈l,∀ b∈l,f a≤f b
  | [],h=>absurd rfl h
  | [a],_=>⟨a,by simp,fun b hb=>by rw [List.mem_singleton.1 hb];exact Int.le_refl _⟩
  | a::b::t,_=>by
    obtain ⟨c,hc,hm⟩:=exists_min f (l:=b::t) (by simp)
    by_cases h:f a≤f c
    · refine ⟨a,by simp,fun x hx=>?_⟩
      rcases List.mem_cons.1 hx with rfl | hx
      · exact Int.le_refl _
      · exact Int.le_trans h (hm x hx)
    · refine ⟨c,List.mem_cons_of_mem _ hc,fun x hx=>?_⟩
      rcases List.mem_cons.1 hx with rfl | hx
      · omega
      · exact hm x hx
theorem turned_walk{s:Int}{c:List Dart}(hne:c≠[])(hc:Ch E s c s)(hn:(c.map (dfr_ E)).Nodup)(hed:(c.map Prod.fst).Nodup)(hlt:∀ d∈c,d.1<m):∃ t p,DCyc m E t p∧p.Perm c:=by
  obtain ⟨d,hd,hmin⟩:=exists_min (dfr_ E) hne
  obtain ⟨c1,c2,rfl⟩:=List.append_of_mem hd
  obtain ⟨w,h1,h2⟩:=hc.split
  have hw:=h2.head
  subst hw
  have hp:(d::c2++c1).Perm (c1++d::c2):=List.perm_append_comm
  refine ⟨dfr_ E d,d::c2++c1,⟨by simp,h2.append h1,((hp.map _).nodup_iff).2 hn,((hp.map _).nodup_iff).2 hed,fun x hx=>hlt x (hp.mem_iff.1 hx),fun x hx=>hmin x (hp.mem_iff.1 hx)⟩,hp⟩
theorem pos_nodup{z:Nat→Int}{c:List Dart}(hn:(c.map (dfr_ E)).Nodup)(hp:∀ d∈c,Pos m z d):(c.map Prod.fst).Nodup:=by
  rw [List.Nodup,List.pairwise_map] at *
  refine List.Pairwise.imp_of_mem (fun {a b} ha hb hne e=>hne ?_) hn
  have h1:=(hp a ha).2
  have h2:=(hp b hb).2
  obtain ⟨i,x⟩:=a
  obtain ⟨j,y⟩:=b
  have e:i=j:=e
  subst e
  cases x <;> cases y <;> simp only [sg,Bool.false_eq_true,if_false,if_true] at h1 h2 <;> first | rfl | omega
theorem yiM{n:Nat}(hE:ya6 n E){z:Nat→Int}(hz:Circ E.length E z)(h0:∃ i,i<E.length∧z i≠0):∃ s p,DCyc E.length E s p∧∀ d∈p,Pos E.length z d:=by
  obtain ⟨i,hi,hne⟩:=h0
  obtain ⟨d,hd⟩:∃ d,Pos E.length z d:=by
    by_cases h:0<z i
    · exact ⟨(i,true),hi,by show 0<z i*1;omega⟩
    · exact ⟨(i,false),hi,by show 0<z i*(-1);omega⟩
  obtain ⟨s,c,h1,h2,h3,h4⟩:=close_walk hE hz n [] (dfr_ E d) (dfr_ E d) (by simp) rfl (by simp) (by simp) (by simp) ⟨d,hd,rfl⟩
  obtain ⟨t,p,hp,hpm⟩:=turned_walk h1 h2 h3 (pos_nodup h3 h4) fun d hd=>(h4 d hd).1
  exact ⟨t,p,hp,fun d hd=>h4 d (hpm.mem_iff.1 hd)⟩
end
end Go.Proofs.YtencmgolklfmkaaGreat

/- Products of vectors, what is nearest, plainly. No program in sight. -/
namespace Go.Proofs.YtencmgolklfmkaaGreat
open Go Go.Proofs.Tryz
def dot_ (m:Nat)(x y:Nat→Int):Int:=sm m fun i=>x i*y i
section
variable {m : Nat} {E : List (Int × Int)}
theorem ydX(x y:Nat→Int):dot_ m x y=dot_ m y x:=yaw fun i _=>Int.mul_comm _ _
theorem ygv(x y z:Nat→Int):dot_ m x (fun i=>y i+z i)=dot_ m x y+dot_ m x z:=by
  unfold dot_;rw [←ydu];exact yaw fun i _=>Int.mul_add _ _ _
theorem dot_sub(x y z:Nat→Int):dot_ m x (fun i=>y i-z i)=dot_ m x y-dot_ m x z:=by
  unfold dot_;rw [←ygl];exact yaw fun i _=>Int.mul_sub _ _ _
theorem ybA{x x' y y':Nat→Int}(hx:∀ i,i<m→x i=x' i)(hy:∀ i,i<m→y i=y' i):dot_ m x y=dot_ m x' y':=yaw fun i hi=>by rw [hx i hi,hy i hi]
theorem dot_nn{x y:Nat→Int}(h:∀ i,i<m→0≤x i*y i):0≤dot_ m x y:=ybo h
theorem sq_nn(a:Int):0≤a*a:=by
  rcases Int.le_total 0 a with h | h
  · exact Int.mul_nonneg h h
  · have:=Int.mul_nonneg (Int.neg_nonneg.2 h) (Int.neg_nonneg.2 h);rwa [Int.neg_mul_neg] at this
theorem yjD(x:Nat→Int):0≤dot_ m x x:=dot_nn fun i _=>sq_nn _
theorem dot_sum(x y:Nat→Int):dot_ m (fun i=>x i+y i) (fun i=>x i+y i)=dot_ m x x+2*dot_ m x y+dot_ m y y:=by
  rw [ygv,ydX _ x,ydX _ y,ygv,ygv,ydX y x];omega
theorem ygA(x y:Nat→Int):dot_ m (fun i=>x i-y i) (fun i=>x i-y i)=dot_ m x x-2*dot_ m x y+dot_ m y y:=by
  rw [dot_sub,ydX _ x,ydX _ y,dot_sub,dot_sub,ydX y x];omega
theorem sq_le_dot{x:Nat→Int}{i:Nat}(hi:i<m):x i*x i≤dot_ m x x:=ygu (fun j _=>sq_nn (x j)) i hi
theorem dot_zero{x:Nat→Int}(h:∀ i,i<m→x i=0):dot_ m x x=0:=by
  unfold dot_;rw [yaw (g:=fun _=>0) fun i hi=>by rw [h i hi,Int.zero_mul],ybY]
def siz(m:Nat)(z:Nat→Int):Nat:=(sm m fun i=>((z i).natAbs:Int)).toNat
theorem siz_lt{z z':Nat→Int}(h:∀ i,i<m→(z' i).natAbs≤(z i).natAbs){j:Nat}(hj:j<m)(h2:(z' j).natAbs<(z j).natAbs):siz m z'<siz m z:=by
  have h1:sm m (fun i=>((z i).natAbs:Int)-((z' i).natAbs:Int))=sm m (fun i=>((z i).natAbs:Int))-sm m (fun i=>((z' i).natAbs:Int)):=ygl _ _ _
  have h3:((z j).natAbs:Int)-((z' j).natAbs:Int)≤sm m (fun i=>((z i).natAbs:Int)-((z' i).natAbs:Int)):=ygu (f:=fun i=>((z i).natAbs:Int)-((z' i).natAbs:Int)) (fun i hi=>by have:=h i hi;show 0≤((z i).natAbs:Int)-((z' i).natAbs:Int);omega) j hj
  have h4:0≤sm m (fun i=>((z' i).natAbs:Int)):=ybo fun i _=>Int.natCast_nonneg _
  unfold siz
  omega
theorem part_of{n:Nat}(hE:ya6 n E){z:Nat→Int}(hz:Circ E.length E z)(h0:∃ i,i<E.length∧z i≠0) :
    ∃ s p,DCyc E.length E s p∧Circ E.length E (fun i=>z i-vec p i)∧siz E.length (fun i=>z i-vec p i)<siz E.length z∧0≤dot_ E.length (vec p) (fun i=>z i-vec p i):=by
  obtain ⟨s,p,hp,ha⟩:=yiM hE hz h0
  have key:∀ i,i<E.length→(z i-vec p i).natAbs≤(z i).natAbs∧0≤vec p i*(z i-vec p i)∧(vec p i≠0→(z i-vec p i).natAbs<(z i).natAbs):=by
    intro i hi
    by_cases q:vec p i=0
    · rw [q];simp
    · obtain ⟨d,hd,rfl,e⟩:=yip hp.ed q
      have h2:=(ha d hd).2
      rw [e]
      rcases ycJ d.2 with e1 | e1 <;> rw [e1] at h2 ⊢ <;> refine ⟨by omega,by omega,fun _=>by omega⟩
  obtain ⟨d,hd⟩:=List.exists_mem_of_ne_nil _ hp.ne
  refine ⟨s,p,hp,hz.sub hp.circ,siz_lt (fun i hi=>(key i hi).1) (hp.lt d hd) ((key d.1 (hp.lt d hd)).2.2 ?_),dot_nn fun i hi=>(key i hi).2.1⟩
  rw [yho hp.ed hd]
  rcases ycJ d.2 with e1 | e1 <;> rw [e1] <;> decide
theorem yhd(m:Nat)(z:Nat→Int):(∀ i,i<m→z i=0)∨∃ i,i<m∧z i≠0:=by
  by_cases h:∃ i,i<m∧z i≠0
  · exact .inr h
  · exact .inl fun i hi=>Classical.byContradiction fun q=>h ⟨i,hi,q⟩
theorem half_all{n:Nat}(hE:ya6 n E){y:Nat→Int}(h:∀ s p,DCyc E.length E s p→2*dot_ E.length y (vec p)≤dot_ E.length (vec p) (vec p)) :
    ∀ (k:Nat) (z:Nat→Int),siz E.length z≤k→Circ E.length E z→2*dot_ E.length y z≤dot_ E.length z z:=by
  intro k
  induction k with
  | zero =>
    intro z hk hz
    rcases yhd E.length z with h0 | h0
    · rw [dot_zero h0,show dot_ E.length y z=0 by unfold dot_;rw [yaw (g:=fun _=>0) fun i hi=>by rw [h0 i hi,Int.mul_zero],ybY]]
      decide
    · obtain ⟨s,p,_,_,h3,_⟩:=part_of hE hz h0
      omega
  | succ k ih =>
    intro z hk hz
    rcases yhd E.length z with h0 | h0
    · rw [dot_zero h0,show dot_ E.length y z=0 by unfold dot_;rw [yaw (g:=fun _=>0) fun i hi=>by rw [h0 i hi,Int.mul_zero],ybY]]
      decide
    · obtain ⟨s,p,hp,hz',h3,h4⟩:=part_of hE hz h0
      have h5:=ih _ (by omega) hz'
      have h6:=h s p hp
      have e:dot_ E.length z z=dot_ E.length (vec p) (vec p)+2*dot_ E.length (vec p) (fun i=>z i-vec p i)+dot_ E.length (fun i=>z i-vec p i) (fun i=>z i-vec p i):=by
        rw [←dot_sum];exact ybA (fun i _=>by omega) (fun i _=>by omega)
      have e2:dot_ E.length y z=dot_ E.length y (vec p)+dot_ E.length y (fun i=>z i-vec p i):=by
        rw [←ygv];exact ybA (fun i _=>rfl) (fun i _=>by omega)
      omega
def yfz(m:Nat)(E:List (Int×Int))(y:Nat→Int):Prop:=∀ z,Circ m E z→2*dot_ m y z≤dot_ m z z
theorem yfz.dist{y:Nat→Int}(h:yfz m E y){z:Nat→Int}(hz:Circ m E z):dot_ m y y≤dot_ m (fun i=>y i-z i) (fun i=>y i-z i):=by
  rw [ygA];have:=h z hz;omega
theorem least_of{n:Nat}(hE:ya6 n E){y:Nat→Int}(h:∀ s p,DCyc E.length E s p→2*dot_ E.length y (vec p)≤dot_ E.length (vec p) (vec p)):yfz E.length E y:=fun z hz=>half_all hE h _ z (Nat.le_refl _) hz
theorem near_step{n:Nat}(hE:ya6 n E){y z:Nat→Int}(hy:yfz E.length E y)(hz:Circ E.length E z)(he:dot_ E.length (fun i=>y i-z i) (fun i=>y i-z i)=dot_ E.length y y)(h0:∃ i,i<E.length∧z i≠0) :
    ∃ s p,DCyc E.length E s p∧Circ E.length E (fun i=>z i-vec p i)∧siz E.length (fun i=>z i-vec p i)<siz E.length z∧dot_ E.length (fun i=>y i-vec p i) (fun i=>y i-vec p i)=dot_ E.length y y:=by
  obtain ⟨s,p,hp,hz',h3,h4⟩:=part_of hE hz h0
  refine ⟨s,p,hp,hz',h3,?_⟩
  have h5:=hy _ hz'
  have h6:=hy _ hp.circ
  have e:dot_ E.length z z=dot_ E.length (vec p) (vec p)+2*dot_ E.length (vec p) (fun i=>z i-vec p i)+dot_ E.length (fun i=>z i-vec p i) (fun i=>z i-vec p i):=by
    rw [←dot_sum];exact ybA (fun i _=>by omega) (fun i _=>by omega)
  have e2:dot_ E.length y z=dot_ E.length y (vec p)+dot_ E.length y (fun i=>z i-vec p i):=by
    rw [←ygv];exact ybA (fun i _=>rfl) (fun i _=>by omega)
  rw [ygA] at he ⊢
  omega
theorem yfz.move{y z:Nat→Int}(hy:yfz m E y)(hz:Circ m E z)(he:dot_ m (fun i=>y i-z i) (fun i=>y i-z i)=dot_ m y y):yfz m E (fun i=>y i-z i):=fun u hu=>by
  have h1:=hy (fun i=>z i+u i) fun v=>by rw [bdy_add,hz v,hu v];rfl
  rw [dot_sum,ygv] at h1
  rw [ygA] at he
  rw [ydX,dot_sub,ydX u y,ydX u z]
  omega
end
end Go.Proofs.YtencmgolklfmkaaGreat

/- The search of directed cycles: what the program's closure computes. -/
namespace Go.Proofs.YtencmgolklfmkaaGreat
open Go Go.Proofs.Tryz
theorem yiP{s:List Int}{R:List Int→Prop}(hl:s.length≤1000000000)(h:R s):ya1 s R:=by
  unfold ya1
  exact fun nil hn=>⟨fun q=>by rw [hn q] at h;exact h,fun q=>⟨by omega,h⟩⟩
def stp(E:List (Int×Int))(s v:Int)(go:Int→List Int→List Bool→List (List Int))(x:List Int)(seen:List Bool)(d:Dart):List (List Int) :=
  if dfr_ E d≠v∨dto E d<s then [] else if dto E d=s then [x.set d.1 (sg d.2)] else if gb seen (dto E d).toNat=true then [] else go (dto E d) (x.set d.1 (sg d.2)) (seen.set (dto E d).toNat true)
def edg(E:List (Int×Int))(s v:Int)(go:Int→List Int→List Bool→List (List Int))(x:List Int)(seen:List Bool)(e:Nat):List (List Int) :=
  if gi x e≠0 then [] else stp E s v go x seen (e,true)++stp E s v go x seen (e,false)
def ext(E:List (Int×Int))(s:Int):Nat→Int→List Int→List Bool→List (List Int)
  | 0,_,_,_=>[]
  | k+1,v,x,seen=>(List.range E.length).flatMap (edg E s v (ext E s k) x seen)
theorem stp_len{E:List (Int×Int)}{s v:Int}{go:Int→List Int→List Bool→List (List Int)}{x:List Int}{seen:List Bool}{B:Nat}(hB:1≤B)(h:∀ a b c,(go a b c).length≤B)(d:Dart):(stp E s v go x seen d).length≤B:=by
  unfold stp
  split
  · exact Nat.zero_le _
  · split
    · exact hB
    · split
      · exact Nat.zero_le _
      · exact h _ _ _
theorem yf1{α:Type}(f:Nat→List α){B:Nat}(h:∀ e,(f e).length≤B):∀ n,((List.range n).flatMap f).length≤n*B
  | 0=>by simp
  | n+1=>by
    rw [List.range_succ,List.flatMap_append,List.length_append,Nat.succ_mul]
    have:=yf1 f h n
    have:=h n
    have e:[n].flatMap f=f n:=by simp
    rw [e]
    omega
theorem ext_len{E:List (Int×Int)}{s:Int} : ∀ (k:Nat) (v:Int) (x:List Int) (seen:List Bool),(ext E s k v x seen).length≤(2*E.length+1)^k
  | 0,_,_,_=>by simp [ext]
  | k+1,v,x,seen=>by
    have h:=fun a b c=>ext_len (E:=E) (s:=s) k a b c
    have hp:1≤(2*E.length+1)^k:=Nat.one_le_pow _ _ (by omega)
    have h2:∀ e,(edg E s v (ext E s k) x seen e).length≤2*(2*E.length+1)^k:=fun e=>by
      unfold edg
      split
      · exact Nat.zero_le _
      · rw [List.length_append]
        have h3:=stp_len (E:=E) (s:=s) (v:=v) (x:=x) (seen:=seen) hp h (e,true)
        have h4:=stp_len (E:=E) (s:=s) (v:=v) (x:=x) (seen:=seen) hp h (e,false)
        omega
    have:=yf1 _ h2 E.length
    rw [ext,Nat.pow_succ,Nat.mul_comm _ (2*E.length+1),Nat.add_mul]
    have e:E.length*(2*(2*E.length+1)^k)=2*E.length*(2*E.length+1)^k:=by rw [←Nat.mul_assoc,Nat.mul_comm E.length 2]
    omega
theorem set_back{x:List Int}{e:Nat}{w:Int}(h:gi x e=0)(he:e<x.length):(x.set e w).set e 0=x:=by
  refine ygj (by simp) fun j hj=>?_
  rw [ycM (by simpa using he),ycM he]
  by_cases q:j=e
  · rw [if_pos q,q,h]
  · rw [if_neg q,if_neg q]
theorem set_backb{s:List Bool}{v:Nat}(h:gb s v=false)(hv:v<s.length):(s.set v true).set v false=s:=by
  refine gb_ext (by simp) fun j hj=>?_
  rw [ycX (by simpa using hv),ycX hv]
  by_cases q:j=v
  · rw [if_pos q,q,h]
  · rw [if_neg q,if_neg q]
theorem count_mark{s:List Bool}{v:Nat}(h:gb s v=false)(hv:v<s.length):(s.set v true).count false+1=s.count false:=by
  induction s generalizing v with
  | nil=>simp at hv
  | cons a t ih =>
    cases v with
    | zero =>
      have:a=false:=h
      subst this
      simp
    | succ v =>
      have:=ih (v:=v) h (by simpa using hv)
      rw [List.set_cons_succ,List.count_cons,List.count_cons,←this]
      omega
section
variable {E : List (Int × Int)} {n : Nat} {s : Int}
theorem p_unsee{S:List Bool}{v:Int}{R:List Bool→Prop}(hv:0≤v∧v<((S.length:Nat):Int))(h:R (S.set v.toNat false)):ya9 S v R:=⟨hv,h⟩
theorem p_walk(hE:ya6 n E)(hn:n≤12)(hm:E.length≤100):∀ (k:Nat) (v:Nat) (S:List Bool) (x:List Int) (out:List (List Int)) (R:List Bool→List Int→List (List Int)→Prop),v<n→S.length=n→gb S v=false→x.length=E.length→S.count false≤k →
    out.length+(2*E.length+1)^k≤1000000000→R S x (out++ext E s k v x (S.set v true))→ych k (v:Int) S E x s out R:=by
  intro k
  induction k with
  | zero =>
    intro v S x out R hv hS hf hx hc
    have:=count_mark hf (by omega)
    omega
  | succ k ih =>
    intro v S x out R hv hS hf hx hc hB hR
    have hcm:=count_mark hf (by omega)
    have hS1:(S.set v true).length=n:=by rw [List.length_set];exact hS
    have hpw:1≤(2*E.length+1)^k:=Nat.one_le_pow _ _ (by omega)
    have hB2:(2*E.length+1)^(k+1)=2*E.length*(2*E.length+1)^k+(2*E.length+1)^k:=by rw [Nat.pow_succ,Nat.mul_comm _ (2*E.length+1),Nat.add_mul];omega
    obtain ⟨F,hF⟩:∃ F,F=edg E s v (ext E s k) x (S.set v true):=⟨_,rfl⟩
    obtain ⟨T,hT⟩:∃ T,T=stp E s v (ext E s k) x (S.set v true):=⟨_,rfl⟩
    have hTl:∀ d,(T d).length≤(2*E.length+1)^k:=fun d=>by rw [hT];exact stp_len hpw (ext_len k) d
    have hFl:∀ e,(F e).length≤2*(2*E.length+1)^k:=fun e=>by
      rw [hF];unfold edg
      split
      · exact Nat.zero_le _
      · rw [List.length_append,←hT]
        have:=hTl (e,true)
        have:=hTl (e,false)
        omega
    show ybD _ _ _ _ _ _ _ _
    unfold ybD
    simp only [Int.toNat_natCast]
    refine ⟨by rw [hS];omega,fun m i a b c=>Cnt E.length (fun q=>a=S.set v true∧x=b∧c=out++(List.range q).flatMap F) m i,⟨_,0,rfl,rfl,Nat.zero_le _,rfl,rfl,by simp⟩,?_⟩
    rintro m _ a b c ⟨e,rfl,rfl,he,ha,hb,hcc⟩
    simp only [Int.toNat_natCast]
    subst ha hb hcc
    refine ⟨fun hlt=>⟨by omega,?_⟩,fun hge=>?_⟩
    · have hel:e<E.length:=by omega
      have hw:∀ b:Bool,(if b=true then (gx E e).1 else (gx E e).2)=dfr_ E (e,b):=fun b=>rfl
      refine ⟨gi x e=0,fun hxe=>?_,?_⟩
      · have hFe:F e=T (e,true)++T (e,false):=by rw [hF,hT];unfold edg;rw [if_neg (by omega)]
        refine ⟨fun m i a b c=>Cnt 2 (fun q=>a=S.set v true∧x=b∧c=out++(List.range e).flatMap F++(List.range q).flatMap fun j=>T (e,j==0)) m i,⟨_,0,rfl,rfl,by omega,rfl,rfl,by simp⟩,?_⟩
        rintro m' _ a b c ⟨j,rfl,rfl,hj,ha,hb,hcc⟩
        simp only [Int.toNat_natCast]
        subst ha hb hcc
        refine ⟨fun hlt2=>?_,fun hge2=>?_⟩
        · have hj2:j<2:=by simp at hlt2;omega
          refine ⟨by simp at hlt2 ⊢;omega,by omega,by omega,?_⟩
          have hg:gi [1, -1] j=sg (j==0):=by
            match j,hj2 with
            | 0,_=>rfl
            | 1,_=>rfl
          rw [hg]
          obtain ⟨b,hb⟩:∃ b,b=(j==0):=⟨_,rfl⟩
          rw [←hb]
          have hends:=hE.fr (d:=(e,b)) hel
          -- what has been found ya8 this dart
          have hnext:∀ o,o=out++(List.range e).flatMap F++((List.range j).flatMap fun j=>T (e,j==0))++T (e,b)→In64 ((j:Int)+1)∧∃ m4,m4<2-j∧Cnt 2 (fun q=>S.set v true=S.set v true∧x=x∧o=out++(List.range e).flatMap F++(List.range q).flatMap fun j=>T (e,j==0)) m4 ((j:Int)+1):=fun o ho =>
            Cnt.next hj2 (by omega) ⟨rfl,rfl,by rw [ho,List.range_succ,List.flatMap_append,List.append_assoc,List.append_assoc,List.append_assoc];simp [hb]⟩
          have hout:(out++(List.range e).flatMap F++(List.range j).flatMap fun j=>T (e,j==0)).length+(2*E.length+1)^k≤1000000000:=by
            have h1:=yf1 F hFl e
            have h2:=yf1 (fun j=>T (e,j==0)) (fun j=>hTl _) j
            rw [List.length_append,List.length_append]
            have h3:e*(2*(2*E.length+1)^k)+2*(2*E.length+1)^k≤2*E.length*(2*E.length+1)^k:=by
              have h4:=Nat.mul_le_mul_right (2*(2*E.length+1)^k) (show e+1≤E.length by omega)
              rw [Nat.add_mul,Nat.one_mul] at h4
              have h5:E.length*(2*(2*E.length+1)^k)=2*E.length*(2*E.length+1)^k:=by rw [←Nat.mul_assoc,Nat.mul_comm E.length 2]
              omega
            have h4:j*(2*E.length+1)^k≤1*(2*E.length+1)^k:=Nat.mul_le_mul_right _ (by omega)
            omega
          obtain ⟨o1,ho1⟩:∃ o1,o1=out++(List.range e).flatMap F++(List.range j).flatMap fun j=>T (e,j==0):=⟨_,rfl⟩
          rw [←ho1] at hout hnext ⊢
          refine ⟨fun a t=>a=dfr_ E (e,b)∧t=dto E (e,b),?_,?_⟩
          · rintro _ _ ⟨rfl,rfl⟩
            refine ⟨dfr_ E (e,b)=(v:Int)∧¬dto E (e,b)<s,fun ⟨hJ1,hJ2⟩=>⟨by omega,fun hts=>?_,fun hts=>⟨?_,fun hsn=>?_,fun hsn=>?_⟩⟩,?_⟩
            · refine yiP (by rw [List.length_set];omega) ?_
              refine ⟨by omega,by rw [List.length_set];omega,?_⟩
              rw [set_back hxe (by omega)]
              refine hnext _ ?_
              rw [hT];unfold stp;rw [if_neg (by rw [not_or];exact ⟨fun q=>q hJ1,hJ2⟩),if_pos hts]
            · rw [hS1];omega
            · refine ⟨by rw [List.length_set];omega,?_⟩
              rw [set_back hxe (by omega)]
              refine hnext _ ?_
              rw [hT];unfold stp;rw [if_neg (by rw [not_or];exact ⟨fun q=>q hJ1,hJ2⟩),if_neg hts,if_pos hsn];simp
            · obtain ⟨t,ht⟩:=Int.eq_ofNat_of_zero_le hends.2.1
              have htt:(dto E (e,b)).toNat=t:=by omega
              rw [htt] at hsn
              rw [ht]
              refine ih t (S.set v true) _ _ _ (by omega) hS1 (by simpa using hsn) (by rw [List.length_set];exact hx) (by omega) hout ?_
              refine ⟨by rw [List.length_set];omega,?_⟩
              rw [set_back hxe (by omega)]
              refine hnext _ ?_
              rw [hT];unfold stp;rw [if_neg (by rw [not_or];exact ⟨fun q=>q hJ1,hJ2⟩),if_neg hts,htt,if_neg hsn,ht]
            · refine ⟨fun h1=>⟨fun h2=>hnext _ ?_,fun h2=>⟨h1,h2⟩⟩,fun h1=>hnext _ ?_⟩
              · rw [hT];unfold stp;rw [if_pos (.inr h2)];simp
              · rw [hT];unfold stp;rw [if_pos (.inl h1)];simp
          · refine ⟨fun hn=>?_,fun hn=>?_⟩
            · have:b=false:=by cases b <;> simp [sg] at hn ⊢
              subst this;exact ⟨rfl,rfl⟩
            · have:b=true:=by cases b <;> simp [sg] at hn ⊢
              subst this;exact ⟨rfl,rfl⟩
        · have hj2:j=2:=by simp at hge2;omega
          subst hj2
          refine Cnt.next hel (by omega) ⟨rfl,rfl,?_⟩
          have e1:((List.range 2).flatMap fun j=>T (e,j==0))=F e:=by rw [hFe,show List.range 2=[0,1] from rfl];simp
          rw [e1,List.range_succ,List.flatMap_append,List.append_assoc]
          simp
      · refine ⟨by rw [hx];omega,fun hxe=>⟨by omega,fun h1=>hxe,fun h1=>⟨by omega,fun h2=>hxe,fun h2=>?_⟩⟩,fun hxe=>?_⟩
        · refine Cnt.next hel (by omega) ⟨rfl,rfl,?_⟩
          have:F e=[]:=by
            rw [hF];unfold edg stp
            rw [if_neg (by omega),if_pos (.inl h1),if_pos (.inl h2)];rfl
          rw [List.range_succ,List.flatMap_append];simp [this]
        · refine Cnt.next hel (by omega) ⟨rfl,rfl,?_⟩
          have:F e=[]:=by
            rw [hF];unfold edg
            rw [if_pos hxe]
          rw [List.range_succ,List.flatMap_append];simp [this]
    · have:e=E.length:=by omega
      subst this
      refine p_unsee (by rw [hS1];omega) ?_
      rw [Int.toNat_natCast,set_backb hf (by omega)]
      rw [hF];exact hR
end
end Go.Proofs.YtencmgolklfmkaaGreat

/- The search of directed cycles finds all of them, each once. -/
namespace Go.Proofs.YtencmgolklfmkaaGreat
open Go Go.Proofs.Tryz
def sets(x:List Int):List Dart→List Int
  | []=>x
  | d::p=>sets (x.set d.1 (sg d.2)) p
theorem sets_len:∀ (p:List Dart) (x:List Int),(sets x p).length=x.length
  | [],_=>rfl
  | d::p,x=>by rw [sets,sets_len p,List.length_set]
theorem gi_sets:∀ {p:List Dart} {x:List Int},(p.map Prod.fst).Nodup→(∀ d∈p,d.1<x.length∧gi x d.1=0)→∀ i,gi (sets x p) i=gi x i+vec p i
  | [],x,_,_,i=>by simp [sets,vec]
  | d::p,x,hn,h,i=>by
    rw [List.map_cons,List.nodup_cons] at hn
    have hd:=h d (by simp)
    rw [sets,gi_sets hn.2 (fun c hc=>⟨by rw [List.length_set];exact (h c (by simp [hc])).1,by
      rw [ycM hd.1,if_neg fun e=>hn.1 (by rw [←e];exact List.mem_map_of_mem hc)];exact (h c (by simp [hc])).2⟩),ycM hd.1]
    show _=gi x i+((if d.1=i then sg d.2 else 0)+vec p i)
    by_cases e:i=d.1
    · subst e;rw [if_pos rfl,if_pos rfl,hd.2];omega
    · rw [if_neg e,if_neg (fun q=>e q.symm)];omega
def Way(E:List (Int×Int))(s:Int):Int→List Int→List Bool→List Dart→Prop
  | _,_,_,[]=>False
  | v,x,seen,d::p=>d.1<E.length∧gi x d.1=0∧dfr_ E d=v∧s≤dto E d∧((dto E d=s∧p=[])∨(dto E d≠s∧gb seen (dto E d).toNat=false∧Way E s (dto E d) (x.set d.1 (sg d.2)) (seen.set (dto E d).toNat true) p))
section
variable {E : List (Int × Int)} {n : Nat} {s : Int}
theorem mem_edg{v:Int}{go:Int→List Int→List Bool→List (List Int)}{x:List Int}{seen:List Bool}{e:Nat}{y:List Int} : y∈edg E s v go x seen e↔gi x e=0∧∃ b,y∈stp E s v go x seen (e,b):=by
  unfold edg
  by_cases h:gi x e=0
  · rw [if_neg (by omega),List.mem_append]
    constructor
    · rintro (q | q)
      · exact ⟨h,true,q⟩
      · exact ⟨h,false,q⟩
    · rintro ⟨_,b,q⟩
      cases b
      · exact .inr q
      · exact .inl q
  · rw [if_pos h]
    simp [h]
theorem mem_stp{v:Int}{go:Int→List Int→List Bool→List (List Int)}{x:List Int}{seen:List Bool}{d:Dart}{y:List Int} : y∈stp E s v go x seen d ↔
    dfr_ E d=v∧s≤dto E d∧((dto E d=s∧y=x.set d.1 (sg d.2))∨(dto E d≠s∧gb seen (dto E d).toNat=false∧y∈go (dto E d) (x.set d.1 (sg d.2)) (seen.set (dto E d).toNat true))):=by
  unfold stp
  by_cases h1:dfr_ E d=v
  · by_cases h2:dto E d<s
    · rw [if_pos (.inr h2)]
      simp only [List.not_mem_nil,false_iff,not_and]
      intro _ h;omega
    · rw [if_neg (by rw [not_or];exact ⟨fun q=>q h1,h2⟩)]
      by_cases h3:dto E d=s
      · rw [if_pos h3,List.mem_singleton]
        constructor
        · exact fun q=>⟨h1,by omega, .inl ⟨h3,q⟩⟩
        · rintro ⟨_,_,q | q⟩
          · exact q.2
          · exact absurd h3 q.1
      · rw [if_neg h3]
        by_cases h4:gb seen (dto E d).toNat=true
        · rw [if_pos h4]
          simp only [List.not_mem_nil,false_iff]
          rintro ⟨_,_,q | q⟩
          · exact h3 q.1
          · rw [h4] at q;exact absurd q.2.1 (by decide)
        · rw [if_neg h4]
          constructor
          · exact fun q=>⟨h1,by omega, .inr ⟨h3,by simpa using h4,q⟩⟩
          · rintro ⟨_,_,q | q⟩
            · exact absurd q.1 h3
            · exact q.2.2
  · rw [if_pos (.inl h1)]
    simp [h1]
theorem mem_ext:∀ {k:Nat} {v:Int} {x:List Int} {seen:List Bool} {y:List Int},y∈ext E s k v x seen↔∃ p,p.length≤k∧Way E s v x seen p∧y=sets x p
  | 0,v,x,seen,y=>by
    rw [ext]
    constructor
    · intro h;cases h
    · rintro ⟨p,h,hw,_⟩
      rw [List.length_eq_zero_iff.1 (Nat.le_zero.1 h)] at hw
      exact hw.elim
  | k+1,v,x,seen,y=>by
    rw [ext,List.mem_flatMap]
    constructor
    · rintro ⟨e,he,h⟩
      rw [List.mem_range] at he
      obtain ⟨h0,b,h⟩:=mem_edg.1 h
      obtain ⟨h1,h2,⟨h3,h4⟩ | ⟨h3,h4,h5⟩⟩:=mem_stp.1 h
      · exact ⟨[(e,b)],by simp,⟨he,h0,h1,h2, .inl ⟨h3,rfl⟩⟩,h4⟩
      · obtain ⟨p,hp,hw,rfl⟩:=mem_ext.1 h5
        exact ⟨(e,b)::p,by simpa using hp,⟨he,h0,h1,h2, .inr ⟨h3,h4,hw⟩⟩,rfl⟩
    · rintro ⟨p,hp,hw,rfl⟩
      cases p with
      | nil=>exact hw.elim
      | cons d p =>
        obtain ⟨he,h0,h1,h2,h3⟩:=hw
        refine ⟨d.1,List.mem_range.2 he,mem_edg.2 ⟨h0,d.2,mem_stp.2 ⟨h1,h2,?_⟩⟩⟩
        rcases h3 with ⟨h3,rfl⟩ | ⟨h3,h4,h5⟩
        · exact .inl ⟨h3,rfl⟩
        · exact .inr ⟨h3,h4,mem_ext.2 ⟨p,by simpa using hp,h5,rfl⟩⟩
theorem gb_not_set{S:List Bool}{a b:Nat}(h:gb (S.set a true) b=false)(ha:a<S.length):b≠a∧gb S b=false:=by
  rw [ycX ha] at h
  by_cases e:b=a
  · rw [if_pos e] at h;cases h
  · rw [if_neg e] at h;exact ⟨e,h⟩
theorem ygR(hE:ya6 n E):∀ {p:List Dart} {v:Int} {x:List Int} {seen:List Bool},Way E s v x seen p→x.length=E.length→seen.length=n→gb seen v.toNat=true →
    Ch E v p s∧(∀ d∈p,d.1<E.length∧gi x d.1=0)∧(p.map Prod.fst).Nodup∧(p.map (dfr_ E)).Nodup∧∀ d∈p,dfr_ E d=v∨(gb seen (dfr_ E d).toNat=false∧s<dfr_ E d)
  | [],_,_,_,h,_,_,_=>h.elim
  | d::p,v,x,seen,h,hx,hs,hv=>by
    obtain ⟨h0,h1,h2,h3,⟨h4,rfl⟩ | ⟨h4,h5,h6⟩⟩:=h
    · exact ⟨⟨h2,h4⟩,fun c hc=>by rw [List.mem_singleton.1 hc];exact ⟨h0,h1⟩,by simp,by simp,fun c hc => .inl (by rw [List.mem_singleton.1 hc];exact h2)⟩
    · have hd:=hE.fr h0
      have ht:(dto E d).toNat<seen.length:=by omega
      obtain ⟨k1,k2,k3,k4,k5⟩:=ygR hE h6 (by rw [List.length_set];exact hx) (by rw [List.length_set];exact hs) (by rw [ycX ht,if_pos rfl])
      have k6:∀ c∈p,gb seen (dfr_ E c).toNat=false∧s<dfr_ E c:=fun c hc=>by
        rcases k5 c hc with q | ⟨q,q2⟩
        · rw [q];exact ⟨h5,by omega⟩
        · exact ⟨(gb_not_set q ht).2,q2⟩
      refine ⟨⟨h2,k1⟩,fun c hc=>?_,?_,?_,fun c hc=>?_⟩
      · rcases List.mem_cons.1 hc with rfl | hc
        · exact ⟨h0,h1⟩
        · have:=k2 c hc
          refine ⟨this.1,?_⟩
          have q:=this.2
          rw [ycM (by omega)] at q
          by_cases e:c.1=d.1
          · rw [if_pos e] at q
            rcases ycJ d.2 with r | r <;> rw [r] at q <;> cases q
          · rwa [if_neg e] at q
      · rw [List.map_cons,List.nodup_cons]
        refine ⟨fun hm=>?_,k3⟩
        obtain ⟨c,hc,e⟩:=List.mem_map.1 hm
        have q:=(k2 c hc).2
        rw [e,ycM (by omega),if_pos rfl] at q
        rcases ycJ d.2 with r | r <;> rw [r] at q <;> cases q
      · rw [List.map_cons,List.nodup_cons]
        refine ⟨fun hm=>?_,k4⟩
        obtain ⟨c,hc,e⟩:=List.mem_map.1 hm
        have q:=(k6 c hc).1
        rw [e,h2,hv] at q;cases q
      · rcases List.mem_cons.1 hc with rfl | hc
        · exact .inl h2
        · exact .inr (k6 c hc)
theorem way_of(hE:ya6 n E):∀ {p:List Dart} {v:Int} {x:List Int} {seen:List Bool},p≠[]→Ch E v p s→x.length=E.length→seen.length=n→(∀ d∈p,d.1<E.length∧gi x d.1=0)→(p.map Prod.fst).Nodup→(p.map (dfr_ E)).Nodup →
    (∀ d∈p.tail,gb seen (dfr_ E d).toNat=false∧s<dfr_ E d)→Way E s v x seen p
  | [],_,_,_,h,_,_,_,_,_,_,_=>absurd rfl h
  | [d],v,x,seen,_,hc,hx,hs,hd,_,_,_=>by
    have:=hd d (by simp)
    have e:dto E d=s:=hc.2
    exact ⟨this.1,this.2,hc.1,by omega, .inl ⟨e,rfl⟩⟩
  | d::c::p,v,x,seen,_,hc,hx,hs,hd,hf,hr,ht=>by
    have h1:=hd d (by simp)
    have e:dfr_ E c=dto E d:=hc.2.1
    have h2:=ht c (by simp)
    have hcE:=hE.fr (hd c (by simp)).1
    have hlt:(dto E d).toNat<seen.length:=by rw [←e];omega
    rw [e] at h2
    rw [List.map_cons,List.nodup_cons] at hf hr
    refine ⟨h1.1,h1.2,hc.1,by omega, .inr ⟨by omega,h2.1,way_of hE (by simp) hc.2 (by rw [List.length_set];exact hx) (by rw [List.length_set];exact hs) (fun a ha=>?_) hf.2 hr.2 fun a ha=>?_⟩⟩
    · have:=hd a (List.mem_cons_of_mem _ ha)
      refine ⟨this.1,?_⟩
      rw [ycM (by omega),if_neg fun q=>hf.1 (by rw [←q];exact List.mem_map_of_mem ha)]
      exact this.2
    · have q:=ht a (List.mem_cons_of_mem _ ha)
      refine ⟨?_,q.2⟩
      rw [ycX hlt,if_neg fun w=>?_]
      · exact q.1
      · have hr2:=hr.2
        rw [List.map_cons,List.nodup_cons] at hr2
        have haE:=hE.fr (hd a (List.mem_cons_of_mem _ (List.mem_cons_of_mem _ ha))).1
        refine hr2.1 ?_
        rw [e,show dto E d=dfr_ E a by rw [←e] at w ⊢;omega]
        exact List.mem_map_of_mem ha
theorem vec_dart{p q:List Dart}{m:Nat}(hp:(p.map Prod.fst).Nodup)(hq:(q.map Prod.fst).Nodup)(hlt:∀ d∈p,d.1<m)(h:∀ i,i<m→vec p i=vec q i){d:Dart}(hd:d∈p):d∈q:=by
  have h1:=yho hp hd
  rw [h _ (hlt d hd)] at h1
  obtain ⟨c,hc,e,e2⟩:=yip hq (i:=d.1) (by rw [h1];rcases ycJ d.2 with r | r <;> rw [r] <;> decide)
  rw [h1] at e2
  have:c=d:=by
    obtain ⟨i,a⟩:=c
    obtain ⟨j,b⟩:=d
    have e:i=j:=e
    subst e
    cases a <;> cases b <;> first | rfl | (simp [sg] at e2)
  rw [←this];exact hc
theorem way_dart(hE:ya6 n E){p q:List Dart}{d c:Dart}{v:Int}{x:List Int}{seen:List Bool}(hp:Way E s v x seen (d::p))(hq:Way E s v x seen (c::q))(hx:x.length=E.length)(hs:seen.length=n)(hv:gb seen v.toNat=true)
    (h:sets x (d::p)=sets x (c::q)):d=c:=by
  obtain ⟨_,a2,a3,a4,_⟩:=ygR hE hp hx hs hv
  obtain ⟨_,b2,b3,b4,_⟩:=ygR hE hq hx hs hv
  have hvec:∀ i,i<E.length→vec (d::p) i=vec (c::q) i:=fun i hi=>by
    have h1:=gi_sets a3 (fun d hd=>⟨by rw [hx];exact (a2 d hd).1,(a2 d hd).2⟩) i
    have h2:=gi_sets b3 (fun d hd=>⟨by rw [hx];exact (b2 d hd).1,(b2 d hd).2⟩) i
    rw [h] at h1
    omega
  have hm:=vec_dart b3 a3 (fun d hd=>(b2 d hd).1) (fun i hi=>(hvec i hi).symm) (d:=c) (by simp)
  rcases List.mem_cons.1 hm with e | hm
  · exact e.symm
  · rw [List.map_cons,List.nodup_cons] at a4
    refine absurd ?_ a4.1
    rw [show dfr_ E d=dfr_ E c by rw [hp.2.2.1,hq.2.2.1]]
    exact List.mem_map_of_mem hm
theorem nodup_flat{α:Type}{f:Nat→List α}(h:∀ e,(f e).Nodup)(hd:∀ e e' y,y∈f e→y∈f e'→e=e')(n:Nat):((List.range n).flatMap f).Nodup:=by
  unfold List.Nodup
  rw [List.pairwise_flatMap]
  refine ⟨fun e _=>h e,?_⟩
  refine List.Pairwise.imp (R:=fun a b:Nat=>a≠b) (fun {a b} hab=>?_) List.nodup_range
  intro y hy z hz e
  subst e
  exact hab (hd _ _ y hy hz)
theorem ext_nodup(hE:ya6 n E):∀ (k:Nat) {v:Int} {x:List Int} {seen:List Bool},x.length=E.length→seen.length=n→gb seen v.toNat=true→(ext E s k v x seen).Nodup
  | 0,_,_,_,_,_,_=>by rw [ext];exact List.nodup_nil
  | k+1,v,x,seen,hx,hs,hv=>by
    -- what a dart leads to
    have hway:∀ {e:Nat} {b:Bool} {y:List Int},e<E.length→gi x e=0→y∈stp E s v (ext E s k) x seen (e,b)→∃ p,Way E s v x seen ((e,b)::p)∧y=sets x ((e,b)::p):=fun {e b y} he h0 h=>by
      obtain ⟨h1,h2,⟨h3,h4⟩ | ⟨h3,h4,h5⟩⟩:=mem_stp.1 h
      · exact ⟨[],⟨he,h0,h1,h2, .inl ⟨h3,rfl⟩⟩,h4⟩
      · obtain ⟨p,hp,hw,rfl⟩:=mem_ext.1 h5
        exact ⟨p,⟨he,h0,h1,h2, .inr ⟨h3,h4,hw⟩⟩,rfl⟩
    have hst:∀ e,e<E.length→∀ b,(stp E s v (ext E s k) x seen (e,b)).Nodup:=fun e he b=>by
      unfold stp
      split
      · exact List.nodup_nil
      · split
        · simp
        · split
          · exact List.nodup_nil
          · have hd:=hE.fr (d:=(e,b)) he
            have ht:(dto E (e,b)).toNat<seen.length:=by omega
            exact ext_nodup hE k (by rw [List.length_set];exact hx) (by rw [List.length_set];exact hs) (by rw [ycX ht,if_pos rfl])
    rw [ext]
    -- edges beyond the last one do not matter
    obtain ⟨f,hf⟩:∃ f:Nat→List (List Int),f=fun e=>if e<E.length then edg E s v (ext E s k) x seen e else []:=⟨_,rfl⟩
    have e1:(List.range E.length).flatMap (edg E s v (ext E s k) x seen)=(List.range E.length).flatMap f:=by
      have:∀ l:List Nat,(∀ e∈l,e<E.length)→l.flatMap (edg E s v (ext E s k) x seen)=l.flatMap f:=fun l=>by
        induction l with
        | nil=>intro _;rfl
        | cons a t ih =>
          intro h
          rw [List.flatMap_cons,List.flatMap_cons,ih fun e he=>h e (by simp [he]),hf]
          simp only
          rw [if_pos (h a (by simp))]
      exact this _ fun e he=>List.mem_range.1 he
    rw [e1]
    refine nodup_flat (fun e=>?_) (fun e e' y h h'=>?_) _
    · rw [hf]
      simp only
      split
      · rename_i he
        unfold edg
        split
        · exact List.nodup_nil
        · rename_i h0
          rw [List.nodup_append]
          refine ⟨hst e he _,hst e he _,fun a ha b hb hab=>?_⟩
          subst hab
          obtain ⟨p,hp,rfl⟩:=hway he (by omega) ha
          obtain ⟨q,hq,h⟩:=hway he (by omega) hb
          have:=way_dart hE hp hq hx hs hv h
          cases this
      · exact List.nodup_nil
    · rw [hf] at h h'
      simp only at h h'
      split at h
      · rename_i he
        split at h'
        · rename_i he'
          obtain ⟨h0,b,hb⟩:=mem_edg.1 h
          obtain ⟨h0',b',hb'⟩:=mem_edg.1 h'
          obtain ⟨p,hp,rfl⟩:=hway he h0 hb
          obtain ⟨q,hq,h⟩:=hway he' h0' hb'
          have:=way_dart hE hp hq hx hs hv h
          exact congrArg Prod.fst this
        · cases h'
      · cases h
end
end Go.Proofs.YtencmgolklfmkaaGreat

/- voronoi.cycles: all directed cycles in order. -/
namespace Go.Proofs.YtencmgolklfmkaaGreat
open Go Go.Proofs.Tryz
theorem yh7{a b:List Int}{R:Bool→Prop}(hl:a.length≤1000000000)(h:R (decide (a=b))):yaO a b R:=by
  unfold yaO
  have ht:a=b→R true:=fun q=>by rwa [decide_eq_true q] at h
  have hf:¬a=b→R false:=fun q=>by rwa [decide_eq_false q] at h
  refine ⟨fun hln=>?_,fun hln=>hf fun q=>hln (by rw [q])⟩
  refine ⟨Cnt a.length (fun k=>∀ j,j<k→gi a j=gi b j),Cnt.start (fun j hj=>absurd hj (by omega)),?_⟩
  rintro m _ ⟨k,rfl,rfl,hk,hinv⟩
  simp only [Int.toNat_natCast]
  refine ⟨fun hlt=>⟨by omega,by omega,fun h1=>Cnt.next (by omega) (by omega) fun j hj=>?_,fun h1=>hf fun q=>h1 (by rw [q])⟩,fun hge=>ht (ygj (by omega) fun j hj=>hinv j (by omega))⟩
  by_cases e:j=k
  · subst e;exact h1
  · exact hinv j (by omega)
theorem p_compact_V{l:List (List Int)}{R:List (List Int)→Prop}(hl:l.length≤1000000000)(hx:∀ x∈l,x.length≤1000000000)(hn:l.Nodup)(h:R l):yaY l (fun x x2 R=>yaO x x2 R) R:=by
  unfold yaY
  refine ⟨fun _=>h,fun h2=>⟨fun m v=>∃ k:Nat,m=l.length-k∧v=(k:Int)∧1≤k∧k≤l.length,⟨_,1,rfl,rfl,Nat.le_refl _,by omega⟩,?_⟩⟩
  rintro m _ ⟨k,rfl,rfl,h1,hk⟩
  refine ⟨fun hlt=>?_,fun _=>h⟩
  have hkl:k<l.length:=by omega
  have e:((k:Int)-1).toNat=k-1:=by omega
  refine ⟨by omega,i64 (by omega),by omega,?_⟩
  rw [Int.toNat_natCast,e]
  refine yh7 (hx _ (by rw [yaM hkl];exact List.getElem_mem _)) ⟨fun q=>?_,fun _=>⟨i64 (by omega),_,?_,k+1,rfl,by omega,by omega,by omega⟩⟩
  · have q:=of_decide_eq_true q
    rw [yaM hkl,yaM (show k-1<l.length by omega)] at q
    have:=(List.getElem_inj hn).1 q
    omega
  · omega
theorem asc_of{zs l:List (List Int)}(hp:zs.Perm l)(hs:zs.Pairwise (fun a b=>¬lexC b a<0))(hn:l.Nodup):Asc zs:=by
  have hnz:zs.Nodup:=hp.nodup_iff.2 hn
  unfold Asc
  refine (hs.and hnz).imp fun {a b} ⟨h1,h2⟩=>?_
  rw [yc1] at h1
  rcases Int.lt_or_eq_of_le (show lexC a b≤0 by omega) with q | q
  · exact q
  · exact absurd (yiK _ _ q) h2
theorem nodup_flat2{α:Type}{f:Nat→List α}{n:Nat}(h:∀ e,e<n→(f e).Nodup)(hd:∀ e e' y,e<n→e'<n→y∈f e→y∈f e'→e=e'):((List.range n).flatMap f).Nodup:=by
  unfold List.Nodup
  rw [List.pairwise_flatMap]
  refine ⟨fun e he=>h e (List.mem_range.1 he),?_⟩
  refine List.Pairwise.imp_of_mem (R:=fun a b:Nat=>a≠b) (fun {a b} ha hb hab=>?_) List.nodup_range
  intro y hy z hz e
  subst e
  exact hab (hd _ _ y (List.mem_range.1 ha) (List.mem_range.1 hb) hy hz)
def IsDC(E:List (Int×Int))(y:List Int):Prop:=∃ s p,DCyc E.length E s p∧y=tab (vec p) E.length
def dirS(E:List (Int×Int))(n s:Nat):List (List Int):=ext E s n s (List.replicate E.length 0) ((List.replicate n false).set s true)
def dirL(E:List (Int×Int))(n:Nat):List (List Int):=(List.range n).flatMap (dirS E n)
section
variable {E : List (Int × Int)} {n : Nat}
theorem DCyc.head{s:Int}{p:List Dart}{m:Nat}(h:DCyc m E s p):∃ d q,p=d::q∧dfr_ E d=s:=by
  cases p with
  | nil=>exact absurd rfl h.ne
  | cons d q=>exact ⟨d,q,rfl,h.ch.1⟩
theorem yjK(m i:Nat):gi (List.replicate m 0) i=0:=by
  by_cases h:i<m
  · rw [ybe (by simpa using h)];simp
  · exact gi_ge (by simp;omega)
theorem gb_rep_ (m i:Nat):gb (List.replicate m false) i=false:=by
  by_cases h:i<m
  · rw [yda (by simpa using h)];simp
  · exact gb_ge (by simp;omega)
theorem yhD(hE:ya6 n E){s:Nat}(hs:s<n){y:List Int} : y∈dirS E n s↔∃ p,DCyc E.length E s p∧y=tab (vec p) E.length:=by
  have hlr:(List.replicate n false).length=n:=by simp
  have hlx:(List.replicate E.length (0:Int)).length=E.length:=by simp
  have hsets:∀ {p:List Dart},(p.map Prod.fst).Nodup→(∀ d∈p,d.1<E.length)→sets (List.replicate E.length 0) p=tab (vec p) E.length:=fun {p} hn hl =>
    yjN (by rw [sets_len];simp) _ fun i hi=>by rw [gi_sets hn (fun d hd=>⟨by rw [hlx];exact hl d hd,yjK _ _⟩),yjK];omega
  unfold dirS
  rw [mem_ext]
  constructor
  · rintro ⟨p,_,hw,rfl⟩
    obtain ⟨h1,h2,h3,h4,h5⟩:=ygR hE hw hlx (by simp) (by rw [Int.toNat_natCast,ycX (by rw [hlr];exact hs),if_pos rfl])
    refine ⟨p,⟨fun q=>by subst q;exact hw.elim,h1,h4,h3,fun d hd=>(h2 d hd).1,fun d hd=>?_⟩,hsets h3 fun d hd=>(h2 d hd).1⟩
    rcases h5 d hd with q | q <;> omega
  · rintro ⟨p,hp,rfl⟩
    refine ⟨p,?_,way_of hE hp.ne hp.ch hlx (by simp) (fun d hd=>⟨hp.lt d hd,yjK _ _⟩) hp.ed hp.fr fun d hd=>?_,(hsets hp.ed hp.lt).symm⟩
    · have:=yhY (n:=n) hp.fr fun x hx=>by
        obtain ⟨d,hd,rfl⟩:=List.mem_map.1 hx
        exact (hE.fr (hp.lt d hd)).1
      simpa using this
    · obtain ⟨c,q,rfl,hc⟩:=hp.head
      have hd:d∈q:=hd
      have hfr:=hp.fr
      rw [List.map_cons,List.nodup_cons,hc] at hfr
      have hne:dfr_ E d≠s:=fun e=>hfr.1 (by rw [←e];exact List.mem_map_of_mem hd)
      have hle:=hp.le d (by simp [hd])
      rw [ycX (by rw [hlr];exact hs),if_neg (by omega)]
      exact ⟨gb_rep_ _ _,by omega⟩
theorem DCyc.range(hE:ya6 n E){s:Int}{p:List Dart}(h:DCyc E.length E s p):∃ k:Nat,s=k∧k<n:=by
  obtain ⟨d,q,rfl,rfl⟩:=h.head
  have:=(hE.fr (h.lt d (by simp))).1
  exact ⟨(dfr_ E d).toNat,by omega,by omega⟩
theorem yhK(hE:ya6 n E){y:List Int} : y∈dirL E n↔IsDC E y:=by
  unfold dirL
  rw [List.mem_flatMap]
  constructor
  · rintro ⟨s,hs,h⟩
    obtain ⟨p,hp,e⟩:=(yhD hE (List.mem_range.1 hs)).1 h
    exact ⟨s,p,hp,e⟩
  · rintro ⟨s,p,hp,e⟩
    obtain ⟨k,rfl,hk⟩:=hp.range hE
    exact ⟨k,List.mem_range.2 hk,(yhD hE hk).2 ⟨p,hp,e⟩⟩
theorem tab_inj{f g:Nat→Int}{m:Nat}(h:tab f m=tab g m):∀ i,i<m→f i=g i:=fun i hi=>by
  rw [←ycc f hi,←ycc g hi,h]
theorem DCyc.start{s t:Int}{p q:List Dart}(hp:DCyc E.length E s p)(hq:DCyc E.length E t q)(h:∀ i,i<E.length→vec p i=vec q i):t≤s:=by
  obtain ⟨d,p',rfl,rfl⟩:=hp.head
  exact hq.le d (vec_dart hp.ed hq.ed hp.lt h (by simp))
theorem dirL_nodup(hE:ya6 n E):(dirL E n).Nodup:=by
  refine nodup_flat2 (fun s hs=>ext_nodup hE _ (by simp) (by simp) (by rw [Int.toNat_natCast,ycX (by simpa using hs),if_pos rfl])) fun s s' y hs hs' h h'=>?_
  obtain ⟨p,hp,rfl⟩:=(yhD hE hs).1 h
  obtain ⟨q,hq,e⟩:=(yhD hE hs').1 h'
  have hv:=tab_inj e
  have:=hp.start hq hv
  have:=hq.start hp fun i hi=>(hv i hi).symm
  omega
theorem IsDC.len{y:List Int}(h:IsDC E y):y.length=E.length:=by
  obtain ⟨s,p,_,rfl⟩:=h
  exact yaI _ _
theorem dirL_len:(dirL E n).length≤n*(2*E.length+1)^n:=yf1 _ (fun e=>ext_len _ _ _ _) n
theorem yhA(hE:ya6 n E)(hn:n≤12)(hm:E.length≤100)(hB:(n+1)*(2*E.length+1)^n≤1000000000){R:List (List Int)→Prop}(h:∀ zs,Asc zs→(∀ y,y∈zs↔IsDC E y)→R zs):yba E (n:Int) R:=by
  unfold yba
  have hBm:n*(2*E.length+1)^n+(2*E.length+1)^n≤1000000000:=by rw [Nat.add_mul,Nat.one_mul] at hB;exact hB
  refine ⟨fun m v out=>Cnt n (fun k=>out=(List.range k).flatMap (dirS E n)) m v,⟨_,0,rfl,rfl,Nat.zero_le _,rfl⟩,?_⟩
  rintro m _ out ⟨k,rfl,rfl,hk,ho⟩
  refine ⟨fun hlt=>⟨by omega,by omega,n,?_⟩,fun hge=>?_⟩
  · have hkn:k<n:=by omega
    rw [Int.toNat_natCast,Int.toNat_natCast]
    have h1:out.length≤k*(2*E.length+1)^n:=by rw [ho];exact yf1 _ (fun e=>ext_len _ _ _ _) k
    have h2:=Nat.mul_le_mul_right ((2*E.length+1)^n) (show k≤n by omega)
    refine p_walk hE hn hm n k _ _ out _ hkn (by simp) (gb_rep_ _ _) (by simp) (by simp) (by omega) ?_
    refine Cnt.next hkn (by omega) ?_
    rw [ho,List.range_succ,List.flatMap_append]
    simp [dirS]
  · have:k=n:=by omega
    subst this
    subst ho
    have hlen:((List.range k).flatMap (dirS E k)).length≤1000000000:=by have:=dirL_len (E:=E) (n:=k);unfold dirL at this;omega
    refine ⟨hlen,fun x hx=>?_,fun zs hp hs=>?_⟩
    · have:=((yhK hE).1 hx).len;omega
    · have hz:=asc_of hp hs (dirL_nodup hE)
      have hm2:∀ y,y∈zs↔IsDC E y:=fun y=>hp.mem_iff.trans (yhK hE)
      exact p_compact_V (by rw [hp.length_eq];exact hlen) (fun x hx=>by have:=((hm2 x).1 hx).len;omega) hz.nodup (h zs hz hm2)
end
end Go.Proofs.YtencmgolklfmkaaGreat

/- Sets of single edges that are cycles, plainly. No program in sight. -/
namespace Go.Proofs.YtencmgolklfmkaaGreat
open Go Go.Proofs.Tryz
def inc(E:List (Int×Int))(i:Nat)(v:Int):Int:=(if (gx E i).1=v then 1 else 0)+if (gx E i).2=v then 1 else 0
def dgr(m:Nat)(E:List (Int×Int))(P:Nat→Bool)(v:Int):Int:=sm m fun i=>if P i=true then inc E i v else 0
theorem inc_nn(E:List (Int×Int))(i:Nat)(v:Int):0≤inc E i v:=by unfold inc;split <;> split <;> omega
theorem yig{E:List (Int×Int)}{i:Nat} : 1≤inc E i (gx E i).1:=by unfold inc;rw [if_pos rfl];split <;> omega
theorem inc_two{E:List (Int×Int)}{i:Nat} : 1≤inc E i (gx E i).2:=by unfold inc;rw [if_pos (rfl:(gx E i).2=(gx E i).2)];split <;> omega
section
variable {m n : Nat} {E : List (Int × Int)} {P Q : Nat → Bool} {v : Int}
theorem dgr_ge{i:Nat}(hi:i<m)(hp:P i=true):inc E i v≤dgr m E P v:=by
  have:=ygu (f:=fun i=>if P i=true then inc E i v else 0) (fun j _=>by
    show 0≤if P j=true then inc E j v else 0
    split
    · exact inc_nn _ _ _
    · exact Int.le_refl _) i hi
  simp only [hp,if_true] at this
  exact this
theorem dgr_more(hs:∀ i,i<m→Q i=true→P i=true){i:Nat}(hi:i<m)(hp:P i=true)(hq:Q i≠true):dgr m E Q v+inc E i v≤dgr m E P v:=by
  have h1:dgr m E P v-dgr m E Q v=sm m fun j=>(if P j=true then inc E j v else 0)-if Q j=true then inc E j v else 0:=(ygl _ _ _).symm
  have h2:=ygu (f:=fun j=>(if P j=true then inc E j v else 0)-if Q j=true then inc E j v else 0) (fun j hj=>by
    show 0≤(if P j=true then inc E j v else 0)-if Q j=true then inc E j v else 0
    have:=inc_nn E j v
    by_cases h:Q j=true
    · rw [if_pos h,if_pos (hs j hj h)];omega
    · rw [if_neg h];split <;> omega) i hi
  simp only [hp,if_true,if_neg hq] at h2
  omega
structure CycSet(n m:Nat)(E:List (Int×Int))(P:Nat→Bool):Prop where
  ne:∃ i,i<m∧P i=true
  deg:∀ v:Nat,v<n→dgr m E P v=0∨dgr m E P v=2
  con:∀ T:Int→Bool,(∀ i,i<m→P i=true→T (gx E i).1=T (gx E i).2)→∀ i j,i<m→j<m→P i=true→P j=true→T (gx E i).1=T (gx E j).1
theorem CycSet.whole(hE:ya6 n E)(h:CycSet n E.length E P)(hs:∀ i,i<E.length→Q i=true→P i=true)(hne:∃ i,i<E.length∧Q i=true)(hd:∀ v:Int,dgr E.length E Q v=0∨dgr E.length E Q v=2) :
    ∀ i,i<E.length→P i=true→Q i=true:=by
  have hdP:∀ v:Int,0≤v∧v<n→dgr E.length E P v≤2:=fun v hv=>by
    have e:((v.toNat:Nat):Int)=v:=by omega
    have:=h.deg v.toNat (by omega)
    rw [e] at this
    omega
  have hok:∀ i,i<E.length→(0≤(gx E i).1∧(gx E i).1<n)∧0≤(gx E i).2∧(gx E i).2<n:=fun i hi=>hE _ (by rw [yaM hi];exact List.getElem_mem hi)
  have hout:∀ i,i<E.length→P i=true→Q i≠true→dgr E.length E Q (gx E i).1=0∧dgr E.length E Q (gx E i).2=0:=fun i hi hp hq=>by
    have h1:=dgr_more (E:=E) (v:=(gx E i).1) hs hi hp hq
    have h2:=dgr_more (E:=E) (v:=(gx E i).2) hs hi hp hq
    have h3:=yig (E:=E) (i:=i)
    have h4:=inc_two (E:=E) (i:=i)
    have h5:=hdP _ (hok i hi).1
    have h6:=hdP _ (hok i hi).2
    have h7:=hd (gx E i).1
    have h8:=hd (gx E i).2
    omega
  have hin:∀ i,i<E.length→Q i=true→0<dgr E.length E Q (gx E i).1∧0<dgr E.length E Q (gx E i).2:=fun i hi hq=>by
    have h1:=dgr_ge (E:=E) (v:=(gx E i).1) hi hq
    have h2:=dgr_ge (E:=E) (v:=(gx E i).2) hi hq
    have h3:=yig (E:=E) (i:=i)
    have h4:=inc_two (E:=E) (i:=i)
    omega
  obtain ⟨j,hj,hqj⟩:=hne
  intro i hi hp
  have hc:=h.con (fun v=>decide (0<dgr E.length E Q v)) (fun k hk hpk=>by
    by_cases q:Q k=true
    · have:=hin k hk q
      rw [decide_eq_true this.1,decide_eq_true this.2]
    · have:=hout k hk hpk q
      rw [decide_eq_false (by omega),decide_eq_false (by omega)]) i j hi hj hp (hs j hj hqj)
  have hc:decide (0<dgr E.length E Q (gx E i).1)=decide (0<dgr E.length E Q (gx E j).1):=hc
  rw [decide_eq_true (hin j hj hqj).1] at hc
  have h0:=of_decide_eq_true hc
  refine Classical.byContradiction fun q=>?_
  have:=(hout i hi hp q).1
  omega
def inP(p:List Dart)(i:Nat):Bool:=decide (i∈p.map Prod.fst)
theorem inc_dart(d:Dart)(v:Int):inc E d.1 v=(if dfr_ E d=v then 1 else 0)+if dto E d=v then 1 else 0:=by
  obtain ⟨i,b⟩:=d
  cases b
  · simp only [inc,dfr_,dto,Bool.false_eq_true,if_false];omega
  · simp only [inc,dfr_,dto,if_true]
theorem dgr_walk{v:Int} : ∀ {p:List Dart},(p.map Prod.fst).Nodup→(∀ d∈p,d.1<m)→dgr m E (inP p) v=((p.map (dfr_ E)).count v:Int)+((p.map (dto E)).count v:Int)
  | [],_,_=>by
    unfold dgr inP
    rw [yaw (g:=fun _=>0) fun i _=>by simp,ybY];rfl
  | d::p,hn,hl=>by
    rw [List.map_cons,List.nodup_cons] at hn
    have ih:=dgr_walk (v:=v) hn.2 fun x hx=>hl x (by simp [hx])
    have e:dgr m E (inP (d::p)) v=sm m (fun i=>if i=d.1 then inc E d.1 v else 0)+dgr m E (inP p) v:=by
      unfold dgr
      rw [←ydu]
      refine yaw fun i _=>?_
      unfold inP
      by_cases q:i=d.1
      · subst q
        rw [decide_eq_true (by simp),decide_eq_false hn.1];simp
      · by_cases r:i∈p.map Prod.fst
        · rw [decide_eq_true (by rw [List.map_cons];exact List.mem_cons_of_mem _ r),decide_eq_true r,if_neg q];simp
        · rw [decide_eq_false (by rw [List.map_cons,List.mem_cons];exact fun z=>z.elim q r),decide_eq_false r,if_neg q];simp
    rw [e,ih,ygg _ (hl d (by simp)),inc_dart,List.map_cons,List.map_cons,List.count_cons,List.count_cons]
    by_cases h1:dfr_ E d=v <;> by_cases h2:dto E d=v <;> simp [h1,h2] <;> omega
theorem Ch.perm:∀ {p:List Dart} {u w:Int},Ch E u p w→(p.map (dto E)++[u]).Perm (p.map (dfr_ E)++[w])
  | [],u,w,h=>by have h:u=w:=h;subst h;exact List.Perm.refl _
  | d::p,u,w,h=>by
    have ih:=Ch.perm h.2
    rw [List.map_cons,List.map_cons,h.1]
    -- to d, tos, u ~ u, (tos, to d)
    have h1:(dto E d::p.map (dto E)++[u]).Perm (u::(p.map (dto E)++[dto E d])):=by
      refine (List.perm_append_comm (l₁:=dto E d::p.map (dto E)) (l₂:=[u])).trans ?_
      show (u::(dto E d::p.map (dto E))).Perm _
      exact List.Perm.cons _ (List.perm_append_comm (l₁:=[dto E d]) (l₂:=p.map (dto E)))
    exact h1.trans (List.Perm.cons _ ih)
theorem count_le_one{l:List Int}(h:l.Nodup)(v:Int):l.count v≤1:=by
  induction l with
  | nil=>simp
  | cons a t ih =>
    rw [List.nodup_cons] at h
    rw [List.count_cons]
    by_cases q:a=v
    · subst q
      rw [List.count_eq_zero_of_not_mem h.1];simp
    · have:=ih h.2
      simp [q];exact this
theorem DCyc.dgr{s:Int}{p:List Dart}(h:DCyc m E s p)(v:Int):Go.Proofs.YtencmgolklfmkaaGreat.dgr m E (inP p) v=0∨Go.Proofs.YtencmgolklfmkaaGreat.dgr m E (inP p) v=2:=by
  rw [dgr_walk h.ed h.lt]
  have hp:(p.map (dto E)).Perm (p.map (dfr_ E)):=(List.perm_append_right_iff _).1 h.ch.perm
  rw [hp.count_eq]
  have:=count_le_one h.fr v
  omega
theorem Ch.same{T:Int→Bool} : ∀ {p:List Dart} {u w:Int},Ch E u p w→(∀ d∈p,T (dfr_ E d)=T (dto E d))→∀ d∈p,T (dfr_ E d)=T u∧T (dto E d)=T u
  | [],_,_,_,_,d,hd=>by cases hd
  | c::p,u,w,h,hT,d,hd=>by
    have hc:=hT c (by simp)
    rcases List.mem_cons.1 hd with rfl | hd
    · rw [←hc,h.1];exact ⟨rfl,rfl⟩
    · have:=Ch.same h.2 (fun x hx=>hT x (by simp [hx])) d hd
      rw [this.1,this.2,←hc,h.1];exact ⟨rfl,rfl⟩
theorem dart_ends(d:Dart):(dfr_ E d=(gx E d.1).1∧dto E d=(gx E d.1).2)∨(dfr_ E d=(gx E d.1).2∧dto E d=(gx E d.1).1):=by
  obtain ⟨i,b⟩:=d
  cases b
  · exact .inr ⟨rfl,rfl⟩
  · exact .inl ⟨rfl,rfl⟩
theorem yfg{p:List Dart}{i:Nat} : inP p i=true↔∃ d∈p,d.1=i:=by
  unfold inP
  rw [decide_eq_true_iff,List.mem_map]
theorem DCyc.set{s:Int}{p:List Dart}(h:DCyc m E s p):CycSet n m E (inP p):=by
  refine ⟨?_,fun v _=>h.dgr v,fun T hT i j hi hj hpi hpj=>?_⟩
  · obtain ⟨d,hd⟩:=List.exists_mem_of_ne_nil _ h.ne
    exact ⟨d.1,h.lt d hd,yfg.2 ⟨d,hd,rfl⟩⟩
  · have hs:∀ d∈p,T (dfr_ E d)=T s∧T (dto E d)=T s:=h.ch.same fun d hd=>by
      have:=hT d.1 (h.lt d hd) (yfg.2 ⟨d,hd,rfl⟩)
      rcases dart_ends (E:=E) d with ⟨a,b⟩ | ⟨a,b⟩
      · rw [a,b];exact this
      · rw [a,b];exact this.symm
    have key:∀ i,inP p i=true→T (gx E i).1=T s:=fun i hi=>by
      obtain ⟨d,hd,rfl⟩:=yfg.1 hi
      rcases dart_ends (E:=E) d with ⟨a,b⟩ | ⟨a,b⟩
      · rw [←a];exact (hs d hd).1
      · rw [←b];exact (hs d hd).2
    rw [key i hpi,key j hpj]
def pm1(m:Nat)(x:Nat→Int):Prop:=∀ i,i<m→x i=0∨x i=1∨x i = -1
theorem yio{p:List Dart}(hn:(p.map Prod.fst).Nodup)(i:Nat):vec p i≠0↔inP p i=true:=by
  constructor
  · intro h
    obtain ⟨d,hd,e,_⟩:=yip hn h
    exact yfg.2 ⟨d,hd,e⟩
  · intro h
    obtain ⟨d,hd,rfl⟩:=yfg.1 h
    rw [yho hn hd]
    rcases ycJ d.2 with e | e <;> rw [e] <;> decide
theorem CycSet.full(hE:ya6 n E)(h:CycSet n E.length E P){x:Nat→Int}(hx:Circ E.length E x)(hs:∀ i,i<E.length→x i≠0→P i=true)(h0:∃ i,i<E.length∧x i≠0) :
    ∃ s p,DCyc E.length E s p∧(∀ d∈p,Pos E.length x d)∧∀ i,i<E.length→P i=true→inP p i=true:=by
  obtain ⟨s,p,hp,ha⟩:=yiM hE hx h0
  refine ⟨s,p,hp,ha,h.whole hE (fun i hi hq=>?_) ?_ hp.dgr⟩
  · obtain ⟨d,hd,rfl⟩:=yfg.1 hq
    refine hs d.1 hi fun e=>?_
    have:=(ha d hd).2
    rw [e,Int.zero_mul] at this;omega
  · obtain ⟨d,hd⟩:=List.exists_mem_of_ne_nil _ hp.ne
    exact ⟨d.1,hp.lt d hd,yfg.2 ⟨d,hd,rfl⟩⟩
theorem CycSet.dc(hE:ya6 n E)(h:CycSet n E.length E P){x:Nat→Int}(hx:Circ E.length E x)(hs:∀ i,i<E.length→x i≠0→P i=true)(h0:∃ i,i<E.length∧x i≠0)(hpm:pm1 E.length x) :
    IsDC E (tab x E.length)∧∀ i,i<E.length→P i=true→x i≠0:=by
  obtain ⟨s,p,hp,ha,hf⟩:=h.full hE hx hs h0
  have key:∀ i,i<E.length→x i=vec p i:=fun i hi=>by
    by_cases q:inP p i=true
    · obtain ⟨d,hd,rfl⟩:=yfg.1 q
      have h2:=(ha d hd).2
      rw [yho hp.ed hd]
      have h3:=hpm d.1 hi
      rcases ycJ d.2 with e | e <;> rw [e] at h2 ⊢ <;> omega
    · have h1:vec p i=0:=Classical.byContradiction fun z=>q ((yio hp.ed i).1 z)
      rw [h1]
      exact Classical.byContradiction fun z=>q (hf i hi (hs i hi z))
  refine ⟨⟨s,p,hp,ygB key⟩,fun i hi hpi=>?_⟩
  rw [key i hi]
  exact (yio hp.ed i).2 (hf i hi hpi)
theorem Circ.neg{x:Nat→Int}(hx:Circ m E x):Circ m E (fun i => -x i):=fun v=>by
  have h1:bdy m E (fun i=>0-x i) v=bdy m E (fun _=>0) v-bdy m E x v:=bdy_sub _ _ _
  have h2:bdy m E (fun _=>0) v=0:=by unfold bdy;rw [yaw (g:=fun _=>0) fun i _=>Int.zero_mul _,ybY]
  rw [h2,hx v] at h1
  refine Eq.trans (yib (fun i _=>?_) v) h1
  omega
end
end Go.Proofs.YtencmgolklfmkaaGreat

/- What the functions of layer 12 (contract) come to: ends, lists laid together, vertices that move, graphs that are made. -/
namespace Go.Proofs.YtencmgolklfmkaaGreat
open Go Go.RowKit Go.Shelf Go.Proofs.Tryz
theorem sF_ends:∀ es:List E3,sF es=(ybd es).map fun e=>(e.1,e.2,1)
  | []=>rfl
  | x::t=>by
    have e:ybd (x::t)=List.replicate x.2.2.toNat (x.1,x.2.1)++ybd t:=by unfold ybd;rw [List.flatMap_cons]
    rw [sF,sF_ends t,e,List.map_append,List.map_replicate]
theorem yhl{n:Int}{es:List E3}{R:List (Int×Int)→Int→Prop}(hl:es.length≤100)(he:yat n es≠0→R [] (yat n es))(h:yat n es=0→R (ybd es) 0):ycI n es R:=by
  unfold ycI
  refine yc9 (by omega) ⟨fun q=>?_,fun q=>he q⟩
  have hn:(1:Int)≤n∧n≤12:=by
    unfold yat at q;split at q
    · assumption
    · cases q
  obtain ⟨n,rfl⟩:∃ k:Nat,n=k:=⟨n.toNat,by omega⟩
  obtain ⟨hE,hn1,hn12⟩:=ybr q
  show ∃ Pr Rr:List (Int×Int×Int)→Prop,_
  refine ⟨_,_,yeV hE (by omega),fun pre out=>out=pre.map fun y=>(y.2.1,y.2.2),rfl,?_,?_⟩
  · rintro pre e a b out rfl hPr
    have hPr:(pre++[(e,a,b)]).map gmap <+: sF es:=hPr
    have h2:=hPr.length_le
    have h3:=sF_few hE
    rw [List.length_map,List.length_append] at h2
    simp only [List.length_singleton] at h2
    refine ⟨by rw [List.length_map];omega,?_⟩
    show _=List.map _ _
    rw [List.map_append];rfl
  · rintro ys out rfl hR
    have hR:ys.map gmap=sF es:=hR
    have e:ys.map (fun y=>(y.2.1,y.2.2))=ybd es:=by
      have h2:(ys.map gmap).map (fun y:E3=>(y.1,y.2.1))=(sF es).map fun y=>(y.1,y.2.1):=by rw [hR]
      rw [sF_ends,List.map_map,List.map_map] at h2
      have e1:((fun y:E3=>(y.1,y.2.1)) ∘ gmap)=fun y:Int×Int×Int=>(y.2.1,y.2.2):=rfl
      have e2:((fun y:E3=>(y.1,y.2.1)) ∘ fun e:Int×Int=>(e.1,e.2,1))=id:=rfl
      rw [e1,e2,List.map_id] at h2
      exact h2
    rw [e];exact h q
structure GrOk(n:Nat)(es:List E3)(E:List (Int×Int)):Prop where
  g:yat n es=0
  e:ybd es=E
  one:1≤n
  few:n≤12
  ok:ya6 n E
  len:E.length≤50*es.length
theorem gr_of{n:Int}{es:List E3}(q:yat n es=0):∃ k:Nat,n=k∧GrOk k es (ybd es):=by
  have hn:(1:Int)≤n∧n≤12:=by
    unfold yat at q;split at q
    · assumption
    · cases q
  obtain ⟨n,rfl⟩:∃ k:Nat,n=k:=⟨n.toNat,by omega⟩
  obtain ⟨hE,hn1,hn12⟩:=ybr q
  refine ⟨n,rfl,q,rfl,hn1,hn12,fun e he=>?_,?_⟩
  · unfold ybd at he
    obtain ⟨x,hx,hr⟩:=List.mem_flatMap.1 he
    rw [(List.mem_replicate.1 hr).2]
    have:=hE x hx
    simp only;omega
  · exact (yeh es fun x hx=>by have:=hE x hx;omega).2
theorem GrOk.mult{n:Nat}{es:List E3}{E:List (Int×Int)}(h:GrOk n es E):∀ x∈es,1≤x.2.2∧x.2.2≤50:=fun x hx=>by
  obtain ⟨hE,_,_⟩:=ybr h.g
  have:=hE x hx;omega
theorem GrOk.size{n:Nat}{es:List E3}{E:List (Int×Int)}(h:GrOk n es E):(es.map (·.2.2)).sum=(E.length:Int):=by
  rw [←h.e];exact (yeh es h.mult).1.symm
theorem gchk_le{n:Int} : ∀ (es:List E3) (a b:Int),gchk n a b es=0→∀ x∈es,x.1≤x.2.1
  | [],_,_,_,x,hx=>by simp at hx
  | y::t,a,b,h,x,hx=>by
    rw [gchk] at h
    split at h
    · split at h
      · rename_i h2
        rcases List.mem_cons.1 hx with rfl | hx
        · exact h2.1
        · exact gchk_le t _ _ h x hx
      · cases h
    · cases h
theorem GrOk.le{n:Nat}{es:List E3}{E:List (Int×Int)}(h:GrOk n es E):∀ e∈E,e.1≤e.2:=fun e he=>by
  rw [←h.e] at he
  unfold ybd at he
  obtain ⟨x,hx,hr⟩:=List.mem_flatMap.1 he
  rw [(List.mem_replicate.1 hr).2]
  exact gchk_le es _ _ (ycl h.g) x hx
end Go.Proofs.YtencmgolklfmkaaGreat

/- The number of parts; degrees in made graphs (the first half of XCy, for seats without contract). -/
namespace Go.Proofs.YtencmgolklfmkaaGreat
open Go Go.RowKit Go.Shelf Go.Proofs.Tryz
set_option maxRecDepth 100000
theorem yfX{n:Nat}{es:List E3}(hE:EOk n es)(hn:n≤12):ycL es:=fun x hx=>by
  have:=hE x hx;omega
section
variable {n : Nat} {es : List E3}
end
structure Rts(r:Nat→Nat)(L:List (Int×Int)):Prop where
  one:∀ e∈L,r e.1.toNat=r e.2.toNat
  least:∀ h:Nat→Nat,(∀ e∈L,h e.1.toNat=h e.2.toNat)→∀ u v,u<12→v<12→r u=r v→h u=h v
  le:∀ v,v<12→r v≤v∧r (r v)=r v
end Go.Proofs.YtencmgolklfmkaaGreat

/- The reference's cycles: which sets of single edges are cycles. -/
namespace Go.Proofs.YtencmgolklfmkaaGreat
open Go Go.RowKit Go.Shelf Go.Proofs.Tryz
set_option maxRecDepth 100000
def ybQ(l:List Nat):List Int:=l.map fun e:Nat=>(e:Int)
theorem yfQ(a b:List Nat):ybQ (a++b)=ybQ a++ybQ b:=List.map_append
section
variable {E : List (Int × Int)} {n : Nat} {P : Nat → Bool}
end
end Go.Proofs.YtencmgolklfmkaaGreat

/- The reference's directed cycles: Subset, With, IsCycle, Cycles, Along, Turned. -/
namespace Go.Proofs.YtencmgolklfmkaaGreat
open Go Go.RowKit Go.Shelf Go.Proofs.Tryz
set_option maxRecDepth 100000
section
variable {E : List (Int × Int)} {es : List E3} {n : Nat} {P : Nat → Bool}
def chL(P:Nat→Bool)(m:Nat):List Nat:=(List.range m).filter P
theorem ybB(l:List Nat):(ybQ l).length=l.length:=by simp [ybQ]
theorem yfn{l:List Nat}{k:Nat}(h:k<l.length):gi (ybQ l) k=((l[k]:Nat):Int):=by
  rw [ybe (by rw [ybB];exact h)];simp [ybQ]
theorem yiN{m k:Nat}(h:k<(chL P m).length):(chL P m)[k]<m∧P (chL P m)[k]=true:=by
  have:=List.getElem_mem h
  obtain ⟨h1,h2⟩:=List.mem_filter.1 this
  exact ⟨List.mem_range.1 h1,h2⟩
theorem ygw(m:Nat):(chL P m).length≤m:=by
  refine Nat.le_trans (List.length_filter_le _ _) ?_
  simp
structure GoodV(E:List (Int×Int))(P:Nat→Bool)(x:Nat→Int):Prop where
  circ:Circ E.length E x
  supp:∀ i,i<E.length→(x i≠0↔P i=true)
  pm:pm1 E.length x
  one:∃ j,j<E.length∧P j=true∧x j=1
def cnt0(m:Nat)(x:Nat→Int):Int:=sm m fun i=>if x i≠0 then 1 else 0
structure AInv(E:List (Int×Int))(P:Nat→Bool)(a:Int)(l0:Nat)(k:Nat)(v:Int)(x:Nat→Int):Prop where
  pm:pm1 E.length x
  sub:∀ i,i<E.length→x i≠0→P i=true
  one:x l0=1
  bd:∀ w,bdy E.length E x w=(if v=w then 1 else 0)-if a=w then 1 else 0
  cnt:cnt0 E.length x=k
end
end Go.Proofs.YtencmgolklfmkaaGreat

/- The reference's Turned, Ordered, Circles: all directed cycles in order. -/
namespace Go.Proofs.YtencmgolklfmkaaGreat
open Go Go.RowKit Go.Shelf Go.Proofs.Tryz
set_option maxRecDepth 100000
theorem p_r49_Turned{x:Nat→Int}{m:Nat}(hm:m≤1000)(hx:∀ i,i<m → -1000000000≤x i∧x i≤1000000000){R:List Int→Prop}(h:R (tab (fun i => -x i) m)):yd4 (tab x m) R:=by
  refine ⟨fun m' out i=>Cnt m (fun k=>out=tab (fun i => -x i) k) m' i,Cnt.start rfl,?_⟩
  rintro m' out i ⟨k,rfl,rfl,hk,ho⟩
  rw [yaI]
  refine ⟨fun hlt=>?_,fun hge=>?_⟩
  · have hlt:k<m:=by omega
    rw [Int.toNat_natCast,ycc _ hlt]
    have:=hx k hlt
    refine ⟨by omega,i64 (by omega),by rw [ho,yaI];omega,Cnt.next hlt (by omega) ?_⟩
    rw [ho];unfold tab;rw [List.range_succ,List.map_append];rfl
  · have:k=m:=by omega
    subst this
    rw [ho];exact h
section
variable {E : List (Int × Int)} {es : List E3} {n : Nat} {P : Nat → Bool}
theorem CycSet.congr{Q:Nat→Bool}{m:Nat}(h:CycSet n m E P)(e:∀ i,i<m→P i=Q i):CycSet n m E Q:=by
  have hd:∀ v,dgr m E Q v=dgr m E P v:=fun v=>yaw fun i hi=>by rw [e i hi]
  refine ⟨?_,fun v hv=>by rw [hd];exact h.deg v hv,fun T hT i j hi hj hpi hpj=>h.con T (fun k hk hpk=>hT k hk (by rw [←e k hk];exact hpk)) i j hi hj (by rw [e i hi];exact hpi) (by rw [e j hj];exact hpj)⟩
  obtain ⟨i,hi,hp⟩:=h.ne
  exact ⟨i,hi,by rw [←e i hi];exact hp⟩
theorem GoodV.dc(hE:ya6 n E)(h:CycSet n E.length E P){x:Nat→Int}(hx:GoodV E P x):IsDC E (tab x E.length)∧IsDC E (tab (fun i => -x i) E.length):=by
  obtain ⟨j,hj,_,h1⟩:=hx.one
  refine ⟨(h.dc hE hx.circ (fun i hi z=>(hx.supp i hi).1 z) ⟨j,hj,by rw [h1];decide⟩ hx.pm).1,(h.dc hE hx.circ.neg (fun i hi z=>(hx.supp i hi).1 (by have z : -x i≠0:=z;omega)) ⟨j,hj,by show -x j≠0;rw [h1];decide⟩ fun i hi=>?_).1⟩
  have:=hx.pm i hi
  show -x i=0 ∨ -x i=1 ∨ -x i = -1
  omega
end
end Go.Proofs.YtencmgolklfmkaaGreat

/- Sets of vertices and the graphs on them (XInd for seats without gonality). -/
namespace Go.Proofs.YtencmgolklfmkaaGreat
open Go Go.RowKit Go.Shelf Go.Proofs.Tryz
def ygO(n:Int)(l:List Int)(i:Nat):Int:=if 0≤gi l i∧gi l i<n then (if 0<i∧gi l i≤gi l (i-1) then 9 else 0) else 2
def subR(n:Int)(l:List Int):Nat→Nat→Int
  | 0,_=>0
  | k+1,i=>if ygO n l i=0 then subR n l k (i+1) else ygO n l i
def subF(n:Int)(l:List Int):Int:=subR n l l.length 0
theorem sub_pre{n:Int}{l:List Int}{j:Nat}(h:∀ i,i<j→ygO n l i=0):∀ i,i<j→(i:Int)≤gi l i∧gi l i<n:=by
  intro i
  induction i with
  | zero =>
    intro hi
    have:=h 0 hi
    unfold ygO at this
    split at this
    · rename_i c;exact ⟨c.1,c.2⟩
    · cases this
  | succ i ih =>
    intro hi
    have h1:=ih (by omega)
    have:=h (i+1) hi
    unfold ygO at this
    split at this
    · rename_i c
      split at this
      · cases this
      · rename_i c2
        have:¬gi l (i+1)≤gi l i:=fun q=>c2 ⟨by omega,by simpa using q⟩
        exact ⟨by omega,c.2⟩
    · cases this
theorem yiF{n v:Int}{R:Bool→Prop}(h:R (decide (0≤v∧v<n))):ybp n v R:=by
  refine ⟨fun q=>?_,fun q=>?_⟩
  · rw [show decide (0≤v∧v<n)=decide (v<n) from by simp [q]] at h;exact h
  · rw [show decide (0≤v∧v<n)=false from by simp [q]] at h;exact h
theorem p_graph_Subset' {n:Int}{es:List E3}{l:List Int}{R:Int→Prop}(hel:es.length≤1000000000)(hn:n≤1000)(hg:yat n es=0)(h:R (subF n l)):yb0 n es l R:=by
  refine yc9 hel ⟨fun _=>?_,fun q=>absurd hg q⟩
  refine ⟨fun m v=>∃ j:Nat,v=j∧j+m=l.length∧subF n l=subR n l m j∧∀ i,i<j→ygO n l i=0,⟨l.length,0,rfl,by omega,rfl,fun i hi=>by omega⟩,?_⟩
  rintro m v ⟨j,rfl,hj,he,hpre⟩
  have hjn:j≤1001:=by
    by_cases e:j=0
    · omega
    · have:=sub_pre hpre (j-1) (by omega);omega
  rw [he] at h
  refine ⟨fun hlt=>⟨⟨by omega,hlt⟩,yiF ⟨fun q=>?_,fun q=>?_⟩⟩,fun q=>?_⟩
  · have q:=of_decide_eq_true q
    obtain ⟨m,rfl⟩:∃ i,m=i+1:=⟨m-1,by omega⟩
    rw [Int.toNat_natCast] at q ⊢
    rw [subR] at h he
    have e1:((j:Int)-1).toNat=j-1:=by omega
    rw [e1]
    have nx:ygO n l j=0→In64 ((j:Int)+1)∧∃ m3,m3<m+1∧∃ j_1:Nat,(j:Int)+1=j_1∧j_1+m3=l.length∧subF n l=subR n l m3 j_1∧∀ i,i<j_1→ygO n l i=0:=fun z=>by
      rw [if_pos z] at he
      exact ⟨⟨by omega,by omega⟩,m,by omega,j+1,by omega,by omega,he,fun i hi=>by
        by_cases e:i=j
        · rw [e];exact z
        · exact hpre i (by omega)⟩
    refine ⟨fun h0=>⟨⟨by omega,by omega⟩,⟨by omega,by omega⟩,fun h9=>?_,fun h9=>nx ?_⟩,fun h0=>nx ?_⟩
    · have:ygO n l j=9:=by unfold ygO;rw [if_pos q,if_pos ⟨by omega,h9⟩]
      rw [this] at h;exact h
    · unfold ygO;rw [if_pos q,if_neg (fun z=>h9 z.2)]
    · unfold ygO;rw [if_pos q,if_neg (fun z=>h0 (by omega))]
  · have q:¬(0≤gi l j∧gi l j<n):=fun z=>q (decide_eq_true (by rw [Int.toNat_natCast];exact z))
    obtain ⟨m,rfl⟩:∃ i,m=i+1:=⟨m-1,by omega⟩
    have:ygO n l j=2:=by unfold ygO;rw [if_neg q]
    rw [subR,this] at h;exact h
  · have:m=0:=by omega
    subst this;exact h
structure NrmE(n:Nat)(es:List E3):Prop where
  g:yat n es=0
  p:es.Pairwise ltE
  le:∀ x∈es,x.1≤x.2.1
  ok:EOk n es
structure SetOk(n:Nat)(l:List Int):Prop where
  r:∀ k,k<l.length→0≤gi l k∧gi l k<n
  s:∀ j k,j<k→k<l.length→gi l j<gi l k
section
variable {n : Nat} {l : List Int} (h : SetOk n l)
include h
theorem SetOk.ge{k:Nat}(hk:k<l.length):(k:Int)≤gi l k:=by
  induction k with
  | zero=>exact (h.r 0 hk).1
  | succ k ih=>have:=ih (by omega);have:=h.s k (k+1) (by omega) hk;omega
theorem SetOk.len:l.length≤n:=by
  by_cases e:l.length=0
  · omega
  · have h1:=h.ge (k:=l.length-1) (by omega);have h2:=h.r (l.length-1) (by omega);omega
theorem SetOk.inj{j k:Nat}(hj:j<l.length)(hk:k<l.length)(e:gi l j=gi l k):j=k:=by
  rcases Nat.lt_trichotomy j k with q | q | q
  · have:=h.s j k q hk;omega
  · exact q
  · have:=h.s k j q hj;omega
omit h in
theorem yhn{v:Int}(hm:v∈l):l.idxOf v<l.length∧gi l (l.idxOf v)=v:=by
  have hi:=List.idxOf_lt_length_of_mem hm
  exact ⟨hi,by rw [ybe hi,List.getElem_idxOf]⟩
theorem SetOk.mono{a b:Int}(ha:a∈l)(hb:b∈l)(hab:a≤b):l.idxOf a≤l.idxOf b:=by
  obtain ⟨h1,h2⟩:=yhn ha;obtain ⟨h3,h4⟩:=yhn hb
  refine Nat.not_lt.1 fun q=>?_
  have:=h.s _ _ q h1;omega
end
section
variable {n : Nat} {l : List Int} (h : SetOk n l)
include h
end
end Go.Proofs.YtencmgolklfmkaaGreat

/- Bonds: what the program finds. -/
namespace Go.Proofs.YtencmgolklfmkaaGreat
open Go Go.RowKit Go.Shelf Go.Proofs.Tryz
set_option maxRecDepth 100000
theorem castF_len(F:List Nat):(yeG F).length=F.length:=by simp [yeG]
theorem castF_i(F:List Nat):yeG F=i_ F:=rfl
theorem yeJ{F:List Nat}(hF:ycb F){v:Nat}(hv:v<12){R:Int→Prop}(h:R (root F v)):yaW (yeG F) (v:Int) R:=by
  unfold yaW
  refine ⟨fun m x=>∃ u:Nat,x=u∧m=u∧u<12∧root F u=root F v,⟨v,v,rfl,rfl,hv,rfl⟩,?_⟩
  rintro m _ ⟨u,rfl,hm,hu,hr⟩
  have hg:gi (yeG F) u=(gn F u:Int):=yhS (by rw [hF.1];exact hu)
  have hle:=hF.2 u hu
  simp only [Int.toNat_natCast,hg]
  refine ⟨by omega,fun e=>?_,fun e=>⟨gn F u,by omega,gn F u,rfl,rfl,by omega,?_⟩⟩
  · have e:gn F u=u:=by omega
    rw [←hr,ycm e] at h;exact h
  · rw [←hr,yed hF hu (by omega)]
theorem ygi{F:List Nat}(hF:ycb F){a b:Nat}(ha:a<12)(hb:b<12){R:List Int→Prop}(h:R (yeG (ycu F a b))):ya3 (yeG F) (a:Int) (b:Int) R:=by
  unfold ya3
  refine yeJ hF ha (yeJ hF hb ?_)
  have h1:=(ycj hF a ha).1
  have h2:=(ycj hF b hb).1
  refine ⟨?_,?_⟩
  · rw [mxF_eq];omega
  · rw [castF_join];exact h
theorem p_cgrown{R:List Int→Prop}(h:R (yeG ycr)):ybM R:=by
  unfold ybM
  refine ⟨fun m v f=>Cnt 12 (fun k=>f.length=12∧∀ j,j<k→gi f j=j) m v,Cnt.start ⟨by simp,fun j hj=>by omega⟩,?_⟩
  rintro m v f ⟨k,rfl,rfl,hk,hl,hf⟩
  refine ⟨fun hlt=>?_,fun hge=>?_⟩
  · rw [Int.toNat_natCast]
    refine ⟨by omega,Cnt.next (by omega) (by omega) ⟨by simpa using hl,fun j hj=>?_⟩⟩
    rw [ycM (by omega)]
    by_cases e:j=k
    · rw [if_pos e,e]
    · rw [if_neg e];exact hf j (by omega)
  · have e:f=yeG ycr:=by
      refine ygj (by rw [hl];rfl) fun j hj=>?_
      rw [hf j (by omega),yhS (by simpa [ycr] using (by omega:j<12)),yfl (by simpa [ycr] using (by omega:j<12))]
      simp [ycr]
    rw [←e] at h
    exact ⟨hl,h⟩
section
variable {n : Nat} {es : List E3}
theorem ygz{p:E3→Bool}(h:ycL es):ycL (es.filter p):=fun x hx=>h x (List.mem_filter.1 hx).1
theorem yif{k:Nat}(h:ycL es):ycL (es.take k):=fun x hx=>h x (List.mem_of_mem_take hx)
theorem p_cjoined(hl:es.length≤1000000000)(hE:ycL es){R:List Int→Prop}(h:R (yeG (yap es))):yb1 (n:Int) es R:=by
  unfold yb1
  refine p_cgrown ⟨rfl,fun m v f=>Cnt es.length (fun k=>f=yeG (yap (es.take k))) m v,Cnt.start rfl,?_⟩
  rintro m v f ⟨k,rfl,rfl,hk,hf⟩
  have hFk:=yaU (es.take k) (yif hE)
  refine ⟨fun hlt=>?_,fun hge=>?_⟩
  · have hkl:k<es.length:=by omega
    rw [Int.toNat_natCast]
    have hx:=hE (ge es k) (by rw [ydg hkl];exact List.getElem_mem hkl)
    obtain ⟨a,ha⟩:∃ a:Nat,(ge es k).1=a:=⟨(ge es k).1.toNat,by omega⟩
    obtain ⟨b,hb⟩:∃ b:Nat,(ge es k).2.1=b:=⟨(ge es k).2.1.toNat,by omega⟩
    rw [hf,ha,hb]
    refine ⟨by omega,ygi hFk (by omega) (by omega) (Cnt.next hkl (by omega) ?_)⟩
    rw [List.take_add_one,List.getElem?_eq_getElem hkl,←ydg hkl]
    simp only [Option.toList_some]
    rw [yfW,ha,hb];rfl
  · have:k=es.length:=by omega
    subst this
    rw [List.take_length] at hf
    rw [hf]
    exact ⟨by rw [castF_len];rw [List.take_length] at hFk;exact hFk.1,h⟩
def yhm(n:Nat)(es:List E3)(U:Nat→Bool):Prop:=(∃ v,v<n∧U v=true)∧∀ h:Nat→Nat,(∀ x∈es,U x.1.toNat=true→U x.2.1.toNat=true→h x.1.toNat=h x.2.1.toNat)→∀ u v,u<n→v<n→U u=true→U v=true→h u=h v
def inE(U:Nat→Bool)(x:E3):Bool:=U x.1.toNat&&U x.2.1.toNat
theorem whole_iff(hE:ycL es)(hn:n≤12){U:Nat→Bool} : yhm n es U↔(∃ v,v<n∧U v=true)∧∀ u v,u<n→v<n→U u=true→U v=true→root (yap (es.filter (inE U))) u=root (yap (es.filter (inE U))) v:=by
  have hE2:=ygz (p:=inE U) hE
  constructor
  · rintro ⟨h1,h2⟩
    exact ⟨h1,h2 _ fun x hx u1 u2=>ygC _ hE2 x (List.mem_filter.2 ⟨hx,by simp [inE,u1,u2]⟩)⟩
  · rintro ⟨h1,h2⟩
    refine ⟨h1,fun h hh u v hu hv huu huv=>?_⟩
    have hx:∀ x∈es.filter (inE U),(fun w=>decide (h w=h v)) x.1.toNat=(fun w=>decide (h w=h v)) x.2.1.toNat:=fun x hx=>by
      obtain ⟨q1,q2⟩:=List.mem_filter.1 hx
      unfold inE at q2
      rw [Bool.and_eq_true] at q2
      simp only
      rw [hh x q1 q2.1 q2.2]
    have e1:=yeZ (n:=n) (S:=fun w=>decide (h w=h v)) _ hE2 hx u (by omega)
    have e2:=yeZ (n:=n) (S:=fun w=>decide (h w=h v)) _ hE2 hx v (by omega)
    rw [h2 u v hu hv huu huv,e2] at e1
    have e3:decide (h u=h v)=true:=e1.symm.trans (decide_eq_true rfl)
    exact of_decide_eq_true e3
theorem one_key{τ:Type}{m:List (List Int×τ)}(hk:m.Pairwise (fun p q=>p.1≠q.1)):m.length=1↔(∃ k,(mget m k).isSome=true)∧∀ k k',(mget m k).isSome=true→(mget m k').isSome=true→k=k':=by
  match m,hk with
  | [],_=>simp [mget]
  | [(k0,v0)],_ =>
    refine ⟨fun _=>⟨⟨k0,by simp [mget]⟩,fun k k' h h'=>?_⟩,fun _=>rfl⟩
    have:∀ k,(mget [(k0,v0)] k).isSome=true→k=k0:=fun k h=>by
      unfold mget at h
      by_cases q:k0=k
      · exact q.symm
      · simp [q,mget] at h
    rw [this k h,this k' h']
  | p::q::t,hk =>
    refine ⟨fun h=>by simp at h,fun h=>?_⟩
    have e1:=mget_at hk (j:=0) (k:=p.1) (v:=p.2) rfl
    have e2:=mget_at hk (j:=1) (k:=q.1) (v:=q.2) rfl
    have:=h.2 p.1 q.1 (by rw [e1];rfl) (by rw [e2];rfl)
    exact absurd this ((List.pairwise_cons.1 hk).1 q (by simp))
theorem yfU(hl:es.length≤1000000000)(hE:EOk n es)(hn:n≤12){U:Nat→Bool}{S:List Bool}(hS:S.length=n)(hU:∀ v,v<n→gb S v=U v){R:Bool→Prop}(h:∀ b:Bool,(b=true↔yhm n es U)→R b):ybL (n:Int) es S R:=by
  have hE12:ycL es:=yfX hE hn
  unfold ybL
  refine p_cgrown ⟨rfl,fun m v f=>Cnt es.length (fun k=>f=yeG (yap ((es.take k).filter (inE U)))) m v,Cnt.start rfl,?_⟩
  rintro m v f ⟨k,rfl,rfl,hk,hf⟩
  have hFk:=yaU ((es.take k).filter (inE U)) (ygz (yif hE12))
  refine ⟨fun hlt=>?_,fun hge=>?_⟩
  · have hkl:k<es.length:=by omega
    rw [Int.toNat_natCast]
    have hx:=hE (ge es k) (by rw [ydg hkl];exact List.getElem_mem hkl)
    obtain ⟨a,ha⟩:∃ a:Nat,(ge es k).1=a:=⟨(ge es k).1.toNat,by omega⟩
    obtain ⟨b,hb⟩:∃ b:Nat,(ge es k).2.1=b:=⟨(ge es k).2.1.toNat,by omega⟩
    have htk:(es.take (k+1)).filter (inE U)=(es.take k).filter (inE U)++if inE U (ge es k)=true then [ge es k] else []:=by
      rw [List.take_add_one,List.getElem?_eq_getElem hkl,←ydg hkl]
      simp only [Option.toList_some]
      rw [List.filter_append,List.filter_cons,List.filter_nil]
    have hU1:inE U (ge es k)=(U a&&U b):=by unfold inE;rw [ha,hb];rfl
    rw [hf,ha,hb,Int.toNat_natCast,Int.toNat_natCast,hU a (by omega),hU b (by omega)]
    refine ⟨by omega,by omega,fun q1=>⟨by omega,fun q2=>ygi hFk (by omega) (by omega) (Cnt.next hkl (by omega) ?_),fun q2=>Cnt.next hkl (by omega) ?_⟩,fun q1=>Cnt.next hkl (by omega) ?_⟩
    · rw [htk,if_pos (by rw [hU1,q1,q2];rfl),yfW,ha,hb];rfl
    · rw [htk,if_neg (by rw [hU1,q1,Bool.true_and];exact q2),List.append_nil]
    · rw [htk,if_neg (by rw [hU1];intro z;rw [Bool.and_eq_true] at z;exact q1 z.1),List.append_nil]
  · have:k=es.length:=by omega
    subst this
    rw [List.take_length] at hf hFk
    subst hf
    refine ⟨fun m v M=>Cnt n (fun k=>KOk 1 M∧∀ key,(mget M key).isSome=true↔∃ v,v<k∧U v=true∧key=[(root (yap (es.filter (inE U))) v:Int)]) m v,Cnt.start ⟨KOk.nil 1,fun key=>by simp [mget]⟩,?_⟩
    rintro m v M ⟨k,rfl,rfl,hk,hM,hkey⟩
    refine ⟨fun hlt=>?_,fun hge=>?_⟩
    · have hkn:k<n:=by omega
      rw [Int.toNat_natCast,hU k hkn]
      refine ⟨by omega,fun q=>yeJ hFk (by omega) ?_,fun q=>Cnt.next hkn (by omega) ⟨hM,fun key=>?_⟩⟩
      · have hr:=(ycj hFk k (by omega)).1
        have hko:KeyOk 1 [((root (yap (es.filter (inE U))) k:Nat):Int)]:=⟨rfl,fun x hx=>by rw [List.mem_singleton.1 hx];exact i64 (by omega)⟩
        refine ⟨hM,hko,Cnt.next hkn (by omega) ⟨hM.put hko _,fun key=>?_⟩⟩
        rw [mget_put]
        by_cases e:[((root (yap (es.filter (inE U))) k:Nat):Int)]=key
        · rw [if_pos e]
          exact ⟨fun _=>⟨k,by omega,q,e.symm⟩,fun _=>rfl⟩
        · rw [if_neg e,hkey]
          constructor
          · rintro ⟨v,h1,h2⟩;exact ⟨v,by omega,h2⟩
          · rintro ⟨v,h1,h2,h3⟩
            by_cases z:v=k
            · subst z;exact absurd h3.symm e
            · exact ⟨v,by omega,h2,h3⟩
      · rw [hkey]
        constructor
        · rintro ⟨v,h1,h2⟩;exact ⟨v,by omega,h2⟩
        · rintro ⟨v,h1,h2,h3⟩
          by_cases z:v=k
          · subst z;exact absurd h2 q
          · exact ⟨v,by omega,h2,h3⟩
    · have:k=n:=by omega
      subst this
      refine h _ ?_
      rw [decide_eq_true_iff,whole_iff hE12 hn,show ((M.length:Nat):Int)=1↔M.length=1 by omega,one_key hM.1]
      constructor
      · rintro ⟨⟨key,hk1⟩,h2⟩
        obtain ⟨v,h3,h4,_⟩:=(hkey key).1 hk1
        refine ⟨⟨v,h3,h4⟩,fun u v hu hv huu huv=>?_⟩
        have:=h2 _ _ ((hkey _).2 ⟨u,hu,huu,rfl⟩) ((hkey _).2 ⟨v,hv,huv,rfl⟩)
        have:=(List.cons.inj this).1
        omega
      · rintro ⟨⟨v,h3,h4⟩,h2⟩
        refine ⟨⟨_,(hkey _).2 ⟨v,h3,h4,rfl⟩⟩,fun key key' h5 h6=>?_⟩
        obtain ⟨a,a1,a2,rfl⟩:=(hkey _).1 h5
        obtain ⟨b,b1,b2,rfl⟩:=(hkey _).1 h6
        rw [h2 a b a1 b1 a2 b2]
def BondP(n:Nat)(es:List E3)(U:Nat→Bool):Prop:=yd0 n es=true∧yhm n es U∧yhm n es fun v=>!U v
theorem p_connect_Bond(hl:es.length≤1000000)(hg:yat n es=0){l:List Int}(hs:SetOk n l){R:Bool→Int→Prop}(h:∀ b:Bool,(b=true↔BondP n es fun v:Nat=>decide ((v:Int)∈l))→R b 0):ycy (n:Int) es l R:=by
  obtain ⟨hE,hn1,hn12⟩:=ybr hg
  have hlen:l.length≤n:=hs.len
  obtain ⟨U,hU⟩:∃ U:Nat→Bool,U=fun v:Nat=>decide ((v:Int)∈l):=⟨_,rfl⟩
  rw [←hU] at h
  unfold ycy
  refine yc9 (by omega) ⟨fun _=>p_graph_Subset (by omega) (by omega) hg hs.r (fun k hk=>hs.s k (k+1) (by omega) hk) ⟨fun _=>?_,fun q=>absurd rfl q⟩,fun q=>absurd hg q⟩
  refine ⟨fun a b=>a=List.replicate n false∧b=List.replicate n false,?_,⟨by omega,by rw [Int.toNat_natCast];exact ⟨rfl,rfl⟩⟩,⟨by omega,by rw [Int.toNat_natCast];exact ⟨rfl,rfl⟩⟩⟩
  rintro _ _ ⟨rfl,rfl⟩
  refine ⟨fun m v a b=>Cnt n (fun k=>a.length=n∧b.length=n∧∀ v,v<k→gb a v=U v∧gb b v = !U v) m v,Cnt.start ⟨by simp,by simp,fun v hv=>by omega⟩,?_⟩
  rintro m v a b ⟨k,rfl,rfl,hk,ha,hb,hab⟩
  refine ⟨fun hlt=>?_,fun hge=>?_⟩
  · have hkn:k<n:=by omega
    refine yg7 (by omega) ?_
    rw [Int.toNat_natCast]
    refine ⟨by omega,by rw [List.length_set];omega,by omega,Cnt.next hkn (by omega) ⟨by simpa using ha,by simpa using hb,fun v hv=>?_⟩⟩
    rw [ycX (by omega),ycX (by omega),ycX (by omega),if_pos (rfl:k=k)]
    by_cases e:v=k
    · subst e;rw [if_pos rfl,if_pos rfl,hU];exact ⟨rfl,rfl⟩
    · rw [if_neg e,if_neg e];exact hab v (by omega)
  · have:k=n:=by omega
    subst this
    have hE12:=yfX hE hn12
    refine p_cjoined (by omega) hE12 ⟨by rw [castF_len];exact (yaU es hE12).1,?_⟩
    refine ⟨yap es,castF_i _,yaU es hE12,by omega,by omega,?_⟩
    have hconn:(((((ybT (yap es) (k:Int).toNat).map i_).length:Nat):Int)=1)↔yd0 k es=true:=by
      rw [List.length_map,ycg]
      unfold yd0
      rw [beq_iff_eq]
      omega
    have hf:¬BondP k es U→R false 0:=fun q=>h false ⟨fun z=>(by cases z),fun z=>absurd z q⟩
    refine ⟨fun q=>yfU (by omega) hE hn12 ha (fun v hv=>(hab v hv).1) fun b1 hb1=>⟨fun q1=>yfU (by omega) hE hn12 hb (fun v hv=>(hab v hv).2) fun b2 hb2=>?_,fun q1=>hf fun z=>q1 (hb1.2 z.2.1)⟩,fun q=>hf fun z=>q (hconn.2 z.1)⟩
    refine h b2 ⟨fun z=>⟨hconn.1 q,hb1.1 q1,hb2.1 z⟩,fun z=>hb2.2 z.2.2⟩
end
end Go.Proofs.YtencmgolklfmkaaGreat
