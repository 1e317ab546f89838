/- Texts laid together: Pa, Pb, Pe, Pg, Pt, PEa, PEb, Pd, PRa, PRb. -/
import Derived.Test.YtadpnlimiblniaaGreatK4
set_option linter.unusedVariables false
set_option linter.unusedSimpArgs false
set_option linter.unusedSectionVars false
namespace Go.Proofs.YtadpnlimiblniaaGreat
open Go Go.RowKit Go.Shelf Go.Proofs.Tryz
set_option maxRecDepth 100000
set_option maxHeartbeats 8000000
def ykI(k:Int)(R:Bool→Prop):Prop :=
(((-1048576)≤k →
R (decide (k≤1048576))) ∧
(¬((-1048576)≤k) →
R false))
theorem pok_r17_In{O:Nat→Prop}{w:World}{k}{R:Bool→Prop}(h:ykI k R)(hO:∀ k,O k→k<w.heap.size) :
    Calls Tryz.prog 81 #[ii k] w fun e w'=>∃ r,e = .returned (.bool (r))∧Sep w no O w' (rl [])∧R r:=by
  unfold ykI at h;have hS:Sep w no O w (rl []):=Sep.start w hO;refine yap (l:=[ii k]) func81 rfl ntmps81 zY (zs (zQ (.bool (false)) (yaa (zs (zM (ii k) (zq (yiF rfl rfl) (zM (.bool (decide ((-1048576)≤k))) ?_)))))));by_cases hp:(-1048576)≤k
  · replace h:=h.1 hp;exact zW rfl rfl (zT hp) (zm (ii k)) (zW rfl rfl (zT hp) (yl1 rfl rfl) (zq (yas (v:=(.bool (decide (k≤1048576)))) (zT hp) rfl) (zQ (.bool (decide (k≤1048576))) (yaa (yak rfl rfl ⟨_,rfl,hS.sel [],h⟩)))))
  · replace h:=h.2 hp;exact zV rfl rfl (zF hp) (zV rfl rfl (zF hp) (zq (yal (v:=(.bool (false))) (zF hp) rfl) (zQ (.bool (false)) (yaa (yak rfl rfl ⟨_,rfl,hS.sel [],h⟩)))))
def ykC(d:List Int)(n:Int)(R:Int→Prop):Prop :=
(∃ J2:Prop,(J2→(((d.length:Int)=n →
(∃ I2:Nat→Int→Prop,(∃ m0,I2 m0 0)∧∀ m2 v,I2 m2 v → 
((v<n →
((0≤v∧v<(d.length:Int)) ∧
ykI (gi d v.toNat) (fun r =>
((r=true →
(In64 (v+1) ∧
∃ m3,m3<m2∧I2 m3 (v+1))) ∧
(¬(r=true) →
R 2))))) ∧
(¬(v<n) →
R 0)))) ∧
(¬((d.length:Int)=n) →
R 8))) ∧
((n<1 →
R 2) ∧
(¬(n<1) →
((12<n →
R 2) ∧
(¬(12<n) →
J2)))))
theorem ylZ{O:Nat→Prop}{w:World}{d n Ad ld cd}{R:Int→Prop}(h:ykC d n R)(hO:∀ k,O k→k<w.heap.size)(hA0:(FP.sl cI Ad ld cd d).P O w) :
    Calls Tryz.prog 31 #[.slice Ad ld cd,ii n] w fun e w'=>∃ r2,e = .returned (ii r2)∧Sep w no O w' (rl [])∧R r2:=by
  unfold ykC at h;have hS:Sep w no O w (rl [Res.ro (FP.sl cI Ad ld cd d)]):=Sep.startl hO [(FP.sl cI Ad ld cd d)] ⟨hA0,trivial⟩;refine yap (l:=[.slice Ad ld cd,ii n]) func31 rfl ntmps31 zY (zs (zQ (ii 0) (yaa (yaf (yaf ?_)))));obtain ⟨J2,hJ,h⟩:=h;refine yc1 (fun E ds w'=>J2∧ds=[]∧E 0 = .slice Ad ld cd∧E 1=(ii n)∧Sep w no O w' (rl [Res.ro (FP.sl cI Ad ld cd d)])) ?_ ?_
  · clear h hS;rintro E ds w2 ⟨h,rfl,H0,H1,hS⟩;replace h:=hJ h;refine yaf (zs (zH H0 (zq (yaF (n:=d.length) rfl underlying43 (yaE (hS.rdr 0 rfl))) (zH H1 (zq zN (yaa ?_))))));by_cases hp:(d.length:Int)=n
    · replace h:=h.1 hp;refine ze hp (yag (yaf (zs (zQ (ii 0) (yaa (yai ?_))))));obtain ⟨I2,⟨m0,h0⟩,hr⟩:=h;refine yaz (fun m E ds w'=>∃ v,I2 m v∧ds=[]∧E 0 = .slice Ad ld cd∧E 1=(ii n)∧E 5=(ii v)∧Sep w no O w' (rl [Res.ro (FP.sl cI Ad ld cd d)])) m0 ⟨_,h0,rfl,H0,H1,rfl,hS.sel [0]⟩ ?_;clear h0 hS;rintro m2 E ds w3 ⟨v,h,rfl,H0,H1,H5,hS⟩ ag;replace h:=hr m2 v h;clear hr;refine yaf (zs (zH H5 (zH H1 (zq zL (yaa ?_)))));by_cases hp2:v<n
      · replace h:=h.1 hp2;refine zc hp2 (yag (yaf (yai (zs (zH H0 (zH H5 ?_))))));obtain ⟨hx,h⟩:=h;refine zq (zi underlying43 yaj (yaP (hS.rdr 0 rfl) hx)) (zq (yau (v:=(ii (gi d v.toNat))) rfl underlying3 rfl (rd_1 (hS.rdr 0 rfl) hx (fun q=>yaY q) rfl)) ?_);refine zn (yam rfl (am1 rfl) enter_81 ((pok_r17_In h (yaB _)).mono ?_));rintro _ w4 ⟨r,rfl,hC,h⟩;replace hS:=hS.pur hC.pure;refine ⟨_,rfl,?_⟩;refine zb (zq (ycX rfl) (yaa ?_));by_cases hp3:r=true
        · replace h:=h.1 hp3;refine yat (zC (zB hp3)) (yag (yah (zr (zH H5 ?_))));obtain ⟨hi,h⟩:=h;refine zq (zA hi) (zQ (ii (v+1)) (yaa ?_));obtain ⟨mq,hlt,h⟩:=h;exact ag mq _ _ _ ⟨_,h,rfl,H0,H1,rfl,hS.sel [0]⟩ hlt
        · replace h:=h.2 hp3;exact yar (zC (zB (zI hp3))) (zs (zQ (ii 2) (yaa (yak rfl rfl ⟨_,rfl,hS.sel [],h⟩))))
      · replace h:=h.2 hp2;exact zd hp2 (yax rfl (zs (zQ (ii 0) (yaa (yak rfl rfl ⟨_,rfl,hS.sel [],h⟩)))))
    · replace h:=h.2 hp;exact zf hp (zs (zQ (ii 8) (yaa (yak rfl rfl ⟨_,rfl,hS.sel [],h⟩))))
  clear hJ;intro j;refine zr (zM (ii n) (zq zL (zM (.bool (decide (n<1))) ?_)));by_cases hp4:n<1
  · replace h:=h.1 hp4;exact zV rfl rfl (zT hp4) (zV rfl rfl (zT hp4) (zq (yas (v:=(.bool (true))) (zT hp4) rfl) (yaa (yar rfl (zs (zQ (ii 2) (yaa (yak rfl rfl ⟨_,rfl,hS.sel [],h⟩))))))))
  · replace h:=h.2 hp4;refine zW rfl rfl (zF hp4) (zm (ii n)) (zW rfl rfl (zF hp4) zG (zq (yal (v:=(.bool (decide (12<n)))) (zF hp4) rfl) (yaa ?_)));by_cases hp5:12<n
    · replace h:=h.1 hp5;exact zc hp5 (zs (zQ (ii 2) (yaa (yak rfl rfl ⟨_,rfl,hS.sel [],h⟩))))
    · replace h:=h.2 hp5;exact zd hp5 (yag (j _ _ _ ⟨h,rfl,rfl,rfl,hS.sel [0]⟩))
def ykg(d:List Int)(R:Int→Prop):Prop :=
(∃ I2:Nat→Int→Int→Prop,(∃ m0,I2 m0 0 0)∧∀ m2 n v,I2 m2 n v → 
((v<(d.length:Int) →
((0≤v∧v<(d.length:Int)) ∧
(In64 (n+(gi d v.toNat)) ∧
(In64 (v+1) ∧
∃ m3,m3<m2∧I2 m3 (n+(gi d v.toNat)) (v+1))))) ∧
(¬(v<(d.length:Int)) →
R n)))
theorem ykK{O:Nat→Prop}{w:World}{d Ad ld cd}{R:Int→Prop}(h:ykg d R)(hO:∀ k,O k→k<w.heap.size)(hA0:(FP.sl cI Ad ld cd d).P O w) :
    Calls Tryz.prog 30 #[.slice Ad ld cd] w fun e w'=>∃ r,e = .returned (ii r)∧Sep w no O w' (rl [])∧R r:=by
  unfold ykg at h;have hS:Sep w no O w (rl [Res.ro (FP.sl cI Ad ld cd d)]):=Sep.startl hO [(FP.sl cI Ad ld cd d)] ⟨hA0,trivial⟩;refine yap (l:=[.slice Ad ld cd]) func30 rfl ntmps30 zY (zs (zQ (ii 0) (yaa (zs (zQ (ii 0) (yaa (yaf (zs (zQ (ii 0) (yaa (yai ?_)))))))))));obtain ⟨I2,⟨m0,h0⟩,hr⟩:=h;refine yaz (fun m E ds w'=>∃ n v,I2 m n v∧ds=[]∧E 0 = .slice Ad ld cd∧E 3=(ii n)∧E 4=(ii v)∧Sep w no O w' (rl [Res.ro (FP.sl cI Ad ld cd d)])) m0 ⟨_,_,h0,rfl,rfl,rfl,rfl,hS.sel [0]⟩ ?_;clear h0 hS;rintro m2 E ds w2 ⟨n,v,h,rfl,H0,H3,H4,hS⟩ ag;replace h:=hr m2 n v h;clear hr;refine yaf (zs (zH H4 (zH H0 (zq (yaF (n:=d.length) rfl underlying43 (yaE (hS.rdr 0 rfl))) (zq zL (yaa ?_))))));by_cases hp:v<(d.length:Int)
  · replace h:=h.1 hp;refine zc hp (yag (yaf (yai (zr (zH H3 (zH H0 (zH H4 ?_)))))));obtain ⟨hx,h⟩:=h;refine zq (zi underlying43 yaj (yaP (hS.rdr 0 rfl) hx)) (zq (yau (v:=(ii (gi d v.toNat))) rfl underlying3 rfl (rd_1 (hS.rdr 0 rfl) hx (fun q=>yaY q) rfl)) ?_);obtain ⟨hi,h⟩:=h;refine zq (zA hi) (zQ (ii (n+(gi d v.toNat))) (yaa (yah (zr (zH H4 ?_)))));obtain ⟨hi2,h⟩:=h;refine zq (zA hi2) (zQ (ii (v+1)) (yaa ?_));obtain ⟨mq,hlt,h⟩:=h;exact ag mq _ _ _ ⟨_,_,h,rfl,H0,rfl,rfl,hS.sel [0]⟩ hlt
  · replace h:=h.2 hp;exact zd hp (yax rfl (zs (zH H3 (zQ (ii n) (yaa (yak rfl rfl ⟨_,rfl,hS.sel [],h⟩))))))
def ycy(g:Int)(g2:List E3)(v:Int)(R:Bool→Prop):Prop :=
((0≤v →
R (decide (v<g))) ∧
(¬(0≤v) →
R false))
theorem yfp{O:Nat→Prop}{w:World}{g g2 v Ag lg cg}{R:Bool→Prop}(h:ycy g g2 v R)(hO:∀ k,O k→k<w.heap.size)(hA0:(FP.sl c3 Ag lg cg g2).P O w) :
    Calls Tryz.prog 94 #[(.agg #[ii g,.slice Ag lg cg]),ii v] w fun e w'=>∃ r,e = .returned (.bool (r))∧Sep w no O w' (rl [])∧R r:=by
  unfold ycy at h;have hS:Sep w no O w (rl [Res.ro (FP.sl c3 Ag lg cg g2)]):=Sep.startl hO [(FP.sl c3 Ag lg cg g2)] ⟨hA0,trivial⟩;refine yap (l:=[(.agg #[ii g,.slice Ag lg cg]),ii v]) func94 rfl ntmps94 zY (zs (zn (ya8 (v:=(.agg #[ii g,.slice Ag lg cg])) rfl ?_)));intro g3 w2 hN;replace hS:=hS.neu 1 [ii g,.slice Ag lg cg] hN;clear hN;refine zb (zQ (.bool (false)) (yaa (zs (zM (ii v) (zq (yiF rfl rfl) (zM (.bool (decide (0≤v))) ?_))))));by_cases hp:0≤v
  · replace h:=h.1 hp;exact zW rfl rfl (zT hp) (zm (ii v)) (zW rfl rfl (zT hp) (yan rfl underlying24 rfl yaj) (zW rfl rfl (zT hp) (zl underlying3 (hS.bc 1 0)) (zW rfl rfl (zT hp) zL (zq (yas (v:=(.bool (decide (v<g)))) (zT hp) rfl) (zQ (.bool (decide (v<g))) (yaa (yak rfl rfl ⟨_,rfl,hS.sel [],h⟩)))))))
  · replace h:=h.2 hp;exact zV rfl rfl (zF hp) (zV rfl rfl (zF hp) (zV rfl rfl (zF hp) (zV rfl rfl (zF hp) (zq (yal (v:=(.bool (false))) (zF hp) rfl) (zQ (.bool (false)) (yaa (yak rfl rfl ⟨_,rfl,hS.sel [],h⟩)))))))
def yca(g:Int)(g2:List E3)(a:Int)(b:Int)(R:Int→Prop):Prop :=
(∃ I2:Nat→Int→Prop,(∃ m0,I2 m0 0)∧∀ m2 i,I2 m2 i → 
((i<(g2.length:Int) →
((0≤i∧i<(g2.length:Int)) ∧
((((ge g2 i.toNat).1)=(mnF a b) →
((((ge g2 i.toNat).2.1)=(mxF a b) →
R ((ge g2 i.toNat).2.2)) ∧
(¬(((ge g2 i.toNat).2.1)=(mxF a b)) →
(In64 (i+1) ∧
∃ m3,m3<m2∧I2 m3 (i+1))))) ∧
(¬(((ge g2 i.toNat).1)=(mnF a b)) →
(In64 (i+1) ∧
∃ m4,m4<m2∧I2 m4 (i+1)))))) ∧
(¬(i<(g2.length:Int)) →
R 0)))
theorem ygq{O:Nat→Prop}{w:World}{g g2 a b Ag lg cg}{R:Int→Prop}(h:yca g g2 a b R)(hO:∀ k,O k→k<w.heap.size)(hA0:(FP.sl c3 Ag lg cg g2).P O w) :
    Calls Tryz.prog 149 #[(.agg #[ii g,.slice Ag lg cg]),ii a,ii b] w fun e w'=>∃ r,e = .returned (ii r)∧Sep w no O w' (rl [])∧R r:=by
  unfold yca at h;have hS:Sep w no O w (rl [Res.ro (FP.sl c3 Ag lg cg g2)]):=Sep.startl hO [(FP.sl c3 Ag lg cg g2)] ⟨hA0,trivial⟩;refine yap (l:=[(.agg #[ii g,.slice Ag lg cg]),ii a,ii b]) func149 rfl ntmps149 zY (zs (zn (ya8 (v:=(.agg #[ii g,.slice Ag lg cg])) rfl ?_)));intro g3 w2 hN;replace hS:=hS.neu 1 [ii g,.slice Ag lg cg] hN;clear hN;refine zb (zQ (ii 0) (yaa (yaf (zs (zQ (ii 0) (yaa (yai ?_)))))));obtain ⟨I2,⟨m0,h0⟩,hr⟩:=h;refine yaz (fun m E ds w'=>∃ i,I2 m i∧ds=[]∧E 1=(ii a)∧E 2=(ii b)∧E 3 = .pointer (some ⟨g3,0,none⟩)∧E 7=(ii i)∧Sep w no O w' (rl [Res.box 24 g3 [ii g,.slice Ag lg cg],Res.ro (FP.sl c3 Ag lg cg g2)])) m0 ⟨_,h0,rfl,rfl,rfl,rfl,rfl,hS.sel [1,0]⟩ ?_;clear h0 hS;rintro m2 E ds w3 ⟨i,h,rfl,H1,H2,H3,H7,hS⟩ ag;replace h:=hr m2 i h;clear hr;refine yaf (zs (zH H7 (zq (yan H3 underlying24 rfl ybv) (zq (zl underlying22 (hS.bc 0 1)) (zq (yaF (n:=g2.length) rfl underlying22 (yaE (hS.rdr 1 rfl))) (zq zL (yaa ?_)))))));by_cases hp:i<(g2.length:Int)
  · replace h:=h.1 hp;refine zc hp (yag (yaf (yai (zs (zq (yan H3 underlying24 rfl ybv) (zq (zl underlying22 (hS.bc 0 1)) (zH H7 ?_)))))));obtain ⟨hx,h⟩:=h;refine zq (zi underlying22 yaK (yaP (hS.rdr 1 rfl) hx)) (zq (yaq (vs:=[(ii ((ge g2 i.toNat).1)),(ii ((ge g2 i.toNat).2.1)),(ii ((ge g2 i.toNat).2.2))]) rfl underlying79 rfl yaK (rd_fs (hS.rdr 1 rfl) hx (fun q=>ydu q))) ?_);refine zn (yaO yaK ?_);intro g4 w4 hN;replace hS:=hS.neu 2 [ii 0,ii 0,ii 0] hN;clear hN;refine zb (zo (yaV (b:=g4) (o:=0) (cells:=#[(ii ((ge g2 i.toNat).1)),(ii ((ge g2 i.toNat).2.1)),(ii ((ge g2 i.toNat).2.2))]) rfl rfl yaK rfl rfl (yaI (hS.bx 2 rfl) zY) ?_));intro w5 e1;replace hS:=hS.bstn 2 rfl 0 [(ii ((ge g2 i.toNat).1)),(ii ((ge g2 i.toNat).2.1)),(ii ((ge g2 i.toNat).2.2))] e1;clear e1;refine zb (yaa (zs (zq (yan rfl underlying79 rfl yaj) (zq (zl underlying3 (hS.bc 2 0)) (zH H1 (zH H2 (zq (yja rfl rfl) (zq zE (zM (.bool (decide (((ge g2 i.toNat).1)=(mnF a b)))) ?_)))))))));by_cases hp2:((ge g2 i.toNat).1)=(mnF a b)
    · replace h:=h.1 hp2;refine zW rfl rfl (zT hp2) (yan rfl underlying79 rfl yaj) (zW rfl rfl (zT hp2) (zl underlying3 (hS.bc 2 1)) (zW rfl rfl (zT hp2) (yad H1) (zW rfl rfl (zT hp2) (yad H2) (zW rfl rfl (zT hp2) (v_max2 rfl rfl) (zW rfl rfl (zT hp2) zE (zq (yas (v:=(.bool (decide (((ge g2 i.toNat).2.1)=(mxF a b))))) (zT hp2) rfl) (yaa ?_)))))));by_cases hp3:((ge g2 i.toNat).2.1)=(mxF a b)
      · replace h:=h.1 hp3;exact zc hp3 (zs (zq (yan rfl underlying79 rfl yaj) (zq (zl underlying3 (hS.bc 2 2)) (zQ (ii ((ge g2 i.toNat).2.2)) (yaa (yak rfl rfl ⟨_,rfl,hS.sel [],h⟩))))))
      · replace h:=h.2 hp3;refine zd hp3 (yag (yah (zr (zH H7 ?_))));obtain ⟨hi,h⟩:=h;refine zq (zA hi) (zQ (ii (i+1)) (yaa ?_));obtain ⟨mq,hlt,h⟩:=h;exact ag mq _ _ _ ⟨_,h,rfl,H1,H2,H3,rfl,hS.sel [0,1]⟩ hlt
    · replace h:=h.2 hp2;refine zV rfl rfl (zF hp2) (zV rfl rfl (zF hp2) (zV rfl rfl (zF hp2) (zV rfl rfl (zF hp2) (zV rfl rfl (zF hp2) (zV rfl rfl (zF hp2) (zq (yal (v:=(.bool (false))) (zF hp2) rfl) (yaa (yat rfl (yag (yah (zr (zH H7 ?_))))))))))));obtain ⟨hi2,h⟩:=h;refine zq (zA hi2) (zQ (ii (i+1)) (yaa ?_));obtain ⟨mq,hlt,h⟩:=h;exact ag mq _ _ _ ⟨_,h,rfl,H1,H2,H3,rfl,hS.sel [0,1]⟩ hlt
  · replace h:=h.2 hp;exact zd hp (yax rfl (zs (zQ (ii 0) (yaa (yak rfl rfl ⟨_,rfl,hS.sel [],h⟩)))))
def ye2(d:Int)(d2:List E3)(i:Int)(R:Int→Prop):Prop :=
((0≤i∧i<(d2.length:Int)) ∧
(∃ J2:Prop,(J2→((((ge d2 i.toNat).2.1)<((ge d2 i.toNat).1) →
R 9) ∧
(¬(((ge d2 i.toNat).2.1)<((ge d2 i.toNat).1)) →
((0<i →
(In64 (i-1) ∧
((0≤(i-1)∧(i-1)<(d2.length:Int)) ∧
((((ge d2 i.toNat).1)<((ge d2 (i-1).toNat).1) →
R 9) ∧
(¬(((ge d2 i.toNat).1)<((ge d2 (i-1).toNat).1)) →
((((ge d2 i.toNat).1)=((ge d2 (i-1).toNat).1) →
((((ge d2 i.toNat).2.1)≤((ge d2 (i-1).toNat).2.1) →
R 9) ∧
(¬(((ge d2 i.toNat).2.1)≤((ge d2 (i-1).toNat).2.1)) →
R 0))) ∧
(¬(((ge d2 i.toNat).1)=((ge d2 (i-1).toNat).1)) →
R 0))))))) ∧
(¬(0<i) →
R 0))))) ∧
ycy d d2 ((ge d2 i.toNat).1) (fun r =>
((r=true →
ycy d d2 ((ge d2 i.toNat).2.1) (fun r2 =>
((r2=true →
((((ge d2 i.toNat).2.2)<1 →
R 2) ∧
(¬(((ge d2 i.toNat).2.2)<1) →
((50<((ge d2 i.toNat).2.2) →
R 2) ∧
(¬(50<((ge d2 i.toNat).2.2)) →
J2))))) ∧
(¬(r2=true) →
R 2)))) ∧
(¬(r=true) →
R 2)))))
theorem pok_r08_edge{O:Nat→Prop}{w:World}{d d2 i Ad ld cd}{R:Int→Prop}(h:ye2 d d2 i R)(hO:∀ k,O k→k<w.heap.size)(hA0:(FP.sl c3 Ad ld cd d2).P O w) :
    Calls Tryz.prog 131 #[(.agg #[ii d,.slice Ad ld cd]),ii i] w fun e w'=>∃ r3,e = .returned (ii r3)∧Sep w no O w' (rl [])∧R r3:=by
  unfold ye2 at h;have hS:Sep w no O w (rl [Res.ro (FP.sl c3 Ad ld cd d2)]):=Sep.startl hO [(FP.sl c3 Ad ld cd d2)] ⟨hA0,trivial⟩;refine yap (l:=[(.agg #[ii d,.slice Ad ld cd]),ii i]) func131 rfl ntmps131 zY (zs (zn (ya8 (v:=(.agg #[ii d,.slice Ad ld cd])) rfl ?_)));intro g w2 hN;replace hS:=hS.neu 1 [ii d,.slice Ad ld cd] hN;clear hN;refine zb (zQ (ii 0) (yaa (zs (zq (yan rfl underlying24 rfl ybv) (zq (zl underlying22 (hS.bc 1 1)) (zM (ii i) ?_))))));obtain ⟨hx,h⟩:=h;refine zq (zi underlying22 yaK (yaP (hS.rdr 0 rfl) hx)) (zq (yaq (vs:=[(ii ((ge d2 i.toNat).1)),(ii ((ge d2 i.toNat).2.1)),(ii ((ge d2 i.toNat).2.2))]) rfl underlying79 rfl yaK (rd_fs (hS.rdr 0 rfl) hx (fun q=>ydu q))) ?_);refine zn (yaO yaK ?_);intro g2 w3 hN;replace hS:=hS.neu 2 [ii 0,ii 0,ii 0] hN;clear hN;refine zb (zo (yaV (b:=g2) (o:=0) (cells:=#[(ii ((ge d2 i.toNat).1)),(ii ((ge d2 i.toNat).2.1)),(ii ((ge d2 i.toNat).2.2))]) rfl rfl yaK rfl rfl (yaI (hS.bx 2 rfl) zY) ?_));intro w4 e1;replace hS:=hS.bstn 2 rfl 0 [(ii ((ge d2 i.toNat).1)),(ii ((ge d2 i.toNat).2.1)),(ii ((ge d2 i.toNat).2.2))] e1;clear e1;refine zb (yaa (yaf (yaf ?_)));obtain ⟨J2,hJ,h⟩:=h;refine yc1 (fun E ds w'=>J2∧ds=[]∧E 1=(ii i)∧E 2 = .pointer (some ⟨g,0,none⟩)∧E 5 = .pointer (some ⟨g2,0,none⟩)∧Sep w no O w' (rl [Res.box 24 g [ii d,.slice Ad ld cd],Res.ro (FP.sl c3 Ad ld cd d2),Res.box 79 g2 [(ii ((ge d2 i.toNat).1)),(ii ((ge d2 i.toNat).2.1)),(ii ((ge d2 i.toNat).2.2))]])) ?_ ?_
  · clear h hS;rintro E ds w5 ⟨h,rfl,H1,H2,H5,hS⟩;replace h:=hJ h;refine yaf (zs (zq (yan H5 underlying79 rfl yaj) (zq (zl underlying3 (hS.bc 2 0)) (zq (yan H5 underlying79 rfl yaj) (zq (zl underlying3 (hS.bc 2 1)) (zq zG (yaa ?_)))))));by_cases hp:((ge d2 i.toNat).2.1)<((ge d2 i.toNat).1)
    · replace h:=h.1 hp;exact zc hp (zs (zQ (ii 9) (yaa (yak rfl rfl ⟨_,rfl,hS.sel [],h⟩))))
    · replace h:=h.2 hp;refine zd hp (yag (yaf (zs (zH H1 (zq zG (yaa ?_))))));by_cases hp2:0<i
      · replace h:=h.1 hp2;refine zc hp2 (zs (zq (yan H2 underlying24 rfl ybv) (zq (zl underlying22 (hS.bc 0 1)) (zH H1 ?_))));obtain ⟨hi,h⟩:=h;refine zq (zS hi) ?_;obtain ⟨hx2,h⟩:=h;refine zq (zi underlying22 yaK (yaP (hS.rdr 1 rfl) hx2)) (zq (yaq (vs:=[(ii ((ge d2 (i-1).toNat).1)),(ii ((ge d2 (i-1).toNat).2.1)),(ii ((ge d2 (i-1).toNat).2.2))]) rfl underlying79 rfl yaK (rd_fs (hS.rdr 1 rfl) hx2 (fun q=>ydu q))) ?_);refine zn (yaO yaK ?_);intro g3 w6 hN;replace hS:=hS.neu 3 [ii 0,ii 0,ii 0] hN;clear hN;refine zb (zo (yaV (b:=g3) (o:=0) (cells:=#[(ii ((ge d2 (i-1).toNat).1)),(ii ((ge d2 (i-1).toNat).2.1)),(ii ((ge d2 (i-1).toNat).2.2))]) rfl rfl yaK rfl rfl (yaI (hS.bx 3 rfl) zY) ?_));intro w7 e1;replace hS:=hS.bstn 3 rfl 0 [(ii ((ge d2 (i-1).toNat).1)),(ii ((ge d2 (i-1).toNat).2.1)),(ii ((ge d2 (i-1).toNat).2.2))] e1;clear e1;refine zb (yaa (zs (zq (yan H5 underlying79 rfl yaj) (zq (zl underlying3 (hS.bc 2 0)) (zq (yan rfl underlying79 rfl yaj) (zq (zl underlying3 (hS.bc 3 0)) (zq zL (zM (.bool (decide (((ge d2 i.toNat).1)<((ge d2 (i-1).toNat).1)))) ?_))))))));by_cases hp3:((ge d2 i.toNat).1)<((ge d2 (i-1).toNat).1)
        · replace h:=h.1 hp3;exact zV rfl rfl (zT hp3) (zV rfl rfl (zT hp3) (zV rfl rfl (zT hp3) (zV rfl rfl (zT hp3) (zV rfl rfl (zT hp3) (zV rfl rfl (zT hp3) (zX (zX (zX (zX (zX (zV rfl rfl (zT hp3) (zq (yas (v:=(.bool (true))) (zT hp3) rfl) (yaa (yar rfl (zs (zQ (ii 9) (yaa (yak rfl rfl ⟨_,rfl,hS.sel [],h⟩))))))))))))))))))
        · replace h:=h.2 hp3;refine zW rfl rfl (zF hp3) (yan H5 underlying79 rfl yaj) (zW rfl rfl (zF hp3) (zl underlying3 (hS.bc 2 0)) (zW rfl rfl (zF hp3) (yan rfl underlying79 rfl yaj) (zW rfl rfl (zF hp3) (zl underlying3 (hS.bc 3 0)) (zW rfl rfl (zF hp3) zE (zW rfl rfl (zF hp3) (zm (.bool (decide (((ge d2 i.toNat).1)=((ge d2 (i-1).toNat).1))))) ?_)))));by_cases hp4:((ge d2 i.toNat).1)=((ge d2 (i-1).toNat).1)
          · replace h:=h.1 hp4;refine zW rfl rfl (zT hp4) (yan H5 underlying79 rfl yaj) (zW rfl rfl (zT hp4) (zl underlying3 (hS.bc 2 1)) (zW rfl rfl (zT hp4) (yan rfl underlying79 rfl yaj) (zW rfl rfl (zT hp4) (zl underlying3 (hS.bc 3 1)) (zW rfl rfl (zT hp4) (yl1 rfl rfl) (zW rfl rfl (zF hp3) (yas (v:=(.bool (decide (((ge d2 i.toNat).2.1)≤((ge d2 (i-1).toNat).2.1))))) (zT hp4) rfl) (zq (yal (v:=(.bool (decide (((ge d2 i.toNat).2.1)≤((ge d2 (i-1).toNat).2.1))))) (zF hp3) rfl) (yaa ?_)))))));by_cases hp5:((ge d2 i.toNat).2.1)≤((ge d2 (i-1).toNat).2.1)
            · replace h:=h.1 hp5;exact zc hp5 (zs (zQ (ii 9) (yaa (yak rfl rfl ⟨_,rfl,hS.sel [],h⟩))))
            · replace h:=h.2 hp5;exact zd hp5 (yag (zs (zQ (ii 0) (yaa (yak rfl rfl ⟨_,rfl,hS.sel [],h⟩)))))
          · replace h:=h.2 hp4;exact zV rfl rfl (zF hp4) (zV rfl rfl (zF hp4) (zV rfl rfl (zF hp4) (zV rfl rfl (zF hp4) (zV rfl rfl (zF hp4) (zW rfl rfl (zF hp3) (yal (v:=(.bool (false))) (zF hp4) rfl) (zq (yal (v:=(.bool (false))) (zF hp3) rfl) (yaa (yat rfl (yag (zs (zQ (ii 0) (yaa (yak rfl rfl ⟨_,rfl,hS.sel [],h⟩)))))))))))))
      · replace h:=h.2 hp2;exact zd hp2 (yag (zs (zQ (ii 0) (yaa (yak rfl rfl ⟨_,rfl,hS.sel [],h⟩)))))
  clear hJ;intro j;refine zr (zq (yaq (vs:=[ii d,.slice Ad ld cd]) rfl underlying24 rfl yao ⟨hS.bc 1 0,hS.bc 1 1,trivial⟩) (zq (yan rfl underlying79 rfl yaj) (zq (zl underlying3 (hS.bc 2 0)) (zn (yam rfl (am2 rfl rfl) enter_94 ((yfp h (yaB _) (hS.rdr 0 rfl)).mono ?_))))));rintro _ w8 ⟨r,rfl,hC,h⟩;replace hS:=hS.pur hC.pure;refine ⟨_,rfl,?_⟩;refine zb (zq (ycX rfl) (zM (.bool (!(r))) ?_));by_cases hp6:r=true
  · replace h:=h.1 hp6;refine zW rfl rfl (zC (zB hp6)) (yaq (vs:=[ii d,.slice Ad ld cd]) rfl underlying24 rfl yao ⟨hS.bc 1 0,hS.bc 1 1,trivial⟩) (zW rfl rfl (zC (zB hp6)) (yan rfl underlying79 rfl yaj) (zW rfl rfl (zC (zB hp6)) (zl underlying3 (hS.bc 2 1)) (rl_n (yae rfl (yac rfl (zC (zB hp6)))) rfl rfl rfl (yam rfl (am2 rfl rfl) enter_94 ((yfp h (yaB _) (hS.rdr 0 rfl)).mono ?_)))));rintro _ w9 ⟨r2,rfl,hC,h⟩;replace hS:=hS.pur hC.pure;refine ⟨_,rfl,?_⟩;refine zb (zW rfl rfl (zC (zB hp6)) (ycX rfl) (zq (yal (v:=(.bool (!(r2)))) (zC (zB hp6)) rfl) (zM (.bool (!(r2))) ?_)));by_cases hp7:r2=true
    · replace h:=h.1 hp7;refine zW rfl rfl (zC (zB hp7)) (yan rfl underlying79 rfl yaj) (zW rfl rfl (zC (zB hp7)) (zl underlying3 (hS.bc 2 2)) (zW rfl rfl (zC (zB hp7)) zL (zq (yal (v:=(.bool (decide (((ge d2 i.toNat).2.2)<1)))) (zC (zB hp7)) rfl) (zM (.bool (decide (((ge d2 i.toNat).2.2)<1))) ?_))));by_cases hp8:((ge d2 i.toNat).2.2)<1
      · replace h:=h.1 hp8;exact zV rfl rfl (zT hp8) (zV rfl rfl (zT hp8) (zV rfl rfl (zT hp8) (zq (yas (v:=(.bool (true))) (zT hp8) rfl) (yaa (yar rfl (zs (zQ (ii 2) (yaa (yak rfl rfl ⟨_,rfl,hS.sel [],h⟩)))))))))
      · replace h:=h.2 hp8;refine zW rfl rfl (zF hp8) (yan rfl underlying79 rfl yaj) (zW rfl rfl (zF hp8) (zl underlying3 (hS.bc 2 2)) (zW rfl rfl (zF hp8) zG (zq (yal (v:=(.bool (decide (50<((ge d2 i.toNat).2.2))))) (zF hp8) rfl) (yaa ?_))));by_cases hp9:50<((ge d2 i.toNat).2.2)
        · replace h:=h.1 hp9;exact zc hp9 (zs (zQ (ii 2) (yaa (yak rfl rfl ⟨_,rfl,hS.sel [],h⟩))))
        · replace h:=h.2 hp9;exact zd hp9 (yag (j _ _ _ ⟨h,rfl,rfl,rfl,rfl,hS.sel [1,0,2]⟩))
    · replace h:=h.2 hp7;exact zV rfl rfl (zC (zB (zI hp7))) (zV rfl rfl (zC (zB (zI hp7))) (zV rfl rfl (zC (zB (zI hp7))) (zq (yas (v:=(.bool (true))) (zC (zB (zI hp7))) rfl) (zM (.bool (true)) (zU (zU (zU (zq (yas (v:=(.bool (true))) rfl rfl) (yaa (yar rfl (zs (zQ (ii 2) (yaa (yak rfl rfl ⟨_,rfl,hS.sel [],h⟩))))))))))))))
  · replace h:=h.2 hp6;exact zV rfl rfl (zC (zB (zI hp6))) (zV rfl rfl (zC (zB (zI hp6))) (zV rfl rfl (zC (zB (zI hp6))) (zV rfl rfl (zC (zB (zI hp6))) (zV rfl rfl (zC (zB (zI hp6))) (zq (yas (v:=(.bool (true))) (zC (zB (zI hp6))) rfl) (zM (.bool (true)) (zU (zU (zU (zq (yas (v:=(.bool (true))) rfl rfl) (zM (.bool (true)) (zU (zU (zU (zq (yas (v:=(.bool (true))) rfl rfl) (yaa (yar rfl (zs (zQ (ii 2) (yaa (yak rfl rfl ⟨_,rfl,hS.sel [],h⟩)))))))))))))))))))))
def ydy(g:Int)(g2:List E3)(R:Int→Prop):Prop :=
(∃ J2:Prop,(J2→(∃ I2:Nat→Int→Prop,(∃ m0,I2 m0 0)∧∀ m2 i,I2 m2 i → 
((i<(g2.length:Int) →
ye2 g g2 i (fun r =>
((r=0 →
(In64 (i+1) ∧
∃ m3,m3<m2∧I2 m3 (i+1))) ∧
(¬(r=0) →
R r)))) ∧
(¬(i<(g2.length:Int)) →
R 0)))) ∧
((g<1 →
R 2) ∧
(¬(g<1) →
((12<g →
R 2) ∧
(¬(12<g) →
J2)))))
theorem yhz{O:Nat→Prop}{w:World}{g g2 Ag lg cg}{R:Int→Prop}(h:ydy g g2 R)(hO:∀ k,O k→k<w.heap.size)(hA0:(FP.sl c3 Ag lg cg g2).P O w) :
    Calls Tryz.prog 90 #[(.agg #[ii g,.slice Ag lg cg])] w fun e w'=>∃ r2,e = .returned (ii r2)∧Sep w no O w' (rl [])∧R r2:=by
  unfold ydy at h;have hS:Sep w no O w (rl [Res.ro (FP.sl c3 Ag lg cg g2)]):=Sep.startl hO [(FP.sl c3 Ag lg cg g2)] ⟨hA0,trivial⟩;refine yap (l:=[(.agg #[ii g,.slice Ag lg cg])]) func90 rfl ntmps90 zY (zs (zn (ya8 (v:=(.agg #[ii g,.slice Ag lg cg])) rfl ?_)));intro g3 w2 hN;replace hS:=hS.neu 1 [ii g,.slice Ag lg cg] hN;clear hN;refine zb (zQ (ii 0) (yaa (yaf (yaf ?_))));obtain ⟨J2,hJ,h⟩:=h;refine yc1 (fun E ds w'=>J2∧ds=[]∧E 1 = .pointer (some ⟨g3,0,none⟩)∧Sep w no O w' (rl [Res.box 24 g3 [ii g,.slice Ag lg cg],Res.ro (FP.sl c3 Ag lg cg g2)])) ?_ ?_
  · clear h hS;rintro E ds w3 ⟨h,rfl,H1,hS⟩;replace h:=hJ h;refine yaf (zs (zQ (ii 0) (yaa (yai ?_))));obtain ⟨I2,⟨m0,h0⟩,hr⟩:=h;refine yaz (fun m E ds w'=>∃ i,I2 m i∧ds=[]∧E 1 = .pointer (some ⟨g3,0,none⟩)∧E 3=(ii i)∧Sep w no O w' (rl [Res.box 24 g3 [ii g,.slice Ag lg cg],Res.ro (FP.sl c3 Ag lg cg g2)])) m0 ⟨_,h0,rfl,H1,rfl,hS.sel [0,1]⟩ ?_;clear h0 hS;rintro m2 E ds w4 ⟨i,h,rfl,H1,H3,hS⟩ ag;replace h:=hr m2 i h;clear hr;refine yaf (zs (zH H3 (zq (yan H1 underlying24 rfl ybv) (zq (zl underlying22 (hS.bc 0 1)) (zq (yaF (n:=g2.length) rfl underlying22 (yaE (hS.rdr 1 rfl))) (zq zL (yaa ?_)))))));by_cases hp:i<(g2.length:Int)
    · replace h:=h.1 hp;refine zc hp (yag (yaf (yai (zs (zq (yaq (vs:=[ii g,.slice Ag lg cg]) H1 underlying24 rfl yao ⟨hS.bc 0 0,hS.bc 0 1,trivial⟩) (zH H3 (zn (yam rfl (am2 rfl rfl) enter_131 ((pok_r08_edge h (yaB _) (hS.rdr 1 rfl)).mono ?_)))))))));rintro _ w5 ⟨r,rfl,hC,h⟩;replace hS:=hS.pur hC.pure;refine ⟨_,rfl,?_⟩;refine zb (zQ (ii r) (yaa (zs (zM (ii r) (zq zN (yaa ?_))))));by_cases hp2:r=0
      · replace h:=h.1 hp2;refine ze hp2 (yag (yah (zr (zH H3 ?_))));obtain ⟨hi,h⟩:=h;refine zq (zA hi) (zQ (ii (i+1)) (yaa ?_));obtain ⟨mq,hlt,h⟩:=h;exact ag mq _ _ _ ⟨_,h,rfl,H1,rfl,hS.sel [0,1]⟩ hlt
      · replace h:=h.2 hp2;exact zf hp2 (zs (zM (ii r) (zQ (ii r) (yaa (yak rfl rfl ⟨_,rfl,hS.sel [],h⟩)))))
    · replace h:=h.2 hp;exact zd hp (yax rfl (zs (zQ (ii 0) (yaa (yak rfl rfl ⟨_,rfl,hS.sel [],h⟩)))))
  clear hJ;intro j;refine zr (zq (yan rfl underlying24 rfl yaj) (zq (zl underlying3 (hS.bc 1 0)) (zq zL (zM (.bool (decide (g<1))) ?_))));by_cases hp3:g<1
  · replace h:=h.1 hp3;exact zV rfl rfl (zT hp3) (zV rfl rfl (zT hp3) (zV rfl rfl (zT hp3) (zq (yas (v:=(.bool (true))) (zT hp3) rfl) (yaa (yar rfl (zs (zQ (ii 2) (yaa (yak rfl rfl ⟨_,rfl,hS.sel [],h⟩)))))))))
  · replace h:=h.2 hp3;refine zW rfl rfl (zF hp3) (yan rfl underlying24 rfl yaj) (zW rfl rfl (zF hp3) (zl underlying3 (hS.bc 1 0)) (zW rfl rfl (zF hp3) zG (zq (yal (v:=(.bool (decide (12<g)))) (zF hp3) rfl) (yaa ?_))));by_cases hp4:12<g
    · replace h:=h.1 hp4;exact zc hp4 (zs (zQ (ii 2) (yaa (yak rfl rfl ⟨_,rfl,hS.sel [],h⟩))))
    · replace h:=h.2 hp4;exact zd hp4 (yag (j _ _ _ ⟨h,rfl,rfl,hS.sel [1,0]⟩))
def yd0(g:Int)(g2:List E3)(R:(List (Int×Int))→Prop):Prop :=
(∃ I2:Nat→(List (Int×Int))→Int→Prop,(∃ m0,I2 m0 ([]) 0)∧∀ m2 out i,I2 m2 out i → 
((i<(g2.length:Int) →
(∃ I3:Nat→(List (Int×Int))→Int→Prop,(∃ m0,I3 m0 out 0)∧∀ m3 out2 k,I3 m3 out2 k → 
((0≤i∧i<(g2.length:Int)) ∧
((k<((ge g2 i.toNat).2.2) →
(out2.length+1≤1000000000 ∧
(In64 (k+1) ∧
∃ m4,m4<m3∧I3 m4 (out2++[((ge g2 i.toNat).1,(ge g2 i.toNat).2.1)]) (k+1)))) ∧
(¬(k<((ge g2 i.toNat).2.2)) →
(In64 (i+1) ∧
∃ m5,m5<m2∧I2 m5 out2 (i+1))))))) ∧
(¬(i<(g2.length:Int)) →
R out)))
theorem yix{O:Nat→Prop}{w:World}{g g2 Ag lg cg}{R:(List (Int×Int))→Prop}(h:yd0 g g2 R)(hO:∀ k,O k→k<w.heap.size)(hA0:(FP.sl c3 Ag lg cg g2).P O w) :
    Calls Tryz.prog 96 #[(.agg #[ii g,.slice Ag lg cg])] w fun e w'=>∃ r Ar lr cr,e = .returned (.slice Ar lr cr)∧Sep w no O w' (rl [Res.own c2 116 Ar lr cr r])∧R r:=by
  unfold yd0 at h;have hS:Sep w no O w (rl [Res.ro (FP.sl c3 Ag lg cg g2)]):=Sep.startl hO [(FP.sl c3 Ag lg cg g2)] ⟨hA0,trivial⟩;refine yap (l:=[(.agg #[ii g,.slice Ag lg cg])]) func96 rfl ntmps96 zY (zs (zn (ya8 (v:=(.agg #[ii g,.slice Ag lg cg])) rfl ?_)));intro g3 w2 hN;replace hS:=hS.neu 1 [ii g,.slice Ag lg cg] hN;clear hN;refine zb (zQ (.slice none 0 0) (yaa (zs (zQ (.slice none 0 0) (yaa (yaf (zs (zQ (ii 0) (yaa (yai ?_))))))))));replace hS:=hS.nil 2 rfl c2 116;obtain ⟨I2,⟨m0,h0⟩,hr⟩:=h;refine yaz (fun m E ds w'=>∃ out i Aa Ab Ac,I2 m out i∧ds=[]∧E 1 = .pointer (some ⟨g3,0,none⟩)∧E 3 = .slice Aa Ab Ac∧E 4=(ii i)∧Sep w no O w' (rl [Res.own c2 116 Aa Ab Ac out,Res.box 24 g3 [ii g,.slice Ag lg cg],Res.ro (FP.sl c3 Ag lg cg g2)])) m0 ⟨_,_,_,_,_,h0,rfl,rfl,rfl,rfl,hS.sel [2,1,0]⟩ ?_;clear h0 hS;rintro m2 E ds w3 ⟨out,i,Aa,Ab,Ac,h,rfl,H1,H3,H4,hS⟩ ag;replace h:=hr m2 out i h;clear hr;refine yaf (zs (zH H4 (zq (yan H1 underlying24 rfl ybv) (zq (zl underlying22 (hS.bc 1 1)) (zq (yaF (n:=g2.length) rfl underlying22 (yaE (hS.rdr 2 rfl))) (zq zL (yaa ?_)))))));by_cases hp:i<(g2.length:Int)
  · replace h:=h.1 hp;refine zc hp (yag (yaf (yai (zs (zQ (ii 0) (yaa (yai ?_)))))));obtain ⟨I3,⟨m0,h0⟩,hr⟩:=h;refine yaz (fun m E ds w'=>∃ out2 k Ad Ae Af,I3 m out2 k∧ds=[]∧E 1 = .pointer (some ⟨g3,0,none⟩)∧E 3 = .slice Ad Ae Af∧E 4=(ii i)∧E 5=(ii k)∧Sep w no O w' (rl [Res.own c2 116 Ad Ae Af out2,Res.box 24 g3 [ii g,.slice Ag lg cg],Res.ro (FP.sl c3 Ag lg cg g2)])) m0 ⟨_,_,_,_,_,h0,rfl,H1,H3,H4,rfl,hS.sel [0,1,2]⟩ ?_;clear h0 hS;rintro m3 E ds w4 ⟨out2,k,Ad,Ae,Af,h,rfl,H1,H3,H4,H5,hS⟩ again2;replace h:=hr m3 out2 k h;clear hr;refine yaf (zs (zH H5 (zq (yan H1 underlying24 rfl ybv) (zq (zl underlying22 (hS.bc 1 1)) (zH H4 ?_)))));obtain ⟨hx,h⟩:=h;refine zq (zi underlying22 yaK (yaP (hS.rdr 2 rfl) hx)) (zq (yan rfl underlying79 rfl yaj) (zq (yau (v:=(ii ((ge g2 i.toNat).2.2))) rfl underlying3 rfl (rd_f (hS.rdr 2 rfl) hx (fun q=>ydu q) 2 rfl)) ?_));refine zq zL (yaa ?_);by_cases hp2:k<((ge g2 i.toNat).2.2)
    · replace h:=h.1 hp2;refine zc hp2 (yag (yaf (yai (yaT [0,1,2,3,4,5,6,7,8,9,10,11,12,13,14,15,16] (fun i=>match i with | 13=>[0] | 14=>[0] | _=>[]) yaD (by kernel_rfl) (by kernel_rfl) ?_))));replace hS:=hS.drew;refine zp (yad H3) (zp (yan H1 underlying24 rfl ybv) (zp (zl underlying22 (hS.bc 1 1)) (zp (yad H4) (zp (zi underlying22 yaK (yaP (hS.rdr 2 rfl) hx)) (zp (yan rfl underlying79 rfl yaj) (zp (yau (v:=(ii ((ge g2 i.toNat).1))) rfl underlying3 rfl (rd_f (hS.rdr 2 rfl) hx (fun q=>ydu q) 0 rfl)) ?_))))));refine zp (yan H1 underlying24 rfl ybv) (zp (zl underlying22 (hS.bc 1 1)) (zp (yad H4) (zp (zi underlying22 yaK (yaP (hS.rdr 2 rfl) hx)) (zp (yan rfl underlying79 rfl yaj) (zp (yau (v:=(ii ((ge g2 i.toNat).2.1))) rfl underlying3 rfl (rd_f (hS.rdr 2 rfl) hx (fun q=>ydu q) 1 rfl)) ?_)))));refine rp_n rfl rfl rfl rfl (n_builda (l:=[(0,(ii ((ge g2 i.toNat).1))),(1,(ii ((ge g2 i.toNat).2.1)))]) (cells:=[(ii ((ge g2 i.toNat).1)),(ii ((ge g2 i.toNat).2.1))]) (bp2 rfl rfl) underlying116 yeD yaj (by kernel_rfl) ?_);refine ⟨⟨fun hh=>zZ hh,⟨fun hh=>zZ hh,⟨fun hh=>zZ hh,⟨fun hh=>zZ hh,⟨fun hh=>zZ hh,⟨fun hh=>zZ hh,⟨fun hh=>zZ hh,⟨fun hh=>zZ hh,⟨fun hh=>zZ hh,⟨fun hh=>zZ hh,⟨fun hh=>zZ hh,⟨fun hh=>zZ hh,⟨fun _=>(yad H3),trivial⟩⟩⟩⟩⟩⟩⟩⟩⟩⟩⟩⟩⟩,?_⟩;refine rp_n rfl rfl rfl rfl (yaX (l:=[(0,(.agg #[(ii ((ge g2 i.toNat).1)),(ii ((ge g2 i.toNat).2.1))]))]) (cells:=[(ii ((ge g2 i.toNat).1)),(ii ((ge g2 i.toNat).2.1))]) (bp1 rfl) underlying114 yeD rfl rfl ?_);intro g4 w5 hN;replace hS:=hS.litf (n:=1) 3 rfl (fP (fI .i64) (fI .i64)) hN ([((ge g2 i.toNat).1,(ge g2 i.toNat).2.1)]:List (Int×Int)) rfl (by decide) rfl;clear hN;refine ⟨⟨fun hh=>zZ hh,⟨fun hh=>zZ hh,⟨fun hh=>zZ hh,⟨fun hh=>zZ hh,⟨fun hh=>zZ hh,⟨fun hh=>zZ hh,⟨fun hh=>zZ hh,⟨fun hh=>zZ hh,⟨fun hh=>zZ hh,⟨fun hh=>zZ hh,⟨fun hh=>zZ hh,⟨fun hh=>zZ hh,⟨fun _=>(yad H3),trivial⟩⟩⟩⟩⟩⟩⟩⟩⟩⟩⟩⟩⟩,?_⟩;obtain ⟨hx2,h⟩:=h;refine rp_n rfl rfl rfl rfl (ygp (c:=c2) rfl rfl underlying114 underlying114 yeD rfl rfl (by decide) hS 0 rfl (hS.yo 3 rfl) hx2 ?_);clear hS;intro A c w6 hS;refine zb (zp (za (.slice A (Ae+1) c)) (yaZ (yah (zr (zH H5 ?_)))));obtain ⟨hi,h⟩:=h;refine zq (zA hi) (zQ (ii (k+1)) (yaa ?_));obtain ⟨mq,hlt,h⟩:=h;exact again2 mq _ _ _ ⟨_,_,_,_,_,h,rfl,H1,rfl,H4,rfl,hS.sel [0,1,2]⟩ hlt
    · replace h:=h.2 hp2;refine zd hp2 (yax rfl (yah (zr (zH H4 ?_))));obtain ⟨hi2,h⟩:=h;refine zq (zA hi2) (zQ (ii (i+1)) (yaa ?_));obtain ⟨mq,hlt,h⟩:=h;exact ag mq _ _ _ ⟨_,_,_,_,_,h,rfl,H1,H3,rfl,hS.sel [0,1,2]⟩ hlt
  · replace h:=h.2 hp;exact zd hp (yax rfl (zs (zH H3 (zQ (.slice Aa Ab Ac) (yaa (yak rfl rfl ⟨_,_,_,_,rfl,hS.sel [0],h⟩))))))
def yf7(g:Int)(g2:List E3)(R:Int→Prop):Prop :=
yd0 g g2 (fun r =>
R (r.length:Int))
theorem yk6{O:Nat→Prop}{w:World}{g g2 Ag lg cg}{R:Int→Prop}(h:yf7 g g2 R)(hO:∀ k,O k→k<w.heap.size)(hA0:(FP.sl c3 Ag lg cg g2).P O w) :
    Calls Tryz.prog 88 #[(.agg #[ii g,.slice Ag lg cg])] w fun e w'=>∃ r2,e = .returned (ii r2)∧Sep w no O w' (rl [])∧R r2:=by
  unfold yf7 at h;have hS:Sep w no O w (rl [Res.ro (FP.sl c3 Ag lg cg g2)]):=Sep.startl hO [(FP.sl c3 Ag lg cg g2)] ⟨hA0,trivial⟩;refine yap (l:=[(.agg #[ii g,.slice Ag lg cg])]) func88 rfl ntmps88 zY (zs (zn (ya8 (v:=(.agg #[ii g,.slice Ag lg cg])) rfl ?_)));intro g3 w2 hN;replace hS:=hS.neu 1 [ii g,.slice Ag lg cg] hN;clear hN;refine zb (zQ (ii 0) (yaa (zs (zq (yaq (vs:=[ii g,.slice Ag lg cg]) rfl underlying24 rfl yao ⟨hS.bc 1 0,hS.bc 1 1,trivial⟩) (zn (yam rfl (am1 rfl) enter_96 ((yix h (yaB _) (hS.rdr 0 rfl)).mono ?_)))))));rintro _ w3 ⟨r,Ar,lr,cr,rfl,hC,h⟩;replace hS:=hS.call1 (hC.widen (yde (ya0 (fP (fI .i64) (fI .i64)) _ _ _ _ _) ydA) hS.blt) 2 0 rfl;clear hC;refine ⟨_,rfl,?_⟩;exact zb (zq (yaF (n:=r.length) rfl underlying114 (yaE (hS.rdo 2 rfl))) (zQ (ii (r.length:Int)) (yaa (yak rfl rfl ⟨_,rfl,hS.sel [],h⟩))))
def yek(g:Int)(g2:List E3)(vertices:Int)(single:Int)(R:Bool→Prop):Prop :=
((40<(g2.length:Int) →
R false) ∧
(¬(40<(g2.length:Int)) →
ydy g g2 (fun r =>
((r=0 →
((g≤vertices →
yf7 g g2 (fun r2 =>
R (decide (r2≤single)))) ∧
(¬(g≤vertices) →
R false))) ∧
(¬(r=0) →
R true)))))
theorem pok_r08_small{O:Nat→Prop}{w:World}{g g2 vertices single Ag lg cg}{R:Bool→Prop}(h:yek g g2 vertices single R)(hO:∀ k,O k→k<w.heap.size)(hA0:(FP.sl c3 Ag lg cg g2).P O w) :
    Calls Tryz.prog 52 #[(.agg #[ii g,.slice Ag lg cg]),ii vertices,ii single] w fun e w'=>∃ r3,e = .returned (.bool (r3))∧Sep w no O w' (rl [])∧R r3:=by
  unfold yek at h;have hS:Sep w no O w (rl [Res.ro (FP.sl c3 Ag lg cg g2)]):=Sep.startl hO [(FP.sl c3 Ag lg cg g2)] ⟨hA0,trivial⟩;refine yap (l:=[(.agg #[ii g,.slice Ag lg cg]),ii vertices,ii single]) func52 rfl ntmps52 zY (zs (zn (ya8 (v:=(.agg #[ii g,.slice Ag lg cg])) rfl ?_)));intro g3 w2 hN;replace hS:=hS.neu 1 [ii g,.slice Ag lg cg] hN;clear hN;refine zb (zQ (.bool (false)) (yaa (yaf (zs (zq (yan rfl underlying24 rfl ybv) (zq (zl underlying22 (hS.bc 1 1)) (zq (yaF (n:=g2.length) rfl underlying22 (yaE (hS.rdr 0 rfl))) (zq zG (yaa ?_)))))))));by_cases hp:40<(g2.length:Int)
  · replace h:=h.1 hp;exact zc hp (zs (zQ (.bool (false)) (yaa (yak rfl rfl ⟨_,rfl,hS.sel [],h⟩))))
  · replace h:=h.2 hp;refine zd hp (yag (yaf (zs (zq (yaq (vs:=[ii g,.slice Ag lg cg]) rfl underlying24 rfl yao ⟨hS.bc 1 0,hS.bc 1 1,trivial⟩) (zn (yam rfl (am1 rfl) enter_90 ((yhz h (yaB _) (hS.rdr 0 rfl)).mono ?_)))))));rintro _ w3 ⟨r,rfl,hC,h⟩;replace hS:=hS.pur hC.pure;refine ⟨_,rfl,?_⟩;refine zb (zq zN (yaa ?_));by_cases hp2:r=0
    · replace h:=h.1 hp2;refine ze hp2 (yag (zs (zq (yan rfl underlying24 rfl yaj) (zq (zl underlying3 (hS.bc 1 0)) (zM (ii vertices) (zq (yl1 rfl rfl) (zM (.bool (decide (g≤vertices))) ?_)))))));by_cases hp3:g≤vertices
      · replace h:=h.1 hp3;refine zW rfl rfl (zT hp3) (yaq (vs:=[ii g,.slice Ag lg cg]) rfl underlying24 rfl yao ⟨hS.bc 1 0,hS.bc 1 1,trivial⟩) (rl_n (yae rfl (yac rfl (zT hp3))) rfl rfl rfl (yam rfl (am1 rfl) enter_88 ((yk6 h (yaB _) (hS.rdr 0 rfl)).mono ?_)));rintro _ w4 ⟨r2,rfl,hC,h⟩;replace hS:=hS.pur hC.pure;refine ⟨_,rfl,?_⟩;exact zb (zW rfl rfl (zT hp3) (zm (ii single)) (zW rfl rfl (zT hp3) (yl1 rfl rfl) (zq (yas (v:=(.bool (decide (r2≤single)))) (zT hp3) rfl) (zQ (.bool (decide (r2≤single))) (yaa (yak rfl rfl ⟨_,rfl,hS.sel [],h⟩))))))
      · replace h:=h.2 hp3;exact zV rfl rfl (zF hp3) (zV rfl rfl (zF hp3) (zV rfl rfl (zF hp3) (zV rfl rfl (zF hp3) (zq (yal (v:=(.bool (false))) (zF hp3) rfl) (zQ (.bool (false)) (yaa (yak rfl rfl ⟨_,rfl,hS.sel [],h⟩)))))))
    · replace h:=h.2 hp2;exact zf hp2 (zs (zQ (.bool (true)) (yaa (yak rfl rfl ⟨_,rfl,hS.sel [],h⟩))))
def ydk(g:Int)(g2:List E3)(v:Int)(R:(List Bool)→Prop):Prop :=
((0≤g∧g≤1000000) ∧
((0≤v∧v<((List.replicate g.toNat false).length:Int)) ∧
(∃ I2:Nat→Int→(List Bool)→Prop,(∃ m0,I2 m0 0 ((List.replicate g.toNat false).set v.toNat true))∧∀ m2 round out,I2 m2 round out → 
((round<g →
(∃ I3:Nat→Int→(List Bool)→Prop,(∃ m0,I3 m0 0 out)∧∀ m3 a out2,I3 m3 a out2 → 
((a<g →
(∃ I4:Nat→Int→(List Bool)→Prop,(∃ m0,I4 m0 0 out2)∧∀ m4 b out3,I4 m4 b out3 → 
((b<g →
((0≤a∧a<(out3.length:Int)) ∧
((gb out3 a.toNat=true →
yca g g2 a b (fun r =>
((0<r →
((0≤b∧b<(out3.length:Int)) ∧
(In64 (b+1) ∧
∃ m5,m5<m4∧I4 m5 (b+1) (out3.set b.toNat true)))) ∧
(¬(0<r) →
(In64 (b+1) ∧
∃ m6,m6<m4∧I4 m6 (b+1) out3))))) ∧
(¬(gb out3 a.toNat=true) →
(In64 (b+1) ∧
∃ m7,m7<m4∧I4 m7 (b+1) out3))))) ∧
(¬(b<g) →
(In64 (a+1) ∧
∃ m8,m8<m3∧I3 m8 (a+1) out3))))) ∧
(¬(a<g) →
(In64 (round+1) ∧
∃ m9,m9<m2∧I2 m9 (round+1) out2))))) ∧
(¬(round<g) →
R out)))))
theorem yjl{O:Nat→Prop}{w:World}{g g2 v Ag lg cg}{R:(List Bool)→Prop}(h:ydk g g2 v R)(hO:∀ k,O k→k<w.heap.size)(hA0:(FP.sl c3 Ag lg cg g2).P O w) :
    Calls Tryz.prog 130 #[(.agg #[ii g,.slice Ag lg cg]),ii v] w fun e w'=>∃ r2 Ar lr cr,e = .returned (.slice Ar lr cr)∧Sep w no O w' (rl [Res.own cB 4 Ar lr cr r2])∧R r2:=by
  unfold ydk at h;have hS:Sep w no O w (rl [Res.ro (FP.sl c3 Ag lg cg g2)]):=Sep.startl hO [(FP.sl c3 Ag lg cg g2)] ⟨hA0,trivial⟩;refine yap (l:=[(.agg #[ii g,.slice Ag lg cg]),ii v]) func130 rfl ntmps130 zY (zs (zn (ya8 (v:=(.agg #[ii g,.slice Ag lg cg])) rfl ?_)));intro g3 w2 hN;replace hS:=hS.neu 1 [ii g,.slice Ag lg cg] hN;clear hN;refine zb (zQ (.slice none 0 0) (yaa (zs (zq (yan rfl underlying24 rfl yaj) (zq (zl underlying3 (hS.bc 1 0)) ?_)))));obtain ⟨hx,h⟩:=h;refine zn (ykw rfl rfl underlying160 ydi (by decide) rfl hx ?_);intro g4 w3 hN;replace hS:=hS.made 2 rfl cB (.bool (false)) false (fun _ _=>rfl) hN (by omega);clear hN;refine zb (zQ (.slice (some ⟨g4,0,none⟩) g.toNat g.toNat) (yaa (zs (zM (.slice (some ⟨g4,0,none⟩) g.toNat g.toNat) (zM (ii v) ?_)))));obtain ⟨hx2,h⟩:=h;refine zq (zi underlying160 ydi (yaP (hS.rdo 2 rfl) hx2)) (zo (zt (.bool (true)) ydi (hS.wr 2 rfl rfl hx2) ?_));intro w4 e1;replace hS:=hS.st 2 rfl rfl hx2 (x:=true) rfl e1;clear e1;refine zb (yaa (yaf (zs (zQ (ii 0) (yaa (yai ?_))))));obtain ⟨I2,⟨m0,h0⟩,hr⟩:=h;refine yaz (fun m E ds w'=>∃ round out,I2 m round out∧ds=[]∧E 2 = .pointer (some ⟨g3,0,none⟩)∧E 5 = .slice (some ⟨g4,0,none⟩) g.toNat g.toNat∧E 6=(ii round)∧Sep w no O w' (rl [Res.box 24 g3 [ii g,.slice Ag lg cg],Res.ro (FP.sl c3 Ag lg cg g2),Res.own cB 4 (some ⟨g4,0,none⟩) g.toNat g.toNat out])) m0 ⟨_,_,h0,rfl,rfl,rfl,rfl,hS.sel [1,0,2]⟩ ?_;clear h0 hS;rintro m2 E ds w5 ⟨round,out,h,rfl,H2,H5,H6,hS⟩ ag;replace h:=hr m2 round out h;clear hr;refine yaf (zs (zH H6 (zq (yan H2 underlying24 rfl yaj) (zq (zl underlying3 (hS.bc 0 0)) (zq zL (yaa ?_))))));by_cases hp:round<g
  · replace h:=h.1 hp;refine zc hp (yag (yaf (yai (zs (zQ (ii 0) (yaa (yai ?_)))))));obtain ⟨I3,⟨m0,h0⟩,hr⟩:=h;refine yaz (fun m E ds w'=>∃ a out2,I3 m a out2∧ds=[]∧E 2 = .pointer (some ⟨g3,0,none⟩)∧E 5 = .slice (some ⟨g4,0,none⟩) g.toNat g.toNat∧E 6=(ii round)∧E 7=(ii a)∧Sep w no O w' (rl [Res.box 24 g3 [ii g,.slice Ag lg cg],Res.ro (FP.sl c3 Ag lg cg g2),Res.own cB 4 (some ⟨g4,0,none⟩) g.toNat g.toNat out2])) m0 ⟨_,_,h0,rfl,H2,H5,H6,rfl,hS.sel [0,1,2]⟩ ?_;clear h0 hS;rintro m3 E ds w6 ⟨a,out2,h,rfl,H2,H5,H6,H7,hS⟩ again2;replace h:=hr m3 a out2 h;clear hr;refine yaf (zs (zH H7 (zq (yan H2 underlying24 rfl yaj) (zq (zl underlying3 (hS.bc 0 0)) (zq zL (yaa ?_))))));by_cases hp2:a<g
    · replace h:=h.1 hp2;refine zc hp2 (yag (yaf (yai (zs (zQ (ii 0) (yaa (yai ?_)))))));obtain ⟨I4,⟨m0,h0⟩,hr⟩:=h;refine yaz (fun m E ds w'=>∃ b out3,I4 m b out3∧ds=[]∧E 2 = .pointer (some ⟨g3,0,none⟩)∧E 5 = .slice (some ⟨g4,0,none⟩) g.toNat g.toNat∧E 6=(ii round)∧E 7=(ii a)∧E 8=(ii b)∧Sep w no O w' (rl [Res.box 24 g3 [ii g,.slice Ag lg cg],Res.ro (FP.sl c3 Ag lg cg g2),Res.own cB 4 (some ⟨g4,0,none⟩) g.toNat g.toNat out3])) m0 ⟨_,_,h0,rfl,H2,H5,H6,H7,rfl,hS.sel [0,1,2]⟩ ?_;clear h0 hS;rintro m4 E ds w7 ⟨b,out3,h,rfl,H2,H5,H6,H7,H8,hS⟩ again3;replace h:=hr m4 b out3 h;clear hr;refine yaf (zs (zH H8 (zq (yan H2 underlying24 rfl yaj) (zq (zl underlying3 (hS.bc 0 0)) (zq zL (yaa ?_))))));by_cases hp3:b<g
      · replace h:=h.1 hp3;refine zc hp3 (yag (yaf (yai (zs (zH H5 (zH H7 ?_))))));obtain ⟨hx3,h⟩:=h;refine zq (zi underlying160 ydi (yaP (hS.rdo 2 rfl) hx3)) (zq (yau (v:=(.bool (gb out3 a.toNat))) rfl underlying4 rfl (rd_1 (hS.rdo 2 rfl) hx3 (fun q=>ykz q) rfl)) ?_);refine zM (.bool (gb out3 a.toNat)) ?_;by_cases hp4:gb out3 a.toNat=true
        · replace h:=h.1 hp4;refine zW rfl rfl (zC hp4) (yaq (vs:=[ii g,.slice Ag lg cg]) H2 underlying24 rfl yao ⟨hS.bc 0 0,hS.bc 0 1,trivial⟩) (zW rfl rfl (zC hp4) (yad H7) (zW rfl rfl (zC hp4) (yad H8) (rl_n (yae rfl (yac rfl (zC hp4))) rfl rfl rfl (yam rfl (am3 rfl rfl rfl) ykA ((ygq h (yaB _) (hS.rdr 1 rfl)).mono ?_)))));rintro _ w8 ⟨r,rfl,hC,h⟩;replace hS:=hS.pur hC.pure;refine ⟨_,rfl,?_⟩;refine zb (zW rfl rfl (zC hp4) zG (zq (yas (v:=(.bool (decide (0<r)))) (zC hp4) rfl) (yaa ?_)));by_cases hp5:0<r
          · replace h:=h.1 hp5;refine zc hp5 (zr (zH H5 (zH H8 ?_)));obtain ⟨hx4,h⟩:=h;refine zq (zi underlying160 ydi (yaP (hS.rdo 2 rfl) hx4)) (zo (zt (.bool (true)) ydi (hS.wr 2 rfl rfl hx4) ?_));intro w9 e1;replace hS:=hS.st 2 rfl rfl hx4 (x:=true) rfl e1;clear e1;refine zb (yaa (yah (zr (zH H8 ?_))));obtain ⟨hi,h⟩:=h;refine zq (zA hi) (zQ (ii (b+1)) (yaa ?_));obtain ⟨mq,hlt,h⟩:=h;exact again3 mq _ _ _ ⟨_,_,h,rfl,H2,H5,H6,H7,rfl,hS.sel [0,1,2]⟩ hlt
          · replace h:=h.2 hp5;refine zd hp5 (yag (yah (zr (zH H8 ?_))));obtain ⟨hi2,h⟩:=h;refine zq (zA hi2) (zQ (ii (b+1)) (yaa ?_));obtain ⟨mq,hlt,h⟩:=h;exact again3 mq _ _ _ ⟨_,_,h,rfl,H2,H5,H6,H7,rfl,hS.sel [0,1,2]⟩ hlt
        · replace h:=h.2 hp4;refine zV rfl rfl (zC (zI hp4)) (zV rfl rfl (zC (zI hp4)) (zV rfl rfl (zC (zI hp4)) (zV rfl rfl (zC (zI hp4)) (zV rfl rfl (zC (zI hp4)) (zq (yal (v:=(.bool (false))) (zC (zI hp4)) rfl) (yaa (yat rfl (yag (yah (zr (zH H8 ?_)))))))))));obtain ⟨hi3,h⟩:=h;refine zq (zA hi3) (zQ (ii (b+1)) (yaa ?_));obtain ⟨mq,hlt,h⟩:=h;exact again3 mq _ _ _ ⟨_,_,h,rfl,H2,H5,H6,H7,rfl,hS.sel [0,1,2]⟩ hlt
      · replace h:=h.2 hp3;refine zd hp3 (yax rfl (yah (zr (zH H7 ?_))));obtain ⟨hi4,h⟩:=h;refine zq (zA hi4) (zQ (ii (a+1)) (yaa ?_));obtain ⟨mq,hlt,h⟩:=h;exact again2 mq _ _ _ ⟨_,_,h,rfl,H2,H5,H6,rfl,hS.sel [0,1,2]⟩ hlt
    · replace h:=h.2 hp2;refine zd hp2 (yax rfl (yah (zr (zH H6 ?_))));obtain ⟨hi5,h⟩:=h;refine zq (zA hi5) (zQ (ii (round+1)) (yaa ?_));obtain ⟨mq,hlt,h⟩:=h;exact ag mq _ _ _ ⟨_,_,h,rfl,H2,H5,rfl,hS.sel [0,1,2]⟩ hlt
  · replace h:=h.2 hp;exact zd hp (yax rfl (zs (zH H5 (zQ (.slice (some ⟨g4,0,none⟩) g.toNat g.toNat) (yaa (yak rfl rfl ⟨_,_,_,_,rfl,hS.sel [2],h⟩))))))
def yef(g:Int)(g2:List E3)(R:Int→Prop):Prop :=
((0≤g∧g≤1000000) ∧
(∃ I2:Nat→Int→Int→(List Bool)→Prop,(∃ m0,I2 m0 0 0 (List.replicate g.toNat false))∧∀ m2 n v seen,I2 m2 n v seen → 
((v<g →
((0≤v∧v<(seen.length:Int)) ∧
((gb seen v.toNat=true →
(In64 (v+1) ∧
∃ m3,m3<m2∧I2 m3 n (v+1) seen)) ∧
(¬(gb seen v.toNat=true) →
(In64 (n+1) ∧
ydk g g2 v (fun r =>
(∃ I3:Nat→Int→(List Bool)→Prop,(∃ m0,I3 m0 0 seen)∧∀ m4 u seen2,I3 m4 u seen2 → 
((u<g →
((0≤u∧u<(seen2.length:Int)) ∧
((gb seen2 u.toNat=true →
(In64 (u+1) ∧
∃ m5,m5<m4∧I3 m5 (u+1) (seen2.set u.toNat true))) ∧
(¬(gb seen2 u.toNat=true) →
((0≤u∧u<(r.length:Int)) ∧
(In64 (u+1) ∧
∃ m6,m6<m4∧I3 m6 (u+1) (seen2.set u.toNat (gb r u.toNat)))))))) ∧
(¬(u<g) →
(In64 (v+1) ∧
∃ m7,m7<m2∧I2 m7 (n+1) (v+1) seen2)))))))))) ∧
(¬(v<g) →
R n))))
theorem yk2{O:Nat→Prop}{w:World}{g g2 Ag lg cg}{R:Int→Prop}(h:yef g g2 R)(hO:∀ k,O k→k<w.heap.size)(hA0:(FP.sl c3 Ag lg cg g2).P O w) :
    Calls Tryz.prog 89 #[(.agg #[ii g,.slice Ag lg cg])] w fun e w'=>∃ r2,e = .returned (ii r2)∧Sep w no O w' (rl [])∧R r2:=by
  unfold yef at h;have hS:Sep w no O w (rl [Res.ro (FP.sl c3 Ag lg cg g2)]):=Sep.startl hO [(FP.sl c3 Ag lg cg g2)] ⟨hA0,trivial⟩;refine yap (l:=[(.agg #[ii g,.slice Ag lg cg])]) func89 rfl ntmps89 zY (zs (zn (ya8 (v:=(.agg #[ii g,.slice Ag lg cg])) rfl ?_)));intro g3 w2 hN;replace hS:=hS.neu 1 [ii g,.slice Ag lg cg] hN;clear hN;refine zb (zQ (ii 0) (yaa (zs (zQ (ii 0) (yaa (zs (zq (yan rfl underlying24 rfl yaj) (zq (zl underlying3 (hS.bc 1 0)) ?_))))))));obtain ⟨hx,h⟩:=h;refine zn (ykw rfl rfl underlying160 ydi (by decide) rfl hx ?_);intro g4 w3 hN;replace hS:=hS.made 2 rfl cB (.bool (false)) false (fun _ _=>rfl) hN (by omega);clear hN;refine zb (zQ (.slice (some ⟨g4,0,none⟩) g.toNat g.toNat) (yaa (yaf (zs (zQ (ii 0) (yaa (yai ?_)))))));obtain ⟨I2,⟨m0,h0⟩,hr⟩:=h;refine yaz (fun m E ds w'=>∃ n v seen,I2 m n v seen∧ds=[]∧E 1 = .pointer (some ⟨g3,0,none⟩)∧E 3=(ii n)∧E 4 = .slice (some ⟨g4,0,none⟩) g.toNat g.toNat∧E 5=(ii v)∧Sep w no O w' (rl [Res.box 24 g3 [ii g,.slice Ag lg cg],Res.ro (FP.sl c3 Ag lg cg g2),Res.own cB 4 (some ⟨g4,0,none⟩) g.toNat g.toNat seen])) m0 ⟨_,_,_,h0,rfl,rfl,rfl,rfl,rfl,hS.sel [1,0,2]⟩ ?_;clear h0 hS;rintro m2 E ds w4 ⟨n,v,seen,h,rfl,H1,H3,H4,H5,hS⟩ ag;replace h:=hr m2 n v seen h;clear hr;refine yaf (zs (zH H5 (zq (yan H1 underlying24 rfl yaj) (zq (zl underlying3 (hS.bc 0 0)) (zq zL (yaa ?_))))));by_cases hp:v<g
  · replace h:=h.1 hp;refine zc hp (yag (yaf (yai (yaf (zs (zH H4 (zH H5 ?_)))))));obtain ⟨hx2,h⟩:=h;refine zq (zi underlying160 ydi (yaP (hS.rdo 2 rfl) hx2)) (zq (yau (v:=(.bool (gb seen v.toNat))) rfl underlying4 rfl (rd_1 (hS.rdo 2 rfl) hx2 (fun q=>ykz q) rfl)) ?_);refine yaa ?_;by_cases hp2:gb seen v.toNat=true
    · replace h:=h.1 hp2;refine yar (zC hp2) (yax rfl (zr (zH H5 ?_)));obtain ⟨hi,h⟩:=h;refine zq (zA hi) (zQ (ii (v+1)) (yaa ?_));obtain ⟨mq,hlt,h⟩:=h;exact ag mq _ _ _ ⟨_,_,_,h,rfl,H1,H3,H4,rfl,hS.sel [0,1,2]⟩ hlt
    · replace h:=h.2 hp2;refine yat (zC (zI hp2)) (yag (zs (zH H3 ?_)));obtain ⟨hi2,h⟩:=h;refine zq (zA hi2) (zQ (ii (n+1)) (yaa (zs (zq (yaq (vs:=[ii g,.slice Ag lg cg]) H1 underlying24 rfl yao ⟨hS.bc 0 0,hS.bc 0 1,trivial⟩) (zH H5 (zn (yam rfl (am2 rfl rfl) enter_130 ((yjl h (yaB _) (hS.rdr 1 rfl)).mono ?_))))))));rintro _ w5 ⟨r,Ar,lr,cr,rfl,hC,h⟩;replace hS:=hS.call1 (hC.widen (yde (ya0 fB _ _ _ _ _) ydA) hS.blt) 3 0 rfl;clear hC;refine ⟨_,rfl,?_⟩;refine zb (zQ (.slice Ar lr cr) (yaa (zs (zQ (ii 0) (yaa (yai ?_))))));obtain ⟨I3,⟨m0,h0⟩,hr⟩:=h;refine yaz (fun m E ds w'=>∃ u seen2,I3 m u seen2∧ds=[]∧E 1 = .pointer (some ⟨g3,0,none⟩)∧E 3=(ii (n+1))∧E 4 = .slice (some ⟨g4,0,none⟩) g.toNat g.toNat∧E 5=(ii v)∧E 6 = .slice Ar lr cr∧E 7=(ii u)∧Sep w no O w' (rl [Res.box 24 g3 [ii g,.slice Ag lg cg],Res.ro (FP.sl c3 Ag lg cg g2),Res.own cB 4 (some ⟨g4,0,none⟩) g.toNat g.toNat seen2,Res.own cB 4 Ar lr cr r])) m0 ⟨_,_,h0,rfl,H1,rfl,H4,H5,rfl,rfl,hS.sel [0,1,2,3]⟩ ?_;clear h0 hS;rintro m4 E ds w6 ⟨u,seen2,h,rfl,H1,H3,H4,H5,H6,H7,hS⟩ again2;replace h:=hr m4 u seen2 h;clear hr;refine yaf (zs (zH H7 (zq (yan H1 underlying24 rfl yaj) (zq (zl underlying3 (hS.bc 0 0)) (zq zL (yaa ?_))))));by_cases hp3:u<g
      · replace h:=h.1 hp3;refine zc hp3 (yag (yaf (yai (zr (zH H4 (zH H7 (zH H4 (zH H7 ?_))))))));obtain ⟨hx3,h⟩:=h;refine zq (zi underlying160 ydi (yaP (hS.rdo 2 rfl) hx3)) (zq (yau (v:=(.bool (gb seen2 u.toNat))) rfl underlying4 rfl (rd_1 (hS.rdo 2 rfl) hx3 (fun q=>ykz q) rfl)) ?_);refine zM (.bool (gb seen2 u.toNat)) ?_;by_cases hp4:gb seen2 u.toNat=true
        · replace h:=h.1 hp4;refine zV rfl rfl (zC hp4) (zV rfl rfl (zC hp4) (zV rfl rfl (zC hp4) (zV rfl rfl (zC hp4) (zq (yas (v:=(.bool (true))) (zC hp4) rfl) (zq (zi underlying160 ydi (yaP (hS.rdo 2 rfl) hx3)) (zo (zt (.bool (true)) ydi (hS.wr 2 rfl rfl hx3) ?_)))))));intro w7 e1;replace hS:=hS.st 2 rfl rfl hx3 (x:=true) rfl e1;clear e1;refine zb (yaa (yah (zr (zH H7 ?_))));obtain ⟨hi3,h⟩:=h;refine zq (zA hi3) (zQ (ii (u+1)) (yaa ?_));obtain ⟨mq,hlt,h⟩:=h;exact again2 mq _ _ _ ⟨_,_,h,rfl,H1,H3,H4,H5,H6,rfl,hS.sel [0,1,2,3]⟩ hlt
        · replace h:=h.2 hp4;refine zW rfl rfl (zC (zI hp4)) (yad H6) (zW rfl rfl (zC (zI hp4)) (yad H7) ?_);obtain ⟨hx4,h⟩:=h;refine zW rfl rfl (zC (zI hp4)) (zi underlying160 ydi (yaP (hS.rdo 3 rfl) hx4)) (zW rfl rfl (zC (zI hp4)) (yau (v:=(.bool (gb r u.toNat))) rfl underlying4 rfl (rd_1 (hS.rdo 3 rfl) hx4 (fun q=>ykz q) rfl)) ?_);refine zq (yal (v:=(.bool (gb r u.toNat))) (zC (zI hp4)) rfl) (zq (zi underlying160 ydi (yaP (hS.rdo 2 rfl) hx3)) (zo (zt (.bool (gb r u.toNat)) ydi (hS.wr 2 rfl rfl hx3) ?_)));intro w8 e1;replace hS:=hS.st 2 rfl rfl hx3 (x:=gb r u.toNat) rfl e1;clear e1;refine zb (yaa (yah (zr (zH H7 ?_))));obtain ⟨hi4,h⟩:=h;refine zq (zA hi4) (zQ (ii (u+1)) (yaa ?_));obtain ⟨mq,hlt,h⟩:=h;exact again2 mq _ _ _ ⟨_,_,h,rfl,H1,H3,H4,H5,H6,rfl,hS.sel [0,1,2,3]⟩ hlt
      · replace h:=h.2 hp3;refine zd hp3 (yax rfl (yah (zr (zH H5 ?_))));obtain ⟨hi5,h⟩:=h;refine zq (zA hi5) (zQ (ii (v+1)) (yaa ?_));obtain ⟨mq,hlt,h⟩:=h;exact ag mq _ _ _ ⟨_,_,_,h,rfl,H1,H3,H4,rfl,hS.sel [0,1,2]⟩ hlt
  · replace h:=h.2 hp;exact zd hp (yax rfl (zs (zH H3 (zQ (ii n) (yaa (yak rfl rfl ⟨_,rfl,hS.sel [],h⟩))))))
def ycz(g:Int)(g2:List E3)(R:Bool→Prop):Prop :=
yef g g2 (fun r =>
R (decide (r=1)))
theorem yfF{O:Nat→Prop}{w:World}{g g2 Ag lg cg}{R:Bool→Prop}(h:ycz g g2 R)(hO:∀ k,O k→k<w.heap.size)(hA0:(FP.sl c3 Ag lg cg g2).P O w) :
    Calls Tryz.prog 91 #[(.agg #[ii g,.slice Ag lg cg])] w fun e w'=>∃ r2,e = .returned (.bool (r2))∧Sep w no O w' (rl [])∧R r2:=by
  unfold ycz at h;have hS:Sep w no O w (rl [Res.ro (FP.sl c3 Ag lg cg g2)]):=Sep.startl hO [(FP.sl c3 Ag lg cg g2)] ⟨hA0,trivial⟩;refine yap (l:=[(.agg #[ii g,.slice Ag lg cg])]) func91 rfl ntmps91 zY (zs (zn (ya8 (v:=(.agg #[ii g,.slice Ag lg cg])) rfl ?_)));intro g3 w2 hN;replace hS:=hS.neu 1 [ii g,.slice Ag lg cg] hN;clear hN;refine zb (zQ (.bool (false)) (yaa (zs (zq (yaq (vs:=[ii g,.slice Ag lg cg]) rfl underlying24 rfl yao ⟨hS.bc 1 0,hS.bc 1 1,trivial⟩) (zn (yam rfl (am1 rfl) enter_89 ((yk2 h (yaB _) (hS.rdr 0 rfl)).mono ?_)))))));rintro _ w3 ⟨r,rfl,hC,h⟩;replace hS:=hS.pur hC.pure;refine ⟨_,rfl,?_⟩;exact zb (zq zE (zQ (.bool (decide (r=1))) (yaa (yak rfl rfl ⟨_,rfl,hS.sel [],h⟩))))
def ylT(g:Int)(g2:List E3)(R:Int→Prop):Prop :=
ydy g g2 (fun r =>
((r=0 →
ycz g g2 (fun r2 =>
((r2=true →
R 0) ∧
(¬(r2=true) →
R 13)))) ∧
(¬(r=0) →
R r)))
theorem pok_r25_Joined{O:Nat→Prop}{w:World}{g g2 Ag lg cg}{R:Int→Prop}(h:ylT g g2 R)(hO:∀ k,O k→k<w.heap.size)(hA0:(FP.sl c3 Ag lg cg g2).P O w) :
    Calls Tryz.prog 126 #[(.agg #[ii g,.slice Ag lg cg])] w fun e w'=>∃ r3,e = .returned (ii r3)∧Sep w no O w' (rl [])∧R r3:=by
  unfold ylT at h;have hS:Sep w no O w (rl [Res.ro (FP.sl c3 Ag lg cg g2)]):=Sep.startl hO [(FP.sl c3 Ag lg cg g2)] ⟨hA0,trivial⟩;refine yap (l:=[(.agg #[ii g,.slice Ag lg cg])]) func126 rfl ntmps126 zY (zs (zn (ya8 (v:=(.agg #[ii g,.slice Ag lg cg])) rfl ?_)));intro g3 w2 hN;replace hS:=hS.neu 1 [ii g,.slice Ag lg cg] hN;clear hN;refine zb (zQ (ii 0) (yaa (yaf (zs (zq (yaq (vs:=[ii g,.slice Ag lg cg]) rfl underlying24 rfl yao ⟨hS.bc 1 0,hS.bc 1 1,trivial⟩) (zn (yam rfl (am1 rfl) enter_90 ((yhz h (yaB _) (hS.rdr 0 rfl)).mono ?_))))))));rintro _ w3 ⟨r,rfl,hC,h⟩;replace hS:=hS.pur hC.pure;refine ⟨_,rfl,?_⟩;refine zb (zQ (ii r) (yaa (zs (zM (ii r) (zq zN (yaa ?_))))));by_cases hp:r=0
  · replace h:=h.1 hp;refine ze hp (yag (yaf (zs (zq (yaq (vs:=[ii g,.slice Ag lg cg]) rfl underlying24 rfl yao ⟨hS.bc 1 0,hS.bc 1 1,trivial⟩) (zn (yam rfl (am1 rfl) enter_91 ((yfF h (yaB _) (hS.rdr 0 rfl)).mono ?_)))))));rintro _ w4 ⟨r2,rfl,hC,h⟩;replace hS:=hS.pur hC.pure;refine ⟨_,rfl,?_⟩;refine zb (zq (ycX rfl) (yaa ?_));by_cases hp2:r2=true
    · replace h:=h.1 hp2;exact yat (zC (zB hp2)) (yag (zs (zQ (ii 0) (yaa (yak rfl rfl ⟨_,rfl,hS.sel [],h⟩)))))
    · replace h:=h.2 hp2;exact yar (zC (zB (zI hp2))) (zs (zQ (ii 13) (yaa (yak rfl rfl ⟨_,rfl,hS.sel [],h⟩))))
  · replace h:=h.2 hp;exact zf hp (zs (zM (ii r) (zQ (ii r) (yaa (yak rfl rfl ⟨_,rfl,hS.sel [],h⟩)))))
def ylX(g:Int)(g2:List E3)(d:List Int)(R:Bool→Prop):Prop :=
((100<(d.length:Int) →
R false) ∧
(¬(100<(d.length:Int)) →
ykC d g (fun r =>
((r=0 →
(∃ I2:Nat→Int→Prop,(∃ m0,I2 m0 0)∧∀ m2 i,I2 m2 i → 
((i<(d.length:Int) →
((0≤i∧i<(d.length:Int)) ∧
(((gi d i.toNat)<(-100) →
R false) ∧
(¬((gi d i.toNat)<(-100)) →
((100<(gi d i.toNat) →
R false) ∧
(¬(100<(gi d i.toNat)) →
(In64 (i+1) ∧
∃ m3,m3<m2∧I2 m3 (i+1)))))))) ∧
(¬(i<(d.length:Int)) →
R true)))) ∧
(¬(r=0) →
R true)))))
theorem pok_r34_Low{O:Nat→Prop}{w:World}{g g2 d Ag lg cg Ad ld cd}{R:Bool→Prop}(h:ylX g g2 d R)(hO:∀ k,O k→k<w.heap.size)(hA0:(FP.sl c3 Ag lg cg g2).P O w)(hA1:(FP.sl cI Ad ld cd d).P O w) :
    Calls Tryz.prog 84 #[(.agg #[ii g,.slice Ag lg cg]),.slice Ad ld cd] w fun e w'=>∃ r2,e = .returned (.bool (r2))∧Sep w no O w' (rl [])∧R r2:=by
  unfold ylX at h;have hS:Sep w no O w (rl [Res.ro (FP.sl c3 Ag lg cg g2),Res.ro (FP.sl cI Ad ld cd d)]):=Sep.startl hO [(FP.sl c3 Ag lg cg g2),(FP.sl cI Ad ld cd d)] ⟨hA0,hA1,trivial⟩;refine yap (l:=[(.agg #[ii g,.slice Ag lg cg]),.slice Ad ld cd]) func84 rfl ntmps84 zY (zs (zn (ya8 (v:=(.agg #[ii g,.slice Ag lg cg])) rfl ?_)));intro g3 w2 hN;replace hS:=hS.neu 2 [ii g,.slice Ag lg cg] hN;clear hN;refine zb (zQ (.bool (false)) (yaa (yaf (zs (zM (.slice Ad ld cd) (zq (yaF (n:=d.length) rfl underlying29 (yaE (hS.rdr 1 rfl))) (zq zG (yaa ?_))))))));by_cases hp:100<(d.length:Int)
  · replace h:=h.1 hp;exact zc hp (zs (zQ (.bool (false)) (yaa (yak rfl rfl ⟨_,rfl,hS.sel [],h⟩))))
  · replace h:=h.2 hp;refine zd hp (yag (yaf (zs (zM (.slice Ad ld cd) (zq (yan rfl underlying24 rfl yaj) (zq (zl underlying3 (hS.bc 2 0)) (zn (yam rfl (am2 rfl rfl) enter_31 ((ylZ h (yaB _) (hS.rdr 1 rfl)).mono ?_)))))))));rintro _ w3 ⟨r,rfl,hC,h⟩;replace hS:=hS.pur hC.pure;refine ⟨_,rfl,?_⟩;refine zb (zq zN (yaa ?_));by_cases hp2:r=0
    · replace h:=h.1 hp2;refine ze hp2 (yag (yaf (zs (zQ (ii 0) (yaa (yai ?_))))));obtain ⟨I2,⟨m0,h0⟩,hr⟩:=h;refine yaz (fun m E ds w'=>∃ i,I2 m i∧ds=[]∧E 1 = .slice Ad ld cd∧E 5=(ii i)∧Sep w no O w' (rl [Res.ro (FP.sl cI Ad ld cd d)])) m0 ⟨_,h0,rfl,rfl,rfl,hS.sel [1]⟩ ?_;clear h0 hS;rintro m2 E ds w4 ⟨i,h,rfl,H1,H5,hS⟩ ag;replace h:=hr m2 i h;clear hr;refine yaf (zs (zH H5 (zH H1 (zq (yaF (n:=d.length) rfl underlying29 (yaE (hS.rdr 0 rfl))) (zq zL (yaa ?_))))));by_cases hp3:i<(d.length:Int)
      · replace h:=h.1 hp3;refine zc hp3 (yag (yaf (yai (zs (zH H1 (zH H5 ?_))))));obtain ⟨hx,h⟩:=h;refine zq (zi underlying29 yaj (yaP (hS.rdr 0 rfl) hx)) (zq (yau (v:=(ii (gi d i.toNat))) rfl underlying3 rfl (rd_1 (hS.rdr 0 rfl) hx (fun q=>yaY q) rfl)) ?_);refine zq zL (zM (.bool (decide ((gi d i.toNat)<(-100)))) ?_);by_cases hp4:(gi d i.toNat)<(-100)
        · replace h:=h.1 hp4;exact zV rfl rfl (zT hp4) (zV rfl rfl (zT hp4) (zV rfl rfl (zT hp4) (zV rfl rfl (zT hp4) (zV rfl rfl (zT hp4) (zq (yas (v:=(.bool (true))) (zT hp4) rfl) (yaa (yar rfl (zs (zQ (.bool (false)) (yaa (yak rfl rfl ⟨_,rfl,hS.sel [],h⟩)))))))))))
        · replace h:=h.2 hp4;refine zW rfl rfl (zF hp4) (yad H1) (zW rfl rfl (zF hp4) (yad H5) (zW rfl rfl (zF hp4) (zi underlying29 yaj (yaP (hS.rdr 0 rfl) hx)) (zW rfl rfl (zF hp4) (yau (v:=(ii (gi d i.toNat))) rfl underlying3 rfl (rd_1 (hS.rdr 0 rfl) hx (fun q=>yaY q) rfl)) ?_)));refine zW rfl rfl (zF hp4) zG (zq (yal (v:=(.bool (decide (100<(gi d i.toNat))))) (zF hp4) rfl) (yaa ?_));by_cases hp5:100<(gi d i.toNat)
          · replace h:=h.1 hp5;exact zc hp5 (zs (zQ (.bool (false)) (yaa (yak rfl rfl ⟨_,rfl,hS.sel [],h⟩))))
          · replace h:=h.2 hp5;refine zd hp5 (yag (yah (zr (zH H5 ?_))));obtain ⟨hi,h⟩:=h;refine zq (zA hi) (zQ (ii (i+1)) (yaa ?_));obtain ⟨mq,hlt,h⟩:=h;exact ag mq _ _ _ ⟨_,h,rfl,H1,rfl,hS.sel [0]⟩ hlt
      · replace h:=h.2 hp3;exact zd hp3 (yax rfl (zs (zQ (.bool (true)) (yaa (yak rfl rfl ⟨_,rfl,hS.sel [],h⟩)))))
    · replace h:=h.2 hp2;exact zf hp2 (zs (zQ (.bool (true)) (yaa (yak rfl rfl ⟨_,rfl,hS.sel [],h⟩))))
def ykj(a:List Int)(b:List Int)(k:Int)(R:(List Int)→Prop):Prop :=
((0≤(a.length:Int)∧(a.length:Int)≤1000000) ∧
(∃ I2:Nat→Int→(List Int)→Prop,(∃ m0,I2 m0 0 (List.replicate (a.length:Int).toNat (0:Int)))∧∀ m2 i out,I2 m2 i out → 
((i<(a.length:Int) →
((0≤i∧i<(a.length:Int)) ∧
((0≤i∧i<(b.length:Int)) ∧
(In64 (k*(gi b i.toNat)) ∧
(In64 ((gi a i.toNat)+(k*(gi b i.toNat))) ∧
((0≤i∧i<(out.length:Int)) ∧
(In64 (i+1) ∧
∃ m3,m3<m2∧I2 m3 (i+1) (out.set i.toNat ((gi a i.toNat)+(k*(gi b i.toNat))))))))))) ∧
(¬(i<(a.length:Int)) →
R out))))
theorem pok_r25_Plus{O:Nat→Prop}{w:World}{a b k Aa la ca Ab lb cb}{R:(List Int)→Prop}(h:ykj a b k R)(hO:∀ k,O k→k<w.heap.size)(hA0:(FP.sl cI Aa la ca a).P O w)(hA1:(FP.sl cI Ab lb cb b).P O w) :
    Calls Tryz.prog 155 #[.slice Aa la ca,.slice Ab lb cb,ii k] w fun e w'=>∃ r Ar lr cr,e = .returned (.slice Ar lr cr)∧Sep w no O w' (rl [Res.own cI 3 Ar lr cr r])∧R r:=by
  unfold ykj at h;have hS:Sep w no O w (rl [Res.ro (FP.sl cI Aa la ca a),Res.ro (FP.sl cI Ab lb cb b)]):=Sep.startl hO [(FP.sl cI Aa la ca a),(FP.sl cI Ab lb cb b)] ⟨hA0,hA1,trivial⟩;refine yap (l:=[.slice Aa la ca,.slice Ab lb cb,ii k]) func155 rfl ntmps155 zY (zs (zQ (.slice none 0 0) (yaa (zs (zM (.slice Aa la ca) (zq (yaF (n:=a.length) rfl underlying29 (yaE (hS.rdr 0 rfl))) ?_))))));obtain ⟨hx,h⟩:=h;refine zn (ykw rfl rfl underlying29 yaj (by decide) rfl hx ?_);intro g w2 hN;replace hS:=hS.made 2 rfl cI (ii 0) (0:Int) (fun _ _=>rfl) hN (by omega);clear hN;refine zb (zQ (.slice (some ⟨g,0,none⟩) ((a.length:Int).toNat) ((a.length:Int).toNat)) (yaa (yaf (zs (zQ (ii 0) (yaa (yai ?_)))))));obtain ⟨I2,⟨m0,h0⟩,hr⟩:=h;refine yaz (fun m E ds w'=>∃ i out,I2 m i out∧ds=[]∧E 0 = .slice Aa la ca∧E 1 = .slice Ab lb cb∧E 2=(ii k)∧E 7=(Value.slice (some ⟨g,0,none⟩) ((a.length:Int).toNat) ((a.length:Int).toNat))∧E 8=(ii i)∧Sep w no O w' (rl [Res.ro (FP.sl cI Aa la ca a),Res.ro (FP.sl cI Ab lb cb b),Res.own cI 3 (some ⟨g,0,none⟩) ((a.length:Int).toNat) ((a.length:Int).toNat) out])) m0 ⟨_,_,h0,rfl,rfl,rfl,rfl,rfl,rfl,hS.sel [0,1,2]⟩ ?_;clear h0 hS;rintro m2 E ds w3 ⟨i,out,h,rfl,H0,H1,H2,H7,H8,hS⟩ ag;replace h:=hr m2 i out h;clear hr;refine yaf (zs (zH H8 (zH H0 (zq (yaF (n:=a.length) rfl underlying29 (yaE (hS.rdr 0 rfl))) (zq zL (yaa ?_))))));by_cases hp:i<(a.length:Int)
  · replace h:=h.1 hp;refine zc hp (yag (yaf (yai (yaT [0,1,2,3,4,5,6,7,8,9,10,11,12,13,14] st0 yaD (by kernel_rfl) (by kernel_rfl) ?_))));replace hS:=hS.drew;refine zp (yad (v:=(.slice (some ⟨g,0,none⟩) ((a.length:Int).toNat) ((a.length:Int).toNat))) H7) (zp (yad H8) (zp (yad H0) (zp (yad H8) ?_)));obtain ⟨hx2,h⟩:=h;refine zp (zi underlying29 yaj (yaP (hS.rdr 0 rfl) hx2)) (zp (yau (v:=(ii (gi a i.toNat))) rfl underlying3 rfl (rd_1 (hS.rdr 0 rfl) hx2 (fun q=>yaY q) rfl)) ?_);refine zp (yad H2) (zp (yad H1) (zp (yad H8) ?_));obtain ⟨hx3,h⟩:=h;refine zp (zi underlying29 yaj (yaP (hS.rdr 1 rfl) hx3)) (zp (yau (v:=(ii (gi b i.toNat))) rfl underlying3 rfl (rd_1 (hS.rdr 1 rfl) hx3 (fun q=>yaY q) rfl)) ?_);obtain ⟨hi,h⟩:=h;refine zp (v_mul rfl rfl hi) ?_;obtain ⟨hi2,h⟩:=h;refine zp (zA hi2) ?_;obtain ⟨hx4,h⟩:=h;refine zp (zi underlying29 yaj (yaP (hS.rdo 2 rfl) hx4)) (yjg rfl rfl rfl (zt (ii ((gi a i.toNat)+(k*(gi b i.toNat)))) yaj (hS.wr 2 rfl rfl hx4) ?_));intro w4 e1;replace hS:=hS.st 2 rfl rfl hx4 (x:=(gi a i.toNat)+(k*(gi b i.toNat))) rfl e1;clear e1;refine zb (yaZ (yah (zr (zH H8 ?_))));obtain ⟨hi3,h⟩:=h;refine zq (zA hi3) (zQ (ii (i+1)) (yaa ?_));obtain ⟨mq,hlt,h⟩:=h;exact ag mq _ _ _ ⟨_,_,h,rfl,H0,H1,H2,H7,rfl,hS.sel [0,1,2]⟩ hlt
  · replace h:=h.2 hp;exact zd hp (yax rfl (zs (zq (yad (v:=(.slice (some ⟨g,0,none⟩) ((a.length:Int).toNat) ((a.length:Int).toNat))) H7) (zQ (.slice (some ⟨g,0,none⟩) ((a.length:Int).toNat) ((a.length:Int).toNat)) (yaa (yak rfl rfl ⟨_,_,_,_,rfl,hS.sel [2],h⟩))))))
def ybb(s1:List Int)(s2:List Int)(R:Bool→Prop):Prop :=
(((s1.length:Int)=(s2.length:Int) →
(∃ I2:Nat→Int→Prop,(∃ m0,I2 m0 0)∧∀ m2 v,I2 m2 v → 
((v<(s1.length:Int) →
((0≤v∧v<(s1.length:Int)) ∧
((0≤v∧v<(s2.length:Int)) ∧
(((gi s1 v.toNat)=(gi s2 v.toNat) →
(In64 (v+1) ∧
∃ m3,m3<m2∧I2 m3 (v+1))) ∧
(¬((gi s1 v.toNat)=(gi s2 v.toNat)) →
R false))))) ∧
(¬(v<(s1.length:Int)) →
R true)))) ∧
(¬((s1.length:Int)=(s2.length:Int)) →
R false))
theorem ydz{O:Nat→Prop}{w:World}{s1 s2 As1 ls1 cs1 As2 ls2 cs2}{R:Bool→Prop}(h:ybb s1 s2 R)(hO:∀ k,O k→k<w.heap.size)(hA0:(FP.sl cI As1 ls1 cs1 s1).P O w)(hA1:(FP.sl cI As2 ls2 cs2 s2).P O w) :
    Calls Tryz.prog 54 #[.slice As1 ls1 cs1,.slice As2 ls2 cs2] w fun e w'=>∃ r,e = .returned (.bool (r))∧Sep w no O w' (rl [])∧R r:=by
  unfold ybb at h;have hS:Sep w no O w (rl [Res.ro (FP.sl cI As1 ls1 cs1 s1),Res.ro (FP.sl cI As2 ls2 cs2 s2)]):=Sep.startl hO [(FP.sl cI As1 ls1 cs1 s1),(FP.sl cI As2 ls2 cs2 s2)] ⟨hA0,hA1,trivial⟩;refine yap (l:=[.slice As1 ls1 cs1,.slice As2 ls2 cs2]) func54 rfl ntmps54 zY (zs (zQ (.bool (false)) (yaa (yaf (zs (zM (.slice As1 ls1 cs1) (zq (yaF (n:=s1.length) rfl underlying43 (yaE (hS.rdr 0 rfl))) (zM (.slice As2 ls2 cs2) (zq (yaF (n:=s2.length) rfl underlying43 (yaE (hS.rdr 1 rfl))) (zq zN (yaa ?_)))))))))));by_cases hp:(s1.length:Int)=(s2.length:Int)
  · replace h:=h.1 hp;refine ze hp (yag (yaf (zs (zM (.slice As1 ls1 cs1) (zq (yaF (n:=s1.length) rfl underlying43 (yaE (hS.rdr 0 rfl))) (zM (ii 0) (yaa (yai ?_))))))));obtain ⟨I2,⟨m0,h0⟩,hr⟩:=h;refine yaz (fun m E ds w'=>∃ v,I2 m v∧ds=[]∧E 0 = .slice As1 ls1 cs1∧E 1 = .slice As2 ls2 cs2∧E 12=(ii (s1.length:Int))∧E 13=(ii v)∧Sep w no O w' (rl [Res.ro (FP.sl cI As1 ls1 cs1 s1),Res.ro (FP.sl cI As2 ls2 cs2 s2)])) m0 ⟨_,h0,rfl,rfl,rfl,rfl,rfl,hS.sel [0,1]⟩ ?_;clear h0 hS;rintro m2 E ds w2 ⟨v,h,rfl,H0,H1,H12,H13,hS⟩ ag;replace h:=hr m2 v h;clear hr;refine zs (zq (ydj H13 H12) (yaa (yaf ?_)));by_cases hp2:v<(s1.length:Int)
    · replace h:=h.1 hp2;refine zc hp2 (yag (yaf (yai (zs (zH H13 (zQ (ii v) (yaa (yaf (yaT [0,1,2,3,4,5,6,7,8] st0 yaD (by kernel_rfl) (by kernel_rfl) ?_)))))))));replace hS:=hS.drew;refine zp (yad H0) (zp (zm (ii v)) ?_);obtain ⟨hx,h⟩:=h;refine zp (zi underlying43 yaj (yaP (hS.rdr 0 rfl) hx)) (zp (yau (v:=(ii (gi s1 v.toNat))) rfl underlying3 rfl (rd_1 (hS.rdr 0 rfl) hx (fun q=>yaY q) rfl)) ?_);refine zp (yad H1) (zp (zm (ii v)) ?_);obtain ⟨hx2,h⟩:=h;refine zp (zi underlying43 yaj (yaP (hS.rdr 1 rfl) hx2)) (zp (yau (v:=(ii (gi s2 v.toNat))) rfl underlying3 rfl (rd_1 (hS.rdr 1 rfl) hx2 (fun q=>yaY q) rfl)) ?_);refine zp zN (yaZ ?_);by_cases hp3:(gi s1 v.toNat)=(gi s2 v.toNat)
      · replace h:=h.1 hp3;refine ze hp3 (yag (yah (zr ?_)));obtain ⟨hi,h⟩:=h;refine zq (ybS H13 rfl hi) (zM (ii (v+1)) (yaa ?_));obtain ⟨mq,hlt,h⟩:=h;exact ag mq _ _ _ ⟨_,h,rfl,H0,H1,H12,rfl,hS.sel [0,1]⟩ hlt
      · replace h:=h.2 hp3;exact zf hp3 (zs (zQ (.bool (false)) (yaa (yak rfl rfl ⟨_,rfl,hS.sel [],h⟩))))
    · replace h:=h.2 hp2;exact zd hp2 (yax rfl (zs (zQ (.bool (true)) (yaa (yak rfl rfl ⟨_,rfl,hS.sel [],h⟩)))))
  · replace h:=h.2 hp;exact zf hp (zs (zQ (.bool (false)) (yaa (yak rfl rfl ⟨_,rfl,hS.sel [],h⟩))))
def ybr(s1:List Int)(s2:List Int)(R:Bool→Prop):Prop :=
(((s1.length:Int)=(s2.length:Int) →
(∃ I2:Nat→Int→Prop,(∃ m0,I2 m0 0)∧∀ m2 v,I2 m2 v → 
((v<(s1.length:Int) →
((0≤v∧v<(s1.length:Int)) ∧
((0≤v∧v<(s2.length:Int)) ∧
(((gi s1 v.toNat)=(gi s2 v.toNat) →
(In64 (v+1) ∧
∃ m3,m3<m2∧I2 m3 (v+1))) ∧
(¬((gi s1 v.toNat)=(gi s2 v.toNat)) →
R false))))) ∧
(¬(v<(s1.length:Int)) →
R true)))) ∧
(¬((s1.length:Int)=(s2.length:Int)) →
R false))
theorem yec{O:Nat→Prop}{w:World}{s1 s2 As1 ls1 cs1 As2 ls2 cs2}{R:Bool→Prop}(h:ybr s1 s2 R)(hO:∀ k,O k→k<w.heap.size)(hA0:(FP.sl cI As1 ls1 cs1 s1).P O w)(hA1:(FP.sl cI As2 ls2 cs2 s2).P O w) :
    Calls Tryz.prog 55 #[.slice As1 ls1 cs1,.slice As2 ls2 cs2] w fun e w'=>∃ r,e = .returned (.bool (r))∧Sep w no O w' (rl [])∧R r:=by
  unfold ybr at h;have hS:Sep w no O w (rl [Res.ro (FP.sl cI As1 ls1 cs1 s1),Res.ro (FP.sl cI As2 ls2 cs2 s2)]):=Sep.startl hO [(FP.sl cI As1 ls1 cs1 s1),(FP.sl cI As2 ls2 cs2 s2)] ⟨hA0,hA1,trivial⟩;refine yap (l:=[.slice As1 ls1 cs1,.slice As2 ls2 cs2]) func55 rfl ntmps55 zY (zs (zQ (.bool (false)) (yaa (yaf (zs (zM (.slice As1 ls1 cs1) (zq (yaF (n:=s1.length) rfl underlying29 (yaE (hS.rdr 0 rfl))) (zM (.slice As2 ls2 cs2) (zq (yaF (n:=s2.length) rfl underlying29 (yaE (hS.rdr 1 rfl))) (zq zN (yaa ?_)))))))))));by_cases hp:(s1.length:Int)=(s2.length:Int)
  · replace h:=h.1 hp;refine ze hp (yag (yaf (zs (zM (.slice As1 ls1 cs1) (zq (yaF (n:=s1.length) rfl underlying29 (yaE (hS.rdr 0 rfl))) (zM (ii 0) (yaa (yai ?_))))))));obtain ⟨I2,⟨m0,h0⟩,hr⟩:=h;refine yaz (fun m E ds w'=>∃ v,I2 m v∧ds=[]∧E 0 = .slice As1 ls1 cs1∧E 1 = .slice As2 ls2 cs2∧E 12=(ii (s1.length:Int))∧E 13=(ii v)∧Sep w no O w' (rl [Res.ro (FP.sl cI As1 ls1 cs1 s1),Res.ro (FP.sl cI As2 ls2 cs2 s2)])) m0 ⟨_,h0,rfl,rfl,rfl,rfl,rfl,hS.sel [0,1]⟩ ?_;clear h0 hS;rintro m2 E ds w2 ⟨v,h,rfl,H0,H1,H12,H13,hS⟩ ag;replace h:=hr m2 v h;clear hr;refine zs (zq (ydj H13 H12) (yaa (yaf ?_)));by_cases hp2:v<(s1.length:Int)
    · replace h:=h.1 hp2;refine zc hp2 (yag (yaf (yai (zs (zH H13 (zQ (ii v) (yaa (yaf (yaT [0,1,2,3,4,5,6,7,8] st0 yaD (by kernel_rfl) (by kernel_rfl) ?_)))))))));replace hS:=hS.drew;refine zp (yad H0) (zp (zm (ii v)) ?_);obtain ⟨hx,h⟩:=h;refine zp (zi underlying29 yaj (yaP (hS.rdr 0 rfl) hx)) (zp (yau (v:=(ii (gi s1 v.toNat))) rfl underlying3 rfl (rd_1 (hS.rdr 0 rfl) hx (fun q=>yaY q) rfl)) ?_);refine zp (yad H1) (zp (zm (ii v)) ?_);obtain ⟨hx2,h⟩:=h;refine zp (zi underlying29 yaj (yaP (hS.rdr 1 rfl) hx2)) (zp (yau (v:=(ii (gi s2 v.toNat))) rfl underlying3 rfl (rd_1 (hS.rdr 1 rfl) hx2 (fun q=>yaY q) rfl)) ?_);refine zp zN (yaZ ?_);by_cases hp3:(gi s1 v.toNat)=(gi s2 v.toNat)
      · replace h:=h.1 hp3;refine ze hp3 (yag (yah (zr ?_)));obtain ⟨hi,h⟩:=h;refine zq (ybS H13 rfl hi) (zM (ii (v+1)) (yaa ?_));obtain ⟨mq,hlt,h⟩:=h;exact ag mq _ _ _ ⟨_,h,rfl,H0,H1,H12,rfl,hS.sel [0,1]⟩ hlt
      · replace h:=h.2 hp3;exact zf hp3 (zs (zQ (.bool (false)) (yaa (yak rfl rfl ⟨_,rfl,hS.sel [],h⟩))))
    · replace h:=h.2 hp2;exact zd hp2 (yax rfl (zs (zQ (.bool (true)) (yaa (yak rfl rfl ⟨_,rfl,hS.sel [],h⟩)))))
  · replace h:=h.2 hp;exact zf hp (zs (zQ (.bool (false)) (yaa (yak rfl rfl ⟨_,rfl,hS.sel [],h⟩))))
def ybm(s:List Int)(R:(List Int)→Prop):Prop :=
(∀ nil:Bool,(nil=true→s=[]) →
((nil=true →
R ([])) ∧
(¬(nil=true) →
(0+s.length≤1000000000 ∧
R ([]++s)))))
theorem yfL{O:Nat→Prop}{w:World}{s As ls cs}{R:(List Int)→Prop}(h:ybm s R)(hO:∀ k,O k→k<w.heap.size)(hA0:(FP.sl cI As ls cs s).P O w) :
    Calls Tryz.prog 147 #[.slice As ls cs] w fun e w'=>∃ r Ar lr cr,e = .returned (.slice Ar lr cr)∧Sep w no O w' (rl [Res.own cI 3 Ar lr cr r])∧R r:=by
  unfold ybm at h;have hS:Sep w no O w (rl [Res.ro (FP.sl cI As ls cs s)]):=Sep.startl hO [(FP.sl cI As ls cs s)] ⟨hA0,trivial⟩;refine yap (l:=[.slice As ls cs]) func147 rfl ntmps147 zY (zs (zQ (.slice none 0 0) (yaa (yaf (zs (zM (.slice As ls cs) ?_))))));obtain ⟨nil,hn⟩:∃ b,Option.isNone As=b:=⟨_,rfl⟩;replace h:=h nil (by rw [←hn];exact rd_nil (hS.rdr 0 rfl));refine zq (v_seqlx rfl rfl underlying43 hn) (yaa ?_);by_cases hp:nil=true
  · replace h:=h.1 hp;refine yar (zC hp) (zs (zQ (.slice none 0 0) (yaa ?_)));replace hS:=hS.nil 1 rfl cI 3;exact yak rfl rfl ⟨_,_,_,_,rfl,hS.sel [1],h⟩
  · replace h:=h.2 hp;refine yat (zC (zI hp)) (yag (zs (zn (yaX (l:=[]) (cells:=[]) (bp0) underlying43 yaj rfl rfl ?_))));intro g w2 hN;replace hS:=hS.litf (n:=0) 1 rfl (fI .i64) hN ([]:List Int) rfl (by decide) rfl;clear hN;refine zb (zM (.slice As ls cs) ?_);obtain ⟨hx,h⟩:=h;refine zn (ygp (c:=cI) rfl rfl underlying43 underlying43 yaj rfl rfl (by decide) hS 1 rfl (hS.yr 0 rfl) hx ?_);clear hS;intro A c w3 hS;exact zb (zQ (.slice A (0+ls) c) (yaa (yak rfl rfl ⟨_,_,_,_,rfl,hS.sel [1],h⟩)))
def ybq(s:List Int)(v:Int)(R:Int→Prop):Prop :=
(∃ I2:Nat→Int→Prop,(∃ m0,I2 m0 0)∧∀ m2 v2,I2 m2 v2 → 
((v2<(s.length:Int) →
((0≤v2∧v2<(s.length:Int)) ∧
((v=(gi s v2.toNat) →
R v2) ∧
(¬(v=(gi s v2.toNat)) →
(In64 (v2+1) ∧
∃ m3,m3<m2∧I2 m3 (v2+1)))))) ∧
(¬(v2<(s.length:Int)) →
R (-1))))
theorem yep{O:Nat→Prop}{w:World}{s v As ls cs}{R:Int→Prop}(h:ybq s v R)(hO:∀ k,O k→k<w.heap.size)(hA0:(FP.sl cI As ls cs s).P O w) :
    Calls Tryz.prog 116 #[.slice As ls cs,ii v] w fun e w'=>∃ r,e = .returned (ii r)∧Sep w no O w' (rl [])∧R r:=by
  unfold ybq at h;have hS:Sep w no O w (rl [Res.ro (FP.sl cI As ls cs s)]):=Sep.startl hO [(FP.sl cI As ls cs s)] ⟨hA0,trivial⟩;refine yap (l:=[.slice As ls cs,ii v]) func116 rfl ntmps116 zY (zs (zQ (ii 0) (yaa (yaf (zs (zM (.slice As ls cs) (zq (yaF (n:=s.length) rfl underlying29 (yaE (hS.rdr 0 rfl))) (zM (ii 0) (yaa (yai ?_))))))))));obtain ⟨I2,⟨m0,h0⟩,hr⟩:=h;refine yaz (fun m E ds w'=>∃ v2,I2 m v2∧ds=[]∧E 0 = .slice As ls cs∧E 1=(ii v)∧E 7=(ii (s.length:Int))∧E 8=(ii v2)∧Sep w no O w' (rl [Res.ro (FP.sl cI As ls cs s)])) m0 ⟨_,h0,rfl,rfl,rfl,rfl,rfl,hS.sel [0]⟩ ?_;clear h0 hS;rintro m2 E ds w2 ⟨v2,h,rfl,H0,H1,H7,H8,hS⟩ ag;replace h:=hr m2 v2 h;clear hr;refine zs (zq (ydj H8 H7) (yaa (yaf ?_)));by_cases hp:v2<(s.length:Int)
  · replace h:=h.1 hp;refine zc hp (yag (yaf (yai (zs (zH H8 (zQ (ii v2) (yaa (zs (zH H1 (zH H0 (zM (ii v2) ?_)))))))))));obtain ⟨hx,h⟩:=h;refine zq (zi underlying29 yaj (yaP (hS.rdr 0 rfl) hx)) (zq (yau (v:=(ii (gi s v2.toNat))) rfl underlying3 rfl (rd_1 (hS.rdr 0 rfl) hx (fun q=>yaY q) rfl)) ?_);refine zq zE (yaa ?_);by_cases hp2:v=(gi s v2.toNat)
    · replace h:=h.1 hp2;exact zc hp2 (zs (zM (ii v2) (zQ (ii v2) (yaa (yak rfl rfl ⟨_,rfl,hS.sel [],h⟩)))))
    · replace h:=h.2 hp2;refine zd hp2 (yag (yah (zr ?_)));obtain ⟨hi,h⟩:=h;refine zq (ybS H8 rfl hi) (zM (ii (v2+1)) (yaa ?_));obtain ⟨mq,hlt,h⟩:=h;exact ag mq _ _ _ ⟨_,h,rfl,H0,H1,H7,rfl,hS.sel [0]⟩ hlt
  · replace h:=h.2 hp;exact zd hp (yax rfl (zs (zQ (ii (-1)) (yaa (yak rfl rfl ⟨_,rfl,hS.sel [],h⟩)))))
def yaR(s:List Int)(v:Int)(R:Bool→Prop):Prop :=
ybq s v (fun r =>
R (decide (0≤r)))
theorem ybA{O:Nat→Prop}{w:World}{s v As ls cs}{R:Bool→Prop}(h:yaR s v R)(hO:∀ k,O k→k<w.heap.size)(hA0:(FP.sl cI As ls cs s).P O w) :
    Calls Tryz.prog 107 #[.slice As ls cs,ii v] w fun e w'=>∃ r2,e = .returned (.bool (r2))∧Sep w no O w' (rl [])∧R r2:=by
  unfold yaR at h;have hS:Sep w no O w (rl [Res.ro (FP.sl cI As ls cs s)]):=Sep.startl hO [(FP.sl cI As ls cs s)] ⟨hA0,trivial⟩;refine yap (l:=[.slice As ls cs,ii v]) func107 rfl ntmps107 zY (zs (zQ (.bool (false)) (yaa (zs (zM (.slice As ls cs) (zM (ii v) (zn (yam rfl (am2 rfl rfl) enter_116 ((yep h (yaB _) (hS.rdr 0 rfl)).mono ?_)))))))));rintro _ w2 ⟨r,rfl,hC,h⟩;replace hS:=hS.pur hC.pure;refine ⟨_,rfl,?_⟩;exact zb (zq (yiF rfl rfl) (zQ (.bool (decide (0≤r))) (yaa (yak rfl rfl ⟨_,rfl,hS.sel [],h⟩))))
def ycE(x:Int)(R:Bool→Prop):Prop :=
R (!(decide (x=x)))
theorem yfM{O:Nat→Prop}{w:World}{x}{R:Bool→Prop}(h:ycE x R)(hO:∀ k,O k→k<w.heap.size) :
    Calls Tryz.prog 157 #[ii x] w fun e w'=>∃ r,e = .returned (.bool (r))∧Sep w no O w' (rl [])∧R r:=by
  unfold ycE at h;have hS:Sep w no O w (rl []):=Sep.start w hO;exact yap (l:=[ii x]) func157 rfl ntmps157 zY (zs (zQ (.bool (false)) (yaa (zs (zM (ii x) (zM (ii x) (zq zN (zQ (.bool (!(decide (x=x)))) (yaa (yak rfl rfl ⟨_,rfl,hS.sel [],h⟩))))))))))
def ycY(k:Int)(R:Bool→Prop):Prop :=
(((-1048576)≤k →
R (decide (k≤1048576))) ∧
(¬((-1048576)≤k) →
R false))
theorem yiC{O:Nat→Prop}{w:World}{k}{R:Bool→Prop}(h:ycY k R)(hO:∀ k,O k→k<w.heap.size) :
    Calls Tryz.prog 127 #[ii k] w fun e w'=>∃ r,e = .returned (.bool (r))∧Sep w no O w' (rl [])∧R r:=by
  unfold ycY at h;have hS:Sep w no O w (rl []):=Sep.start w hO;refine yap (l:=[ii k]) func127 rfl ntmps127 zY (zs (zQ (.bool (false)) (yaa (zs (zM (ii k) (zq (yiF rfl rfl) (zM (.bool (decide ((-1048576)≤k))) ?_)))))));by_cases hp:(-1048576)≤k
  · replace h:=h.1 hp;exact zW rfl rfl (zT hp) (zm (ii k)) (zW rfl rfl (zT hp) (yl1 rfl rfl) (zq (yas (v:=(.bool (decide (k≤1048576)))) (zT hp) rfl) (zQ (.bool (decide (k≤1048576))) (yaa (yak rfl rfl ⟨_,rfl,hS.sel [],h⟩)))))
  · replace h:=h.2 hp;exact zV rfl rfl (zF hp) (zV rfl rfl (zF hp) (zq (yal (v:=(.bool (false))) (zF hp) rfl) (zQ (.bool (false)) (yaa (yak rfl rfl ⟨_,rfl,hS.sel [],h⟩)))))
def ybu(n:Int)(R:Int→Prop):Prop :=
((n<1 →
R 2) ∧
(¬(n<1) →
((12<n →
R 2) ∧
(¬(12<n) →
R 0))))
theorem yfk{O:Nat→Prop}{w:World}{n}{R:Int→Prop}(h:ybu n R)(hO:∀ k,O k→k<w.heap.size) :
    Calls Tryz.prog 118 #[ii n] w fun e w'=>∃ r,e = .returned (ii r)∧Sep w no O w' (rl [])∧R r:=by
  unfold ybu at h;have hS:Sep w no O w (rl []):=Sep.start w hO;refine yap (l:=[ii n]) func118 rfl ntmps118 zY (zs (zQ (ii 0) (yaa (yaf (zs (zM (ii n) (zq zL (zM (.bool (decide (n<1))) ?_))))))));by_cases hp:n<1
  · replace h:=h.1 hp;exact zV rfl rfl (zT hp) (zV rfl rfl (zT hp) (zq (yas (v:=(.bool (true))) (zT hp) rfl) (yaa (yar rfl (zs (zQ (ii 2) (yaa (yak rfl rfl ⟨_,rfl,hS.sel [],h⟩))))))))
  · replace h:=h.2 hp;refine zW rfl rfl (zF hp) (zm (ii n)) (zW rfl rfl (zF hp) zG (zq (yal (v:=(.bool (decide (12<n)))) (zF hp) rfl) (yaa ?_)));by_cases hp2:12<n
    · replace h:=h.1 hp2;exact zc hp2 (zs (zQ (ii 2) (yaa (yak rfl rfl ⟨_,rfl,hS.sel [],h⟩))))
    · replace h:=h.2 hp2;exact zd hp2 (yag (zs (zQ (ii 0) (yaa (yak rfl rfl ⟨_,rfl,hS.sel [],h⟩)))))
def ycG(d:List Int)(n:Int)(R:Int→Prop):Prop :=
ybu n (fun r =>
((r=0 →
(((d.length:Int)=n →
(∃ I2:Nat→Int→Prop,(∃ m0,I2 m0 0)∧∀ m2 v,I2 m2 v → 
((v<(d.length:Int) →
((0≤v∧v<(d.length:Int)) ∧
ycY (gi d v.toNat) (fun r2 =>
((r2=true →
(In64 (v+1) ∧
∃ m3,m3<m2∧I2 m3 (v+1))) ∧
(¬(r2=true) →
R 2))))) ∧
(¬(v<(d.length:Int)) →
R 0)))) ∧
(¬((d.length:Int)=n) →
R 8))) ∧
(¬(r=0) →
R r)))
theorem ygB{O:Nat→Prop}{w:World}{d n Ad ld cd}{R:Int→Prop}(h:ycG d n R)(hO:∀ k,O k→k<w.heap.size)(hA0:(FP.sl cI Ad ld cd d).P O w) :
    Calls Tryz.prog 85 #[.slice Ad ld cd,ii n] w fun e w'=>∃ r3,e = .returned (ii r3)∧Sep w no O w' (rl [])∧R r3:=by
  unfold ycG at h;have hS:Sep w no O w (rl [Res.ro (FP.sl cI Ad ld cd d)]):=Sep.startl hO [(FP.sl cI Ad ld cd d)] ⟨hA0,trivial⟩;refine yap (l:=[.slice Ad ld cd,ii n]) func85 rfl ntmps85 zY (zs (zQ (ii 0) (yaa (yaf (zs (zM (ii n) (zn (yam rfl (am1 rfl) enter_118 ((yfk h (yaB _)).mono ?_)))))))));rintro _ w2 ⟨r,rfl,hC,h⟩;replace hS:=hS.pur hC.pure;refine ⟨_,rfl,?_⟩;refine zb (zQ (ii r) (yaa (zs (zM (ii r) (zq zN (yaa ?_))))));by_cases hp:r=0
  · replace h:=h.1 hp;refine ze hp (yag (yaf (zs (zM (.slice Ad ld cd) (zq (yaF (n:=d.length) rfl underlying43 (yaE (hS.rdr 0 rfl))) (zM (ii n) (zq zN (yaa ?_))))))));by_cases hp2:(d.length:Int)=n
    · replace h:=h.1 hp2;refine ze hp2 (yag (yaf (zs (zM (.slice Ad ld cd) (zq (yaF (n:=d.length) rfl underlying43 (yaE (hS.rdr 0 rfl))) (zM (ii 0) (yaa (yai ?_))))))));obtain ⟨I2,⟨m0,h0⟩,hr⟩:=h;refine yaz (fun m E ds w'=>∃ v,I2 m v∧ds=[]∧E 17 = .slice Ad ld cd∧E 18=(ii (d.length:Int))∧E 19=(ii v)∧Sep w no O w' (rl [Res.ro (FP.sl cI Ad ld cd d)])) m0 ⟨_,h0,rfl,rfl,rfl,rfl,hS.sel [0]⟩ ?_;clear h0 hS;rintro m2 E ds w3 ⟨v,h,rfl,H17,H18,H19,hS⟩ ag;replace h:=hr m2 v h;clear hr;refine zs (zq (ydj H19 H18) (yaa (yaf ?_)));by_cases hp3:v<(d.length:Int)
      · replace h:=h.1 hp3;refine zc hp3 (yag (yaf (yai (zs ?_))));obtain ⟨hx,h⟩:=h;refine zq (ycI H17 H19 underlying43 yaj (yaP (hS.rdr 0 rfl) hx)) (zq (yau (v:=(ii (gi d v.toNat))) rfl underlying3 rfl (rd_1 (hS.rdr 0 rfl) hx (fun q=>yaY q) rfl)) ?_);refine zQ (ii (gi d v.toNat)) (yaa (zs (zM (ii (gi d v.toNat)) (zn (yam rfl (am1 rfl) enter_127 ((yiC h (yaB _)).mono ?_))))));rintro _ w4 ⟨r2,rfl,hC,h⟩;replace hS:=hS.pur hC.pure;refine ⟨_,rfl,?_⟩;refine zb (zq (ycX rfl) (yaa ?_));by_cases hp4:r2=true
        · replace h:=h.1 hp4;refine yat (zC (zB hp4)) (yag (yah (zr ?_)));obtain ⟨hi,h⟩:=h;refine zq (ybS H19 rfl hi) (zM (ii (v+1)) (yaa ?_));obtain ⟨mq,hlt,h⟩:=h;exact ag mq _ _ _ ⟨_,h,rfl,H17,H18,rfl,hS.sel [0]⟩ hlt
        · replace h:=h.2 hp4;exact yar (zC (zB (zI hp4))) (zs (zQ (ii 2) (yaa (yak rfl rfl ⟨_,rfl,hS.sel [],h⟩))))
      · replace h:=h.2 hp3;exact zd hp3 (yax rfl (zs (zQ (ii 0) (yaa (yak rfl rfl ⟨_,rfl,hS.sel [],h⟩)))))
    · replace h:=h.2 hp2;exact zf hp2 (zs (zQ (ii 8) (yaa (yak rfl rfl ⟨_,rfl,hS.sel [],h⟩))))
  · replace h:=h.2 hp;exact zf hp (zs (zM (ii r) (zQ (ii r) (yaa (yak rfl rfl ⟨_,rfl,hS.sel [],h⟩)))))
def ybx(n:Int)(v:Int)(R:Bool→Prop):Prop :=
((0≤v →
R (decide (v<n))) ∧
(¬(0≤v) →
R false))
theorem yeu{O:Nat→Prop}{w:World}{n v}{R:Bool→Prop}(h:ybx n v R)(hO:∀ k,O k→k<w.heap.size) :
    Calls Tryz.prog 113 #[ii n,ii v] w fun e w'=>∃ r,e = .returned (.bool (r))∧Sep w no O w' (rl [])∧R r:=by
  unfold ybx at h;have hS:Sep w no O w (rl []):=Sep.start w hO;refine yap (l:=[ii n,ii v]) func113 rfl ntmps113 zY (zs (zQ (.bool (false)) (yaa (zs (zM (ii v) (zq (yiF rfl rfl) (zM (.bool (decide (0≤v))) ?_)))))));by_cases hp:0≤v
  · replace h:=h.1 hp;exact zW rfl rfl (zT hp) (zm (ii v)) (zW rfl rfl (zT hp) (zm (ii n)) (zW rfl rfl (zT hp) zL (zq (yas (v:=(.bool (decide (v<n)))) (zT hp) rfl) (zQ (.bool (decide (v<n))) (yaa (yak rfl rfl ⟨_,rfl,hS.sel [],h⟩))))))
  · replace h:=h.2 hp;exact zV rfl rfl (zF hp) (zV rfl rfl (zF hp) (zV rfl rfl (zF hp) (zq (yal (v:=(.bool (false))) (zF hp) rfl) (zQ (.bool (false)) (yaa (yak rfl rfl ⟨_,rfl,hS.sel [],h⟩))))))
def ybC(x:Int)(y:Int)(R:Int→Prop):Prop :=
ycE x (fun r =>
ycE y (fun r2 =>
((r=true →
((r2=true →
R 0) ∧
(¬(r2=true) →
R (-1)))) ∧
(¬(r=true) →
((r2=true →
R 1) ∧
(¬(r2=true) →
((x<y →
R (-1)) ∧
(¬(x<y) →
((y<x →
R 1) ∧
(¬(y<x) →
R 0))))))))))
theorem yeT{O:Nat→Prop}{w:World}{x y}{R:Int→Prop}(h:ybC x y R)(hO:∀ k,O k→k<w.heap.size) :
    Calls Tryz.prog 134 #[ii x,ii y] w fun e w'=>∃ r3,e = .returned (ii r3)∧Sep w no O w' (rl [])∧R r3:=by
  unfold ybC at h;have hS:Sep w no O w (rl []):=Sep.start w hO;refine yap (l:=[ii x,ii y]) func134 rfl ntmps134 zY (zs (zQ (ii 0) (yaa (zs (zM (ii x) (zn (yam rfl (am1 rfl) enter_157 ((yfM h (yaB _)).mono ?_))))))));rintro _ w2 ⟨r,rfl,hC,h⟩;replace hS:=hS.pur hC.pure;refine ⟨_,rfl,?_⟩;refine zb (zQ (.bool (r)) (yaa (zs (zM (ii y) (zn (yam rfl (am1 rfl) enter_157 ((yfM h (yaB _)).mono ?_)))))));rintro _ w3 ⟨r2,rfl,hC,h⟩;replace hS:=hS.pur hC.pure;refine ⟨_,rfl,?_⟩;refine zb (zQ (.bool (r2)) (yaa (yaf (zs (zM (.bool (r)) (yaa ?_))))));by_cases hp:r=true
  · replace h:=h.1 hp;refine yar (zC hp) (yaf (zs (zM (.bool (r2)) (yaa ?_))));by_cases hp2:r2=true
    · replace h:=h.1 hp2;exact yar (zC hp2) (zs (zQ (ii 0) (yaa (yak rfl rfl ⟨_,rfl,hS.sel [],h⟩))))
    · replace h:=h.2 hp2;exact yat (zC (zI hp2)) (yag (zs (zQ (ii (-1)) (yaa (yak rfl rfl ⟨_,rfl,hS.sel [],h⟩)))))
  · replace h:=h.2 hp;refine yat (zC (zI hp)) (yag (yaf (zs (zM (.bool (r2)) (yaa ?_)))));by_cases hp3:r2=true
    · replace h:=h.1 hp3;exact yar (zC hp3) (zs (zQ (ii 1) (yaa (yak rfl rfl ⟨_,rfl,hS.sel [],h⟩))))
    · replace h:=h.2 hp3;refine yat (zC (zI hp3)) (yag (yaf (zs (zM (ii x) (zM (ii y) (zq zL (yaa ?_)))))));by_cases hp4:x<y
      · replace h:=h.1 hp4;exact zc hp4 (zs (zQ (ii (-1)) (yaa (yak rfl rfl ⟨_,rfl,hS.sel [],h⟩))))
      · replace h:=h.2 hp4;refine zd hp4 (yag (yaf (zs (zM (ii x) (zM (ii y) (zq zG (yaa ?_)))))));by_cases hp5:y<x
        · replace h:=h.1 hp5;exact zc hp5 (zs (zQ (ii 1) (yaa (yak rfl rfl ⟨_,rfl,hS.sel [],h⟩))))
        · replace h:=h.2 hp5;exact zd hp5 (yag (zs (zQ (ii 0) (yaa (yak rfl rfl ⟨_,rfl,hS.sel [],h⟩)))))
def ydI(vals:List Int)(R:Int→Prop):Prop :=
(∃ I2:Nat→Int→Prop,(∃ m0,I2 m0 0)∧∀ m2 v,I2 m2 v → 
((v<(vals.length:Int) →
((0≤v∧v<(vals.length:Int)) ∧
(((gi vals v.toNat)=0 →
(In64 (v+1) ∧
∃ m3,m3<m2∧I2 m3 (v+1))) ∧
(¬((gi vals v.toNat)=0) →
R (gi vals v.toNat))))) ∧
(¬(v<(vals.length:Int)) →
R 0)))
theorem pok_cmp_Or_int{O:Nat→Prop}{w:World}{vals Aa Ab Ac}{R:Int→Prop}(h:ydI vals R)(hO:∀ k,O k→k<w.heap.size)(hA0:(FP.sl cI Aa Ab Ac vals).P O w) :
    Calls Tryz.prog 156 #[.slice Aa Ab Ac] w fun e w'=>∃ r,e = .returned (ii r)∧Sep w no O w' (rl [])∧R r:=by
  unfold ydI at h;have hS:Sep w no O w (rl [Res.ro (FP.sl cI Aa Ab Ac vals)]):=Sep.startl hO [(FP.sl cI Aa Ab Ac vals)] ⟨hA0,trivial⟩;refine yap (l:=[.slice Aa Ab Ac]) func156 rfl ntmps156 zY (zs (zQ (ii 0) (yaa (zs (zQ (ii 0) (yaa (yaf (zs (zM (.slice Aa Ab Ac) (zq (yaF (n:=vals.length) rfl underlying29 (yaE (hS.rdr 0 rfl))) (zM (ii 0) (yaa (yai ?_)))))))))))));obtain ⟨I2,⟨m0,h0⟩,hr⟩:=h;refine yaz (fun m E ds w'=>∃ v,I2 m v∧ds=[]∧E 3=(ii 0)∧E 6 = .slice Aa Ab Ac∧E 7=(ii (vals.length:Int))∧E 8=(ii v)∧Sep w no O w' (rl [Res.ro (FP.sl cI Aa Ab Ac vals)])) m0 ⟨_,h0,rfl,rfl,rfl,rfl,rfl,hS.sel [0]⟩ ?_;clear h0 hS;rintro m2 E ds w2 ⟨v,h,rfl,H3,H6,H7,H8,hS⟩ ag;replace h:=hr m2 v h;clear hr;refine zs (zq (ydj H8 H7) (yaa (yaf ?_)));by_cases hp:v<(vals.length:Int)
  · replace h:=h.1 hp;refine zc hp (yag (yaf (yai (zs ?_))));obtain ⟨hx,h⟩:=h;refine zq (ycI H6 H8 underlying29 yaj (yaP (hS.rdr 0 rfl) hx)) (zq (yau (v:=(ii (gi vals v.toNat))) rfl underlying3 rfl (rd_1 (hS.rdr 0 rfl) hx (fun q=>yaY q) rfl)) ?_);refine zQ (ii (gi vals v.toNat)) (yaa (zs (zM (ii (gi vals v.toNat)) (zH H3 (zq zN (yaa ?_))))));by_cases hp2:(gi vals v.toNat)=0
    · replace h:=h.1 hp2;refine ze hp2 (yag (yah (zr ?_)));obtain ⟨hi,h⟩:=h;refine zq (ybS H8 rfl hi) (zM (ii (v+1)) (yaa ?_));obtain ⟨mq,hlt,h⟩:=h;exact ag mq _ _ _ ⟨_,h,rfl,H3,H6,H7,rfl,hS.sel [0]⟩ hlt
    · replace h:=h.2 hp2;exact zf hp2 (zs (zM (ii (gi vals v.toNat)) (zQ (ii (gi vals v.toNat)) (yaa (yak rfl rfl ⟨_,rfl,hS.sel [],h⟩)))))
  · replace h:=h.2 hp;exact zd hp (yax rfl (zs (zH H3 (zQ (ii 0) (yaa (yak rfl rfl ⟨_,rfl,hS.sel [],h⟩))))))
def yb2(p:Int)(p2:Int)(q:Int)(q2:Int)(R:Int→Prop):Prop :=
ybC p q (fun r =>
ybC p2 q2 (fun r2 =>
ydI ([r,r2]) (fun r3 =>
R r3)))
theorem ygl{O:Nat→Prop}{w:World}{p p2 q q2}{R:Int→Prop}(h:yb2 p p2 q q2 R)(hO:∀ k,O k→k<w.heap.size) :
    Calls Tryz.prog 133 #[(.agg #[ii p,ii p2]),(.agg #[ii q,ii q2])] w fun e w'=>∃ r4,e = .returned (ii r4)∧Sep w no O w' (rl [])∧R r4:=by
  unfold yb2 at h;have hS:Sep w no O w (rl []):=Sep.start w hO;refine yap (l:=[(.agg #[ii p,ii p2]),(.agg #[ii q,ii q2])]) func133 rfl ntmps133 zY (zs (zn (ya8 (v:=(.agg #[ii p,ii p2])) rfl ?_)));intro g w2 hN;replace hS:=hS.neu 0 [ii p,ii p2] hN;clear hN;refine zb (zn (ya8 (v:=(.agg #[ii q,ii q2])) rfl ?_));intro g2 w3 hN;replace hS:=hS.neu 1 [ii q,ii q2] hN;clear hN;refine zb (zQ (ii 0) (yaa (yaf (yaT [0,1,2,3,5,6,7,8,4,9,10,11,12] (fun i=>match i with | 4=>[5,6,7,8] | _=>[]) yaD (by kernel_rfl) (by kernel_rfl) ?_))));replace hS:=hS.drew;refine zp (yan rfl underlying133 rfl yaj) (zp (zl underlying3 (hS.bc 0 0)) (zp (yan rfl underlying133 rfl yaj) (zp (zl underlying3 (hS.bc 1 0)) (zp (yan rfl underlying133 rfl yaj) (zp (zl underlying3 (hS.bc 0 1)) (zp (yan rfl underlying133 rfl yaj) (zp (zl underlying3 (hS.bc 1 1)) (rp_n rfl rfl rfl rfl (yam rfl (am2 rfl rfl) ylO ((yeT h (yaB _)).mono ?_))))))))));rintro _ w4 ⟨r,rfl,hC,h⟩;replace hS:=hS.pur hC.pure;refine ⟨_,rfl,?_⟩;refine ⟨⟨fun _=>(zl underlying3 (hS.bc 1 1)),⟨fun _=>(yan rfl underlying133 rfl yaj),⟨fun _=>(zl underlying3 (hS.bc 0 1)),⟨fun _=>(yan rfl underlying133 rfl yaj),⟨fun hh=>zZ hh,⟨fun hh=>zZ hh,⟨fun hh=>zZ hh,⟨fun hh=>zZ hh,trivial⟩⟩⟩⟩⟩⟩⟩⟩,?_⟩;refine rp_n rfl rfl rfl rfl (yam rfl (am2 rfl rfl) ylO ((yeT h (yaB _)).mono ?_));rintro _ w5 ⟨r2,rfl,hC,h⟩;replace hS:=hS.pur hC.pure;refine ⟨_,rfl,?_⟩;refine zb (rp_n rfl rfl rfl rfl (yaX (l:=[(0,(ii r)),(1,(ii r2))]) (cells:=[ii r,ii r2]) (bp2 rfl rfl) underlying29 yaj rfl rfl ?_));intro g3 w6 hN;replace hS:=hS.litf (n:=2) 2 rfl (fI .i64) hN ([r,r2]:List Int) rfl (by decide) rfl;clear hN;refine zb (rp_n rfl rfl rfl rfl (yam rfl (am1 rfl) enter_156 ((pok_cmp_Or_int h (yaB _) (hS.rdo 2 rfl)).mono ?_)));rintro _ w7 ⟨r3,rfl,hC,h⟩;replace hS:=hS.pur hC.pure;refine ⟨_,rfl,?_⟩;exact zb (zp (za (ii r3)) (yaZ (yak rfl rfl ⟨_,rfl,hS.sel [],h⟩)))
def ybK(d:Int)(d2:List E3)(R:Int→Prop):Prop :=
(∃ J2:Prop,(J2→(∃ I2:Nat→Int→Int→Int→Prop,(∃ m0,I2 m0 0 (-1) (-1))∧∀ m2 v v2 v3,I2 m2 v v2 v3 → 
((v<(d2.length:Int) →
((0≤v∧v<(d2.length:Int)) ∧
(∃ J3:Prop,(J3→((((ge d2 v.toNat).2.1)<((ge d2 v.toNat).1) →
R 9) ∧
(¬(((ge d2 v.toNat).2.1)<((ge d2 v.toNat).1)) →
yb2 v2 v3 ((ge d2 v.toNat).1) ((ge d2 v.toNat).2.1) (fun r =>
((0≤r →
R 9) ∧
(¬(0≤r) →
(In64 (v+1) ∧
∃ m3,m3<m2∧I2 m3 (v+1) ((ge d2 v.toNat).1) ((ge d2 v.toNat).2.1)))))))) ∧
ybx d ((ge d2 v.toNat).1) (fun r2 =>
((r2=true →
ybx d ((ge d2 v.toNat).2.1) (fun r3 =>
((r3=true →
((((ge d2 v.toNat).2.2)<1 →
R 2) ∧
(¬(((ge d2 v.toNat).2.2)<1) →
((50<((ge d2 v.toNat).2.2) →
R 2) ∧
(¬(50<((ge d2 v.toNat).2.2)) →
J3))))) ∧
(¬(r3=true) →
R 2)))) ∧
(¬(r2=true) →
R 2)))))) ∧
(¬(v<(d2.length:Int)) →
R 0)))) ∧
((d<1 →
R 2) ∧
(¬(d<1) →
((12<d →
R 2) ∧
(¬(12<d) →
J2)))))
theorem ydH{O:Nat→Prop}{w:World}{d d2 Ad ld cd}{R:Int→Prop}(h:ybK d d2 R)(hO:∀ k,O k→k<w.heap.size)(hA0:(FP.sl c3 Ad ld cd d2).P O w) :
    Calls Tryz.prog 100 #[(.agg #[ii d,.slice Ad ld cd])] w fun e w'=>∃ r4,e = .returned (ii r4)∧Sep w no O w' (rl [])∧R r4:=by
  unfold ybK at h;have hS:Sep w no O w (rl [Res.ro (FP.sl c3 Ad ld cd d2)]):=Sep.startl hO [(FP.sl c3 Ad ld cd d2)] ⟨hA0,trivial⟩;refine yap (l:=[(.agg #[ii d,.slice Ad ld cd])]) func100 rfl ntmps100 zY (zs (zn (ya8 (v:=(.agg #[ii d,.slice Ad ld cd])) rfl ?_)));intro g w2 hN;replace hS:=hS.neu 1 [ii d,.slice Ad ld cd] hN;clear hN;refine zb (zQ (ii 0) (yaa (yaf (yaf ?_))));obtain ⟨J2,hJ,h⟩:=h;refine yc1 (fun E ds w'=>J2∧ds=[]∧E 1 = .pointer (some ⟨g,0,none⟩)∧Sep w no O w' (rl [Res.box 24 g [ii d,.slice Ad ld cd],Res.ro (FP.sl c3 Ad ld cd d2)])) ?_ ?_
  · clear h hS;rintro E ds w3 ⟨h,rfl,H1,hS⟩;replace h:=hJ h;refine zs (zn (yck (l:=[(0,(ii (-1))),(1,(ii (-1)))]) (cells:=[(ii (-1)),(ii (-1))]) (places:=[(0,1),(1,1)]) (bp2 rfl rfl) underlying133 ybl (by kernel_rfl) rfl ?_));refine zb (zn (yaO ybl ?_));intro g2 w4 hN;replace hS:=hS.neu 2 [ii 0,ii 0] hN;clear hN;refine zb (zo (yaV (b:=g2) (o:=0) (cells:=#[(ii (-1)),(ii (-1))]) rfl rfl ybl rfl rfl (yaI (hS.bx 2 rfl) zY) ?_));intro w5 e1;replace hS:=hS.bstn 2 rfl 0 [(ii (-1)),(ii (-1))] e1;clear e1;refine zb (yaa (yaf (zs (zq (yan H1 underlying24 rfl ybv) (zq (zl underlying22 (hS.bc 0 1)) (zq (yaF (n:=d2.length) rfl underlying22 (yaE (hS.rdr 1 rfl))) (zM (ii 0) (yaa (yai ?_)))))))));obtain ⟨I2,⟨m0,h0⟩,hr⟩:=h;refine yaz (fun m E ds w'=>∃ v v2 v3,I2 m v v2 v3∧ds=[]∧E 1 = .pointer (some ⟨g,0,none⟩)∧E 3 = .pointer (some ⟨g2,0,none⟩)∧E 17 = .slice Ad ld cd∧E 18=(ii (d2.length:Int))∧E 19=(ii v)∧Sep w no O w' (rl [Res.box 24 g [ii d,.slice Ad ld cd],Res.ro (FP.sl c3 Ad ld cd d2),Res.box 133 g2 [ii v2,ii v3]])) m0 ⟨_,_,_,h0,rfl,H1,rfl,rfl,rfl,rfl,hS.sel [0,1,2]⟩ ?_;clear h0 hS;rintro m2 E ds w6 ⟨v,v2,v3,h,rfl,H1,H3,H17,H18,H19,hS⟩ ag;replace h:=hr m2 v v2 v3 h;clear hr;refine zs (zq (ydj H19 H18) (yaa (yaf ?_)));by_cases hp:v<(d2.length:Int)
    · replace h:=h.1 hp;refine zc hp (yag (yaf (yai (zs ?_))));obtain ⟨hx,h⟩:=h;refine zq (ycI H17 H19 underlying22 yaK (yaP (hS.rdr 1 rfl) hx)) (zq (yaq (vs:=[(ii ((ge d2 v.toNat).1)),(ii ((ge d2 v.toNat).2.1)),(ii ((ge d2 v.toNat).2.2))]) rfl underlying79 rfl yaK (rd_fs (hS.rdr 1 rfl) hx (fun q=>ydu q))) ?_);refine zn (yaO yaK ?_);intro g3 w7 hN;replace hS:=hS.neu 3 [ii 0,ii 0,ii 0] hN;clear hN;refine zb (zo (yaV (b:=g3) (o:=0) (cells:=#[(ii ((ge d2 v.toNat).1)),(ii ((ge d2 v.toNat).2.1)),(ii ((ge d2 v.toNat).2.2))]) rfl rfl yaK rfl rfl (yaI (hS.bx 3 rfl) zY) ?_));intro w8 e1;replace hS:=hS.bstn 3 rfl 0 [(ii ((ge d2 v.toNat).1)),(ii ((ge d2 v.toNat).2.1)),(ii ((ge d2 v.toNat).2.2))] e1;clear e1;refine zb (yaa (zs (zq (yan rfl underlying79 rfl yaj) (zq (zl underlying3 (hS.bc 3 0)) (zq (yan rfl underlying79 rfl yaj) (zq (zl underlying3 (hS.bc 3 1)) (zn (yck (l:=[(0,(ii ((ge d2 v.toNat).1))),(1,(ii ((ge d2 v.toNat).2.1)))]) (cells:=[(ii ((ge d2 v.toNat).1)),(ii ((ge d2 v.toNat).2.1))]) (places:=[(0,1),(1,1)]) (bp2 rfl rfl) underlying133 ybl (by kernel_rfl) rfl ?_))))))));refine zb (zn (yaO ybl ?_));intro g4 w9 hN;replace hS:=hS.neu 4 [ii 0,ii 0] hN;clear hN;refine zb (zo (yaV (b:=g4) (o:=0) (cells:=#[(ii ((ge d2 v.toNat).1)),(ii ((ge d2 v.toNat).2.1))]) rfl rfl ybl rfl rfl (yaI (hS.bx 4 rfl) zY) ?_));intro w10 e1;replace hS:=hS.bstn 4 rfl 0 [(ii ((ge d2 v.toNat).1)),(ii ((ge d2 v.toNat).2.1))] e1;clear e1;refine zb (yaa (yaf (yai (yaf ?_))));obtain ⟨J3,hJ,h⟩:=h;refine wt_cutB1 (fun E ds w'=>J3∧ds=[]∧E 1 = .pointer (some ⟨g,0,none⟩)∧E 3 = .pointer (some ⟨g2,0,none⟩)∧E 5 = .pointer (some ⟨g3,0,none⟩)∧E 6 = .pointer (some ⟨g4,0,none⟩)∧E 17 = .slice Ad ld cd∧E 18=(ii (d2.length:Int))∧E 19=(ii v)∧Sep w no O w' (rl [Res.box 24 g [ii d,.slice Ad ld cd],Res.ro (FP.sl c3 Ad ld cd d2),Res.box 133 g2 [ii v2,ii v3],Res.box 79 g3 [(ii ((ge d2 v.toNat).1)),(ii ((ge d2 v.toNat).2.1)),(ii ((ge d2 v.toNat).2.2))],Res.box 133 g4 [(ii ((ge d2 v.toNat).1)),(ii ((ge d2 v.toNat).2.1))]])) ?_ ?_
      · clear h hS;rintro E ds w11 ⟨h,rfl,H1,H3,H5,H6,H17,H18,H19,hS⟩;replace h:=hJ h;refine zs (zq (yan H5 underlying79 rfl yaj) (zq (zl underlying3 (hS.bc 3 0)) (zq (yan H5 underlying79 rfl yaj) (zq (zl underlying3 (hS.bc 3 1)) (zq zG (zM (.bool (decide (((ge d2 v.toNat).2.1)<((ge d2 v.toNat).1)))) ?_))))));by_cases hp2:((ge d2 v.toNat).2.1)<((ge d2 v.toNat).1)
        · replace h:=h.1 hp2;exact zV rfl rfl (zT hp2) (zV rfl rfl (zT hp2) (zV rfl rfl (zT hp2) (zV rfl rfl (zT hp2) (zq (yas (v:=(.bool (true))) (zT hp2) rfl) (zQ (.bool (true)) (yaa (yar rfl (zs (zQ (ii 9) (yaa (yak rfl rfl ⟨_,rfl,hS.sel [],h⟩)))))))))))
        · replace h:=h.2 hp2;refine zW rfl rfl (zF hp2) (yaq (vs:=[ii v2,ii v3]) H3 underlying133 rfl ybl ⟨hS.bc 2 0,hS.bc 2 1,trivial⟩) (zW rfl rfl (zF hp2) (yaq (vs:=[(ii ((ge d2 v.toNat).1)),(ii ((ge d2 v.toNat).2.1))]) H6 underlying133 rfl ybl ⟨hS.bc 4 0,hS.bc 4 1,trivial⟩) (rl_n (yae rfl (yac rfl (zF hp2))) rfl rfl rfl (yam rfl (am2 rfl rfl) enter_133 ((ygl h (yaB _)).mono ?_))));rintro _ w12 ⟨r,rfl,hC,h⟩;replace hS:=hS.pur hC.pure;refine ⟨_,rfl,?_⟩;refine zb (zW rfl rfl (zF hp2) (yiF rfl rfl) (zq (yal (v:=(.bool (decide (0≤r)))) (zF hp2) rfl) (zQ (.bool (decide (0≤r))) (yaa ?_))));by_cases hp3:0≤r
          · replace h:=h.1 hp3;exact zc hp3 (zs (zQ (ii 9) (yaa (yak rfl rfl ⟨_,rfl,hS.sel [],h⟩))))
          · replace h:=h.2 hp3;refine zd hp3 (yag (yah (zr (zq (yaq (vs:=[(ii ((ge d2 v.toNat).1)),(ii ((ge d2 v.toNat).2.1))]) H6 underlying133 rfl ybl ⟨hS.bc 4 0,hS.bc 4 1,trivial⟩) (zo (yaV (b:=g2) (o:=0) (cells:=#[(ii ((ge d2 v.toNat).1)),(ii ((ge d2 v.toNat).2.1))]) H3 rfl ybl rfl rfl (yaI (hS.bx 2 rfl) zY) ?_))))));intro w13 e1;replace hS:=hS.bstn 2 rfl 0 [(ii ((ge d2 v.toNat).1)),(ii ((ge d2 v.toNat).2.1))] e1;clear e1;refine zb (yaa (yah (zr ?_)));obtain ⟨hi,h⟩:=h;refine zq (ybS H19 rfl hi) (zM (ii (v+1)) (yaa ?_));obtain ⟨mq,hlt,h⟩:=h;exact ag mq _ _ _ ⟨_,_,_,h,rfl,H1,H3,H17,H18,rfl,hS.sel [0,1,2]⟩ hlt
      clear hJ;intro j2;refine zr (zq (yan H1 underlying24 rfl yaj) (zq (zl underlying3 (hS.bc 0 0)) (zq (yan rfl underlying79 rfl yaj) (zq (zl underlying3 (hS.bc 3 0)) (zn (yam rfl (am2 rfl rfl) yjw ((yeu h (yaB _)).mono ?_)))))));rintro _ w14 ⟨r2,rfl,hC,h⟩;replace hS:=hS.pur hC.pure;refine ⟨_,rfl,?_⟩;refine zb (zq (ycX rfl) (zM (.bool (!(r2))) ?_));by_cases hp4:r2=true
      · replace h:=h.1 hp4;refine zW rfl rfl (zC (zB hp4)) (yan H1 underlying24 rfl yaj) (zW rfl rfl (zC (zB hp4)) (zl underlying3 (hS.bc 0 0)) (zW rfl rfl (zC (zB hp4)) (yan rfl underlying79 rfl yaj) (zW rfl rfl (zC (zB hp4)) (zl underlying3 (hS.bc 3 1)) (rl_n (yae rfl (yac rfl (zC (zB hp4)))) rfl rfl rfl (yam rfl (am2 rfl rfl) yjw ((yeu h (yaB _)).mono ?_))))));rintro _ w15 ⟨r3,rfl,hC,h⟩;replace hS:=hS.pur hC.pure;refine ⟨_,rfl,?_⟩;refine zb (zW rfl rfl (zC (zB hp4)) (ycX rfl) (zq (yal (v:=(.bool (!(r3)))) (zC (zB hp4)) rfl) (zM (.bool (!(r3))) ?_)));by_cases hp5:r3=true
        · replace h:=h.1 hp5;refine zW rfl rfl (zC (zB hp5)) (yan rfl underlying79 rfl yaj) (zW rfl rfl (zC (zB hp5)) (zl underlying3 (hS.bc 3 2)) (zW rfl rfl (zC (zB hp5)) zL (zq (yal (v:=(.bool (decide (((ge d2 v.toNat).2.2)<1)))) (zC (zB hp5)) rfl) (zM (.bool (decide (((ge d2 v.toNat).2.2)<1))) ?_))));by_cases hp6:((ge d2 v.toNat).2.2)<1
          · replace h:=h.1 hp6;exact zV rfl rfl (zT hp6) (zV rfl rfl (zT hp6) (zV rfl rfl (zT hp6) (zq (yas (v:=(.bool (true))) (zT hp6) rfl) (zQ (.bool (true)) (yaa (yar rfl (zs (zQ (ii 2) (yaa (yak rfl rfl ⟨_,rfl,hS.sel [],h⟩))))))))))
          · replace h:=h.2 hp6;refine zW rfl rfl (zF hp6) (yan rfl underlying79 rfl yaj) (zW rfl rfl (zF hp6) (zl underlying3 (hS.bc 3 2)) (zW rfl rfl (zF hp6) zG (zq (yal (v:=(.bool (decide (50<((ge d2 v.toNat).2.2))))) (zF hp6) rfl) (zQ (.bool (decide (50<((ge d2 v.toNat).2.2)))) (yaa ?_)))));by_cases hp7:50<((ge d2 v.toNat).2.2)
            · replace h:=h.1 hp7;exact zc hp7 (zs (zQ (ii 2) (yaa (yak rfl rfl ⟨_,rfl,hS.sel [],h⟩))))
            · replace h:=h.2 hp7;exact zd hp7 (j2 _ _ _ ⟨h,rfl,H1,H3,rfl,rfl,H17,H18,H19,hS.sel [0,1,2,3,4]⟩)
        · replace h:=h.2 hp5;exact zV rfl rfl (zC (zB (zI hp5))) (zV rfl rfl (zC (zB (zI hp5))) (zV rfl rfl (zC (zB (zI hp5))) (zq (yas (v:=(.bool (true))) (zC (zB (zI hp5))) rfl) (zM (.bool (true)) (zU (zU (zU (zq (yas (v:=(.bool (true))) rfl rfl) (zQ (.bool (true)) (yaa (yar rfl (zs (zQ (ii 2) (yaa (yak rfl rfl ⟨_,rfl,hS.sel [],h⟩)))))))))))))))
      · replace h:=h.2 hp4;exact zV rfl rfl (zC (zB (zI hp4))) (zV rfl rfl (zC (zB (zI hp4))) (zV rfl rfl (zC (zB (zI hp4))) (zV rfl rfl (zC (zB (zI hp4))) (zV rfl rfl (zC (zB (zI hp4))) (zV rfl rfl (zC (zB (zI hp4))) (zq (yas (v:=(.bool (true))) (zC (zB (zI hp4))) rfl) (zM (.bool (true)) (zU (zU (zU (zq (yas (v:=(.bool (true))) rfl rfl) (zM (.bool (true)) (zU (zU (zU (zq (yas (v:=(.bool (true))) rfl rfl) (zQ (.bool (true)) (yaa (yar rfl (zs (zQ (ii 2) (yaa (yak rfl rfl ⟨_,rfl,hS.sel [],h⟩)))))))))))))))))))))))
    · replace h:=h.2 hp;exact zd hp (yax rfl (zs (zQ (ii 0) (yaa (yak rfl rfl ⟨_,rfl,hS.sel [],h⟩)))))
  clear hJ;intro j;refine zr (zq (yan rfl underlying24 rfl yaj) (zq (zl underlying3 (hS.bc 1 0)) (zq zL (zM (.bool (decide (d<1))) ?_))));by_cases hp8:d<1
  · replace h:=h.1 hp8;exact zV rfl rfl (zT hp8) (zV rfl rfl (zT hp8) (zV rfl rfl (zT hp8) (zq (yas (v:=(.bool (true))) (zT hp8) rfl) (yaa (yar rfl (zs (zQ (ii 2) (yaa (yak rfl rfl ⟨_,rfl,hS.sel [],h⟩)))))))))
  · replace h:=h.2 hp8;refine zW rfl rfl (zF hp8) (yan rfl underlying24 rfl yaj) (zW rfl rfl (zF hp8) (zl underlying3 (hS.bc 1 0)) (zW rfl rfl (zF hp8) zG (zq (yal (v:=(.bool (decide (12<d)))) (zF hp8) rfl) (yaa ?_))));by_cases hp9:12<d
    · replace h:=h.1 hp9;exact zc hp9 (zs (zQ (ii 2) (yaa (yak rfl rfl ⟨_,rfl,hS.sel [],h⟩))))
    · replace h:=h.2 hp9;exact zd hp9 (yag (j _ _ _ ⟨h,rfl,rfl,hS.sel [1,0]⟩))
def ybz(g:Int)(g2:List E3)(set2:List Int)(R:Int→Prop):Prop :=
ybK g g2 (fun r =>
((r=0 →
(∃ I2:Nat→Int→Prop,(∃ m0,I2 m0 0)∧∀ m2 v,I2 m2 v → 
((v<(set2.length:Int) →
((0≤v∧v<(set2.length:Int)) ∧
ybx g (gi set2 v.toNat) (fun r2 =>
((r2=true →
((0<v →
(In64 (v-1) ∧
((0≤(v-1)∧(v-1)<(set2.length:Int)) ∧
(((gi set2 v.toNat)≤(gi set2 (v-1).toNat) →
R 9) ∧
(¬((gi set2 v.toNat)≤(gi set2 (v-1).toNat)) →
(In64 (v+1) ∧
∃ m3,m3<m2∧I2 m3 (v+1))))))) ∧
(¬(0<v) →
(In64 (v+1) ∧
∃ m4,m4<m2∧I2 m4 (v+1))))) ∧
(¬(r2=true) →
R 2))))) ∧
(¬(v<(set2.length:Int)) →
R 0)))) ∧
(¬(r=0) →
R r)))
theorem yes{O:Nat→Prop}{w:World}{g g2 set2 Ag lg cg Aa Ab Ac}{R:Int→Prop}(h:ybz g g2 set2 R)(hO:∀ k,O k→k<w.heap.size)(hA0:(FP.sl c3 Ag lg cg g2).P O w)(hA1:(FP.sl cI Aa Ab Ac set2).P O w) :
    Calls Tryz.prog 70 #[(.agg #[ii g,.slice Ag lg cg]),.slice Aa Ab Ac] w fun e w'=>∃ r3,e = .returned (ii r3)∧Sep w no O w' (rl [])∧R r3:=by
  unfold ybz at h;have hS:Sep w no O w (rl [Res.ro (FP.sl c3 Ag lg cg g2),Res.ro (FP.sl cI Aa Ab Ac set2)]):=Sep.startl hO [(FP.sl c3 Ag lg cg g2),(FP.sl cI Aa Ab Ac set2)] ⟨hA0,hA1,trivial⟩;refine yap (l:=[(.agg #[ii g,.slice Ag lg cg]),.slice Aa Ab Ac]) func70 rfl ntmps70 zY (zs (zn (ya8 (v:=(.agg #[ii g,.slice Ag lg cg])) rfl ?_)));intro g3 w2 hN;replace hS:=hS.neu 2 [ii g,.slice Ag lg cg] hN;clear hN;refine zb (zQ (ii 0) (yaa (yaf (zs (zq (yaq (vs:=[ii g,.slice Ag lg cg]) rfl underlying24 rfl yao ⟨hS.bc 2 0,hS.bc 2 1,trivial⟩) (zn (yam rfl (am1 rfl) yhI ((ydH h (yaB _) (hS.rdr 0 rfl)).mono ?_))))))));rintro _ w3 ⟨r,rfl,hC,h⟩;replace hS:=hS.pur hC.pure;refine ⟨_,rfl,?_⟩;refine zb (zQ (ii r) (yaa (zs (zM (ii r) (zq zN (yaa ?_))))));by_cases hp:r=0
  · replace h:=h.1 hp;refine ze hp (yag (yaf (zs (zM (.slice Aa Ab Ac) (zq (yaF (n:=set2.length) rfl underlying29 (yaE (hS.rdr 1 rfl))) (zM (ii 0) (yaa (yai ?_))))))));obtain ⟨I2,⟨m0,h0⟩,hr⟩:=h;refine yaz (fun m E ds w'=>∃ v,I2 m v∧ds=[]∧E 1 = .slice Aa Ab Ac∧E 2 = .pointer (some ⟨g3,0,none⟩)∧E 13 = .slice Aa Ab Ac∧E 14=(ii (set2.length:Int))∧E 15=(ii v)∧Sep w no O w' (rl [Res.ro (FP.sl cI Aa Ab Ac set2),Res.box 24 g3 [ii g,.slice Ag lg cg],Res.ro (FP.sl c3 Ag lg cg g2)])) m0 ⟨_,h0,rfl,rfl,rfl,rfl,rfl,rfl,hS.sel [1,2,0]⟩ ?_;clear h0 hS;rintro m2 E ds w4 ⟨v,h,rfl,H1,H2,H13,H14,H15,hS⟩ ag;replace h:=hr m2 v h;clear hr;refine zs (zq (ydj H15 H14) (yaa (yaf ?_)));by_cases hp2:v<(set2.length:Int)
    · replace h:=h.1 hp2;refine zc hp2 (yag (yaf (yai (zs (zH H15 ?_)))));obtain ⟨hx,h⟩:=h;refine zq (ycI H13 H15 underlying29 yaj (yaP (hS.rdr 0 rfl) hx)) (zq (yau (v:=(ii (gi set2 v.toNat))) rfl underlying3 rfl (rd_1 (hS.rdr 0 rfl) hx (fun q=>yaY q) rfl)) ?_);refine zQ (ii v) (zQ (ii (gi set2 v.toNat)) (yaa (yaf (zs (zq (yan H2 underlying24 rfl yaj) (zq (zl underlying3 (hS.bc 1 0)) (zM (ii (gi set2 v.toNat)) (zn (yam rfl (am2 rfl rfl) yjw ((yeu h (yaB _)).mono ?_))))))))));rintro _ w5 ⟨r2,rfl,hC,h⟩;replace hS:=hS.pur hC.pure;refine ⟨_,rfl,?_⟩;refine zb (zq (ycX rfl) (yaa ?_));by_cases hp3:r2=true
      · replace h:=h.1 hp3;refine yat (zC (zB hp3)) (yag (zs (zM (ii v) (zq zG (zM (.bool (decide (0<v))) ?_)))));by_cases hp4:0<v
        · replace h:=h.1 hp4;refine zW rfl rfl (zT hp4) (zm (ii (gi set2 v.toNat))) (zW rfl rfl (zT hp4) (yad H1) (zW rfl rfl (zT hp4) (zm (ii v)) ?_));obtain ⟨hi,h⟩:=h;refine zW rfl rfl (zT hp4) (zS hi) ?_;obtain ⟨hx2,h⟩:=h;refine zW rfl rfl (zT hp4) (zi underlying29 yaj (yaP (hS.rdr 0 rfl) hx2)) (zW rfl rfl (zT hp4) (yau (v:=(ii (gi set2 (v-1).toNat))) rfl underlying3 rfl (rd_1 (hS.rdr 0 rfl) hx2 (fun q=>yaY q) rfl)) ?_);refine zW rfl rfl (zT hp4) (yl1 rfl rfl) (zq (yas (v:=(.bool (decide ((gi set2 v.toNat)≤(gi set2 (v-1).toNat))))) (zT hp4) rfl) (yaa ?_));by_cases hp5:(gi set2 v.toNat)≤(gi set2 (v-1).toNat)
          · replace h:=h.1 hp5;exact zc hp5 (zs (zQ (ii 9) (yaa (yak rfl rfl ⟨_,rfl,hS.sel [],h⟩))))
          · replace h:=h.2 hp5;refine zd hp5 (yag (yah (zr ?_)));obtain ⟨hi2,h⟩:=h;refine zq (ybS H15 rfl hi2) (zM (ii (v+1)) (yaa ?_));obtain ⟨mq,hlt,h⟩:=h;exact ag mq _ _ _ ⟨_,h,rfl,H1,H2,H13,H14,rfl,hS.sel [0,1,2]⟩ hlt
        · replace h:=h.2 hp4;refine zV rfl rfl (zF hp4) (zV rfl rfl (zF hp4) (zV rfl rfl (zF hp4) (zV rfl rfl (zF hp4) (zV rfl rfl (zF hp4) (zV rfl rfl (zF hp4) (zV rfl rfl (zF hp4) (zq (yal (v:=(.bool (false))) (zF hp4) rfl) (yaa (yat rfl (yag (yah (zr ?_))))))))))));obtain ⟨hi3,h⟩:=h;refine zq (ybS H15 rfl hi3) (zM (ii (v+1)) (yaa ?_));obtain ⟨mq,hlt,h⟩:=h;exact ag mq _ _ _ ⟨_,h,rfl,H1,H2,H13,H14,rfl,hS.sel [0,1,2]⟩ hlt
      · replace h:=h.2 hp3;exact yar (zC (zB (zI hp3))) (zs (zQ (ii 2) (yaa (yak rfl rfl ⟨_,rfl,hS.sel [],h⟩))))
    · replace h:=h.2 hp2;exact zd hp2 (yax rfl (zs (zQ (ii 0) (yaa (yak rfl rfl ⟨_,rfl,hS.sel [],h⟩)))))
  · replace h:=h.2 hp;exact zf hp (zs (zM (ii r) (zQ (ii r) (yaa (yak rfl rfl ⟨_,rfl,hS.sel [],h⟩)))))
def ybj(g:Int)(g2:List E3)(d:List Int)(R:Bool→(List Int)→(List Int)→Int→Prop):Prop :=
yfP g g2 0 d (fun r r2 r3 =>
((r3=0 →
((0≤(0:Int)∧(0:Int)<(r.length:Int)) ∧
R (decide (0≤(gi r (0:Int).toNat))) r r2 0)) ∧
(¬(r3=0) →
R false ([]) ([]) r3)))
theorem ydV{O:Nat→Prop}{w:World}{g g2 d Ag lg cg Ad ld cd}{R:Bool→(List Int)→(List Int)→Int→Prop}(h:ybj g g2 d R)(hO:∀ k,O k→k<w.heap.size)(hA0:(FP.sl c3 Ag lg cg g2).P O w)(hA1:(FP.sl cI Ad ld cd d).P O w) :
    Calls Tryz.prog 125 #[(.agg #[ii g,.slice Ag lg cg]),.slice Ad ld cd] w fun e w'=>∃ r4 r5 r6 r7 Ar3 lr3 cr3 Ar4 lr4 cr4,e = .returned (.tuple #[(.bool (r4)),.slice Ar3 lr3 cr3,.slice Ar4 lr4 cr4,ii r7])∧Sep w no O w' (rl [Res.own cI 3 Ar3 lr3 cr3 r5,Res.own cI 3 Ar4 lr4 cr4 r6])∧R r4 r5 r6 r7:=by
  unfold ybj at h;have hS:Sep w no O w (rl [Res.ro (FP.sl c3 Ag lg cg g2),Res.ro (FP.sl cI Ad ld cd d)]):=Sep.startl hO [(FP.sl c3 Ag lg cg g2),(FP.sl cI Ad ld cd d)] ⟨hA0,hA1,trivial⟩;refine yap (l:=[(.agg #[ii g,.slice Ag lg cg]),.slice Ad ld cd]) func125 rfl ntmps125 zY (zs (zn (ya8 (v:=(.agg #[ii g,.slice Ag lg cg])) rfl ?_)));intro g3 w2 hN;replace hS:=hS.neu 2 [ii g,.slice Ag lg cg] hN;clear hN;refine zb (zQ (.bool (false)) (zQ (.slice none 0 0) (zQ (.slice none 0 0) (zQ (ii 0) (yaa (zs (zq (yaq (vs:=[ii g,.slice Ag lg cg]) rfl underlying24 rfl yao ⟨hS.bc 2 0,hS.bc 2 1,trivial⟩) (zM (.slice Ad ld cd) (zn (yam rfl (am3 rfl rfl rfl) enter_153 ((yhE h (yaB _) (hS.rdr 0 rfl) (hS.rdr 1 rfl)).mono ?_)))))))))));rintro _ w3 ⟨r,r2,r3,Ar,lr,cr,Ar2,lr2,cr2,rfl,hC,h⟩;replace hS:=hS.call2 (hC.widen (yde (ya0 (fI .i64) _ _ _ _ _) (yde (ya0 (fI .i64) _ _ _ _ _) ydA)) hS.blt) 3 0 4 1 rfl rfl (by decide) (by decide);clear hC;refine ⟨_,rfl,?_⟩;refine zb (zM (.tuple #[.slice Ar lr cr,.slice Ar2 lr2 cr2,ii r3]) (zq (zx (.slice Ar lr cr)) (zq (zx (.slice Ar2 lr2 cr2)) (zq (zx (ii r3)) (zQ (.slice Ar lr cr) (zQ (.slice Ar2 lr2 cr2) (zQ (ii r3) (yaa (yaf (zs (zM (ii r3) (zq zN (yaa ?_)))))))))))));by_cases hp:r3=0
  · replace h:=h.1 hp;refine ze hp (yag (zs (zM (.slice Ar lr cr) ?_)));obtain ⟨hx,h⟩:=h;refine zq (zi underlying43 yaj (yaP (hS.rdo 3 rfl) hx)) (zq (yau (v:=(ii (gi r (0:Int).toNat))) rfl underlying3 rfl (rd_1 (hS.rdo 3 rfl) hx (fun q=>yaY q) rfl)) ?_);exact zq (yiF rfl rfl) (zM (.slice Ar lr cr) (zM (.slice Ar2 lr2 cr2) (zQ (.bool (decide (0≤(gi r (0:Int).toNat)))) (zQ (.slice Ar lr cr) (zQ (.slice Ar2 lr2 cr2) (zQ (ii 0) (yaa (wt_ret4 rfl rfl rfl rfl rfl ⟨_,_,_,_,_,_,_,_,_,_,rfl,hS.sel [3,4],h⟩))))))))
  · replace h:=h.2 hp;refine zf hp (zs (zM (ii r3) (zQ (.bool (false)) (zQ (.slice none 0 0) (zQ (.slice none 0 0) (zQ (ii r3) (yaa ?_)))))));replace hS:=hS.nil 5 rfl cI 3;replace hS:=hS.nil 6 rfl cI 3;exact wt_ret4 rfl rfl rfl rfl rfl ⟨_,_,_,_,_,_,_,_,_,_,rfl,hS.sel [5,6],h⟩
def ylU(g:Int)(g2:List E3)(d:List Int)(R:Int→Prop):Prop :=
ylT g g2 (fun r =>
((r=0 →
ykC d g (fun r2 =>
R r2)) ∧
(¬(r=0) →
R r)))
theorem pok_r35_Given{O:Nat→Prop}{w:World}{g g2 d Ag lg cg Ad ld cd}{R:Int→Prop}(h:ylU g g2 d R)(hO:∀ k,O k→k<w.heap.size)(hA0:(FP.sl c3 Ag lg cg g2).P O w)(hA1:(FP.sl cI Ad ld cd d).P O w) :
    Calls Tryz.prog 83 #[(.agg #[ii g,.slice Ag lg cg]),.slice Ad ld cd] w fun e w'=>∃ r3,e = .returned (ii r3)∧Sep w no O w' (rl [])∧R r3:=by
  unfold ylU at h;have hS:Sep w no O w (rl [Res.ro (FP.sl c3 Ag lg cg g2),Res.ro (FP.sl cI Ad ld cd d)]):=Sep.startl hO [(FP.sl c3 Ag lg cg g2),(FP.sl cI Ad ld cd d)] ⟨hA0,hA1,trivial⟩;refine yap (l:=[(.agg #[ii g,.slice Ag lg cg]),.slice Ad ld cd]) func83 rfl ntmps83 zY (zs (zn (ya8 (v:=(.agg #[ii g,.slice Ag lg cg])) rfl ?_)));intro g3 w2 hN;replace hS:=hS.neu 2 [ii g,.slice Ag lg cg] hN;clear hN;refine zb (zQ (ii 0) (yaa (yaf (zs (zq (yaq (vs:=[ii g,.slice Ag lg cg]) rfl underlying24 rfl yao ⟨hS.bc 2 0,hS.bc 2 1,trivial⟩) (zn (yam rfl (am1 rfl) enter_126 ((pok_r25_Joined h (yaB _) (hS.rdr 0 rfl)).mono ?_))))))));rintro _ w3 ⟨r,rfl,hC,h⟩;replace hS:=hS.pur hC.pure;refine ⟨_,rfl,?_⟩;refine zb (zQ (ii r) (yaa (zs (zM (ii r) (zq zN (yaa ?_))))));by_cases hp:r=0
  · replace h:=h.1 hp;refine ze hp (yag (zs (zM (.slice Ad ld cd) (zq (yan rfl underlying24 rfl yaj) (zq (zl underlying3 (hS.bc 2 0)) (zn (yam rfl (am2 rfl rfl) enter_31 ((ylZ h (yaB _) (hS.rdr 1 rfl)).mono ?_))))))));rintro _ w4 ⟨r2,rfl,hC,h⟩;replace hS:=hS.pur hC.pure;refine ⟨_,rfl,?_⟩;exact zb (zQ (ii r2) (yaa (yak rfl rfl ⟨_,rfl,hS.sel [],h⟩)))
  · replace h:=h.2 hp;exact zf hp (zs (zM (ii r) (zQ (ii r) (yaa (yak rfl rfl ⟨_,rfl,hS.sel [],h⟩)))))
def ykd(d:List Int)(R:Int→Prop):Prop :=
(∃ I2:Nat→Int→Prop,(∃ m0,I2 m0 0)∧∀ m2 v,I2 m2 v → 
((v<(d.length:Int) →
((0≤v∧v<(d.length:Int)) ∧
(((gi d v.toNat)<0 →
R v) ∧
(¬((gi d v.toNat)<0) →
(In64 (v+1) ∧
∃ m3,m3<m2∧I2 m3 (v+1)))))) ∧
(¬(v<(d.length:Int)) →
R (-1))))
theorem pok_r36_debtor{O:Nat→Prop}{w:World}{d Ad ld cd}{R:Int→Prop}(h:ykd d R)(hO:∀ k,O k→k<w.heap.size)(hA0:(FP.sl cI Ad ld cd d).P O w) :
    Calls Tryz.prog 167 #[.slice Ad ld cd] w fun e w'=>∃ r,e = .returned (ii r)∧Sep w no O w' (rl [])∧R r:=by
  unfold ykd at h;have hS:Sep w no O w (rl [Res.ro (FP.sl cI Ad ld cd d)]):=Sep.startl hO [(FP.sl cI Ad ld cd d)] ⟨hA0,trivial⟩;refine yap (l:=[.slice Ad ld cd]) func167 rfl ntmps167 zY (zs (zQ (ii 0) (yaa (yaf (zs (zQ (ii 0) (yaa (yai ?_))))))));obtain ⟨I2,⟨m0,h0⟩,hr⟩:=h;refine yaz (fun m E ds w'=>∃ v,I2 m v∧ds=[]∧E 0 = .slice Ad ld cd∧E 3=(ii v)∧Sep w no O w' (rl [Res.ro (FP.sl cI Ad ld cd d)])) m0 ⟨_,h0,rfl,rfl,rfl,hS.sel [0]⟩ ?_;clear h0 hS;rintro m2 E ds w2 ⟨v,h,rfl,H0,H3,hS⟩ ag;replace h:=hr m2 v h;clear hr;refine yaf (zs (zH H3 (zH H0 (zq (yaF (n:=d.length) rfl underlying29 (yaE (hS.rdr 0 rfl))) (zq zL (yaa ?_))))));by_cases hp:v<(d.length:Int)
  · replace h:=h.1 hp;refine zc hp (yag (yaf (yai (zs (zH H0 (zH H3 ?_))))));obtain ⟨hx,h⟩:=h;refine zq (zi underlying29 yaj (yaP (hS.rdr 0 rfl) hx)) (zq (yau (v:=(ii (gi d v.toNat))) rfl underlying3 rfl (rd_1 (hS.rdr 0 rfl) hx (fun q=>yaY q) rfl)) ?_);refine zq zL (yaa ?_);by_cases hp2:(gi d v.toNat)<0
    · replace h:=h.1 hp2;exact zc hp2 (zs (zH H3 (zQ (ii v) (yaa (yak rfl rfl ⟨_,rfl,hS.sel [],h⟩)))))
    · replace h:=h.2 hp2;refine zd hp2 (yag (yah (zr (zH H3 ?_))));obtain ⟨hi,h⟩:=h;refine zq (zA hi) (zQ (ii (v+1)) (yaa ?_));obtain ⟨mq,hlt,h⟩:=h;exact ag mq _ _ _ ⟨_,h,rfl,H0,rfl,hS.sel [0]⟩ hlt
  · replace h:=h.2 hp;exact zd hp (yax rfl (zs (zQ (ii (-1)) (yaa (yak rfl rfl ⟨_,rfl,hS.sel [],h⟩)))))
def ykl(l:List Bool)(R:Bool→Prop):Prop :=
(∃ I2:Nat→Int→Prop,(∃ m0,I2 m0 0)∧∀ m2 i,I2 m2 i → 
((i<(l.length:Int) →
((0≤i∧i<(l.length:Int)) ∧
((gb l i.toNat=true →
(In64 (i+1) ∧
∃ m3,m3<m2∧I2 m3 (i+1))) ∧
(¬(gb l i.toNat=true) →
R false)))) ∧
(¬(i<(l.length:Int)) →
R true)))
theorem pok_r36_all{O:Nat→Prop}{w:World}{l Al ll cl}{R:Bool→Prop}(h:ykl l R)(hO:∀ k,O k→k<w.heap.size)(hA0:(FP.sl cB Al ll cl l).P O w) :
    Calls Tryz.prog 168 #[.slice Al ll cl] w fun e w'=>∃ r,e = .returned (.bool (r))∧Sep w no O w' (rl [])∧R r:=by
  unfold ykl at h;have hS:Sep w no O w (rl [Res.ro (FP.sl cB Al ll cl l)]):=Sep.startl hO [(FP.sl cB Al ll cl l)] ⟨hA0,trivial⟩;refine yap (l:=[.slice Al ll cl]) func168 rfl ntmps168 zY (zs (zQ (.bool (false)) (yaa (yaf (zs (zQ (ii 0) (yaa (yai ?_))))))));obtain ⟨I2,⟨m0,h0⟩,hr⟩:=h;refine yaz (fun m E ds w'=>∃ i,I2 m i∧ds=[]∧E 0 = .slice Al ll cl∧E 3=(ii i)∧Sep w no O w' (rl [Res.ro (FP.sl cB Al ll cl l)])) m0 ⟨_,h0,rfl,rfl,rfl,hS.sel [0]⟩ ?_;clear h0 hS;rintro m2 E ds w2 ⟨i,h,rfl,H0,H3,hS⟩ ag;replace h:=hr m2 i h;clear hr;refine yaf (zs (zH H3 (zH H0 (zq (yaF (n:=l.length) rfl underlying160 (yaE (hS.rdr 0 rfl))) (zq zL (yaa ?_))))));by_cases hp:i<(l.length:Int)
  · replace h:=h.1 hp;refine zc hp (yag (yaf (yai (zs (zH H0 (zH H3 ?_))))));obtain ⟨hx,h⟩:=h;refine zq (zi underlying160 ydi (yaP (hS.rdr 0 rfl) hx)) (zq (yau (v:=(.bool (gb l i.toNat))) rfl underlying4 rfl (rd_1 (hS.rdr 0 rfl) hx (fun q=>ykz q) rfl)) ?_);refine zq (ycX rfl) (yaa ?_);by_cases hp2:gb l i.toNat=true
    · replace h:=h.1 hp2;refine yat (zC (zB hp2)) (yag (yah (zr (zH H3 ?_))));obtain ⟨hi,h⟩:=h;refine zq (zA hi) (zQ (ii (i+1)) (yaa ?_));obtain ⟨mq,hlt,h⟩:=h;exact ag mq _ _ _ ⟨_,h,rfl,H0,rfl,hS.sel [0]⟩ hlt
    · replace h:=h.2 hp2;exact yar (zC (zB (zI hp2))) (zs (zQ (.bool (false)) (yaa (yak rfl rfl ⟨_,rfl,hS.sel [],h⟩))))
  · replace h:=h.2 hp;exact zd hp (yax rfl (zs (zQ (.bool (true)) (yaa (yak rfl rfl ⟨_,rfl,hS.sel [],h⟩)))))
def yki(g:Int)(g2:List E3)(d:List Int)(R:Bool→Prop):Prop :=
ykg d (fun r =>
((r<0 →
R false) ∧
(¬(r<0) →
(0+d.length≤1000000000 ∧
((0≤g∧g≤1000000) ∧
(∃ I2:Nat→Int→(List Int)→(List Bool)→Prop,(∃ m0,I2 m0 0 ([]++d) (List.replicate g.toNat false))∧∀ m2 step d2 borrowed,I2 m2 step d2 borrowed → 
((step<10000000 →
ykd d2 (fun r2 =>
((r2<0 →
R true) ∧
(¬(r2<0) →
ykl borrowed (fun r3 =>
((r3=true →
R false) ∧
(¬(r3=true) →
((0≤r2∧r2<(borrowed.length:Int)) ∧
(∃ I3:Nat→Int→(List Int)→Prop,(∃ m0,I3 m0 0 d2)∧∀ m3 u d3,I3 m3 u d3 → 
((u<g →
((u=r2 →
(In64 (u+1) ∧
∃ m4,m4<m3∧I3 m4 (u+1) d3)) ∧
(¬(u=r2) →
((0≤u∧u<(d3.length:Int)) ∧
yca g g2 u r2 (fun r4 =>
(In64 ((gi d3 u.toNat)-r4) ∧
((0≤r2∧r2<(((d3.set u.toNat ((gi d3 u.toNat)-r4)).length:Nat):Int)) ∧
yca g g2 u r2 (fun r5 =>
(In64 ((gi (d3.set u.toNat ((gi d3 u.toNat)-r4)) r2.toNat)+r5) ∧
(In64 (u+1) ∧
∃ m5,m5<m3∧I3 m5 (u+1) ((d3.set u.toNat ((gi d3 u.toNat)-r4)).set r2.toNat ((gi (d3.set u.toNat ((gi d3 u.toNat)-r4)) r2.toNat)+r5)))))))))))) ∧
(¬(u<g) →
(In64 (step+1) ∧
∃ m6,m6<m2∧I2 m6 (step+1) d3 (borrowed.set r2.toNat true))))))))))))) ∧
(¬(step<10000000) →
R false))))))))
theorem pok_r36_Wins{O:Nat→Prop}{w:World}{g g2 d Ag lg cg Ad ld cd}{R:Bool→Prop}(h:yki g g2 d R)(hO:∀ k,O k→k<w.heap.size)(hA0:(FP.sl c3 Ag lg cg g2).P O w)(hA1:(FP.sl cI Ad ld cd d).P O w) :
    Calls Tryz.prog 154 #[(.agg #[ii g,.slice Ag lg cg]),.slice Ad ld cd] w fun e w'=>∃ r6,e = .returned (.bool (r6))∧Sep w no O w' (rl [])∧R r6:=by
  unfold yki at h;have hS:Sep w no O w (rl [Res.ro (FP.sl c3 Ag lg cg g2),Res.ro (FP.sl cI Ad ld cd d)]):=Sep.startl hO [(FP.sl c3 Ag lg cg g2),(FP.sl cI Ad ld cd d)] ⟨hA0,hA1,trivial⟩;refine yap (l:=[(.agg #[ii g,.slice Ag lg cg]),.slice Ad ld cd]) func154 rfl ntmps154 zY (zs (zn (ya8 (v:=(.agg #[ii g,.slice Ag lg cg])) rfl ?_)));intro g3 w2 hN;replace hS:=hS.neu 2 [ii g,.slice Ag lg cg] hN;clear hN;refine zb (zQ (.bool (false)) (yaa (yaf (zs (zM (.slice Ad ld cd) (zn (yam rfl (am1 rfl) enter_30 ((ykK h (yaB _) (hS.rdr 1 rfl)).mono ?_))))))));rintro _ w3 ⟨r,rfl,hC,h⟩;replace hS:=hS.pur hC.pure;refine ⟨_,rfl,?_⟩;refine zb (zq zL (yaa ?_));by_cases hp:r<0
  · replace h:=h.1 hp;exact zc hp (zs (zQ (.bool (false)) (yaa (yak rfl rfl ⟨_,rfl,hS.sel [],h⟩))))
  · replace h:=h.2 hp;refine zd hp (yag (zs (zn (yaX (l:=[]) (cells:=[]) (bp0) underlying29 yaj rfl rfl ?_))));intro g4 w4 hN;replace hS:=hS.litf (n:=0) 3 rfl (fI .i64) hN ([]:List Int) rfl (by decide) rfl;clear hN;refine zb (zM (.slice Ad ld cd) ?_);obtain ⟨hx,h⟩:=h;refine zn (ygp (c:=cI) rfl rfl underlying29 underlying29 yaj rfl rfl (by decide) hS 3 rfl (hS.yr 1 rfl) hx ?_);clear hS;intro A c w5 hS;refine zb (zQ (.slice A (0+ld) c) (yaa (zs (zq (yan rfl underlying24 rfl yaj) (zq (zl underlying3 (hS.bc 2 0)) ?_)))));obtain ⟨hx2,h⟩:=h;refine zn (ykw rfl rfl underlying160 ydi (by decide) rfl hx2 ?_);intro g5 w6 hN;replace hS:=hS.made 4 rfl cB (.bool (false)) false (fun _ _=>rfl) hN (by omega);clear hN;refine zb (zQ (.slice (some ⟨g5,0,none⟩) g.toNat g.toNat) (yaa (yaf (zs (zQ (ii 0) (yaa (yai ?_)))))));obtain ⟨I2,⟨m0,h0⟩,hr⟩:=h;refine yaz (fun m E ds w'=>∃ step d2 borrowed,I2 m step d2 borrowed∧ds=[]∧E 1 = .slice A (0+ld) c∧E 2 = .pointer (some ⟨g3,0,none⟩)∧E 5 = .slice (some ⟨g5,0,none⟩) g.toNat g.toNat∧E 6=(ii step)∧Sep w no O w' (rl [Res.own cI 3 A (0+ld) c d2,Res.box 24 g3 [ii g,.slice Ag lg cg],Res.ro (FP.sl c3 Ag lg cg g2),Res.own cB 4 (some ⟨g5,0,none⟩) g.toNat g.toNat borrowed])) m0 ⟨_,_,_,h0,rfl,rfl,rfl,rfl,rfl,hS.sel [3,2,0,4]⟩ ?_;clear h0 hS;rintro m2 E ds w7 ⟨step,d2,borrowed,h,rfl,H1,H2,H5,H6,hS⟩ ag;replace h:=hr m2 step d2 borrowed h;clear hr;refine yaf (zs (zH H6 (zq zL (yaa ?_))));by_cases hp2:step<10000000
    · replace h:=h.1 hp2;refine zc hp2 (yag (yaf (yai (zs (zH H1 (zn (yam rfl (am1 rfl) enter_167 ((pok_r36_debtor h (yaB _) (hS.rdo 0 rfl)).mono ?_))))))));rintro _ w8 ⟨r2,rfl,hC,h⟩;replace hS:=hS.pur hC.pure;refine ⟨_,rfl,?_⟩;refine zb (zQ (ii r2) (yaa (yaf (zs (zM (ii r2) (zq zL (yaa ?_)))))));by_cases hp3:r2<0
      · replace h:=h.1 hp3;exact zc hp3 (zs (zQ (.bool (true)) (yaa (yak rfl rfl ⟨_,rfl,hS.sel [],h⟩))))
      · replace h:=h.2 hp3;refine zd hp3 (yag (yaf (zs (zH H5 (zn (yam rfl (am1 rfl) enter_168 ((pok_r36_all h (yaB _) (hS.rdo 3 rfl)).mono ?_)))))));rintro _ w9 ⟨r3,rfl,hC,h⟩;replace hS:=hS.pur hC.pure;refine ⟨_,rfl,?_⟩;refine zb (yaa ?_);by_cases hp4:r3=true
        · replace h:=h.1 hp4;exact yar (zC hp4) (zs (zQ (.bool (false)) (yaa (yak rfl rfl ⟨_,rfl,hS.sel [],h⟩))))
        · replace h:=h.2 hp4;refine yat (zC (zI hp4)) (yag (zs (zH H5 (zM (ii r2) ?_))));obtain ⟨hx3,h⟩:=h;refine zq (zi underlying160 ydi (yaP (hS.rdo 3 rfl) hx3)) (zo (zt (.bool (true)) ydi (hS.wr 3 rfl rfl hx3) ?_));intro w10 e1;replace hS:=hS.st 3 rfl rfl hx3 (x:=true) rfl e1;clear e1;refine zb (yaa (zs (zQ (ii 0) (yaa (yai ?_)))));obtain ⟨I3,⟨m0,h0⟩,hr⟩:=h;refine yaz (fun m E ds w'=>∃ u d3,I3 m u d3∧ds=[]∧E 1 = .slice A (0+ld) c∧E 2 = .pointer (some ⟨g3,0,none⟩)∧E 5 = .slice (some ⟨g5,0,none⟩) g.toNat g.toNat∧E 6=(ii step)∧E 7=(ii r2)∧E 8=(ii u)∧Sep w no O w' (rl [Res.own cI 3 A (0+ld) c d3,Res.box 24 g3 [ii g,.slice Ag lg cg],Res.ro (FP.sl c3 Ag lg cg g2),Res.own cB 4 (some ⟨g5,0,none⟩) g.toNat g.toNat (borrowed.set r2.toNat true)])) m0 ⟨_,_,h0,rfl,H1,H2,H5,H6,rfl,rfl,hS.sel [0,1,2,3]⟩ ?_;clear h0 hS;rintro m3 E ds w11 ⟨u,d3,h,rfl,H1,H2,H5,H6,H7,H8,hS⟩ again2;replace h:=hr m3 u d3 h;clear hr;refine yaf (zs (zH H8 (zq (yan H2 underlying24 rfl yaj) (zq (zl underlying3 (hS.bc 1 0)) (zq zL (yaa ?_))))));by_cases hp5:u<g
          · replace h:=h.1 hp5;refine zc hp5 (yag (yaf (yai (zs (zH H8 (zH H7 (zq zN (yaa ?_))))))));by_cases hp6:u=r2
            · replace h:=h.1 hp6;refine ze hp6 (yag (yah (zr (zH H8 ?_))));obtain ⟨hi,h⟩:=h;refine zq (zA hi) (zQ (ii (u+1)) (yaa ?_));obtain ⟨mq,hlt,h⟩:=h;exact again2 mq _ _ _ ⟨_,_,h,rfl,H1,H2,H5,H6,H7,rfl,hS.sel [0,1,2,3]⟩ hlt
            · replace h:=h.2 hp6;refine zf hp6 (yaf (yaT [0,1,2,3,4,5,6,7,8,9,10] (fun i=>match i with | 7=>[0,1,2,3] | _=>[]) yaD (by kernel_rfl) (by kernel_rfl) ?_));replace hS:=hS.drew;refine zp (yad H1) (zp (yad H8) ?_);obtain ⟨hx4,h⟩:=h;refine zp (zi underlying29 yaj (yaP (hS.rdo 0 rfl) hx4)) (zp (yau (v:=(ii (gi d3 u.toNat))) rfl underlying3 rfl (rd_1 (hS.rdo 0 rfl) hx4 (fun q=>yaY q) rfl)) ?_);refine zp (yaq (vs:=[ii g,.slice Ag lg cg]) H2 underlying24 rfl yao ⟨hS.bc 1 0,hS.bc 1 1,trivial⟩) (zp (yad H8) (zp (yad H7) (rp_n rfl rfl rfl rfl (yam rfl (am3 rfl rfl rfl) ykA ((ygq h (yaB _) (hS.rdr 2 rfl)).mono ?_)))));rintro _ w12 ⟨r4,rfl,hC,h⟩;replace hS:=hS.pur hC.pure;refine ⟨_,rfl,?_⟩;refine ⟨⟨fun hh=>zZ hh,⟨fun hh=>zZ hh,⟨fun hh=>zZ hh,⟨fun _=>(yau (v:=(ii (gi d3 u.toNat))) rfl underlying3 rfl (rd_1 (hS.rdo 0 rfl) hx4 (fun q=>yaY q) rfl)),⟨fun _=>(zi underlying29 yaj (yaP (hS.rdo 0 rfl) hx4)),⟨fun _=>(yad H8),⟨fun _=>(yad H1),trivial⟩⟩⟩⟩⟩⟩⟩,?_⟩;obtain ⟨hi2,h⟩:=h;refine zp (zS hi2) (zp (zi underlying29 yaj (yaP (hS.rdo 0 rfl) hx4)) (yjg rfl rfl rfl (zt (ii ((gi d3 u.toNat)-r4)) yaj (hS.wr 0 rfl rfl hx4) ?_)));intro w13 e1;replace hS:=hS.st 0 rfl rfl hx4 (x:=(gi d3 u.toNat)-r4) rfl e1;clear e1;refine zb (yaZ (yaT [0,1,2,3,4,5,6,7,8,9,10] (fun i=>match i with | 7=>[0,1,2,3] | _=>[]) yaD (by kernel_rfl) (by kernel_rfl) ?_));replace hS:=hS.drew;refine zp (yad H1) (zp (yad H7) ?_);obtain ⟨hx5,h⟩:=h;refine zp (zi underlying29 yaj (yaP (hS.rdo 0 rfl) hx5)) (zp (yau (v:=(ii (gi (d3.set u.toNat ((gi d3 u.toNat)-r4)) r2.toNat))) rfl underlying3 rfl (rd_1 (hS.rdo 0 rfl) hx5 (fun q=>yaY q) rfl)) ?_);refine zp (yaq (vs:=[ii g,.slice Ag lg cg]) H2 underlying24 rfl yao ⟨hS.bc 1 0,hS.bc 1 1,trivial⟩) (zp (yad H8) (zp (yad H7) (rp_n rfl rfl rfl rfl (yam rfl (am3 rfl rfl rfl) ykA ((ygq h (yaB _) (hS.rdr 2 rfl)).mono ?_)))));rintro _ w14 ⟨r5,rfl,hC,h⟩;replace hS:=hS.pur hC.pure;refine ⟨_,rfl,?_⟩;refine ⟨⟨fun hh=>zZ hh,⟨fun hh=>zZ hh,⟨fun hh=>zZ hh,⟨fun _=>(yau (v:=(ii (gi (d3.set u.toNat ((gi d3 u.toNat)-r4)) r2.toNat))) rfl underlying3 rfl (rd_1 (hS.rdo 0 rfl) hx5 (fun q=>yaY q) rfl)),⟨fun _=>(zi underlying29 yaj (yaP (hS.rdo 0 rfl) hx5)),⟨fun _=>(yad H7),⟨fun _=>(yad H1),trivial⟩⟩⟩⟩⟩⟩⟩,?_⟩;obtain ⟨hi3,h⟩:=h;refine zp (zA hi3) (zp (zi underlying29 yaj (yaP (hS.rdo 0 rfl) hx5)) (yjg rfl rfl rfl (zt (ii ((gi (d3.set u.toNat ((gi d3 u.toNat)-r4)) r2.toNat)+r5)) yaj (hS.wr 0 rfl rfl hx5) ?_)));intro w15 e1;replace hS:=hS.st 0 rfl rfl hx5 (x:=(gi (d3.set u.toNat ((gi d3 u.toNat)-r4)) r2.toNat)+r5) rfl e1;clear e1;refine zb (yaZ (yah (zr (zH H8 ?_))));obtain ⟨hi4,h⟩:=h;refine zq (zA hi4) (zQ (ii (u+1)) (yaa ?_));obtain ⟨mq,hlt,h⟩:=h;exact again2 mq _ _ _ ⟨_,_,h,rfl,H1,H2,H5,H6,H7,rfl,hS.sel [0,1,2,3]⟩ hlt
          · replace h:=h.2 hp5;refine zd hp5 (yax rfl (yah (zr (zH H6 ?_))));obtain ⟨hi5,h⟩:=h;refine zq (zA hi5) (zQ (ii (step+1)) (yaa ?_));obtain ⟨mq,hlt,h⟩:=h;exact ag mq _ _ _ ⟨_,_,_,h,rfl,H1,H2,H5,rfl,hS.sel [0,1,2,3]⟩ hlt
    · replace h:=h.2 hp2;exact zd hp2 (yax rfl (zs (zQ (.bool (false)) (yaa (yak rfl rfl ⟨_,rfl,hS.sel [],h⟩)))))
def yeo(l:List (List Int))(R:Int→Prop):Prop :=
(∃ I2:Nat→Int→Prop,(∃ m0,I2 m0 0)∧∀ m2 v,I2 m2 v → 
((v<(l.length:Int) →
((0≤v∧v<(l.length:Int)) ∧
ycG (gx l v.toNat) ((gx l v.toNat).length:Int) (fun r =>
((r=0 →
(In64 (v+1) ∧
∃ m3,m3<m2∧I2 m3 (v+1))) ∧
(¬(r=0) →
R r))))) ∧
(¬(v<(l.length:Int)) →
(∃ I3:Nat→Int→Prop,(∃ m0,I3 m0 0)∧∀ m4 v2,I3 m4 v2 → 
((v2<(l.length:Int) →
((0≤v2∧v2<(l.length:Int)) ∧
((0≤(0:Int)∧(0:Int)<(l.length:Int)) ∧
((((gx l v2.toNat).length:Int)=(((gx l (0:Int).toNat).length:Nat):Int) →
(In64 (v2+1) ∧
∃ m5,m5<m4∧I3 m5 (v2+1))) ∧
(¬(((gx l v2.toNat).length:Int)=(((gx l (0:Int).toNat).length:Nat):Int)) →
R 8))))) ∧
(¬(v2<(l.length:Int)) →
R 0))))))
theorem pok_chips_own{O:Nat→Prop}{w:World}{l Al ll cl}{R:Int→Prop}(h:yeo l R)(hO:∀ k,O k→k<w.heap.size)(hA0:(FP.sl (cL cI) Al ll cl l).P O w) :
    Calls Tryz.prog 128 #[.slice Al ll cl] w fun e w'=>∃ r2,e = .returned (ii r2)∧Sep w no O w' (rl [])∧R r2:=by
  unfold yeo at h;have hS:Sep w no O w (rl [Res.ro (FP.sl (cL cI) Al ll cl l)]):=Sep.startl hO [(FP.sl (cL cI) Al ll cl l)] ⟨hA0,trivial⟩;refine yap (l:=[.slice Al ll cl]) func128 rfl ntmps128 zY (zs (zQ (ii 0) (yaa (yaf (zs (zM (.slice Al ll cl) (zq (yaF (n:=l.length) rfl underlying93 (yaE (hS.rdr 0 rfl))) (zM (ii 0) (yaa (yai ?_))))))))));obtain ⟨I2,⟨m0,h0⟩,hr⟩:=h;refine yaz (fun m E ds w'=>∃ v,I2 m v∧ds=[]∧E 0 = .slice Al ll cl∧E 8 = .slice Al ll cl∧E 9=(ii (l.length:Int))∧E 10=(ii v)∧Sep w no O w' (rl [Res.ro (FP.sl (cL cI) Al ll cl l)])) m0 ⟨_,h0,rfl,rfl,rfl,rfl,rfl,hS.sel [0]⟩ ?_;clear h0 hS;rintro m2 E ds w2 ⟨v,h,rfl,H0,H8,H9,H10,hS⟩ ag;replace h:=hr m2 v h;clear hr;refine zs (zq (ydj H10 H9) (yaa (yaf ?_)));by_cases hp:v<(l.length:Int)
  · replace h:=h.1 hp;refine zc hp (yag (yaf (yai (zs ?_))));obtain ⟨hx,h⟩:=h;refine zq (ycI H8 H10 underlying93 ycm (yaP (hS.rdr 0 rfl) hx)) ?_;obtain ⟨A,l2,c,hc,hq⟩:=hS.el 0 rfl hx 1 2 rfl rfl (by decide);replace hS:=hq;clear hq;refine zq (yau (v:=(.slice A l2 c)) rfl underlying43 rfl (hS.clr 2 rfl)) (zQ (.slice A l2 c) (yaa (zs (zM (.slice A l2 c) (zM (.slice A l2 c) (zq (yaF (n:=(gx l v.toNat).length) rfl underlying43 (yaE (hS.rdr 1 rfl))) (zn (yam rfl (am2 rfl rfl) yiX ((ygB h (yaB _) (hS.rdr 1 rfl)).mono ?_)))))))));rintro _ w3 ⟨r,rfl,hC,h⟩;replace hS:=hS.pur hC.pure;refine ⟨_,rfl,?_⟩;refine zb (zQ (ii r) (yaa (zs (zM (ii r) (zq zN (yaa ?_))))));by_cases hp2:r=0
    · replace h:=h.1 hp2;refine ze hp2 (yag (yah (zr ?_)));obtain ⟨hi,h⟩:=h;refine zq (ybS H10 rfl hi) (zM (ii (v+1)) (yaa ?_));obtain ⟨mq,hlt,h⟩:=h;exact ag mq _ _ _ ⟨_,h,rfl,H0,H8,H9,rfl,hS.sel [0]⟩ hlt
    · replace h:=h.2 hp2;exact zf hp2 (zs (zM (ii r) (zQ (ii r) (yaa (yak rfl rfl ⟨_,rfl,hS.sel [],h⟩)))))
  · replace h:=h.2 hp;refine zd hp (yax rfl (yaf (zs (zH H0 (zq (yaF (n:=l.length) rfl underlying93 (yaE (hS.rdr 0 rfl))) (zM (ii 0) (yaa (yai ?_))))))));obtain ⟨I3,⟨m0,h0⟩,hr⟩:=h;refine yaz (fun m E ds w'=>∃ v2,I3 m v2∧ds=[]∧E 0 = .slice Al ll cl∧E 22 = .slice Al ll cl∧E 23=(ii (l.length:Int))∧E 24=(ii v2)∧Sep w no O w' (rl [Res.ro (FP.sl (cL cI) Al ll cl l)])) m0 ⟨_,h0,rfl,H0,rfl,rfl,rfl,hS.sel [0]⟩ ?_;clear h0 hS;rintro m4 E ds w4 ⟨v2,h,rfl,H0,H22,H23,H24,hS⟩ again2;replace h:=hr m4 v2 h;clear hr;refine zs (zq (ydj H24 H23) (yaa (yaf ?_)));by_cases hp3:v2<(l.length:Int)
    · replace h:=h.1 hp3;refine zc hp3 (yag (yaf (yai (zs ?_))));obtain ⟨hx2,h⟩:=h;refine zq (ycI H22 H24 underlying93 ycm (yaP (hS.rdr 0 rfl) hx2)) ?_;obtain ⟨A2,l3,c4,hc2,hq⟩:=hS.el 0 rfl hx2 1 2 rfl rfl (by decide);replace hS:=hq;clear hq;refine zq (yau (v:=(.slice A2 l3 c4)) rfl underlying43 rfl (hS.clr 2 rfl)) (zQ (.slice A2 l3 c4) (yaa (zs (zM (.slice A2 l3 c4) (zq (yaF (n:=(gx l v2.toNat).length) rfl underlying43 (yaE (hS.rdr 1 rfl))) (zH H0 ?_))))));obtain ⟨hx3,h⟩:=h;refine zq (zi underlying93 ycm (yaP (hS.rdr 0 rfl) hx3)) ?_;obtain ⟨A3,l4,c5,hc3,hq⟩:=hS.el 0 rfl hx3 3 4 rfl rfl (by decide);replace hS:=hq;clear hq;refine zq (yau (v:=(.slice A3 l4 c5)) rfl underlying43 rfl (hS.clr 4 rfl)) (zq (yaF (n:=(gx l (0:Int).toNat).length) rfl underlying43 (yaE (hS.rdr 3 rfl))) (zq zN (yaa ?_)));by_cases hp4:((gx l v2.toNat).length:Int)=(((gx l (0:Int).toNat).length:Nat):Int)
      · replace h:=h.1 hp4;refine ze hp4 (yag (yah (zr ?_)));obtain ⟨hi2,h⟩:=h;refine zq (ybS H24 rfl hi2) (zM (ii (v2+1)) (yaa ?_));obtain ⟨mq,hlt,h⟩:=h;exact again2 mq _ _ _ ⟨_,h,rfl,H0,H22,H23,rfl,hS.sel [0]⟩ hlt
      · replace h:=h.2 hp4;exact zf hp4 (zs (zQ (ii 8) (yaa (yak rfl rfl ⟨_,rfl,hS.sel [],h⟩))))
    · replace h:=h.2 hp3;exact zd hp3 (yax rfl (zs (zQ (ii 0) (yaa (yak rfl rfl ⟨_,rfl,hS.sel [],h⟩)))))
def ych(d:List Int)(R:Int→Int→Prop):Prop :=
yeo ([d]) (fun r =>
((r=0 →
(∃ I2:Nat→Int→Int→Prop,(∃ m0,I2 m0 0 0)∧∀ m2 sum v,I2 m2 sum v → 
((v<(d.length:Int) →
((0≤v∧v<(d.length:Int)) ∧
(In64 (sum+(gi d v.toNat)) ∧
(In64 (v+1) ∧
∃ m3,m3<m2∧I2 m3 (sum+(gi d v.toNat)) (v+1))))) ∧
(¬(v<(d.length:Int)) →
R sum 0)))) ∧
(¬(r=0) →
R 0 r)))
theorem ygh{O:Nat→Prop}{w:World}{d Ad ld cd}{R:Int→Int→Prop}(h:ych d R)(hO:∀ k,O k→k<w.heap.size)(hA0:(FP.sl cI Ad ld cd d).P O w) :
    Calls Tryz.prog 86 #[.slice Ad ld cd] w fun e w'=>∃ r2 r3,e = .returned (.tuple #[ii r2,ii r3])∧Sep w no O w' (rl [])∧R r2 r3:=by
  unfold ych at h;have hS:Sep w no O w (rl [Res.ro (FP.sl cI Ad ld cd d)]):=Sep.startl hO [(FP.sl cI Ad ld cd d)] ⟨hA0,trivial⟩;refine yap (l:=[.slice Ad ld cd]) func86 rfl ntmps86 zY (zs (zQ (ii 0) (zQ (ii 0) (yaa (yaf (zs (zM (.slice Ad ld cd) (zn (yaX (l:=[(0,(.slice Ad ld cd))]) (cells:=[.slice Ad ld cd]) (bp1 rfl) underlying93 ycm rfl rfl ?_)))))))));intro g w2 hN;replace hS:=hS.lit (n:=1) (c:=(cL cI)) 1 rfl hN ([d]:List (List Int)) rfl (by decide) ⟨[.slice Ad ld cd],_,rfl,(ro_R (hS.ro 0 rfl)),rfl⟩;clear hN;refine zb (zn (yam rfl (am1 rfl) enter_128 ((pok_chips_own h (yaB _) (hS.rdo 1 rfl)).mono ?_)));rintro _ w3 ⟨r,rfl,hC,h⟩;replace hS:=hS.pur hC.pure;refine ⟨_,rfl,?_⟩;refine zb (zQ (ii r) (yaa (zs (zM (ii r) (zq zN (yaa ?_))))));by_cases hp:r=0
  · replace h:=h.1 hp;refine ze hp (yag (zs (zQ (ii 0) (yaa (yaf (zs (zM (.slice Ad ld cd) (zq (yaF (n:=d.length) rfl underlying43 (yaE (hS.rdr 0 rfl))) (zM (ii 0) (yaa (yai ?_)))))))))));obtain ⟨I2,⟨m0,h0⟩,hr⟩:=h;refine yaz (fun m E ds w'=>∃ sum v,I2 m sum v∧ds=[]∧E 5=(ii sum)∧E 14 = .slice Ad ld cd∧E 15=(ii (d.length:Int))∧E 16=(ii v)∧Sep w no O w' (rl [Res.ro (FP.sl cI Ad ld cd d)])) m0 ⟨_,_,h0,rfl,rfl,rfl,rfl,rfl,hS.sel [0]⟩ ?_;clear h0 hS;rintro m2 E ds w4 ⟨sum,v,h,rfl,H5,H14,H15,H16,hS⟩ ag;replace h:=hr m2 sum v h;clear hr;refine zs (zq (ydj H16 H15) (yaa (yaf ?_)));by_cases hp2:v<(d.length:Int)
    · replace h:=h.1 hp2;refine zc hp2 (yag (yaf (yai (zs ?_))));obtain ⟨hx,h⟩:=h;refine zq (ycI H14 H16 underlying43 yaj (yaP (hS.rdr 0 rfl) hx)) (zq (yau (v:=(ii (gi d v.toNat))) rfl underlying3 rfl (rd_1 (hS.rdr 0 rfl) hx (fun q=>yaY q) rfl)) ?_);refine zQ (ii (gi d v.toNat)) (yaa (zr (zH H5 (zM (ii (gi d v.toNat)) ?_))));obtain ⟨hi,h⟩:=h;refine zq (zA hi) (zQ (ii (sum+(gi d v.toNat))) (yaa (yah (zr ?_))));obtain ⟨hi2,h⟩:=h;refine zq (ybS H16 rfl hi2) (zM (ii (v+1)) (yaa ?_));obtain ⟨mq,hlt,h⟩:=h;exact ag mq _ _ _ ⟨_,_,h,rfl,rfl,H14,H15,rfl,hS.sel [0]⟩ hlt
    · replace h:=h.2 hp2;exact zd hp2 (yax rfl (zs (zH H5 (zQ (ii sum) (zQ (ii 0) (yaa (yaG rfl rfl rfl ⟨_,_,rfl,hS.sel [],h⟩)))))))
  · replace h:=h.2 hp;exact zf hp (zs (zM (ii r) (zQ (ii 0) (zQ (ii r) (yaa (yaG rfl rfl rfl ⟨_,_,rfl,hS.sel [],h⟩))))))
def ykc(g:Int)(g2:List E3)(R:Bool→Prop):Prop :=
yek g g2 5 7 (fun r =>
R r)
theorem ykt{O:Nat→Prop}{w:World}{g g2 Ag lg cg}{R:Bool→Prop}(h:ykc g g2 R)(hO:∀ k,O k→k<w.heap.size)(hA0:(FP.sl c3 Ag lg cg g2).P O w) :
    Calls Tryz.prog 23 #[(.agg #[ii g,.slice Ag lg cg])] w fun e w'=>∃ r2,e = .returned (.bool (r2))∧Sep w no O w' (rl [])∧R r2:=by
  unfold ykc at h;have hS:Sep w no O w (rl [Res.ro (FP.sl c3 Ag lg cg g2)]):=Sep.startl hO [(FP.sl c3 Ag lg cg g2)] ⟨hA0,trivial⟩;refine yap (l:=[(.agg #[ii g,.slice Ag lg cg])]) func23 rfl ntmps23 zY (zs (zn (ya8 (v:=(.agg #[ii g,.slice Ag lg cg])) rfl ?_)));intro g3 w2 hN;replace hS:=hS.neu 1 [ii g,.slice Ag lg cg] hN;clear hN;refine zb (zQ (.bool (false)) (yaa (zs (zq (yaq (vs:=[ii g,.slice Ag lg cg]) rfl underlying24 rfl yao ⟨hS.bc 1 0,hS.bc 1 1,trivial⟩) (zn (yam rfl (am3 rfl rfl rfl) enter_52 ((pok_r08_small h (yaB _) (hS.rdr 0 rfl)).mono ?_)))))));rintro _ w3 ⟨r,rfl,hC,h⟩;replace hS:=hS.pur hC.pure;refine ⟨_,rfl,?_⟩;exact zb (zQ (.bool (r)) (yaa (yak rfl rfl ⟨_,rfl,hS.sel [],h⟩)))
def ydq(g:Int)(g2:List E3)(most:Int)(R:Int→(List E3)→Int→Prop):Prop :=
ybK g g2 (fun r =>
((r=0 →
(∃ I2:Nat→Int→(List E3)→Prop,(∃ m0,I2 m0 0 ([]))∧∀ m2 v out,I2 m2 v out → 
((v<(g2.length:Int) →
((0≤v∧v<(g2.length:Int)) ∧
((((ge g2 v.toNat).1)=((ge g2 v.toNat).2.1) →
(In64 (v+1) ∧
∃ m3,m3<m2∧I2 m3 (v+1) out)) ∧
(¬(((ge g2 v.toNat).1)=((ge g2 v.toNat).2.1)) →
(out.length+1≤1000000000 ∧
(In64 (v+1) ∧
∃ m4,m4<m2∧I2 m4 (v+1) (out++[((ge g2 v.toNat).1,(ge g2 v.toNat).2.1,mnF ((ge g2 v.toNat).2.2) most)]))))))) ∧
(¬(v<(g2.length:Int)) →
R g out 0)))) ∧
(¬(r=0) →
R 0 ([]) r)))
theorem yij{O:Nat→Prop}{w:World}{g g2 most Ag lg cg}{R:Int→(List E3)→Int→Prop}(h:ydq g g2 most R)(hO:∀ k,O k→k<w.heap.size)(hA0:(FP.sl c3 Ag lg cg g2).P O w) :
    Calls Tryz.prog 151 #[(.agg #[ii g,.slice Ag lg cg]),ii most] w fun e w'=>∃ r2 r3 r4 Ar lr cr,e = .returned (.tuple #[(.agg #[ii r2,.slice Ar lr cr]),ii r4])∧Sep w no O w' (rl [Res.own c3 79 Ar lr cr r3])∧R r2 r3 r4:=by
  unfold ydq at h;have hS:Sep w no O w (rl [Res.ro (FP.sl c3 Ag lg cg g2)]):=Sep.startl hO [(FP.sl c3 Ag lg cg g2)] ⟨hA0,trivial⟩;refine yap (l:=[(.agg #[ii g,.slice Ag lg cg]),ii most]) func151 rfl ntmps151 zY (zs (zn (ya8 (v:=(.agg #[ii g,.slice Ag lg cg])) rfl ?_)));intro g3 w2 hN;replace hS:=hS.neu 1 [ii g,.slice Ag lg cg] hN;clear hN;refine zb (zn (yaO yao ?_));intro g4 w3 hN;replace hS:=hS.neu 2 [ii 0,.slice none 0 0] hN;clear hN;refine zb (zQ (ii 0) (yaa (yaf (zs (zq (yaq (vs:=[ii g,.slice Ag lg cg]) rfl underlying24 rfl yao ⟨hS.bc 1 0,hS.bc 1 1,trivial⟩) (zn (yam rfl (am1 rfl) yhI ((ydH h (yaB _) (hS.rdr 0 rfl)).mono ?_))))))));rintro _ w4 ⟨r,rfl,hC,h⟩;replace hS:=hS.pur hC.pure;refine ⟨_,rfl,?_⟩;refine zb (zQ (ii r) (yaa (zs (zM (ii r) (zq zN (yaa ?_))))));by_cases hp:r=0
  · replace h:=h.1 hp;refine ze hp (yag (zs (zq (yan rfl underlying24 rfl yaj) (zq (zl underlying3 (hS.bc 1 0)) (zn (yck (l:=[(0,(ii g))]) (cells:=[ii g,.slice none 0 0]) (places:=[(0,1),(1,1)]) (bp1 rfl) underlying24 yao (by kernel_rfl) rfl ?_))))));refine zb (zn (yaO yao ?_));intro g5 w5 hN;replace hS:=hS.neu 3 [ii 0,.slice none 0 0] hN;clear hN;refine zb (zo (yaV (b:=g5) (o:=0) (cells:=#[ii g,.slice none 0 0]) rfl rfl yao rfl rfl (yaI (hS.bx 3 rfl) zY) ?_));intro w6 e1;replace hS:=hS.bstn 3 rfl 0 [ii g,.slice none 0 0] e1;clear e1;refine zb (yaa (yaf (zs (zq (yan rfl underlying24 rfl ybv) (zq (zl underlying22 (hS.bc 1 1)) (zq (yaF (n:=g2.length) rfl underlying22 (yaE (hS.rdr 0 rfl))) (zM (ii 0) (yaa (yai ?_)))))))));replace hS:=hS.nil 4 rfl c3 79;obtain ⟨I2,⟨m0,h0⟩,hr⟩:=h;refine yaz (fun m E ds w'=>∃ v out Aa Ab Ac,I2 m v out∧ds=[]∧E 1=(ii most)∧E 4 = .pointer (some ⟨g4,0,none⟩)∧E 7 = .pointer (some ⟨g5,0,none⟩)∧E 20 = .slice Ag lg cg∧E 21=(ii (g2.length:Int))∧E 22=(ii v)∧Sep w no O w' (rl [Res.box 24 g4 [ii 0,.slice none 0 0],Res.box 24 g5 [ii g,.slice Aa Ab Ac],Res.own c3 79 Aa Ab Ac out,Res.ro (FP.sl c3 Ag lg cg g2)])) m0 ⟨_,_,_,_,_,h0,rfl,rfl,rfl,rfl,rfl,rfl,rfl,hS.sel [2,3,4,0]⟩ ?_;clear h0 hS;rintro m2 E ds w7 ⟨v,out,Aa,Ab,Ac,h,rfl,H1,H4,H7,H20,H21,H22,hS⟩ ag;replace h:=hr m2 v out h;clear hr;refine zs (zq (ydj H22 H21) (yaa (yaf ?_)));by_cases hp2:v<(g2.length:Int)
    · replace h:=h.1 hp2;refine zc hp2 (yag (yaf (yai (zs ?_))));obtain ⟨hx,h⟩:=h;refine zq (ycI H20 H22 underlying22 yaK (yaP (hS.rdr 3 rfl) hx)) (zq (yaq (vs:=[(ii ((ge g2 v.toNat).1)),(ii ((ge g2 v.toNat).2.1)),(ii ((ge g2 v.toNat).2.2))]) rfl underlying79 rfl yaK (rd_fs (hS.rdr 3 rfl) hx (fun q=>ydu q))) ?_);refine zn (yaO yaK ?_);intro g6 w8 hN;replace hS:=hS.neu 4 [ii 0,ii 0,ii 0] hN;clear hN;refine zb (zo (yaV (b:=g6) (o:=0) (cells:=#[(ii ((ge g2 v.toNat).1)),(ii ((ge g2 v.toNat).2.1)),(ii ((ge g2 v.toNat).2.2))]) rfl rfl yaK rfl rfl (yaI (hS.bx 4 rfl) zY) ?_));intro w9 e1;replace hS:=hS.bstn 4 rfl 0 [(ii ((ge g2 v.toNat).1)),(ii ((ge g2 v.toNat).2.1)),(ii ((ge g2 v.toNat).2.2))] e1;clear e1;refine zb (yaa (zs (zq (yan rfl underlying79 rfl yaj) (zq (zl underlying3 (hS.bc 4 0)) (zq (yan rfl underlying79 rfl yaj) (zq (zl underlying3 (hS.bc 4 1)) (zq zN (yaa ?_))))))));by_cases hp3:((ge g2 v.toNat).1)=((ge g2 v.toNat).2.1)
      · replace h:=h.1 hp3;refine ze hp3 (yag (yah (zr ?_)));obtain ⟨hi,h⟩:=h;refine zq (ybS H22 rfl hi) (zM (ii (v+1)) (yaa ?_));obtain ⟨mq,hlt,h⟩:=h;exact ag mq _ _ _ ⟨_,_,_,_,_,h,rfl,H1,H4,H7,H20,H21,rfl,hS.sel [0,1,2,3]⟩ hlt
      · replace h:=h.2 hp3;refine zf hp3 (zs (zq (yan rfl underlying79 rfl yaj) (zq (zl underlying3 (hS.bc 4 2)) (zH H1 (zq (yja rfl rfl) (zq (yan rfl underlying79 rfl yaj) (zo (zt (ii (mnF ((ge g2 v.toNat).2.2) most)) yaj (hS.bwr 4 rfl (j:=2) rfl) ?_))))))));intro w10 e1;replace hS:=hS.bst 4 rfl 2 (ii (mnF ((ge g2 v.toNat).2.2) most)) e1;clear e1;refine zb (yaa (zr (zq (yan H7 underlying24 rfl ybv) (zq (zl underlying22 (hS.bc 1 1)) (zq (yaq (vs:=[(ii ((ge g2 v.toNat).1)),(ii ((ge g2 v.toNat).2.1)),(ii (mnF ((ge g2 v.toNat).2.2) most))]) rfl underlying79 rfl yaK ⟨hS.bc 4 0,hS.bc 4 1,hS.bc 4 2,trivial⟩) (zn (yaX (l:=[(0,(.agg #[(ii ((ge g2 v.toNat).1)),(ii ((ge g2 v.toNat).2.1)),(ii (mnF ((ge g2 v.toNat).2.2) most))]))]) (cells:=[(ii ((ge g2 v.toNat).1)),(ii ((ge g2 v.toNat).2.1)),(ii (mnF ((ge g2 v.toNat).2.2) most))]) (bp1 rfl) underlying22 yaK rfl rfl ?_)))))));intro g7 w11 hN;replace hS:=hS.litf (n:=1) 5 rfl (fP (fI .i64) (fP (fI .i64) (fI .i64))) hN ([((ge g2 v.toNat).1,(ge g2 v.toNat).2.1,mnF ((ge g2 v.toNat).2.2) most)]:List E3) rfl (by decide) rfl;clear hN;refine zb ?_;obtain ⟨hx2,h⟩:=h;refine zn (ygp (c:=c3) rfl rfl underlying22 underlying22 yaK rfl rfl (by decide) hS 2 rfl (hS.yo 5 rfl) hx2 ?_);clear hS;intro A c w12 hS;refine zb (zq (yan H7 underlying24 rfl ybv) (zo (zt (.slice A (Ab+1) c) ybv (hS.bwr 1 rfl (j:=1) rfl) ?_)));intro w13 e1;replace hS:=hS.bst 1 rfl 1 (.slice A (Ab+1) c) e1;clear e1;refine zb (yaa (yah (zr ?_)));obtain ⟨hi2,h⟩:=h;refine zq (ybS H22 rfl hi2) (zM (ii (v+1)) (yaa ?_));obtain ⟨mq,hlt,h⟩:=h;exact ag mq _ _ _ ⟨_,_,_,_,_,h,rfl,H1,H4,H7,H20,H21,rfl,hS.sel [0,1,2,3]⟩ hlt
    · replace h:=h.2 hp2;refine zd hp2 (yax rfl (zs (zq (yaq (vs:=[ii g,.slice Aa Ab Ac]) H7 underlying24 rfl yao ⟨hS.bc 1 0,hS.bc 1 1,trivial⟩) (zo (yaV (b:=g4) (o:=0) (cells:=#[ii g,.slice Aa Ab Ac]) H4 rfl yao rfl rfl (yaI (hS.bx 0 rfl) zY) ?_)))));intro w14 e1;replace hS:=hS.bstn 0 rfl 0 [ii g,.slice Aa Ab Ac] e1;clear e1;exact zb (zQ (ii 0) (yaa (yg3 rfl (rv_n (vs:=[ii g,.slice Aa Ab Ac]) H4 underlying24 rfl yao ⟨hS.bc 0 0,hS.bc 0 1,trivial⟩) (rv_t rfl) ⟨_,_,_,_,_,_,rfl,hS.sel [2],h⟩)))
  · replace h:=h.2 hp;refine zf hp (zs (zn (yck (l:=[]) (cells:=[ii 0,.slice none 0 0]) (places:=[(0,1),(1,1)]) (bp0) underlying24 yao (by kernel_rfl) rfl ?_)));refine zb (zM (ii r) (zo (yaV (b:=g4) (o:=0) (cells:=#[ii 0,.slice none 0 0]) rfl rfl yao rfl rfl (yaI (hS.bx 2 rfl) zY) ?_)));intro w15 e1;replace hS:=hS.bstn 2 rfl 0 [ii 0,.slice none 0 0] e1;clear e1;refine zb (zQ (ii r) (yaa ?_));replace hS:=hS.nil 3 rfl c3 79;exact yg3 rfl (rv_n (vs:=[ii 0,.slice none 0 0]) rfl underlying24 rfl yao ⟨hS.bc 2 0,hS.bc 2 1,trivial⟩) (rv_t rfl) ⟨_,_,_,_,_,_,rfl,hS.sel [3],h⟩
def ycn(g:Int)(g2:List E3)(R:Int→(List E3)→Int→Prop):Prop :=
ydq g g2 50 (fun r r2 r3 =>
R r r2 r3)
theorem yhJ{O:Nat→Prop}{w:World}{g g2 Ag lg cg}{R:Int→(List E3)→Int→Prop}(h:ycn g g2 R)(hO:∀ k,O k→k<w.heap.size)(hA0:(FP.sl c3 Ag lg cg g2).P O w) :
    Calls Tryz.prog 123 #[(.agg #[ii g,.slice Ag lg cg])] w fun e w'=>∃ r4 r5 r6 Ar2 lr2 cr2,e = .returned (.tuple #[(.agg #[ii r4,.slice Ar2 lr2 cr2]),ii r6])∧Sep w no O w' (rl [Res.own c3 79 Ar2 lr2 cr2 r5])∧R r4 r5 r6:=by
  unfold ycn at h;have hS:Sep w no O w (rl [Res.ro (FP.sl c3 Ag lg cg g2)]):=Sep.startl hO [(FP.sl c3 Ag lg cg g2)] ⟨hA0,trivial⟩;refine yap (l:=[(.agg #[ii g,.slice Ag lg cg])]) func123 rfl ntmps123 zY (zs (zn (ya8 (v:=(.agg #[ii g,.slice Ag lg cg])) rfl ?_)));intro g3 w2 hN;replace hS:=hS.neu 1 [ii g,.slice Ag lg cg] hN;clear hN;refine zb (zn (yaO yao ?_));intro g4 w3 hN;replace hS:=hS.neu 2 [ii 0,.slice none 0 0] hN;clear hN;refine zb (zQ (ii 0) (yaa (zs (zq (yaq (vs:=[ii g,.slice Ag lg cg]) rfl underlying24 rfl yao ⟨hS.bc 1 0,hS.bc 1 1,trivial⟩) (zn (yam rfl (am2 rfl rfl) enter_151 ((yij h (yaB _) (hS.rdr 0 rfl)).mono ?_)))))));rintro _ w4 ⟨r,r2,r3,Ar,lr,cr,rfl,hC,h⟩;replace hS:=hS.call1 (hC.widen (yde (ya0 (fP (fI .i64) (fP (fI .i64) (fI .i64))) _ _ _ _ _) ydA) hS.blt) 3 0 rfl;clear hC;refine ⟨_,rfl,?_⟩;refine zb (zq (zx (.agg #[ii r,.slice Ar lr cr])) (zq (zx (ii r3)) (zo (yaV (b:=g4) (o:=0) (cells:=#[ii r,.slice Ar lr cr]) rfl rfl yao rfl rfl (yaI (hS.bx 2 rfl) zY) ?_))));intro w5 e1;replace hS:=hS.bstn 2 rfl 0 [ii r,.slice Ar lr cr] e1;clear e1;exact zb (zQ (ii r3) (yaa (yg3 rfl (rv_n (vs:=[ii r,.slice Ar lr cr]) rfl underlying24 rfl yao ⟨hS.bc 2 0,hS.bc 2 1,trivial⟩) (rv_t rfl) ⟨_,_,_,_,_,_,rfl,hS.sel [3],h⟩)))
def ycA(g:Int)(g2:List E3)(R:Prop):Prop :=
R
theorem yd1{O:Nat→Prop}{w:World}{g g2 Ag lg cg}{R:Prop}(h:ycA g g2 R)(hO:∀ k,O k→k<w.heap.size)(hA0:(FP.sl c3 Ag lg cg g2).P O w) :
    Calls Tryz.prog 111 #[(.agg #[ii g,.slice Ag lg cg])] w fun e w'=>∃ gr,e = .returned (.func (Fn.func 140) #[] #[(.pointer (some ⟨gr,0,none⟩))])∧Sep w no O w' (rl [Res.box 24 gr [ii g,.slice Ag lg cg]])∧R:=by
  unfold ycA at h;have hS:Sep w no O w (rl [Res.ro (FP.sl c3 Ag lg cg g2)]):=Sep.startl hO [(FP.sl c3 Ag lg cg g2)] ⟨hA0,trivial⟩;refine yap (l:=[(.agg #[ii g,.slice Ag lg cg])]) func111 rfl ntmps111 zY (zs (zn (ya8 (v:=(.agg #[ii g,.slice Ag lg cg])) rfl ?_)));intro g3 w2 hN;replace hS:=hS.neu 1 [ii g,.slice Ag lg cg] hN;clear hN;exact zb (zQ Value.nilFunc (yaa (zs (zq (yeZ (am0) (am1 rfl)) (zQ (.func (Fn.func 140) #[] #[(.pointer (some ⟨g3,0,none⟩))]) (yaa (yak rfl rfl ⟨_,rfl,hS.sel [1],h⟩)))))))
def ybk(cap:Int)(cap2:List E3)(Pr R:List E3→Prop):Prop :=
(∃ I2:Nat→(List E3)→Int→Int→Prop,(∃ m0,I2 m0 ([]) 0 0)∧∀ m2 pre2 e2 v,I2 m2 pre2 e2 v → 
((v<(cap2.length:Int) →
((0≤v∧v<(cap2.length:Int)) ∧
(∃ I3:Nat→(List E3)→Int→Int→Prop,(∃ m0,I3 m0 pre2 e2 0)∧∀ m3 pre3 e3 v2,I3 m3 pre3 e3 v2 → 
((v2<((ge cap2 v.toNat).2.2) →
(Pr (pre3++[(e3,(ge cap2 v.toNat).1,(ge cap2 v.toNat).2.1)]) ∧
((In64 (e3+1) ∧
(In64 (v2+1) ∧
∃ m4,m4<m3∧I3 m4 (pre3++[(e3,(ge cap2 v.toNat).1,(ge cap2 v.toNat).2.1)]) (e3+1) (v2+1))) ∧
True))) ∧
(¬(v2<((ge cap2 v.toNat).2.2)) →
(In64 (v+1) ∧
∃ m5,m5<m2∧I2 m5 pre3 e3 (v+1))))))) ∧
(¬(v<(cap2.length:Int)) →
R pre2)))
theorem ydt{w:World}{T0 G0:BS}{cap cap2 gc Aa Ab Ac}{Pr R:List E3→Prop}(h:ybk cap cap2 Pr R)(hS0:Sep w G0 T0 w (rl [Res.box 24 gc [(Value.int .i64 cap),(Value.slice Aa Ab Ac)],Res.ro (FP.sl c3 Aa Ab Ac cap2)])) :
    yjd Tryz.prog 140 #[(.pointer (some ⟨gc,0,none⟩))] (fun (x:E3)=>#[(ii x.1),(.agg #[(ii x.2.1),(ii x.2.2)])]) (fun _=>FP.tt) Pr R T0 G0 w:=by
  unfold ybk at h;intro l J Jx T1 w1 hs hJ hp hT;obtain ⟨G,hJ,hS⟩:=gen_start hS0 hs hJ hp hT;clear hS0 hp hT;refine yhi (l:=[(.func (.yield l) #[] #[]),(.pointer (some ⟨gc,0,none⟩))]) func140 rfl ntmps140 zY rfl (zs (zQ (ii 0) (yaa (zs (zq (yan rfl underlying24 rfl ybv) (zq (zl underlying22 (hS.bc 0 1)) (zq (yaF (n:=cap2.length) rfl underlying22 (yaE (hS.rdr 1 rfl))) (zM (ii 0) (yaa (yai ?_))))))))));obtain ⟨I2,⟨m0,h0⟩,hr⟩:=h;refine yaz (fun m E ds w'=>∃ pre2 e2 v,∃ T2:BS,∃ G2:BS,∃ wb2:World,I2 m pre2 e2 v∧ds=[]∧E 0 = .func (.yield l) #[] #[]∧E 3=(ii e2)∧E 7 = .slice Aa Ab Ac∧E 8=(ii (cap2.length:Int))∧E 9=(ii v)∧J T2 G2 pre2 wb2∧Sep wb2 G2 T2 w' (rl [Res.ro (FP.sl c3 Aa Ab Ac cap2)])) m0 ⟨_,_,_,_,_,_,h0,rfl,rfl,rfl,rfl,rfl,rfl,hJ,hS.sel [1]⟩ ?_;clear h0 hS hJ;rintro m2 E ds w2 ⟨pre2,e2,v,T2,G2,wb2,h,rfl,H0,H3,H7,H8,H9,hJ,hS⟩ ag;replace h:=hr m2 pre2 e2 v h;clear hr;refine zs (zq (ydj H9 H8) (yaa (yaf ?_)));by_cases hp:v<(cap2.length:Int)
  · replace h:=h.1 hp;refine zc hp (yag (yaf (yai (zs ?_))));obtain ⟨hx,h⟩:=h;refine zq (ycI H7 H9 underlying22 yaK (yaP (hS.rdr 0 rfl) hx)) (zq (yaq (vs:=[(ii ((ge cap2 v.toNat).1)),(ii ((ge cap2 v.toNat).2.1)),(ii ((ge cap2 v.toNat).2.2))]) rfl underlying79 rfl yaK (rd_fs (hS.rdr 0 rfl) hx (fun q=>ydu q))) ?_);refine zn (yaO yaK ?_);intro g w3 hN;replace hS:=hS.neu 1 [ii 0,ii 0,ii 0] hN;clear hN;refine zb (zo (yaV (b:=g) (o:=0) (cells:=#[(ii ((ge cap2 v.toNat).1)),(ii ((ge cap2 v.toNat).2.1)),(ii ((ge cap2 v.toNat).2.2))]) rfl rfl yaK rfl rfl (yaI (hS.bx 1 rfl) zY) ?_));intro w4 e1;replace hS:=hS.bstn 1 rfl 0 [(ii ((ge cap2 v.toNat).1)),(ii ((ge cap2 v.toNat).2.1)),(ii ((ge cap2 v.toNat).2.2))] e1;clear e1;refine zb (yaa (zs (zq (yan rfl underlying79 rfl yaj) (zq (zl underlying3 (hS.bc 1 2)) (zM (ii 0) (yaa (yai ?_)))))));obtain ⟨I3,⟨m0,h0⟩,hr⟩:=h;refine yaz (fun m E ds w'=>∃ pre3 e3 v2,∃ T3:BS,∃ G3:BS,∃ wb3:World,I3 m pre3 e3 v2∧ds=[]∧E 0 = .func (.yield l) #[] #[]∧E 3=(ii e3)∧E 5 = .pointer (some ⟨g,0,none⟩)∧E 7 = .slice Aa Ab Ac∧E 8=(ii (cap2.length:Int))∧E 9=(ii v)∧E 14=(ii ((ge cap2 v.toNat).2.2))∧E 15=(ii v2)∧J T3 G3 pre3 wb3∧Sep wb3 G3 T3 w' (rl [Res.box 79 g [(ii ((ge cap2 v.toNat).1)),(ii ((ge cap2 v.toNat).2.1)),(ii ((ge cap2 v.toNat).2.2))],Res.ro (FP.sl c3 Aa Ab Ac cap2)])) m0 ⟨_,_,_,_,_,_,h0,rfl,H0,H3,rfl,H7,H8,H9,rfl,rfl,hJ,hS.sel [1,0]⟩ ?_;clear h0 hS hJ;rintro m3 E ds w5 ⟨pre3,e3,v2,T3,G3,wb3,h,rfl,H0,H3,H5,H7,H8,H9,H14,H15,hJ,hS⟩ again2;replace h:=hr m3 pre3 e3 v2 h;clear hr;refine zs (zq (ydj H15 H14) (yaa (yaf ?_)));by_cases hp2:v2<((ge cap2 v.toNat).2.2)
    · replace h:=h.1 hp2;refine zc hp2 (yag (yaf (yai (yaf (zs (zH H0 (zH H3 (zq (yan H5 underlying79 rfl yaj) (zq (zl underlying3 (hS.bc 0 0)) (zq (yan H5 underlying79 rfl yaj) (zq (zl underlying3 (hS.bc 0 1)) (zn (yck (l:=[(0,(ii ((ge cap2 v.toNat).1))),(1,(ii ((ge cap2 v.toNat).2.1)))]) (cells:=[(ii ((ge cap2 v.toNat).1)),(ii ((ge cap2 v.toNat).2.1))]) (places:=[(0,1),(1,1)]) (bp2 rfl rfl) underlying133 ybl (by kernel_rfl) rfl ?_)))))))))))));refine zb ?_;obtain ⟨hPr,hyes,hno⟩:=h;refine zn (n_yield (m:=1) rfl (am2 rfl rfl) (gen_yield (x:=(e3,(ge cap2 v.toNat).1,(ge cap2 v.toNat).2.1)) hs hJ hS hPr trivial ?_ ?_))
      · clear hno hJ hS;have h:=hyes;clear hyes;intro T4 w6 hJ hS;generalize OwnB _=G4 at hJ hS;refine ⟨_,rfl,?_⟩;refine zb (zq (ycX rfl) (yaa (yat (zC (zB rfl)) (yag (zr (zH H3 ?_))))));obtain ⟨hi,h⟩:=h;refine zq (zA hi) (zQ (ii (e3+1)) (yaa (yah (zr ?_))));obtain ⟨hi2,h⟩:=h;refine zq (ybS H15 rfl hi2) (zM (ii (v2+1)) (yaa ?_));obtain ⟨mq,hlt,h⟩:=h;exact again2 mq _ _ _ ⟨_,_,_,_,_,_,h,rfl,H0,rfl,H5,H7,H8,H9,H14,rfl,hJ,hS.sel [0,1]⟩ hlt
      · clear hyes hJ hS;have h:=hno;clear hno;intro T5 w7 hJ hS;generalize OwnB _=G5 at hJ hS;refine ⟨_,rfl,?_⟩;exact zb (zq (ycX rfl) (yaa (yar (zC (zB rfl)) (wt_ret0 rfl ⟨⟨_,rfl⟩,gen_endx hs hJ hS⟩))))
    · replace h:=h.2 hp2;refine zd hp2 (yax rfl (yah (zr ?_)));obtain ⟨hi3,h⟩:=h;refine zq (ybS H9 rfl hi3) (zM (ii (v+1)) (yaa ?_));obtain ⟨mq,hlt,h⟩:=h;exact ag mq _ _ _ ⟨_,_,_,_,_,_,h,rfl,H0,H3,H7,H8,rfl,hJ,hS.sel [1]⟩ hlt
  · replace h:=h.2 hp;exact zd hp (yax rfl (yhj rfl ⟨⟨_,rfl⟩,gen_end hs hJ hS h⟩))
def ybp(f:List Int)(v:Int)(R:Int→Prop):Prop :=
(∃ I2:Nat→Int→Prop,(∃ m0,I2 m0 v)∧∀ m2 v2,I2 m2 v2 → 
((0≤v2∧v2<12) ∧
(((gi f v2.toNat)=v2 →
R v2) ∧
(¬((gi f v2.toNat)=v2) →
∃ m3,m3<m2∧I2 m3 (gi f v2.toNat)))))
theorem yej{S O:Nat→Prop}{w:World}{f v gc}{R:Int→Prop}(h:ybp f v R)(hS:Sep w S O w (rl [Res.own cI 179 (some ⟨gc,0,none⟩) 12 12 f])) :
    Calls Tryz.prog 152 #[(.pointer (some ⟨gc,0,none⟩)),ii v] w fun e w'=>∃ r,e = .returned (ii r)∧Sep w S O w' (rl [Res.own cI 179 (some ⟨gc,0,none⟩) 12 12 f])∧R r:=by
  unfold ybp at h;refine yap (l:=[(.pointer (some ⟨gc,0,none⟩)),ii v]) func152 rfl ntmps152 zY (zs (zQ (ii 0) (yaa (yaf (yai ?_)))));obtain ⟨I2,⟨m0,h0⟩,hr⟩:=h;refine yaz (fun m E ds w'=>∃ v2,I2 m v2∧ds=[]∧E 0 = .pointer (some ⟨gc,0,none⟩)∧E 1=(ii v2)∧Sep w S O w' (rl [Res.own cI 179 (some ⟨gc,0,none⟩) 12 12 f])) m0 ⟨_,h0,rfl,rfl,rfl,hS.sel [0]⟩ ?_;clear h0 hS;rintro m2 E ds w2 ⟨v2,h,rfl,H0,H1,hS⟩ ag;replace h:=hr m2 v2 h;clear hr;refine yaf (zs (zq (yad (v:=(.pointer (some ⟨gc,0,none⟩))) H0) (zH H1 (zq (ybU rfl) ?_))));obtain ⟨hx,h⟩:=h;have hy:=arr_ix (hS.rdo 0 rfl) hx;refine zq (yi6 rfl rfl underlying179 yaj hx) (zq (yau (v:=(ii (gi f v2.toNat))) rfl underlying3 rfl (rd_1 (hS.rdo 0 rfl) hy (fun q=>yaY q) rfl)) ?_);refine zH H1 (zq zN (yaa ?_));by_cases hp:(gi f v2.toNat)=v2
  · replace h:=h.1 hp;exact ze hp (yax rfl (zs (zH H1 (zQ (ii v2) (yaa (yak rfl rfl ⟨_,rfl,hS.sel [0],h⟩))))))
  · replace h:=h.2 hp;refine zf hp (yag (yai (zr (zq (yad (v:=(.pointer (some ⟨gc,0,none⟩))) H0) (zH H1 (zq (ybU rfl) ?_))))));have hy2:=arr_ix (hS.rdo 0 rfl) hx;refine zq (yi6 rfl rfl underlying179 yaj hx) (zq (yau (v:=(ii (gi f v2.toNat))) rfl underlying3 rfl (rd_1 (hS.rdo 0 rfl) hy2 (fun q=>yaY q) rfl)) ?_);refine zQ (ii (gi f v2.toNat)) (yaa (yah ?_));obtain ⟨mq,hlt,h⟩:=h;exact ag mq _ _ _ ⟨_,h,rfl,H0,rfl,hS.sel [0]⟩ hlt
def ydl(g:Int)(g2:List E3)(R:Int→Int→Prop):Prop :=
ybK g g2 (fun r =>
((r=0 →
(∃ I2:Nat→Int→(List Int)→Prop,(∃ m0,I2 m0 0 (List.replicate 12 (0:Int)))∧∀ m2 v f,I2 m2 v f → 
((v<12 →
((0≤v∧v<12) ∧
(In64 (v+1) ∧
∃ m3,m3<m2∧I2 m3 (v+1) (f.set v.toNat v)))) ∧
(¬(v<12) →
ycA g g2 ((∃ Pr Rr:List E3→Prop,ybk g g2 Pr Rr ∧
(∃ I3:List E3→(List Int)→Int→Prop,I3 [] f 0 ∧
(∀ pre y y2 y3 f2 genus,I3 pre f2 genus→Pr (pre++[(y,y2,y3)]) →
ybp f2 y2 (fun r2 =>
ybp f2 y3 (fun r3 =>
(∃ J2:Int→Prop,(∀ (genus2:Int),J2 genus2→((0≤(mxF r2 r3)∧(mxF r2 r3)<12) ∧
I3 (pre++[(y,y2,y3)]) (f2.set (mxF r2 r3).toNat (mnF r2 r3)) genus2)) ∧
((r2=r3 →
(In64 (genus+1) ∧
J2 (genus+1))) ∧
(¬(r2=r3) →
J2 genus)))))) ∧
(∀ ys f2 genus,I3 ys f2 genus→Rr ys →
R genus 0)))))))) ∧
(¬(r=0) →
R 0 r)))
theorem yjU{O:Nat→Prop}{w:World}{g g2 Ag lg cg}{R:Int→Int→Prop}(h:ydl g g2 R)(hO:∀ k,O k→k<w.heap.size)(hA0:(FP.sl c3 Ag lg cg g2).P O w) :
    Calls Tryz.prog 124 #[(.agg #[ii g,.slice Ag lg cg])] w fun e w'=>∃ r4 r5,e = .returned (.tuple #[ii r4,ii r5])∧Sep w no O w' (rl [])∧R r4 r5:=by
  unfold ydl at h;have hS:Sep w no O w (rl [Res.ro (FP.sl c3 Ag lg cg g2)]):=Sep.startl hO [(FP.sl c3 Ag lg cg g2)] ⟨hA0,trivial⟩;refine yei (l:=[(.agg #[ii g,.slice Ag lg cg])]) func124 rfl ntmps124 zY (zs (zn (ya8 (v:=(.agg #[ii g,.slice Ag lg cg])) rfl ?_)));intro g3 w2 hN;replace hS:=hS.neu 1 [ii g,.slice Ag lg cg] hN;clear hN;refine zb (zQ (ii 0) (zQ (ii 0) (yaa (yaf (zs (zq (yaq (vs:=[ii g,.slice Ag lg cg]) rfl underlying24 rfl yao ⟨hS.bc 1 0,hS.bc 1 1,trivial⟩) (zn (yam rfl (am1 rfl) yhI ((ydH h (yaB _) (hS.rdr 0 rfl)).mono ?_)))))))));rintro _ w3 ⟨r,rfl,hC,h⟩;replace hS:=hS.pur hC.pure;refine ⟨_,rfl,?_⟩;refine zb (zQ (ii r) (yaa (zs (zM (ii r) (zq zN (yaa ?_))))));by_cases hp:r=0
  · replace h:=h.1 hp;refine ze hp (yag (zs (zn (yaO info_179 ?_))));intro g4 w4 hN;replace hS:=hS.made (n:=12) 2 rfl cI (ii 0) (0:Int) (fun _ _=>rfl) (hN:New _ _ _ (Array.replicate 12 (ii 0)) 179) (by decide);clear hN;refine zb (yaa (yaf (zs (zM (ii 0) (yaa (yai ?_))))));obtain ⟨I2,⟨m0,h0⟩,hr⟩:=h;refine yaz (fun m E ds w'=>∃ v f,I2 m v f∧ds=[]∧E 1 = .pointer (some ⟨g3,0,none⟩)∧E 5 = .pointer (some ⟨g4,0,none⟩)∧E 17=(ii v)∧Sep w no O w' (rl [Res.box 24 g3 [ii g,.slice Ag lg cg],Res.ro (FP.sl c3 Ag lg cg g2),Res.own cI 179 (some ⟨g4,0,none⟩) 12 12 f])) m0 ⟨_,_,h0,rfl,rfl,rfl,rfl,hS.sel [1,0,2]⟩ ?_;clear h0 hS;rintro m2 E ds w5 ⟨v,f,h,rfl,H1,H5,H17,hS⟩ ag;replace h:=hr m2 v f h;clear hr;refine zs (zq (ydj H17 rfl) (yaa (yaf ?_)));by_cases hp2:v<12
    · replace h:=h.1 hp2;refine zc hp2 (yag (yaf (yai (zs (zH H17 (zQ (ii v) (yaa (zr (zM (ii v) (zM (ii v) ?_))))))))));obtain ⟨hx,h⟩:=h;have hy:=arr_ix (hS.rdo 2 rfl) hx;refine zq (yi6 H5 rfl underlying179 yaj hx) (zo (zt (ii v) yaj (hS.wr 2 rfl rfl hy) ?_));intro w6 e1;replace hS:=hS.st 2 rfl rfl hy (x:=v) rfl e1;clear e1;refine zb (yaa (yah (zr ?_)));obtain ⟨hi,h⟩:=h;refine zq (ybS H17 rfl hi) (zM (ii (v+1)) (yaa ?_));obtain ⟨mq,hlt,h⟩:=h;exact ag mq _ _ _ ⟨_,_,h,rfl,H1,H5,rfl,hS.sel [0,1,2]⟩ hlt
    · replace h:=h.2 hp2;refine zd hp2 (yax rfl (zs (zn (yaO yaj ?_))));intro g5 w7 hN;replace hS:=hS.neu 3 [ii 0] hN;clear hN;refine zb (zo (zt (ii 0) yaj (hS.bwr 3 rfl (j:=0) rfl) ?_));intro w8 e1;replace hS:=hS.bst 3 rfl 0 (ii 0) e1;clear e1;refine zb (yaa (yaf (zs (zq (yaq (vs:=[ii g,.slice Ag lg cg]) H1 underlying24 rfl yao ⟨hS.bc 0 0,hS.bc 0 1,trivial⟩) (zn (yam rfl (am1 rfl) yjH ((yd1 h hS.blt (hS.ro 1 rfl)).mono ?_)))))));rintro _ w9 ⟨gc,rfl,hC,h⟩;replace hS:=hS.call1 hC 4 0 rfl;clear hC;refine ⟨_,rfl,?_⟩;refine zb (yaa (yai ?_));obtain ⟨Pr,Rr,hgp,I3,h0,hb,h⟩:=h;refine yiN hS [2,3] [4,1] (by decide) (by decide) ⟨.inl (by decide), .inr rfl,trivial⟩ rfl yjf (val:=(fun (x:E3)=>#[(ii x.1),(.agg #[(ii x.2.1),(ii x.2.2)])])) (pass:=(fun _=>FP.tt)) (Pr:=Pr) (R:=Rr) (fun _=>rfl) rfl (fun pr LL=>∃ f2 genus,I3 pr f2 genus∧LL=[Res.own cI 179 (some ⟨g4,0,none⟩) 12 12 f2,Res.box 3 g5 [ii genus]]) (fun _ _ _=>False) ⟨_,_,h0,rfl⟩ (fun T G hG=>ydt hgp hG) ?_ ?_ (fun _ _ _ _ _ hx=>hx.elim)
      · clear h h0 hS hgp;rintro ll rdy busy S O2 pre ⟨y,y2,y3⟩ w10 _ ⟨f2,genus,hI,rfl⟩ hPr hpass hS;have h:=hb pre y y2 y3 f2 genus hI hPr;clear hb hI hPr;clear hpass;refine yay (ya7 ll) (zn (yaO ybl ?_));intro g6 w12 hN;replace hS:=hS.neu 3 [ii 0,ii 0] hN;clear hN;refine zb (zo (yaV (b:=g6) (o:=0) (cells:=#[ii y2,ii y3]) rfl rfl ybl rfl rfl (yaI (hS.bx 3 rfl) zY) ?_));intro w13 e1;replace hS:=hS.bstn 3 rfl 0 [ii y2,ii y3] e1;clear e1;refine zb (yaa (ycO fun a ra=>⟨rfl,_,_,ra,hS,⟨2,rfl⟩,?_⟩));intro w14 hw;replace hS:=hS.flip 2 rfl busy hw;clear hw ra a;refine yai (yaf (yaT [0,1,3,4,2,5,6,7] (fun i=>match i with | 2=>[3,4] | _=>[]) (ya7 ll) (by kernel_rfl) (by kernel_rfl) ?_));replace hS:=hS.drew;refine zp (yan rfl underlying133 rfl yaj) (zp (zl underlying3 (hS.bc 3 0)) (zp (yan rfl underlying133 rfl yaj) (zp (zl underlying3 (hS.bc 3 1)) ?_)));have hB:=hS.lend (asc [(0,0)]) [0] (by decide) ⟨.inl (ybE rfl),trivial⟩;refine rp_n rfl rfl rfl rfl (ydx (vs:=#[(.pointer (some ⟨g4,0,none⟩)),ii y2]) (us:=#[]) rfl (am2 H5 rfl) enter_152 ((ya4 (by simp) (yej h hB)).mono ?_));rintro _ w15 ⟨r2,rfl,hC,h⟩;replace hS:=hS.back (asc [(0,0)]) (yey (by decide)) hC;clear hC hB;refine ⟨_,rfl,?_⟩;refine ⟨⟨fun _=>(zl underlying3 (hS.bc 3 1)),⟨fun _=>(yan rfl underlying133 rfl yaj),⟨fun hh=>zZ hh,⟨fun hh=>zZ hh,trivial⟩⟩⟩⟩,?_⟩;have hB:=hS.lend (asc [(0,0)]) [0] (by decide) ⟨.inl (ybE rfl),trivial⟩;refine rp_n rfl rfl rfl rfl (ydx (vs:=#[(.pointer (some ⟨g4,0,none⟩)),ii y3]) (us:=#[]) rfl (am2 H5 rfl) enter_152 ((ya4 (by simp) (yej h hB)).mono ?_));rintro _ w16 ⟨r3,rfl,hC,h⟩;replace hS:=hS.back (asc [(0,0)]) (yey (by decide)) hC;clear hC hB;refine ⟨_,rfl,?_⟩;refine zb (zp (za (ii r2)) (zp (za (ii r3)) (yaZ (yaf (yaf (yay (ya7 ll) (zM (ii r2) (zM (ii r3) (zq zE (yaa ?_))))))))));obtain ⟨J2,hJ,h⟩:=h;refine yi2 (fun E ds w'=>∃ genus2,J2 genus2∧ds=[]∧E 5 = .pointer (some ⟨g4,0,none⟩)∧E 7 = .pointer (some ⟨g5,0,none⟩)∧E 10=(ii r2)∧E 11=(ii r3)∧Sep w10 S O2 w' (rl [Res.obj ll busy,Res.own cI 179 (some ⟨g4,0,none⟩) 12 12 f2,Res.box 3 g5 [ii genus2]])) ?_ ?_
        · clear h hS;rintro E ds w17 ⟨genus2,h,rfl,H5,H7,H10,H11,hS⟩;replace h:=hJ genus2 h;refine yay (ya7 ll) (zH H10 (zH H11 (zq (v_max2 rfl rfl) (zH H10 (zH H11 (zq (yja rfl rfl) ?_))))));obtain ⟨hx2,h⟩:=h;have hy2:=arr_ix (hS.rdo 1 rfl) hx2;refine zq (yi6 H5 rfl underlying179 yaj hx2) (zo (zt (ii (mnF r2 r3)) yaj (hS.wr 1 rfl rfl hy2) ?_));intro w18 e1;replace hS:=hS.st 1 rfl rfl hy2 (x:=mnF r2 r3) rfl e1;clear e1;exact zb (yaa (yah (ycO fun a r=>⟨_,⟨_,_,h,rfl⟩,hS.sel [1,2,0]⟩)))
        clear hJ;intro j;by_cases hp3:r2=r3
        · replace h:=h.1 hp3;refine zc hp3 (yay (ya7 ll) (zq (zl underlying3 (hS.bc 1 0)) ?_));obtain ⟨hi2,h⟩:=h;refine zq (zA hi2) (zo (zt (ii (genus+1)) yaj (hS.bwr 1 rfl (j:=0) rfl) ?_));intro w19 e1;replace hS:=hS.bst 1 rfl 0 (ii (genus+1)) e1;clear e1;exact zb (yaa (j _ _ _ ⟨_,h,rfl,H5,rfl,rfl,rfl,hS.sel [2,0,1]⟩))
        · replace h:=h.2 hp3;exact zd hp3 (yag (j _ _ _ ⟨_,h,rfl,H5,rfl,rfl,rfl,hS.sel [2,0,1]⟩))
      · clear hb h0 hS hgp;rintro D ys w11 _ hRr ⟨f2,genus,hI,rfl⟩ hS;replace h:=h ys f2 genus hI hRr;clear hI hRr;exact yah (zs (zq (zl underlying3 (hS.bc 1 0)) (zQ (ii genus) (zQ (ii 0) (yaa (yfd (rs:=[D]) (by simp) (hS.marked 2 rfl) rfl rfl rfl (fun w9 hk=>⟨_,_,rfl,(hS.unmark [2] [] (by decide) (by decide) (yh8 2 rfl) hk),h⟩)))))))
  · replace h:=h.2 hp;exact zf hp (zs (zM (ii r) (zQ (ii 0) (zQ (ii r) (yaa (yfd (rs:=[]) (by simp) (by simp) rfl rfl rfl (fun w9 hk=>⟨_,_,rfl,(hS.unmark [] [] (by decide) (by decide) (by simp) hk),h⟩)))))))
def ydF(d:List Int)(R:Bool→(List Int)→Prop):Prop :=
(In64 ((d.length:Int)-1) ∧
(∃ I2:Nat→Int→Prop,(∃ m0,I2 m0 ((d.length:Int)-1))∧∀ m2 j,I2 m2 j → 
((0<j →
((0≤j∧j<(d.length:Int)) ∧
(((gi d j.toNat)=0 →
(In64 (j-1) ∧
∃ m3,m3<m2∧I2 m3 (j-1))) ∧
(¬((gi d j.toNat)=0) →
((j=0 →
R false d) ∧
(¬(j=0) →
(In64 ((gi d j.toNat)-1) ∧
(In64 (j-1) ∧
((0≤(j-1)∧(j-1)<((d.set j.toNat 0).length:Int)) ∧
(In64 ((gi (d.set j.toNat 0) (j-1).toNat)+1) ∧
((0≤((d.length:Int)-1)∧((d.length:Int)-1)<((((d.set j.toNat 0).set (j-1).toNat ((gi (d.set j.toNat 0) (j-1).toNat)+1)).length:Nat):Int)) ∧
R true (((d.set j.toNat 0).set (j-1).toNat ((gi (d.set j.toNat 0) (j-1).toNat)+1)).set ((d.length:Int)-1).toNat ((gi d j.toNat)-1))))))))))))) ∧
(¬(0<j) →
((j=0 →
R false d) ∧
(¬(j=0) →
((0≤j∧j<(d.length:Int)) ∧
(In64 ((gi d j.toNat)-1) ∧
(In64 (j-1) ∧
((0≤(j-1)∧(j-1)<((d.set j.toNat 0).length:Int)) ∧
(In64 ((gi (d.set j.toNat 0) (j-1).toNat)+1) ∧
((0≤((d.length:Int)-1)∧((d.length:Int)-1)<((((d.set j.toNat 0).set (j-1).toNat ((gi (d.set j.toNat 0) (j-1).toNat)+1)).length:Nat):Int)) ∧
R true (((d.set j.toNat 0).set (j-1).toNat ((gi (d.set j.toNat 0) (j-1).toNat)+1)).set ((d.length:Int)-1).toNat ((gi d j.toNat)-1))))))))))))))
theorem pok_chips_step{S O:Nat→Prop}{w:World}{d Ad ld cd}{R:Bool→(List Int)→Prop}(h:ydF d R)(hS:Sep w S O w (rl [Res.own cI 3 Ad ld cd d])) :
    Calls Tryz.prog 146 #[.slice Ad ld cd] w fun e w'=>∃ r z,e = .returned (.bool (r))∧Sep w S O w' (rl [Res.own cI 3 Ad ld cd z])∧R r z:=by
  unfold ydF at h;refine yap (l:=[.slice Ad ld cd]) func146 rfl ntmps146 zY (zs (zQ (.bool (false)) (yaa (zs (zM (.slice Ad ld cd) (zq (yaF (n:=d.length) rfl underlying43 (yaE (hS.rdo 0 rfl))) ?_))))));obtain ⟨hi,h⟩:=h;refine zq (zS hi) (zQ (ii ((d.length:Int)-1)) (yaa (zs (zM (ii ((d.length:Int)-1)) (zQ (ii ((d.length:Int)-1)) (yaa (yaf (yai ?_))))))));obtain ⟨I2,⟨m0,h0⟩,hr⟩:=h;refine yaz (fun m E ds w'=>∃ j,I2 m j∧ds=[]∧E 0 = .slice Ad ld cd∧E 3=(ii ((d.length:Int)-1))∧E 4=(ii j)∧Sep w S O w' (rl [Res.own cI 3 Ad ld cd d])) m0 ⟨_,h0,rfl,rfl,rfl,rfl,hS.sel [0]⟩ ?_;clear h0 hS;rintro m2 E ds w2 ⟨j,h,rfl,H0,H3,H4,hS⟩ ag;replace h:=hr m2 j h;clear hr;refine yaf (zs (zH H4 (zq zG (zM (.bool (decide (0<j))) ?_))));by_cases hp:0<j
  · replace h:=h.1 hp;refine zW rfl rfl (zT hp) (yad H0) (zW rfl rfl (zT hp) (yad H4) ?_);obtain ⟨hx,h⟩:=h;refine zW rfl rfl (zT hp) (zi underlying43 yaj (yaP (hS.rdo 0 rfl) hx)) (zW rfl rfl (zT hp) (yau (v:=(ii (gi d j.toNat))) rfl underlying3 rfl (rd_1 (hS.rdo 0 rfl) hx (fun q=>yaY q) rfl)) ?_);refine zW rfl rfl (zT hp) zE (zq (yas (v:=(.bool (decide ((gi d j.toNat)=0)))) (zT hp) rfl) (yaa ?_));by_cases hp2:(gi d j.toNat)=0
    · replace h:=h.1 hp2;refine zc hp2 (yag (yai (zr (zH H4 ?_))));obtain ⟨hi2,h⟩:=h;refine zq (zS hi2) (zQ (ii (j-1)) (yaa (yah ?_)));obtain ⟨mq,hlt,h⟩:=h;exact ag mq _ _ _ ⟨_,h,rfl,H0,H3,rfl,hS.sel [0]⟩ hlt
    · replace h:=h.2 hp2;refine zd hp2 (yax rfl (yaf (zs (zH H4 (zq zE (yaa ?_))))));by_cases hp3:j=0
      · replace h:=h.1 hp3;exact zc hp3 (zs (zQ (.bool (false)) (yaa (yak rfl rfl ⟨_,_,rfl,hS.sel [0],h⟩))))
      · replace h:=h.2 hp3;refine zd hp3 (yag (zs (zH H0 (zH H4 (zq (zi underlying43 yaj (yaP (hS.rdo 0 rfl) hx)) (zq (yau (v:=(ii (gi d j.toNat))) rfl underlying3 rfl (rd_1 (hS.rdo 0 rfl) hx (fun q=>yaY q) rfl)) ?_))))));obtain ⟨hi3,h⟩:=h;refine zq (zS hi3) (zQ (ii ((gi d j.toNat)-1)) (yaa (zs (zH H0 (zH H4 (zq (zi underlying43 yaj (yaP (hS.rdo 0 rfl) hx)) (zo (zt (ii 0) yaj (hS.wr 0 rfl rfl hx) ?_))))))));intro w3 e1;replace hS:=hS.st 0 rfl rfl hx (x:=0) rfl e1;clear e1;refine zb (yaa (zs (zH H0 (zH H4 ?_))));obtain ⟨hi4,h⟩:=h;refine zq (zS hi4) ?_;obtain ⟨hx2,h⟩:=h;refine zq (zi underlying43 yaj (yaP (hS.rdo 0 rfl) hx2)) (zq (yau (v:=(ii (gi (d.set j.toNat 0) (j-1).toNat))) rfl underlying3 rfl (rd_1 (hS.rdo 0 rfl) hx2 (fun q=>yaY q) rfl)) ?_);obtain ⟨hi5,h⟩:=h;refine zq (zA hi5) (zq (zi underlying43 yaj (yaP (hS.rdo 0 rfl) hx2)) (zo (zt (ii ((gi (d.set j.toNat 0) (j-1).toNat)+1)) yaj (hS.wr 0 rfl rfl hx2) ?_)));intro w4 e1;replace hS:=hS.st 0 rfl rfl hx2 (x:=(gi (d.set j.toNat 0) (j-1).toNat)+1) rfl e1;clear e1;refine zb (yaa (zs (zH H0 (zq (yad (v:=(ii ((d.length:Int)-1))) H3) (zM (ii ((gi d j.toNat)-1)) ?_)))));obtain ⟨hx3,h⟩:=h;refine zq (zi underlying43 yaj (yaP (hS.rdo 0 rfl) hx3)) (zo (zt (ii ((gi d j.toNat)-1)) yaj (hS.wr 0 rfl rfl hx3) ?_));intro w5 e1;replace hS:=hS.st 0 rfl rfl hx3 (x:=(gi d j.toNat)-1) rfl e1;clear e1;exact zb (yaa (zs (zQ (.bool (true)) (yaa (yak rfl rfl ⟨_,_,rfl,hS.sel [0],h⟩)))))
  · replace h:=h.2 hp;refine zV rfl rfl (zF hp) (zV rfl rfl (zF hp) (zV rfl rfl (zF hp) (zV rfl rfl (zF hp) (zV rfl rfl (zF hp) (zq (yal (v:=(.bool (false))) (zF hp) rfl) (yaa (yat rfl (yax rfl (yaf (zs (zH H4 (zq zE (yaa ?_)))))))))))));by_cases hp4:j=0
    · replace h:=h.1 hp4;exact zc hp4 (zs (zQ (.bool (false)) (yaa (yak rfl rfl ⟨_,_,rfl,hS.sel [0],h⟩))))
    · replace h:=h.2 hp4;refine zd hp4 (yag (zs (zH H0 (zH H4 ?_))));obtain ⟨hx4,h⟩:=h;refine zq (zi underlying43 yaj (yaP (hS.rdo 0 rfl) hx4)) (zq (yau (v:=(ii (gi d j.toNat))) rfl underlying3 rfl (rd_1 (hS.rdo 0 rfl) hx4 (fun q=>yaY q) rfl)) ?_);obtain ⟨hi6,h⟩:=h;refine zq (zS hi6) (zQ (ii ((gi d j.toNat)-1)) (yaa (zs (zH H0 (zH H4 (zq (zi underlying43 yaj (yaP (hS.rdo 0 rfl) hx4)) (zo (zt (ii 0) yaj (hS.wr 0 rfl rfl hx4) ?_))))))));intro w6 e1;replace hS:=hS.st 0 rfl rfl hx4 (x:=0) rfl e1;clear e1;refine zb (yaa (zs (zH H0 (zH H4 ?_))));obtain ⟨hi7,h⟩:=h;refine zq (zS hi7) ?_;obtain ⟨hx5,h⟩:=h;refine zq (zi underlying43 yaj (yaP (hS.rdo 0 rfl) hx5)) (zq (yau (v:=(ii (gi (d.set j.toNat 0) (j-1).toNat))) rfl underlying3 rfl (rd_1 (hS.rdo 0 rfl) hx5 (fun q=>yaY q) rfl)) ?_);obtain ⟨hi8,h⟩:=h;refine zq (zA hi8) (zq (zi underlying43 yaj (yaP (hS.rdo 0 rfl) hx5)) (zo (zt (ii ((gi (d.set j.toNat 0) (j-1).toNat)+1)) yaj (hS.wr 0 rfl rfl hx5) ?_)));intro w7 e1;replace hS:=hS.st 0 rfl rfl hx5 (x:=(gi (d.set j.toNat 0) (j-1).toNat)+1) rfl e1;clear e1;refine zb (yaa (zs (zH H0 (zq (yad (v:=(ii ((d.length:Int)-1))) H3) (zM (ii ((gi d j.toNat)-1)) ?_)))));obtain ⟨hx6,h⟩:=h;refine zq (zi underlying43 yaj (yaP (hS.rdo 0 rfl) hx6)) (zo (zt (ii ((gi d j.toNat)-1)) yaj (hS.wr 0 rfl rfl hx6) ?_));intro w8 e1;replace hS:=hS.st 0 rfl rfl hx6 (x:=(gi d j.toNat)-1) rfl e1;clear e1;exact zb (yaa (zs (zQ (.bool (true)) (yaa (yak rfl rfl ⟨_,_,rfl,hS.sel [0],h⟩)))))
def yc0(g:Int)(g2:List E3)(l:List (List Int))(R:Int→Prop):Prop :=
ydf g g2 (fun r r2 =>
((r2=0 →
((r=true →
(∃ I2:Nat→Int→Prop,(∃ m0,I2 m0 0)∧∀ m2 v,I2 m2 v → 
((v<(l.length:Int) →
((0≤v∧v<(l.length:Int)) ∧
ycG (gx l v.toNat) g (fun r3 =>
((r3=0 →
(In64 (v+1) ∧
∃ m3,m3<m2∧I2 m3 (v+1))) ∧
(¬(r3=0) →
R r3))))) ∧
(¬(v<(l.length:Int)) →
R 0)))) ∧
(¬(r=true) →
R 13))) ∧
(¬(r2=0) →
R r2)))
theorem yhf{O:Nat→Prop}{w:World}{g g2 l Ag lg cg Al ll cl}{R:Int→Prop}(h:yc0 g g2 l R)(hO:∀ k,O k→k<w.heap.size)(hA0:(FP.sl c3 Ag lg cg g2).P O w)(hA1:(FP.sl (cL cI) Al ll cl l).P O w) :
    Calls Tryz.prog 78 #[(.agg #[ii g,.slice Ag lg cg]),.slice Al ll cl] w fun e w'=>∃ r4,e = .returned (ii r4)∧Sep w no O w' (rl [])∧R r4:=by
  unfold yc0 at h;have hS:Sep w no O w (rl [Res.ro (FP.sl c3 Ag lg cg g2),Res.ro (FP.sl (cL cI) Al ll cl l)]):=Sep.startl hO [(FP.sl c3 Ag lg cg g2),(FP.sl (cL cI) Al ll cl l)] ⟨hA0,hA1,trivial⟩;refine yap (l:=[(.agg #[ii g,.slice Ag lg cg]),.slice Al ll cl]) func78 rfl ntmps78 zY (zs (zn (ya8 (v:=(.agg #[ii g,.slice Ag lg cg])) rfl ?_)));intro g3 w2 hN;replace hS:=hS.neu 2 [ii g,.slice Ag lg cg] hN;clear hN;refine zb (zQ (ii 0) (yaa (zs (zq (yaq (vs:=[ii g,.slice Ag lg cg]) rfl underlying24 rfl yao ⟨hS.bc 2 0,hS.bc 2 1,trivial⟩) (zn (yam rfl (am1 rfl) enter_112 ((yem h (yaB _) (hS.rdr 0 rfl)).mono ?_)))))));rintro _ w3 ⟨r,r2,rfl,hC,h⟩;replace hS:=hS.pur hC.pure;refine ⟨_,rfl,?_⟩;refine zb (zM (.tuple #[(.bool (r)),ii r2]) (zq (zx (.bool (r))) (zq (zx (ii r2)) (zQ (.bool (r)) (zQ (ii r2) (yaa (yaf (zs (zM (ii r2) (zq zN (yaa ?_)))))))))));by_cases hp:r2=0
  · replace h:=h.1 hp;refine ze hp (yag (yaf (zs (zM (.bool (r)) (zq (ycX rfl) (yaa ?_))))));by_cases hp2:r=true
    · replace h:=h.1 hp2;refine yat (zC (zB hp2)) (yag (yaf (zs (zM (.slice Al ll cl) (zq (yaF (n:=l.length) rfl underlying93 (yaE (hS.rdr 1 rfl))) (zM (ii 0) (yaa (yai ?_))))))));obtain ⟨I2,⟨m0,h0⟩,hr⟩:=h;refine yaz (fun m E ds w'=>∃ v,I2 m v∧ds=[]∧E 2 = .pointer (some ⟨g3,0,none⟩)∧E 20 = .slice Al ll cl∧E 21=(ii (l.length:Int))∧E 22=(ii v)∧Sep w no O w' (rl [Res.box 24 g3 [ii g,.slice Ag lg cg],Res.ro (FP.sl c3 Ag lg cg g2),Res.ro (FP.sl (cL cI) Al ll cl l)])) m0 ⟨_,h0,rfl,rfl,rfl,rfl,rfl,hS.sel [2,0,1]⟩ ?_;clear h0 hS;rintro m2 E ds w4 ⟨v,h,rfl,H2,H20,H21,H22,hS⟩ ag;replace h:=hr m2 v h;clear hr;refine zs (zq (ydj H22 H21) (yaa (yaf ?_)));by_cases hp3:v<(l.length:Int)
      · replace h:=h.1 hp3;refine zc hp3 (yag (yaf (yai (zs ?_))));obtain ⟨hx,h⟩:=h;refine zq (ycI H20 H22 underlying93 ycm (yaP (hS.rdr 2 rfl) hx)) ?_;obtain ⟨A,l2,c,hc,hq⟩:=hS.el 2 rfl hx 3 4 rfl rfl (by decide);replace hS:=hq;clear hq;refine zq (yau (v:=(.slice A l2 c)) rfl underlying43 rfl (hS.clr 4 rfl)) (zQ (.slice A l2 c) (yaa (zs (zM (.slice A l2 c) (zq (yan H2 underlying24 rfl yaj) (zq (zl underlying3 (hS.bc 0 0)) (zn (yam rfl (am2 rfl rfl) yiX ((ygB h (yaB _) (hS.rdr 3 rfl)).mono ?_)))))))));rintro _ w5 ⟨r3,rfl,hC,h⟩;replace hS:=hS.pur hC.pure;refine ⟨_,rfl,?_⟩;refine zb (zQ (ii r3) (yaa (zs (zM (ii r3) (zq zN (yaa ?_))))));by_cases hp4:r3=0
        · replace h:=h.1 hp4;refine ze hp4 (yag (yah (zr ?_)));obtain ⟨hi,h⟩:=h;refine zq (ybS H22 rfl hi) (zM (ii (v+1)) (yaa ?_));obtain ⟨mq,hlt,h⟩:=h;exact ag mq _ _ _ ⟨_,h,rfl,H2,H20,H21,rfl,hS.sel [0,1,2]⟩ hlt
        · replace h:=h.2 hp4;exact zf hp4 (zs (zM (ii r3) (zQ (ii r3) (yaa (yak rfl rfl ⟨_,rfl,hS.sel [],h⟩)))))
      · replace h:=h.2 hp3;exact zd hp3 (yax rfl (zs (zQ (ii 0) (yaa (yak rfl rfl ⟨_,rfl,hS.sel [],h⟩)))))
    · replace h:=h.2 hp2;exact yar (zC (zB (zI hp2))) (zs (zQ (ii 13) (yaa (yak rfl rfl ⟨_,rfl,hS.sel [],h⟩))))
  · replace h:=h.2 hp;exact zf hp (zs (zM (ii r2) (zQ (ii r2) (yaa (yak rfl rfl ⟨_,rfl,hS.sel [],h⟩)))))
def yfN(g:Int)(g2:List E3)(R0:Int→Prop)(R1:Int→(List E3)→Int→(List (List Int×Int))→Int→Prop):Prop :=
ycn g g2 (fun r r2 r3 =>
((r3=0 →
ydl r r2 (fun r4 r5 =>
R1 g g2 r4 ([]:List (List Int×Int)) r5)) ∧
(¬(r3=0) →
R0 r3)))
theorem pok_rank_of{O:Nat→Prop}{w:World}{g g2 Ag lg cg}{R0:Int→Prop}{R1:Int→(List E3)→Int→(List (List Int×Int))→Int→Prop}(h:yfN g g2 R0 R1)(hO:∀ k,O k→k<w.heap.size)(hA0:(FP.sl c3 Ag lg cg g2).P O w) :
    Calls Tryz.prog 79 #[(.agg #[ii g,.slice Ag lg cg])] w fun e w'=>(∃ r6,e = .returned (.tuple #[(.pointer none),ii r6])∧Sep w no O w' (rl [])∧R0 r6)∨(∃ f f2 f3 m2 r7 gr Af lf cf gm,e = .returned (.tuple #[(.pointer (some ⟨gr,0,none⟩)),ii r7])∧Sep w no O w' (rl [Res.box 151 gr [ii f,.slice Af lf cf,ii f3,(Value.map (some gm))],Res.ro (FP.sl c3 Af lf cf f2),Res.obj gm (mapO (Value.int .i64) m2)])∧R1 f f2 f3 m2 r7):=by
  unfold yfN at h;have hS:Sep w no O w (rl [Res.ro (FP.sl c3 Ag lg cg g2)]):=Sep.startl hO [(FP.sl c3 Ag lg cg g2)] ⟨hA0,trivial⟩;refine yap (l:=[(.agg #[ii g,.slice Ag lg cg])]) func79 rfl ntmps79 zY (zs (zn (ya8 (v:=(.agg #[ii g,.slice Ag lg cg])) rfl ?_)));intro g3 w2 hN;replace hS:=hS.neu 1 [ii g,.slice Ag lg cg] hN;clear hN;refine zb (zQ (.pointer none) (zQ (ii 0) (yaa (zs (zq (yaq (vs:=[ii g,.slice Ag lg cg]) rfl underlying24 rfl yao ⟨hS.bc 1 0,hS.bc 1 1,trivial⟩) (zn (yam rfl (am1 rfl) enter_123 ((yhJ h (yaB _) (hS.rdr 0 rfl)).mono ?_))))))));rintro _ w3 ⟨r,r2,r3,Ar,lr,cr,rfl,hC,h⟩;replace hS:=hS.call1 (hC.widen (yde (ya0 (fP (fI .i64) (fP (fI .i64) (fI .i64))) _ _ _ _ _) ydA) hS.blt) 2 0 rfl;clear hC;refine ⟨_,rfl,?_⟩;refine zb (zM (.tuple #[(.agg #[ii r,.slice Ar lr cr]),ii r3]) (zq (zx (.agg #[ii r,.slice Ar lr cr])) (zq (zx (ii r3)) (zn (yaO yao ?_)))));intro g4 w4 hN;replace hS:=hS.neu 3 [ii 0,.slice none 0 0] hN;clear hN;refine zb (zo (yaV (b:=g4) (o:=0) (cells:=#[ii r,.slice Ar lr cr]) rfl rfl yao rfl rfl (yaI (hS.bx 3 rfl) zY) ?_));intro w5 e1;replace hS:=hS.bstn 3 rfl 0 [ii r,.slice Ar lr cr] e1;clear e1;refine zb (zQ (ii r3) (yaa (yaf (zs (zM (ii r3) (zq zN (yaa ?_)))))));by_cases hp:r3=0
  · replace h:=h.1 hp;refine ze hp (yag (zs (zq (yaq (vs:=[ii r,.slice Ar lr cr]) rfl underlying24 rfl yao ⟨hS.bc 3 0,hS.bc 3 1,trivial⟩) (zn (yam rfl (am1 rfl) enter_124 ((yjU h (yaB _) (hS.rdo 2 rfl)).mono ?_))))));rintro _ w6 ⟨r4,r5,rfl,hC,h⟩;replace hS:=hS.pur hC.pure;refine ⟨_,rfl,?_⟩;refine zb (zM (.tuple #[ii r4,ii r5]) (zq (zx (ii r4)) (zq (zx (ii r5)) (zQ (ii r4) (zQ (ii r5) (yaa (zs (zq (yaq (vs:=[ii g,.slice Ag lg cg]) rfl underlying24 rfl yao ⟨hS.bc 1 0,hS.bc 1 1,trivial⟩) (zM (ii r4) (zn (n_mkmap (vE:=(Value.int .i64)) rfl ?_)))))))))));intro g5 w7 e1 e2;replace hS:Sep w no O w7 (stl _ 4 (Res.obj g5 (mapO (Value.int .i64) ([]:List (List Int×Int))))):=hS.newm 4 rfl e1 e2;clear e1 e2;refine zb (zn (yck (l:=[(0,(.agg #[ii g,.slice Ag lg cg])),(1,(ii r4)),(2,(Value.map (some g5)))]) (cells:=[ii g,.slice Ag lg cg,ii r4,(Value.map (some g5))]) (places:=[(0,2),(2,1),(3,1)]) (bp3 rfl rfl rfl) underlying151 info_151 (by kernel_rfl) rfl ?_));refine zb (zn (ya8 (v:=(.agg #[ii g,.slice Ag lg cg,ii r4,(Value.map (some g5))])) rfl ?_));intro g6 w8 hN;replace hS:=hS.neu 5 [ii g,.slice Ag lg cg,ii r4,(Value.map (some g5))] hN;clear hN;exact zb (zM (ii r5) (zQ (.pointer (some ⟨g6,0,none⟩)) (zQ (ii r5) (yaa (yaG rfl rfl rfl (.inr ⟨_,_,_,_,_,_,_,_,_,_,rfl,hS.sel [5,0,4],h⟩))))))
  · replace h:=h.2 hp;exact zf hp (zs (zM (ii r3) (zQ (.pointer none) (zQ (ii r3) (yaa (yaG rfl rfl rfl (.inl ⟨_,rfl,hS.sel [],h⟩)))))))
def ya3(Rec:Int→(List E3)→Int→(List (List Int×Int))→(List Int)→(Int→Int→(List (List Int×Int))→Prop)→Prop)(d:Int)(d2:List E3)(d3:Int)(d4:List (List Int×Int))(i:List Int)(R:Int→Int→(List (List Int×Int))→Prop):Prop :=
ych i (fun r r2 =>
((r2=0 →
((r<0 →
R (-1) 0 d4) ∧
(¬(r<0) →
(In64 (2*d3) ∧
(In64 ((2*d3)-2) ∧
((((2*d3)-2)<r →
(In64 (r-d3) ∧
R (r-d3) 0 d4)) ∧
(¬(((2*d3)-2)<r) →
ybj d d2 i (fun r3 r4 r5 r6 =>
((r6=0 →
((r3=true →
(0<r4.length ∧
(KOk 12 d4 ∧
yia 12 (cpy (List.replicate 12 (0:Int)) r4) ∧
(((mget d4 (cpy (List.replicate 12 (0:Int)) r4)).isSome=true →
R ((mget d4 (cpy (List.replicate 12 (0:Int)) r4)).getD (0:Int)) 0 d4) ∧
(¬((mget d4 (cpy (List.replicate 12 (0:Int)) r4)).isSome=true) →
(((d4.length:Int)=16384 →
R 0 12 d4) ∧
(¬((d4.length:Int)=16384) →
(∃ I2:Nat→Int→Int→(List (List Int×Int))→(List Int)→Prop,(∃ m0,I2 m0 r 0 d4 r4)∧∀ m2 v v2 d5 v3,I2 m2 v v2 d5 v3 → 
((v2<(r4.length:Int) →
((0≤v2∧v2<(v3.length:Int)) ∧
(In64 ((gi v3 v2.toNat)-1) ∧
Rec d d2 d3 d5 (v3.set v2.toNat ((gi v3 v2.toNat)-1)) (fun r7 r8 y =>
((0≤v2∧v2<(((v3.set v2.toNat ((gi v3 v2.toNat)-1)).length:Nat):Int)) ∧
(In64 ((gi (v3.set v2.toNat ((gi v3 v2.toNat)-1)) v2.toNat)+1) ∧
((r8=0 →
(In64 (r7+1) ∧
(In64 (v2+1) ∧
∃ m3,m3<m2∧I2 m3 (mnF v (r7+1)) (v2+1) y ((v3.set v2.toNat ((gi v3 v2.toNat)-1)).set v2.toNat ((gi (v3.set v2.toNat ((gi v3 v2.toNat)-1)) v2.toNat)+1))))) ∧
(¬(r8=0) →
R 0 r8 y)))))))) ∧
(¬(v2<(r4.length:Int)) →
(KOk 12 d5 ∧
R v 0 (mput d5 (cpy (List.replicate 12 (0:Int)) r4) v)))))))))))) ∧
(¬(r3=true) →
R (-1) 0 d4))) ∧
(¬(r6=0) →
R 0 r6 d4)))))))))) ∧
(¬(r2=0) →
R 0 r2 d4)))
def ybe:Nat→Int→(List E3)→Int→(List (List Int×Int))→(List Int)→(Int→Int→(List (List Int×Int))→Prop)→Prop
  | 0=>fun _ _ _ _ _ _=>False
  | nf+1=>fun d d2 d3 d4 i R=>ya3 (ybe nf) d d2 d3 d4 i R
theorem yfz{Rec:Int→(List E3)→Int→(List (List Int×Int))→(List Int)→(Int→Int→(List (List Int×Int))→Prop)→Prop}(hrec:∀ {S O:Nat→Prop} {w:World} {d d2 d3 d4 i gc Ad ld cd gm Ai li ci} {R:Int→Int→(List (List Int×Int))→Prop} (h:Rec d d2 d3 d4 i R) (hS:Sep w S O w (rl [Res.box 151 gc [(Value.int .i64 d),(Value.slice Ad ld cd),(Value.int .i64 d3),(Value.map (some gm))],Res.ro (FP.sl c3 Ad ld cd d2),Res.obj gm (mapO (Value.int .i64) d4),Res.own cI 3 Ai li ci i])),Calls Tryz.prog 80 #[(Value.pointer (some ⟨gc,0,none⟩)),(Value.slice Ai li ci)] w fun e w'=>∃ r9 r10 z,e = .returned (Value.tuple #[(Value.int .i64 r9),(Value.int .i64 r10)])∧Sep w S O w' (rl [Res.box 151 gc [(Value.int .i64 d),(Value.slice Ad ld cd),(Value.int .i64 d3),(Value.map (some gm))],Res.obj gm (mapO (Value.int .i64) z),Res.own cI 3 Ai li ci i])∧R r9 r10 z){S O:Nat→Prop}{w:World}{d d2 d3 d4 i gc Ad ld cd gm Ai li ci}{R:Int→Int→(List (List Int×Int))→Prop}(h:ya3 Rec d d2 d3 d4 i R)(hS:Sep w S O w (rl [Res.box 151 gc [(Value.int .i64 d),(Value.slice Ad ld cd),(Value.int .i64 d3),(Value.map (some gm))],Res.ro (FP.sl c3 Ad ld cd d2),Res.obj gm (mapO (Value.int .i64) d4),Res.own cI 3 Ai li ci i])) :
    Calls Tryz.prog 80 #[(.pointer (some ⟨gc,0,none⟩)),.slice Ai li ci] w fun e w'=>∃ r9 r10 z,e = .returned (.tuple #[ii r9,ii r10])∧Sep w S O w' (rl [Res.box 151 gc [ii d,.slice Ad ld cd,ii d3,(Value.map (some gm))],Res.obj gm (mapO (Value.int .i64) z),Res.own cI 3 Ai li ci i])∧R r9 r10 z:=by
  unfold ya3 at h;refine yap (l:=[(.pointer (some ⟨gc,0,none⟩)),.slice Ai li ci]) func80 rfl ntmps80 zY (zs (zQ (ii 0) (zQ (ii 0) (yaa (zs (zM (.slice Ai li ci) (zn (yam rfl (am1 rfl) enter_86 ((ygh h (yaB _) (hS.rdo 3 rfl)).mono ?_)))))))));rintro _ w2 ⟨r,r2,rfl,hC,h⟩;replace hS:=hS.pur hC.pure;refine ⟨_,rfl,?_⟩;refine zb (zM (.tuple #[ii r,ii r2]) (zq (zx (ii r)) (zq (zx (ii r2)) (zQ (ii r) (zQ (ii r2) (yaa (yaf (zs (zM (ii r2) (zq zN (yaa ?_)))))))))));by_cases hp:r2=0
  · replace h:=h.1 hp;refine ze hp (yag (yaf (zs (zM (ii r) (zq zL (yaa ?_))))));by_cases hp2:r<0
    · replace h:=h.1 hp2;exact zc hp2 (zs (zQ (ii (-1)) (zQ (ii 0) (yaa (yaG rfl rfl rfl ⟨_,_,_,rfl,hS.sel [0,2,3],h⟩)))))
    · replace h:=h.2 hp2;refine zd hp2 (yag (yaf (zs (zM (ii r) (zM (.pointer (some ⟨gc,0,none⟩)) (zq (ybU rfl) (zq (yan rfl underlying151 rfl yaj) (zq (zl underlying3 (hS.bc 0 2)) ?_))))))));obtain ⟨hi,h⟩:=h;refine zq (v_mul rfl rfl hi) ?_;obtain ⟨hi2,h⟩:=h;refine zq (zS hi2) (zq zG (yaa ?_));by_cases hp3:((2*d3)-2)<r
      · replace h:=h.1 hp3;refine zc hp3 (zs (zM (ii r) (zM (.pointer (some ⟨gc,0,none⟩)) (zq (ybU rfl) (zq (yan rfl underlying151 rfl yaj) (zq (zl underlying3 (hS.bc 0 2)) ?_))))));obtain ⟨hi3,h⟩:=h;exact zq (zS hi3) (zQ (ii (r-d3)) (zQ (ii 0) (yaa (yaG rfl rfl rfl ⟨_,_,_,rfl,hS.sel [0,2,3],h⟩))))
      · replace h:=h.2 hp3;refine zd hp3 (yag (zs (zM (.pointer (some ⟨gc,0,none⟩)) (zq (ybU rfl) (zq (yan rfl underlying151 rfl yao) (zq (yaq (vs:=[ii d,.slice Ad ld cd]) rfl underlying24 rfl yao ⟨hS.bc 0 0,hS.bc 0 1,trivial⟩) (zM (.slice Ai li ci) (zn (yam rfl (am2 rfl rfl) enter_125 ((ydV h (yaB _) (hS.rdr 1 rfl) (hS.rdo 3 rfl)).mono ?_))))))))));rintro _ w3 ⟨r3,r4,r5,r6,Ar,lr,cr,Ar2,lr2,cr2,rfl,hC,h⟩;replace hS:=hS.call2 (hC.widen (yde (ya0 (fI .i64) _ _ _ _ _) (yde (ya0 (fI .i64) _ _ _ _ _) ydA)) hS.blt) 4 0 5 1 rfl rfl (by decide) (by decide);clear hC;refine ⟨_,rfl,?_⟩;refine zb (zM (.tuple #[(.bool (r3)),.slice Ar lr cr,.slice Ar2 lr2 cr2,ii r6]) (zq (zx (.bool (r3))) (zq (zx (.slice Ar lr cr)) (zq (zx (.slice Ar2 lr2 cr2)) (zq (zx (ii r6)) (zQ (.bool (r3)) (zQ (.slice Ar lr cr) (zQ (.slice Ar2 lr2 cr2) (zQ (ii r6) (yaa (yaf (zs (zM (ii r6) (zq zN (yaa ?_)))))))))))))));by_cases hp4:r6=0
        · replace h:=h.1 hp4;refine ze hp4 (yag (yaf (zs (zM (.bool (r3)) (zq (ycX rfl) (yaa ?_))))));by_cases hp5:r3=true
          · replace h:=h.1 hp5;refine yat (zC (zB hp5)) (yag (zs (zn (yaO ygU ?_))));intro g w4 hN;replace hS:=hS.made (n:=12) 6 rfl cI (ii 0) (0:Int) (fun _ _=>rfl) (hN:New _ _ _ (Array.replicate 12 (ii 0)) 156) (by decide);clear hN;refine zb (yaa (zs (zq (v_slice_a rfl underlying156 yaj) (zM (.slice Ar lr cr) ?_))));obtain ⟨hx,h⟩:=h;refine zn (n_cpy rfl rfl underlying29 yaj hS 6 rfl (hS.rdo 4 rfl) hx ?_);clear hS;intro w5 hS;refine zb (yaa (yaf (yaf (yaT [0,1,2,3,4,5,6,7,8,9,10] st0 yaD (by kernel_rfl) (by kernel_rfl) ?_))));replace hS:=hS.drew;refine zp (zm (.pointer (some ⟨gc,0,none⟩))) (zp (ybU rfl) (zp (yan rfl underlying151 rfl yg5) (zp (zl underlying149 (hS.bc 0 3)) (zp (yaq (vs:=(cpy (List.replicate 12 (0:Int)) r4).map (Value.int .i64)) rfl underlying156 rfl (yiO ygU (hS.rdo 6 rfl)) (yhB (hS.rdo 6 rfl))) ?_))));obtain ⟨hx2,h⟩:=h;obtain ⟨hx3,h⟩:=h;refine rp_n rfl rfl rfl rfl (n_val (v_mget (vE:=(Value.int .i64)) (x0:=(0:Int)) (yi5) hx2 hx3 rfl rfl underlying149 yaj (hS.mp 2 rfl)) ?_);refine zb (zp (zm (.tuple #[(ii ((mget d4 (cpy (List.replicate 12 (0:Int)) r4)).getD (0:Int))),(.bool ((mget d4 (cpy (List.replicate 12 (0:Int)) r4)).isSome))])) (zp (zx (ii ((mget d4 (cpy (List.replicate 12 (0:Int)) r4)).getD (0:Int)))) (zp (zx (.bool ((mget d4 (cpy (List.replicate 12 (0:Int)) r4)).isSome))) (zp (za (ii ((mget d4 (cpy (List.replicate 12 (0:Int)) r4)).getD (0:Int)))) (zp (za (.bool ((mget d4 (cpy (List.replicate 12 (0:Int)) r4)).isSome))) (yaZ (zs (zM (.bool ((mget d4 (cpy (List.replicate 12 (0:Int)) r4)).isSome)) (yaa ?_)))))))));by_cases hp6:(mget d4 (cpy (List.replicate 12 (0:Int)) r4)).isSome=true
            · replace h:=h.1 hp6;exact yar (zC hp6) (zs (zM (ii ((mget d4 (cpy (List.replicate 12 (0:Int)) r4)).getD (0:Int))) (zQ (ii ((mget d4 (cpy (List.replicate 12 (0:Int)) r4)).getD (0:Int))) (zQ (ii 0) (yaa (yaG rfl rfl rfl ⟨_,_,_,rfl,hS.sel [0,2,3],h⟩))))))
            · replace h:=h.2 hp6;refine yat (zC (zI hp6)) (yag (yaf (zs (zM (.pointer (some ⟨gc,0,none⟩)) (zq (ybU rfl) (zq (yan rfl underlying151 rfl yg5) (zq (zl underlying149 (hS.bc 0 3)) (zq (v_mlen rfl underlying149 (hS.mp 2 rfl)) (zq zE (yaa ?_))))))))));by_cases hp7:(d4.length:Int)=16384
              · replace h:=h.1 hp7;exact zc hp7 (zs (zQ (ii 0) (zQ (ii 12) (yaa (yaG rfl rfl rfl ⟨_,_,_,rfl,hS.sel [0,2,3],h⟩)))))
              · replace h:=h.2 hp7;refine zd hp7 (yag (zs (zM (ii r) (zQ (ii r) (yaa (yaf (zs (zM (.slice Ar lr cr) (zq (yaF (n:=r4.length) rfl underlying43 (yaE (hS.rdo 4 rfl))) (zM (ii 0) (yaa (yai ?_))))))))))));obtain ⟨I2,⟨m0,h0⟩,hr⟩:=h;refine yaz (fun m E ds w'=>∃ v v2 d5 v3,I2 m v v2 d5 v3∧ds=[]∧E 0 = .pointer (some ⟨gc,0,none⟩)∧E 1 = .slice Ai li ci∧E 9 = .slice Ar lr cr∧E 11 = .pointer (some ⟨g,0,none⟩)∧E 14=(ii v)∧E 80=(ii (r4.length:Int))∧E 81=(ii v2)∧Sep w S O w' (rl [Res.box 151 gc [ii d,.slice Ad ld cd,ii d3,(Value.map (some gm))],Res.ro (FP.sl c3 Ad ld cd d2),Res.obj gm (mapO (Value.int .i64) d5),Res.own cI 3 Ai li ci i,Res.own cI 3 Ar lr cr v3,Res.own cI 156 (some ⟨g,0,none⟩) 12 12 (cpy (List.replicate 12 (0:Int)) r4)])) m0 ⟨_,_,_,_,h0,rfl,rfl,rfl,rfl,rfl,rfl,rfl,rfl,hS.sel [0,1,2,3,4,6]⟩ ?_;clear h0 hS;rintro m2 E ds w6 ⟨v,v2,d5,v3,h,rfl,H0,H1,H9,H11,H14,H80,H81,hS⟩ ag;replace h:=hr m2 v v2 d5 v3 h;clear hr;refine zs (zq (ydj H81 H80) (yaa (yaf ?_)));by_cases hp8:v2<(r4.length:Int)
                · replace h:=h.1 hp8;refine zc hp8 (yag (yaf (yai (zs (zH H81 (zQ (ii v2) (yaa (zs (zH H9 (zM (ii v2) ?_))))))))));obtain ⟨hx4,h⟩:=h;refine zq (zi underlying43 yaj (yaP (hS.rdo 4 rfl) hx4)) (zq (yau (v:=(ii (gi v3 v2.toNat))) rfl underlying3 rfl (rd_1 (hS.rdo 4 rfl) hx4 (fun q=>yaY q) rfl)) ?_);obtain ⟨hi4,h⟩:=h;refine zq (zS hi4) (zq (zi underlying43 yaj (yaP (hS.rdo 4 rfl) hx4)) (zo (zt (ii ((gi v3 v2.toNat)-1)) yaj (hS.wr 4 rfl rfl hx4) ?_)));intro w7 e1;replace hS:=hS.st 4 rfl rfl hx4 (x:=(gi v3 v2.toNat)-1) rfl e1;clear e1;refine zb (yaa (zs (zq (yad (v:=(.pointer (some ⟨gc,0,none⟩))) H0) (zH H9 ?_))));have hB:=hS.lend (asc [(0,0),(2,1),(4,2)]) [0,1,2,4] (by decide) ⟨.inl (ybE rfl), .inr rfl, .inl (ybE rfl), .inl (ybE rfl),trivial⟩;refine zn (ydx (vs:=#[(.pointer (some ⟨gc,0,none⟩)),.slice Ar lr cr]) (us:=#[]) rfl (am2 rfl rfl) enter_80 ((ya4 (by simp) (hrec h hB)).mono ?_));rintro _ w8 ⟨r7,r8,y,rfl,hC,h⟩;replace hS:=hS.back (asc [(0,0),(2,1),(4,2)]) (yey (by decide)) hC;clear hC hB;refine ⟨_,rfl,?_⟩;refine zb (zM (.tuple #[ii r7,ii r8]) (zq (zx (ii r7)) (zq (zx (ii r8)) (zQ (ii r7) (zQ (ii r8) (yaa (zs (zH H9 (zM (ii v2) ?_)))))))));obtain ⟨hx5,h⟩:=h;refine zq (zi underlying43 yaj (yaP (hS.rdo 4 rfl) hx5)) (zq (yau (v:=(ii (gi (v3.set v2.toNat ((gi v3 v2.toNat)-1)) v2.toNat))) rfl underlying3 rfl (rd_1 (hS.rdo 4 rfl) hx5 (fun q=>yaY q) rfl)) ?_);obtain ⟨hi5,h⟩:=h;refine zq (zA hi5) (zq (zi underlying43 yaj (yaP (hS.rdo 4 rfl) hx5)) (zo (zt (ii ((gi (v3.set v2.toNat ((gi v3 v2.toNat)-1)) v2.toNat)+1)) yaj (hS.wr 4 rfl rfl hx5) ?_)));intro w9 e1;replace hS:=hS.st 4 rfl rfl hx5 (x:=(gi (v3.set v2.toNat ((gi v3 v2.toNat)-1)) v2.toNat)+1) rfl e1;clear e1;refine zb (yaa (yaf (zs (zM (ii r8) (zq zN (yaa ?_))))));by_cases hp9:r8=0
                  · replace h:=h.1 hp9;refine ze hp9 (yag (zr (zH H14 (zM (ii r7) ?_))));obtain ⟨hi6,h⟩:=h;refine zq (zA hi6) (zq (yja rfl rfl) (zQ (ii (mnF v (r7+1))) (yaa (yah (zr ?_)))));obtain ⟨hi7,h⟩:=h;refine zq (ybS H81 rfl hi7) (zM (ii (v2+1)) (yaa ?_));obtain ⟨mq,hlt,h⟩:=h;exact ag mq _ _ _ ⟨_,_,_,_,h,rfl,H0,H1,H9,H11,rfl,H80,rfl,hS.sel [0,1,2,3,4,5]⟩ hlt
                  · replace h:=h.2 hp9;exact zf hp9 (zs (zM (ii r8) (zQ (ii 0) (zQ (ii r8) (yaa (yaG rfl rfl rfl ⟨_,_,_,rfl,hS.sel [0,2,3],h⟩))))))
                · replace h:=h.2 hp8;refine zd hp8 (yax rfl (yaf (yaT [0,1,2,3,4,5,6] st0 yaD (by kernel_rfl) (by kernel_rfl) ?_)));replace hS:=hS.drew;refine zp (yad (v:=(.pointer (some ⟨gc,0,none⟩))) H0) (zp (ybU rfl) (zp (yan rfl underlying151 rfl yg5) (zp (zl underlying149 (hS.bc 0 3)) (zp (yaq (vs:=(cpy (List.replicate 12 (0:Int)) r4).map (Value.int .i64)) H11 underlying156 rfl (yiO ygU (hS.rdo 5 rfl)) (yhB (hS.rdo 5 rfl))) (zp (yad H14) ?_)))));obtain ⟨hx6,h⟩:=h;refine yjg rfl rfl rfl (n_mput (vE:=(Value.int .i64)) (yi5) hx6 hx3 (v:=v) rfl rfl rfl underlying149 (hS.mp 2 rfl) ?_);intro w10 e1 e2;replace hS:=hS.mst 2 rfl e1 e2;clear e1 e2;exact zb (yaZ (zs (zH H14 (zQ (ii v) (zQ (ii 0) (yaa (yaG rfl rfl rfl ⟨_,_,_,rfl,hS.sel [0,2,3],h⟩)))))))
          · replace h:=h.2 hp5;exact yar (zC (zB (zI hp5))) (zs (zQ (ii (-1)) (zQ (ii 0) (yaa (yaG rfl rfl rfl ⟨_,_,_,rfl,hS.sel [0,2,3],h⟩)))))
        · replace h:=h.2 hp4;exact zf hp4 (zs (zM (ii r6) (zQ (ii 0) (zQ (ii r6) (yaa (yaG rfl rfl rfl ⟨_,_,_,rfl,hS.sel [0,2,3],h⟩))))))
  · replace h:=h.2 hp;exact zf hp (zs (zM (ii r2) (zQ (ii 0) (zQ (ii r2) (yaa (yaG rfl rfl rfl ⟨_,_,_,rfl,hS.sel [0,2,3],h⟩))))))
theorem yfU{nf} : ∀ {S O:Nat→Prop} {w:World} {d d2 d3 d4 i gc Ad ld cd gm Ai li ci} {R:Int→Int→(List (List Int×Int))→Prop} (h:ybe nf d d2 d3 d4 i R) (hS:Sep w S O w (rl [Res.box 151 gc [(Value.int .i64 d),(Value.slice Ad ld cd),(Value.int .i64 d3),(Value.map (some gm))],Res.ro (FP.sl c3 Ad ld cd d2),Res.obj gm (mapO (Value.int .i64) d4),Res.own cI 3 Ai li ci i])),Calls Tryz.prog 80 #[(Value.pointer (some ⟨gc,0,none⟩)),(Value.slice Ai li ci)] w fun e w'=>∃ r9 r10 z,e = .returned (Value.tuple #[(Value.int .i64 r9),(Value.int .i64 r10)])∧Sep w S O w' (rl [Res.box 151 gc [(Value.int .i64 d),(Value.slice Ad ld cd),(Value.int .i64 d3),(Value.map (some gm))],Res.obj gm (mapO (Value.int .i64) z),Res.own cI 3 Ai li ci i])∧R r9 r10 z:=by
  induction nf with
  | zero=>intros;rename_i h _;exact h.elim
  | succ nf ih=>intro S O w d d2 d3 d4 i gc Ad ld cd gm Ai li ci R h hS;exact yfz ih h hS
def ydc(Rec:Int→(List E3)→Int→(List (List Int×Int))→(List Int)→(Int→Int→(List (List Int×Int))→Prop)→Prop)(d:Int)(d2:List E3)(d3:Int)(d4:List (List Int×Int))(i:List Int)(R:Int→Int→(List (List Int×Int))→Prop):Prop :=
ych i (fun r r2 =>
((r2=0 →
((r<0 →
R (-1) 0 d4) ∧
(¬(r<0) →
(In64 (2*d3) ∧
(In64 ((2*d3)-2) ∧
((((2*d3)-2)<r →
(In64 (r-d3) ∧
R (r-d3) 0 d4)) ∧
(¬(((2*d3)-2)<r) →
ybj d d2 i (fun r3 r4 r5 r6 =>
((r6=0 →
((r3=true →
(0<r4.length ∧
(KOk 12 d4 ∧
yia 12 (cpy (List.replicate 12 (0:Int)) r4) ∧
(((mget d4 (cpy (List.replicate 12 (0:Int)) r4)).isSome=true →
R ((mget d4 (cpy (List.replicate 12 (0:Int)) r4)).getD (0:Int)) 0 d4) ∧
(¬((mget d4 (cpy (List.replicate 12 (0:Int)) r4)).isSome=true) →
(((d4.length:Int)=16384 →
R 0 12 d4) ∧
(¬((d4.length:Int)=16384) →
(∃ I2:Nat→Int→Int→(List (List Int×Int))→(List Int)→Prop,(∃ m0,I2 m0 r 0 d4 r4)∧∀ m2 v v2 d5 v3,I2 m2 v v2 d5 v3 → 
((v2<(r4.length:Int) →
((0≤v2∧v2<(v3.length:Int)) ∧
(In64 ((gi v3 v2.toNat)-1) ∧
(∃ fu,ybe fu d d2 d3 d5 (v3.set v2.toNat ((gi v3 v2.toNat)-1)) (fun r7 r8 y =>
((0≤v2∧v2<(((v3.set v2.toNat ((gi v3 v2.toNat)-1)).length:Nat):Int)) ∧
(In64 ((gi (v3.set v2.toNat ((gi v3 v2.toNat)-1)) v2.toNat)+1) ∧
((r8=0 →
(In64 (r7+1) ∧
(In64 (v2+1) ∧
∃ m3,m3<m2∧I2 m3 (mnF v (r7+1)) (v2+1) y ((v3.set v2.toNat ((gi v3 v2.toNat)-1)).set v2.toNat ((gi (v3.set v2.toNat ((gi v3 v2.toNat)-1)) v2.toNat)+1))))) ∧
(¬(r8=0) →
R 0 r8 y))))))))) ∧
(¬(v2<(r4.length:Int)) →
(KOk 12 d5 ∧
R v 0 (mput d5 (cpy (List.replicate 12 (0:Int)) r4) v)))))))))))) ∧
(¬(r3=true) →
R (-1) 0 d4))) ∧
(¬(r6=0) →
R 0 r6 d4)))))))))) ∧
(¬(r2=0) →
R 0 r2 d4)))
def ycv:Nat→Int→(List E3)→Int→(List (List Int×Int))→(List Int)→(Int→Int→(List (List Int×Int))→Prop)→Prop
  | 0=>fun _ _ _ _ _ _=>False
  | nf+1=>fun d d2 d3 d4 i R=>ydc (ycv nf) d d2 d3 d4 i R
theorem ygz{Rec:Int→(List E3)→Int→(List (List Int×Int))→(List Int)→(Int→Int→(List (List Int×Int))→Prop)→Prop}(hrec:∀ {S O:Nat→Prop} {w:World} {d d2 d3 d4 i gc Ad ld cd gm Ai li ci} {R:Int→Int→(List (List Int×Int))→Prop} (h:Rec d d2 d3 d4 i R) (hS:Sep w S O w (rl [Res.box 151 gc [(Value.int .i64 d),(Value.slice Ad ld cd),(Value.int .i64 d3),(Value.map (some gm))],Res.ro (FP.sl c3 Ad ld cd d2),Res.obj gm (mapO (Value.int .i64) d4),Res.ro (FP.sl cI Ai li ci i)])),Calls Tryz.prog 80 #[(Value.pointer (some ⟨gc,0,none⟩)),(Value.slice Ai li ci)] w fun e w'=>∃ r9 r10 z,e = .returned (Value.tuple #[(Value.int .i64 r9),(Value.int .i64 r10)])∧Sep w S O w' (rl [Res.box 151 gc [(Value.int .i64 d),(Value.slice Ad ld cd),(Value.int .i64 d3),(Value.map (some gm))],Res.obj gm (mapO (Value.int .i64) z)])∧R r9 r10 z){S O:Nat→Prop}{w:World}{d d2 d3 d4 i gc Ad ld cd gm Ai li ci}{R:Int→Int→(List (List Int×Int))→Prop}(h:ydc Rec d d2 d3 d4 i R)(hS:Sep w S O w (rl [Res.box 151 gc [(Value.int .i64 d),(Value.slice Ad ld cd),(Value.int .i64 d3),(Value.map (some gm))],Res.ro (FP.sl c3 Ad ld cd d2),Res.obj gm (mapO (Value.int .i64) d4),Res.ro (FP.sl cI Ai li ci i)])) :
    Calls Tryz.prog 80 #[(.pointer (some ⟨gc,0,none⟩)),.slice Ai li ci] w fun e w'=>∃ r9 r10 z,e = .returned (.tuple #[ii r9,ii r10])∧Sep w S O w' (rl [Res.box 151 gc [ii d,.slice Ad ld cd,ii d3,(Value.map (some gm))],Res.obj gm (mapO (Value.int .i64) z)])∧R r9 r10 z:=by
  unfold ydc at h;refine yap (l:=[(.pointer (some ⟨gc,0,none⟩)),.slice Ai li ci]) func80 rfl ntmps80 zY (zs (zQ (ii 0) (zQ (ii 0) (yaa (zs (zM (.slice Ai li ci) (zn (yam rfl (am1 rfl) enter_86 ((ygh h (yaB _) (hS.rdr 3 rfl)).mono ?_)))))))));rintro _ w2 ⟨r,r2,rfl,hC,h⟩;replace hS:=hS.pur hC.pure;refine ⟨_,rfl,?_⟩;refine zb (zM (.tuple #[ii r,ii r2]) (zq (zx (ii r)) (zq (zx (ii r2)) (zQ (ii r) (zQ (ii r2) (yaa (yaf (zs (zM (ii r2) (zq zN (yaa ?_)))))))))));by_cases hp:r2=0
  · replace h:=h.1 hp;refine ze hp (yag (yaf (zs (zM (ii r) (zq zL (yaa ?_))))));by_cases hp2:r<0
    · replace h:=h.1 hp2;exact zc hp2 (zs (zQ (ii (-1)) (zQ (ii 0) (yaa (yaG rfl rfl rfl ⟨_,_,_,rfl,hS.sel [0,2],h⟩)))))
    · replace h:=h.2 hp2;refine zd hp2 (yag (yaf (zs (zM (ii r) (zM (.pointer (some ⟨gc,0,none⟩)) (zq (ybU rfl) (zq (yan rfl underlying151 rfl yaj) (zq (zl underlying3 (hS.bc 0 2)) ?_))))))));obtain ⟨hi,h⟩:=h;refine zq (v_mul rfl rfl hi) ?_;obtain ⟨hi2,h⟩:=h;refine zq (zS hi2) (zq zG (yaa ?_));by_cases hp3:((2*d3)-2)<r
      · replace h:=h.1 hp3;refine zc hp3 (zs (zM (ii r) (zM (.pointer (some ⟨gc,0,none⟩)) (zq (ybU rfl) (zq (yan rfl underlying151 rfl yaj) (zq (zl underlying3 (hS.bc 0 2)) ?_))))));obtain ⟨hi3,h⟩:=h;exact zq (zS hi3) (zQ (ii (r-d3)) (zQ (ii 0) (yaa (yaG rfl rfl rfl ⟨_,_,_,rfl,hS.sel [0,2],h⟩))))
      · replace h:=h.2 hp3;refine zd hp3 (yag (zs (zM (.pointer (some ⟨gc,0,none⟩)) (zq (ybU rfl) (zq (yan rfl underlying151 rfl yao) (zq (yaq (vs:=[ii d,.slice Ad ld cd]) rfl underlying24 rfl yao ⟨hS.bc 0 0,hS.bc 0 1,trivial⟩) (zM (.slice Ai li ci) (zn (yam rfl (am2 rfl rfl) enter_125 ((ydV h (yaB _) (hS.rdr 1 rfl) (hS.rdr 3 rfl)).mono ?_))))))))));rintro _ w3 ⟨r3,r4,r5,r6,Ar,lr,cr,Ar2,lr2,cr2,rfl,hC,h⟩;replace hS:=hS.call2 (hC.widen (yde (ya0 (fI .i64) _ _ _ _ _) (yde (ya0 (fI .i64) _ _ _ _ _) ydA)) hS.blt) 4 0 5 1 rfl rfl (by decide) (by decide);clear hC;refine ⟨_,rfl,?_⟩;refine zb (zM (.tuple #[(.bool (r3)),.slice Ar lr cr,.slice Ar2 lr2 cr2,ii r6]) (zq (zx (.bool (r3))) (zq (zx (.slice Ar lr cr)) (zq (zx (.slice Ar2 lr2 cr2)) (zq (zx (ii r6)) (zQ (.bool (r3)) (zQ (.slice Ar lr cr) (zQ (.slice Ar2 lr2 cr2) (zQ (ii r6) (yaa (yaf (zs (zM (ii r6) (zq zN (yaa ?_)))))))))))))));by_cases hp4:r6=0
        · replace h:=h.1 hp4;refine ze hp4 (yag (yaf (zs (zM (.bool (r3)) (zq (ycX rfl) (yaa ?_))))));by_cases hp5:r3=true
          · replace h:=h.1 hp5;refine yat (zC (zB hp5)) (yag (zs (zn (yaO ygU ?_))));intro g w4 hN;replace hS:=hS.made (n:=12) 6 rfl cI (ii 0) (0:Int) (fun _ _=>rfl) (hN:New _ _ _ (Array.replicate 12 (ii 0)) 156) (by decide);clear hN;refine zb (yaa (zs (zq (v_slice_a rfl underlying156 yaj) (zM (.slice Ar lr cr) ?_))));obtain ⟨hx,h⟩:=h;refine zn (n_cpy rfl rfl underlying29 yaj hS 6 rfl (hS.rdo 4 rfl) hx ?_);clear hS;intro w5 hS;refine zb (yaa (yaf (yaf (yaT [0,1,2,3,4,5,6,7,8,9,10] st0 yaD (by kernel_rfl) (by kernel_rfl) ?_))));replace hS:=hS.drew;refine zp (zm (.pointer (some ⟨gc,0,none⟩))) (zp (ybU rfl) (zp (yan rfl underlying151 rfl yg5) (zp (zl underlying149 (hS.bc 0 3)) (zp (yaq (vs:=(cpy (List.replicate 12 (0:Int)) r4).map (Value.int .i64)) rfl underlying156 rfl (yiO ygU (hS.rdo 6 rfl)) (yhB (hS.rdo 6 rfl))) ?_))));obtain ⟨hx2,h⟩:=h;obtain ⟨hx3,h⟩:=h;refine rp_n rfl rfl rfl rfl (n_val (v_mget (vE:=(Value.int .i64)) (x0:=(0:Int)) (yi5) hx2 hx3 rfl rfl underlying149 yaj (hS.mp 2 rfl)) ?_);refine zb (zp (zm (.tuple #[(ii ((mget d4 (cpy (List.replicate 12 (0:Int)) r4)).getD (0:Int))),(.bool ((mget d4 (cpy (List.replicate 12 (0:Int)) r4)).isSome))])) (zp (zx (ii ((mget d4 (cpy (List.replicate 12 (0:Int)) r4)).getD (0:Int)))) (zp (zx (.bool ((mget d4 (cpy (List.replicate 12 (0:Int)) r4)).isSome))) (zp (za (ii ((mget d4 (cpy (List.replicate 12 (0:Int)) r4)).getD (0:Int)))) (zp (za (.bool ((mget d4 (cpy (List.replicate 12 (0:Int)) r4)).isSome))) (yaZ (zs (zM (.bool ((mget d4 (cpy (List.replicate 12 (0:Int)) r4)).isSome)) (yaa ?_)))))))));by_cases hp6:(mget d4 (cpy (List.replicate 12 (0:Int)) r4)).isSome=true
            · replace h:=h.1 hp6;exact yar (zC hp6) (zs (zM (ii ((mget d4 (cpy (List.replicate 12 (0:Int)) r4)).getD (0:Int))) (zQ (ii ((mget d4 (cpy (List.replicate 12 (0:Int)) r4)).getD (0:Int))) (zQ (ii 0) (yaa (yaG rfl rfl rfl ⟨_,_,_,rfl,hS.sel [0,2],h⟩))))))
            · replace h:=h.2 hp6;refine yat (zC (zI hp6)) (yag (yaf (zs (zM (.pointer (some ⟨gc,0,none⟩)) (zq (ybU rfl) (zq (yan rfl underlying151 rfl yg5) (zq (zl underlying149 (hS.bc 0 3)) (zq (v_mlen rfl underlying149 (hS.mp 2 rfl)) (zq zE (yaa ?_))))))))));by_cases hp7:(d4.length:Int)=16384
              · replace h:=h.1 hp7;exact zc hp7 (zs (zQ (ii 0) (zQ (ii 12) (yaa (yaG rfl rfl rfl ⟨_,_,_,rfl,hS.sel [0,2],h⟩)))))
              · replace h:=h.2 hp7;refine zd hp7 (yag (zs (zM (ii r) (zQ (ii r) (yaa (yaf (zs (zM (.slice Ar lr cr) (zq (yaF (n:=r4.length) rfl underlying43 (yaE (hS.rdo 4 rfl))) (zM (ii 0) (yaa (yai ?_))))))))))));obtain ⟨I2,⟨m0,h0⟩,hr⟩:=h;refine yaz (fun m E ds w'=>∃ v v2 d5 v3,I2 m v v2 d5 v3∧ds=[]∧E 0 = .pointer (some ⟨gc,0,none⟩)∧E 9 = .slice Ar lr cr∧E 11 = .pointer (some ⟨g,0,none⟩)∧E 14=(ii v)∧E 80=(ii (r4.length:Int))∧E 81=(ii v2)∧Sep w S O w' (rl [Res.box 151 gc [ii d,.slice Ad ld cd,ii d3,(Value.map (some gm))],Res.ro (FP.sl c3 Ad ld cd d2),Res.obj gm (mapO (Value.int .i64) d5),Res.own cI 3 Ar lr cr v3,Res.own cI 156 (some ⟨g,0,none⟩) 12 12 (cpy (List.replicate 12 (0:Int)) r4)])) m0 ⟨_,_,_,_,h0,rfl,rfl,rfl,rfl,rfl,rfl,rfl,hS.sel [0,1,2,4,6]⟩ ?_;clear h0 hS;rintro m2 E ds w6 ⟨v,v2,d5,v3,h,rfl,H0,H9,H11,H14,H80,H81,hS⟩ ag;replace h:=hr m2 v v2 d5 v3 h;clear hr;refine zs (zq (ydj H81 H80) (yaa (yaf ?_)));by_cases hp8:v2<(r4.length:Int)
                · replace h:=h.1 hp8;refine zc hp8 (yag (yaf (yai (zs (zH H81 (zQ (ii v2) (yaa (zs (zH H9 (zM (ii v2) ?_))))))))));obtain ⟨hx4,h⟩:=h;refine zq (zi underlying43 yaj (yaP (hS.rdo 3 rfl) hx4)) (zq (yau (v:=(ii (gi v3 v2.toNat))) rfl underlying3 rfl (rd_1 (hS.rdo 3 rfl) hx4 (fun q=>yaY q) rfl)) ?_);obtain ⟨hi4,h⟩:=h;refine zq (zS hi4) (zq (zi underlying43 yaj (yaP (hS.rdo 3 rfl) hx4)) (zo (zt (ii ((gi v3 v2.toNat)-1)) yaj (hS.wr 3 rfl rfl hx4) ?_)));intro w7 e1;replace hS:=hS.st 3 rfl rfl hx4 (x:=(gi v3 v2.toNat)-1) rfl e1;clear e1;refine zb (yaa (zs (zq (yad (v:=(.pointer (some ⟨gc,0,none⟩))) H0) (zH H9 ?_))));obtain ⟨fu,h⟩:=h;have hB:=hS.lend (asc [(0,0),(2,1),(3,2)]) [0,1,2,3] (by decide) ⟨.inl (ybE rfl), .inr rfl, .inl (ybE rfl), .inl (ybE rfl),trivial⟩;refine zn (ydx (vs:=#[(.pointer (some ⟨gc,0,none⟩)),.slice Ar lr cr]) (us:=#[]) rfl (am2 rfl rfl) enter_80 ((ya4 (by simp) (yfU h hB)).mono ?_));rintro _ w8 ⟨r7,r8,y,rfl,hC,h⟩;replace hS:=hS.back (asc [(0,0),(2,1),(3,2)]) (yey (by decide)) hC;clear hC hB;refine ⟨_,rfl,?_⟩;refine zb (zM (.tuple #[ii r7,ii r8]) (zq (zx (ii r7)) (zq (zx (ii r8)) (zQ (ii r7) (zQ (ii r8) (yaa (zs (zH H9 (zM (ii v2) ?_)))))))));obtain ⟨hx5,h⟩:=h;refine zq (zi underlying43 yaj (yaP (hS.rdo 3 rfl) hx5)) (zq (yau (v:=(ii (gi (v3.set v2.toNat ((gi v3 v2.toNat)-1)) v2.toNat))) rfl underlying3 rfl (rd_1 (hS.rdo 3 rfl) hx5 (fun q=>yaY q) rfl)) ?_);obtain ⟨hi5,h⟩:=h;refine zq (zA hi5) (zq (zi underlying43 yaj (yaP (hS.rdo 3 rfl) hx5)) (zo (zt (ii ((gi (v3.set v2.toNat ((gi v3 v2.toNat)-1)) v2.toNat)+1)) yaj (hS.wr 3 rfl rfl hx5) ?_)));intro w9 e1;replace hS:=hS.st 3 rfl rfl hx5 (x:=(gi (v3.set v2.toNat ((gi v3 v2.toNat)-1)) v2.toNat)+1) rfl e1;clear e1;refine zb (yaa (yaf (zs (zM (ii r8) (zq zN (yaa ?_))))));by_cases hp9:r8=0
                  · replace h:=h.1 hp9;refine ze hp9 (yag (zr (zH H14 (zM (ii r7) ?_))));obtain ⟨hi6,h⟩:=h;refine zq (zA hi6) (zq (yja rfl rfl) (zQ (ii (mnF v (r7+1))) (yaa (yah (zr ?_)))));obtain ⟨hi7,h⟩:=h;refine zq (ybS H81 rfl hi7) (zM (ii (v2+1)) (yaa ?_));obtain ⟨mq,hlt,h⟩:=h;exact ag mq _ _ _ ⟨_,_,_,_,h,rfl,H0,H9,H11,rfl,H80,rfl,hS.sel [0,1,2,3,4]⟩ hlt
                  · replace h:=h.2 hp9;exact zf hp9 (zs (zM (ii r8) (zQ (ii 0) (zQ (ii r8) (yaa (yaG rfl rfl rfl ⟨_,_,_,rfl,hS.sel [0,2],h⟩))))))
                · replace h:=h.2 hp8;refine zd hp8 (yax rfl (yaf (yaT [0,1,2,3,4,5,6] st0 yaD (by kernel_rfl) (by kernel_rfl) ?_)));replace hS:=hS.drew;refine zp (yad (v:=(.pointer (some ⟨gc,0,none⟩))) H0) (zp (ybU rfl) (zp (yan rfl underlying151 rfl yg5) (zp (zl underlying149 (hS.bc 0 3)) (zp (yaq (vs:=(cpy (List.replicate 12 (0:Int)) r4).map (Value.int .i64)) H11 underlying156 rfl (yiO ygU (hS.rdo 4 rfl)) (yhB (hS.rdo 4 rfl))) (zp (yad H14) ?_)))));obtain ⟨hx6,h⟩:=h;refine yjg rfl rfl rfl (n_mput (vE:=(Value.int .i64)) (yi5) hx6 hx3 (v:=v) rfl rfl rfl underlying149 (hS.mp 2 rfl) ?_);intro w10 e1 e2;replace hS:=hS.mst 2 rfl e1 e2;clear e1 e2;exact zb (yaZ (zs (zH H14 (zQ (ii v) (zQ (ii 0) (yaa (yaG rfl rfl rfl ⟨_,_,_,rfl,hS.sel [0,2],h⟩)))))))
          · replace h:=h.2 hp5;exact yar (zC (zB (zI hp5))) (zs (zQ (ii (-1)) (zQ (ii 0) (yaa (yaG rfl rfl rfl ⟨_,_,_,rfl,hS.sel [0,2],h⟩)))))
        · replace h:=h.2 hp4;exact zf hp4 (zs (zM (ii r6) (zQ (ii 0) (zQ (ii r6) (yaa (yaG rfl rfl rfl ⟨_,_,_,rfl,hS.sel [0,2],h⟩))))))
  · replace h:=h.2 hp;exact zf hp (zs (zM (ii r2) (zQ (ii 0) (zQ (ii r2) (yaa (yaG rfl rfl rfl ⟨_,_,_,rfl,hS.sel [0,2],h⟩))))))
theorem yg8{nf} : ∀ {S O:Nat→Prop} {w:World} {d d2 d3 d4 i gc Ad ld cd gm Ai li ci} {R:Int→Int→(List (List Int×Int))→Prop} (h:ycv nf d d2 d3 d4 i R) (hS:Sep w S O w (rl [Res.box 151 gc [(Value.int .i64 d),(Value.slice Ad ld cd),(Value.int .i64 d3),(Value.map (some gm))],Res.ro (FP.sl c3 Ad ld cd d2),Res.obj gm (mapO (Value.int .i64) d4),Res.ro (FP.sl cI Ai li ci i)])),Calls Tryz.prog 80 #[(Value.pointer (some ⟨gc,0,none⟩)),(Value.slice Ai li ci)] w fun e w'=>∃ r9 r10 z,e = .returned (Value.tuple #[(Value.int .i64 r9),(Value.int .i64 r10)])∧Sep w S O w' (rl [Res.box 151 gc [(Value.int .i64 d),(Value.slice Ad ld cd),(Value.int .i64 d3),(Value.map (some gm))],Res.obj gm (mapO (Value.int .i64) z)])∧R r9 r10 z:=by
  induction nf with
  | zero=>intros;rename_i h _;exact h.elim
  | succ nf ih=>intro S O w d d2 d3 d4 i gc Ad ld cd gm Ai li ci R h hS;exact ygz ih h hS
def yea(g:Int)(g2:List E3)(d:List Int)(R:Int→Int→Prop):Prop :=
yc0 g g2 ([d]) (fun r =>
((r=0 →
yfN g g2 (fun r2 =>
((r2=0 →
False) ∧
(¬(r2=0) →
R 0 r2)))
(fun f f2 f3 m2 r3 =>
((r3=0 →
(∃ fu,ycv fu f f2 f3 m2 d (fun r4 r5 y =>
R r4 r5))) ∧
(¬(r3=0) →
R 0 r3)))) ∧
(¬(r=0) →
R 0 r)))
theorem ykG{O:Nat→Prop}{w:World}{g g2 d Ag lg cg Ad ld cd}{R:Int→Int→Prop}(h:yea g g2 d R)(hO:∀ k,O k→k<w.heap.size)(hA0:(FP.sl c3 Ag lg cg g2).P O w)(hA1:(FP.sl cI Ad ld cd d).P O w) :
    Calls Tryz.prog 29 #[(.agg #[ii g,.slice Ag lg cg]),.slice Ad ld cd] w fun e w'=>∃ r6 r7,e = .returned (.tuple #[ii r6,ii r7])∧Sep w no O w' (rl [])∧R r6 r7:=by
  unfold yea at h;have hS:Sep w no O w (rl [Res.ro (FP.sl c3 Ag lg cg g2),Res.ro (FP.sl cI Ad ld cd d)]):=Sep.startl hO [(FP.sl c3 Ag lg cg g2),(FP.sl cI Ad ld cd d)] ⟨hA0,hA1,trivial⟩;refine yap (l:=[(.agg #[ii g,.slice Ag lg cg]),.slice Ad ld cd]) func29 rfl ntmps29 zY (zs (zn (ya8 (v:=(.agg #[ii g,.slice Ag lg cg])) rfl ?_)));intro g3 w2 hN;replace hS:=hS.neu 2 [ii g,.slice Ag lg cg] hN;clear hN;refine zb (zQ (ii 0) (zQ (ii 0) (yaa (yaf (zs (zq (yaq (vs:=[ii g,.slice Ag lg cg]) rfl underlying24 rfl yao ⟨hS.bc 2 0,hS.bc 2 1,trivial⟩) (zM (.slice Ad ld cd) (zn (yaX (l:=[(0,(.slice Ad ld cd))]) (cells:=[.slice Ad ld cd]) (bp1 rfl) underlying93 ycm rfl rfl ?_)))))))));intro g4 w3 hN;replace hS:=hS.lit (n:=1) (c:=(cL cI)) 3 rfl hN ([d]:List (List Int)) rfl (by decide) ⟨[.slice Ad ld cd],_,rfl,(ro_R (hS.ro 1 rfl)),rfl⟩;clear hN;refine zb (zn (yam rfl (am2 rfl rfl) enter_78 ((yhf h (yaB _) (hS.rdr 0 rfl) (hS.rdo 3 rfl)).mono ?_)));rintro _ w4 ⟨r,rfl,hC,h⟩;replace hS:=hS.pur hC.pure;refine ⟨_,rfl,?_⟩;refine zb (zQ (ii r) (yaa (zs (zM (ii r) (zq zN (yaa ?_))))));by_cases hp:r=0
  · replace h:=h.1 hp;refine ze hp (yag (zs (zq (yaq (vs:=[ii g,.slice Ag lg cg]) rfl underlying24 rfl yao ⟨hS.bc 2 0,hS.bc 2 1,trivial⟩) (zn (yam rfl (am1 rfl) enter_79 ((pok_rank_of h hS.blt (hS.ro 0 rfl)).mono ?_))))));rintro _ w5 (⟨r2,rfl,hC,h⟩ | ⟨f,f2,f3,m2,r3,gr,Af,lf,cf,gm,rfl,hC,h⟩)
    · replace hS:=hS.pur hC.pure;refine ⟨_,rfl,?_⟩;refine zb (zM (.tuple #[(.pointer none),ii r2]) (zq (zx (.pointer none)) (zq (zx (ii r2)) (zQ (.pointer none) (zQ (ii r2) (yaa (yaf (zs (zM (ii r2) (zq zN (yaa ?_)))))))))));by_cases hp2:r2=0
      · replace h:=h.1 hp2;exact ze hp2 (yag (zs (zM (.pointer none) (zM (.slice Ad ld cd) h.elim))))
      · replace h:=h.2 hp2;exact zf hp2 (zs (zM (ii r2) (zQ (ii 0) (zQ (ii r2) (yaa (yaG rfl rfl rfl ⟨_,_,rfl,hS.sel [],h⟩))))))
    · replace hS:=hS.call3 hC 4 5 6 rfl rfl rfl (by decide) (by decide) (by decide);clear hC;refine ⟨_,rfl,?_⟩;refine zb (zM (.tuple #[(.pointer (some ⟨gr,0,none⟩)),ii r3]) (zq (zx (.pointer (some ⟨gr,0,none⟩))) (zq (zx (ii r3)) (zQ (.pointer (some ⟨gr,0,none⟩)) (zQ (ii r3) (yaa (yaf (zs (zM (ii r3) (zq zN (yaa ?_)))))))))));by_cases hp3:r3=0
      · replace h:=h.1 hp3;refine ze hp3 (yag (zs (zM (.pointer (some ⟨gr,0,none⟩)) (zM (.slice Ad ld cd) ?_))));obtain ⟨fu,h⟩:=h;have hB:=hS.lend (asc [(4,0),(6,1)]) [4,5,6,1] (by decide) ⟨.inl (ybE rfl), .inr rfl, .inl (ybE rfl), .inr rfl,trivial⟩;refine zn (ydx (vs:=#[(.pointer (some ⟨gr,0,none⟩)),.slice Ad ld cd]) (us:=#[]) rfl (am2 rfl rfl) enter_80 ((ya4 (by simp) (yg8 h hB)).mono ?_));rintro _ w6 ⟨r4,r5,y,rfl,hC,h⟩;replace hS:=hS.back (asc [(4,0),(6,1)]) (yey (by decide)) hC;clear hC hB;refine ⟨_,rfl,?_⟩;exact zb (zq (zx (ii r4)) (zq (zx (ii r5)) (zQ (ii r4) (zQ (ii r5) (yaa (yaG rfl rfl rfl ⟨_,_,rfl,hS.sel [],h⟩))))))
      · replace h:=h.2 hp3;exact zf hp3 (zs (zM (ii r3) (zQ (ii 0) (zQ (ii r3) (yaa (yaG rfl rfl rfl ⟨_,_,rfl,hS.sel [],h⟩))))))
  · replace h:=h.2 hp;exact zf hp (zs (zM (ii r) (zQ (ii 0) (zQ (ii r) (yaa (yaG rfl rfl rfl ⟨_,_,rfl,hS.sel [],h⟩))))))
def ycl(g:Int)(g2:List E3)(d:List Int)(r:Int)(R:Bool→Int→Prop):Prop :=
yc0 g g2 ([d]) (fun r2 =>
(∃ J2:Prop,(J2→yea g g2 d (fun r3 r4 =>
((r4=0 →
R (decide (r≤r3)) r4) ∧
(¬(r4=0) →
R false r4)))) ∧
((r2=0 →
((r<0 →
R (decide (r2=0)) r2) ∧
(¬(r<0) →
J2))) ∧
(¬(r2=0) →
R (decide (r2=0)) r2))))
theorem yiI{O:Nat→Prop}{w:World}{g g2 d r Ag lg cg Ad ld cd}{R:Bool→Int→Prop}(h:ycl g g2 d r R)(hO:∀ k,O k→k<w.heap.size)(hA0:(FP.sl c3 Ag lg cg g2).P O w)(hA1:(FP.sl cI Ad ld cd d).P O w) :
    Calls Tryz.prog 74 #[(.agg #[ii g,.slice Ag lg cg]),.slice Ad ld cd,ii r] w fun e w'=>∃ r5 r6,e = .returned (.tuple #[(.bool (r5)),ii r6])∧Sep w no O w' (rl [])∧R r5 r6:=by
  unfold ycl at h;have hS:Sep w no O w (rl [Res.ro (FP.sl c3 Ag lg cg g2),Res.ro (FP.sl cI Ad ld cd d)]):=Sep.startl hO [(FP.sl c3 Ag lg cg g2),(FP.sl cI Ad ld cd d)] ⟨hA0,hA1,trivial⟩;refine yap (l:=[(.agg #[ii g,.slice Ag lg cg]),.slice Ad ld cd,ii r]) func74 rfl ntmps74 zY (zs (zn (ya8 (v:=(.agg #[ii g,.slice Ag lg cg])) rfl ?_)));intro g3 w2 hN;replace hS:=hS.neu 2 [ii g,.slice Ag lg cg] hN;clear hN;refine zb (zQ (.bool (false)) (zQ (ii 0) (yaa (yaf (zs (zq (yaq (vs:=[ii g,.slice Ag lg cg]) rfl underlying24 rfl yao ⟨hS.bc 2 0,hS.bc 2 1,trivial⟩) (zM (.slice Ad ld cd) (zn (yaX (l:=[(0,(.slice Ad ld cd))]) (cells:=[.slice Ad ld cd]) (bp1 rfl) underlying93 ycm rfl rfl ?_)))))))));intro g4 w3 hN;replace hS:=hS.lit (n:=1) (c:=(cL cI)) 3 rfl hN ([d]:List (List Int)) rfl (by decide) ⟨[.slice Ad ld cd],_,rfl,(ro_R (hS.ro 1 rfl)),rfl⟩;clear hN;refine zb (zn (yam rfl (am2 rfl rfl) enter_78 ((yhf h (yaB _) (hS.rdr 0 rfl) (hS.rdo 3 rfl)).mono ?_)));rintro _ w4 ⟨r2,rfl,hC,h⟩;replace hS:=hS.pur hC.pure;refine ⟨_,rfl,?_⟩;refine zb (zQ (ii r2) (yaa (yaf ?_)));obtain ⟨J2,hJ,h⟩:=h;refine yc1 (fun E ds w'=>J2∧ds=[]∧E 1 = .slice Ad ld cd∧E 2=(ii r)∧E 3 = .pointer (some ⟨g3,0,none⟩)∧Sep w no O w' (rl [Res.ro (FP.sl cI Ad ld cd d),Res.box 24 g3 [ii g,.slice Ag lg cg],Res.ro (FP.sl c3 Ag lg cg g2)])) ?_ ?_
  · clear h hS;rintro E ds w5 ⟨h,rfl,H1,H2,H3,hS⟩;replace h:=hJ h;refine zs (zq (yaq (vs:=[ii g,.slice Ag lg cg]) H3 underlying24 rfl yao ⟨hS.bc 1 0,hS.bc 1 1,trivial⟩) (zH H1 (zn (yam rfl (am2 rfl rfl) enter_29 ((ykG h (yaB _) (hS.rdr 2 rfl) (hS.rdr 0 rfl)).mono ?_)))));rintro _ w6 ⟨r3,r4,rfl,hC,h⟩;replace hS:=hS.pur hC.pure;refine ⟨_,rfl,?_⟩;refine zb (zM (.tuple #[ii r3,ii r4]) (zq (zx (ii r3)) (zq (zx (ii r4)) (zQ (ii r3) (zQ (ii r4) (yaa (zs (zM (ii r4) (zq zE (zM (.bool (decide (r4=0))) ?_))))))))));by_cases hp:r4=0
    · replace h:=h.1 hp;exact zW rfl rfl (zT hp) (zm (ii r3)) (zW rfl rfl (zT hp) (yad H2) (zW rfl rfl (zT hp) (yiF rfl rfl) (zq (yas (v:=(.bool (decide (r≤r3)))) (zT hp) rfl) (zM (ii r4) (zQ (.bool (decide (r≤r3))) (zQ (ii r4) (yaa (yaG rfl rfl rfl ⟨_,_,rfl,hS.sel [],h⟩))))))))
    · replace h:=h.2 hp;exact zV rfl rfl (zF hp) (zV rfl rfl (zF hp) (zV rfl rfl (zF hp) (zq (yal (v:=(.bool (false))) (zF hp) rfl) (zM (ii r4) (zQ (.bool (false)) (zQ (ii r4) (yaa (yaG rfl rfl rfl ⟨_,_,rfl,hS.sel [],h⟩))))))))
  clear hJ;intro j;refine zr (zM (ii r2) (zq zN (zM (.bool (!(decide (r2=0)))) ?_)));by_cases hp2:r2=0
  · replace h:=h.1 hp2;refine zW rfl rfl (zC (zB (decide_eq_true hp2))) (zm (ii r)) (zW rfl rfl (zC (zB (decide_eq_true hp2))) zL (zq (yal (v:=(.bool (decide (r<0)))) (zC (zB (decide_eq_true hp2))) rfl) (yaa ?_)));by_cases hp3:r<0
    · replace h:=h.1 hp3;exact zc hp3 (zs (zM (ii r2) (zq zE (zM (ii r2) (zQ (.bool (decide (r2=0))) (zQ (ii r2) (yaa (yaG rfl rfl rfl ⟨_,_,rfl,hS.sel [],h⟩))))))))
    · replace h:=h.2 hp3;exact zd hp3 (yag (j _ _ _ ⟨h,rfl,rfl,rfl,rfl,hS.sel [1,2,0]⟩))
  · replace h:=h.2 hp2;exact zV rfl rfl (zC (zB (decide_eq_false hp2))) (zV rfl rfl (zC (zB (decide_eq_false hp2))) (zq (yas (v:=(.bool (true))) (zC (zB (decide_eq_false hp2))) rfl) (yaa (yar rfl (zs (zM (ii r2) (zq zE (zM (ii r2) (zQ (.bool (decide (r2=0))) (zQ (ii r2) (yaa (yaG rfl rfl rfl ⟨_,_,rfl,hS.sel [],h⟩))))))))))))
def yj9(Rec:Int→Int→((List (List Int))→Prop)→Prop)(n:Int)(degree:Int)(R:(List (List Int))→Prop):Prop :=
((degree<0 →
R ([])) ∧
(¬(degree<0) →
((n=1 →
R ([[degree]])) ∧
(¬(n=1) →
(∃ I2:Nat→(List (List Int))→Int→Prop,(∃ m0,I2 m0 ([]) 0)∧∀ m2 out k,I2 m2 out k → 
((k≤degree →
(In64 (n-1) ∧
(In64 (degree-k) ∧
Rec (n-1) (degree-k) (fun r =>
(∃ I3:Nat→(List (List Int))→Int→Prop,(∃ m0,I3 m0 out 0)∧∀ m3 out2 i,I3 m3 out2 i → 
((i<(r.length:Int) →
((0≤i∧i<(r.length:Int)) ∧
(([k]).length+(gx r i.toNat).length≤1000000000 ∧
(out2.length+1≤1000000000 ∧
(In64 (i+1) ∧
∃ m4,m4<m3∧I3 m4 (out2++[([k]++(gx r i.toNat))]) (i+1)))))) ∧
(¬(i<(r.length:Int)) →
(In64 (k+1) ∧
∃ m5,m5<m2∧I2 m5 out2 (k+1))))))))) ∧
(¬(k≤degree) →
R out)))))))
def yka:Nat→Int→Int→((List (List Int))→Prop)→Prop
  | 0=>fun _ _ _=>False
  | nf+1=>fun n degree R=>yj9 (yka nf) n degree R
theorem ykx{Rec:Int→Int→((List (List Int))→Prop)→Prop}(hrec:∀ {O:Nat→Prop} {w:World} {n degree} {R:(List (List Int))→Prop} (h:Rec n degree R) (hO:∀ k,O k→k<w.heap.size),Calls Tryz.prog 121 #[(Value.int .i64 n),(Value.int .i64 degree)] w fun e w'=>∃ r2 Ar2 lr2 cr2,e = .returned (Value.slice Ar2 lr2 cr2)∧Sep w no O w' (rl [Res.own (cL cI) 29 Ar2 lr2 cr2 r2])∧R r2){O:Nat→Prop}{w:World}{n degree}{R:(List (List Int))→Prop}(h:yj9 Rec n degree R)(hO:∀ k,O k→k<w.heap.size) :
    Calls Tryz.prog 121 #[ii n,ii degree] w fun e w'=>∃ r2 Ar2 lr2 cr2,e = .returned (.slice Ar2 lr2 cr2)∧Sep w no O w' (rl [Res.own (cL cI) 29 Ar2 lr2 cr2 r2])∧R r2:=by
  unfold yj9 at h;have hS:Sep w no O w (rl []):=Sep.start w hO;refine yap (l:=[ii n,ii degree]) func121 rfl ntmps121 zY (zs (zQ (.slice none 0 0) (yaa (yaf (zs (zM (ii degree) (zq zL (yaa ?_))))))));by_cases hp:degree<0
  · replace h:=h.1 hp;refine zc hp (zs (zQ (.slice none 0 0) (yaa ?_)));replace hS:=hS.nil 0 rfl (cL cI) 29;exact yak rfl rfl ⟨_,_,_,_,rfl,hS.sel [0],h⟩
  · replace h:=h.2 hp;refine zd hp (yag (yaf (zs (zM (ii n) (zq zE (yaa ?_))))));by_cases hp2:n=1
    · replace h:=h.1 hp2;refine zc hp2 (zs (zM (ii degree) (zn (yaX (l:=[(0,(ii degree))]) (cells:=[ii degree]) (bp1 rfl) underlying29 yaj rfl rfl ?_))));intro g w2 hN;replace hS:=hS.litf (n:=1) 0 rfl (fI .i64) hN ([degree]:List Int) rfl (by decide) rfl;clear hN;refine zb ?_;replace hS:=hS.frz 0 rfl;refine zn (yaX (l:=[(0,(.slice (some ⟨g,0,none⟩) 1 1))]) (cells:=[(.slice (some ⟨g,0,none⟩) 1 1)]) (bp1 rfl) underlying25 yaL rfl rfl ?_);intro g2 w3 hN;replace hS:=hS.lit (n:=1) (c:=(cL cI)) 1 rfl hN ([[degree]]:List (List Int)) rfl (by decide) ⟨[(.slice (some ⟨g,0,none⟩) 1 1)],_,rfl,(ro_R (hS.ro 0 rfl)),rfl⟩;clear hN;exact zb (zQ (.slice (some ⟨g2,0,none⟩) 1 1) (yaa (yak rfl rfl ⟨_,_,_,_,rfl,hS.sel [1],h⟩)))
    · replace h:=h.2 hp2;refine zd hp2 (yag (zs (zQ (.slice none 0 0) (yaa (yaf (zs (zQ (ii 0) (yaa (yai ?_)))))))));replace hS:=hS.nil 0 rfl (cL cI) 29;obtain ⟨I2,⟨m0,h0⟩,hr⟩:=h;refine yaz (fun m E ds w'=>∃ out k Aa Ab Ac,I2 m out k∧ds=[]∧E 0=(ii n)∧E 1=(ii degree)∧E 5 = .slice Aa Ab Ac∧E 6=(ii k)∧Sep w no O w' (rl [Res.own (cL cI) 29 Aa Ab Ac out])) m0 ⟨_,_,_,_,_,h0,rfl,rfl,rfl,rfl,rfl,hS.sel [0]⟩ ?_;clear h0 hS;rintro m2 E ds w4 ⟨out,k,Aa,Ab,Ac,h,rfl,H0,H1,H5,H6,hS⟩ ag;replace h:=hr m2 out k h;clear hr;refine yaf (zs (zH H6 (zH H1 (zq (yl1 rfl rfl) (yaa ?_)))));by_cases hp3:k≤degree
      · replace h:=h.1 hp3;refine zc hp3 (yag (yaf (yai (zs (zH H0 ?_)))));obtain ⟨hi,h⟩:=h;refine zq (zS hi) (zH H1 (zH H6 ?_));obtain ⟨hi2,h⟩:=h;refine zq (zS hi2) (zn (yam rfl (am2 rfl rfl) yky ((hrec h hS.blt).mono ?_)));rintro _ w5 ⟨r,Ar,lr,cr,rfl,hC,h⟩;replace hS:=hS.call1 hC 1 0 rfl;clear hC;refine ⟨_,rfl,?_⟩;refine zb (zQ (.slice Ar lr cr) (yaa (zs (zQ (ii 0) (yaa (yai ?_))))));obtain ⟨I3,⟨m0,h0⟩,hr⟩:=h;refine yaz (fun m E ds w'=>∃ out2 i Ad Ae Af,I3 m out2 i∧ds=[]∧E 0=(ii n)∧E 1=(ii degree)∧E 5 = .slice Ad Ae Af∧E 6=(ii k)∧E 7 = .slice Ar lr cr∧E 8=(ii i)∧Sep w no O w' (rl [Res.own (cL cI) 29 Ad Ae Af out2,Res.own (cL cI) 29 Ar lr cr r])) m0 ⟨_,_,_,_,_,h0,rfl,H0,H1,H5,H6,rfl,rfl,hS.sel [0,1]⟩ ?_;clear h0 hS;rintro m3 E ds w6 ⟨out2,i,Ad,Ae,Af,h,rfl,H0,H1,H5,H6,H7,H8,hS⟩ again2;replace h:=hr m3 out2 i h;clear hr;refine yaf (zs (zH H8 (zH H7 (zq (yaF (n:=r.length) rfl underlying25 (yaE (hS.rdo 1 rfl))) (zq zL (yaa ?_))))));by_cases hp4:i<(r.length:Int)
        · replace h:=h.1 hp4;refine zc hp4 (yag (yaf (yai (zr (zH H5 (zH H6 (zn (yaX (l:=[(0,(ii k))]) (cells:=[ii k]) (bp1 rfl) underlying29 yaj rfl rfl ?_))))))));intro g3 w7 hN;replace hS:=hS.litf (n:=1) 2 rfl (fI .i64) hN ([k]:List Int) rfl (by decide) rfl;clear hN;refine zb (zH H7 (zH H8 ?_));obtain ⟨hx,h⟩:=h;refine zq (zi underlying25 yaL (yaP (hS.rdo 1 rfl) hx)) ?_;obtain ⟨A,l,c,hc,hq⟩:=hS.elo 1 rfl hx 3 rfl;replace hS:=hq;clear hq;refine zq (yau (v:=(.slice A l c)) rfl underlying29 rfl hc) ?_;obtain ⟨hx2,h⟩:=h;refine zn (ygp (c:=cI) rfl rfl underlying29 underlying29 yaj rfl rfl (by decide) hS 2 rfl (hS.yr 3 rfl) hx2 ?_);clear hS;intro A2 c4 w8 hS;refine zb ?_;replace hS:=hS.frz 2 rfl;refine zn (yaX (l:=[(0,(.slice A2 (1+l) c4))]) (cells:=[(.slice A2 (1+l) c4)]) (bp1 rfl) underlying25 yaL rfl rfl ?_);intro g4 w9 hN;replace hS:=hS.lit (n:=1) (c:=(cL cI)) 4 rfl hN ([([k]++(gx r i.toNat))]:List (List Int)) rfl (by decide) ⟨[(.slice A2 (1+l) c4)],_,rfl,(ro_R (hS.ro 2 rfl)),rfl⟩;clear hN;refine zb ?_;obtain ⟨hx3,h⟩:=h;refine zn (ygp (c:=(cL cI)) rfl rfl underlying25 underlying25 yaL rfl rfl (by decide) hS 0 rfl (hS.yo 4 rfl) hx3 ?_);clear hS;intro A3 c5 w10 hS;refine zb (zQ (.slice A3 (Ae+1) c5) (yaa (yah (zr (zH H8 ?_)))));obtain ⟨hi3,h⟩:=h;refine zq (zA hi3) (zQ (ii (i+1)) (yaa ?_));obtain ⟨mq,hlt,h⟩:=h;exact again2 mq _ _ _ ⟨_,_,_,_,_,h,rfl,H0,H1,rfl,H6,H7,rfl,hS.sel [0,1]⟩ hlt
        · replace h:=h.2 hp4;refine zd hp4 (yax rfl (yah (zr (zH H6 ?_))));obtain ⟨hi4,h⟩:=h;refine zq (zA hi4) (zQ (ii (k+1)) (yaa ?_));obtain ⟨mq,hlt,h⟩:=h;exact ag mq _ _ _ ⟨_,_,_,_,_,h,rfl,H0,H1,H5,rfl,hS.sel [0]⟩ hlt
      · replace h:=h.2 hp3;exact zd hp3 (yax rfl (zs (zH H5 (zQ (.slice Aa Ab Ac) (yaa (yak rfl rfl ⟨_,_,_,_,rfl,hS.sel [0],h⟩))))))
theorem ykp{nf} : ∀ {O:Nat→Prop} {w:World} {n degree} {R:(List (List Int))→Prop} (h:yka nf n degree R) (hO:∀ k,O k→k<w.heap.size),Calls Tryz.prog 121 #[(Value.int .i64 n),(Value.int .i64 degree)] w fun e w'=>∃ r2 Ar2 lr2 cr2,e = .returned (Value.slice Ar2 lr2 cr2)∧Sep w no O w' (rl [Res.own (cL cI) 29 Ar2 lr2 cr2 r2])∧R r2:=by
  induction nf with
  | zero=>intros;rename_i h _;first | exact h.elim | (rename_i h _ _;exact h.elim) | contradiction
  | succ nf ih=>intro O w n degree R h hO;exact ykx ih h hO
def ykk(g:Int)(g2:List E3)(d:List Int)(degree:Int)(R:(List Int)→Bool→Prop):Prop :=
(∃ fu,yka fu g degree (fun r =>
(∃ I2:Nat→Int→Prop,(∃ m0,I2 m0 0)∧∀ m2 i,I2 m2 i → 
((i<(r.length:Int) →
((0≤i∧i<(r.length:Int)) ∧
ykj d (gx r i.toNat) (-1) (fun r2 =>
yki g g2 r2 (fun r3 =>
((r3=true →
(In64 (i+1) ∧
∃ m3,m3<m2∧I2 m3 (i+1))) ∧
(¬(r3=true) →
R (gx r i.toNat) true)))))) ∧
(¬(i<(r.length:Int)) →
R ([]) false)))))
theorem pok_r38_Fails{O:Nat→Prop}{w:World}{g g2 d degree Ag lg cg Ad ld cd}{R:(List Int)→Bool→Prop}(h:ykk g g2 d degree R)(hO:∀ k,O k→k<w.heap.size)(hA0:(FP.sl c3 Ag lg cg g2).P O w)(hA1:(FP.sl cI Ad ld cd d).P O w) :
    Calls Tryz.prog 129 #[(.agg #[ii g,.slice Ag lg cg]),.slice Ad ld cd,ii degree] w fun e w'=>∃ r4 r5 Ar3 lr3 cr3,e = .returned (.tuple #[.slice Ar3 lr3 cr3,(.bool (r5))])∧Sep w no O w' (rl [Res.ro (FP.sl cI Ar3 lr3 cr3 r4)])∧R r4 r5:=by
  unfold ykk at h;have hS:Sep w no O w (rl [Res.ro (FP.sl c3 Ag lg cg g2),Res.ro (FP.sl cI Ad ld cd d)]):=Sep.startl hO [(FP.sl c3 Ag lg cg g2),(FP.sl cI Ad ld cd d)] ⟨hA0,hA1,trivial⟩;refine yap (l:=[(.agg #[ii g,.slice Ag lg cg]),.slice Ad ld cd,ii degree]) func129 rfl ntmps129 zY (zs (zn (ya8 (v:=(.agg #[ii g,.slice Ag lg cg])) rfl ?_)));intro g3 w2 hN;replace hS:=hS.neu 2 [ii g,.slice Ag lg cg] hN;clear hN;refine zb (zQ (.slice none 0 0) (zQ (.bool (false)) (yaa (zs (zq (yan rfl underlying24 rfl yaj) (zq (zl underlying3 (hS.bc 2 0)) (zM (ii degree) ?_)))))));obtain ⟨fu,h⟩:=h;refine zn (yam rfl (am2 rfl rfl) yky ((ykp h hS.blt).mono ?_));rintro _ w3 ⟨r,Ar,lr,cr,rfl,hC,h⟩;replace hS:=hS.call1 hC 3 0 rfl;clear hC;refine ⟨_,rfl,?_⟩;refine zb (zQ (.slice Ar lr cr) (yaa (yaf (zs (zQ (ii 0) (yaa (yai ?_)))))));obtain ⟨I2,⟨m0,h0⟩,hr⟩:=h;refine yaz (fun m E ds w'=>∃ i,I2 m i∧ds=[]∧E 1 = .slice Ad ld cd∧E 3 = .pointer (some ⟨g3,0,none⟩)∧E 8 = .slice Ar lr cr∧E 9=(ii i)∧Sep w no O w' (rl [Res.ro (FP.sl cI Ad ld cd d),Res.box 24 g3 [ii g,.slice Ag lg cg],Res.ro (FP.sl c3 Ag lg cg g2),Res.own (cL cI) 29 Ar lr cr r])) m0 ⟨_,h0,rfl,rfl,rfl,rfl,rfl,hS.sel [1,2,0,3]⟩ ?_;clear h0 hS;rintro m2 E ds w4 ⟨i,h,rfl,H1,H3,H8,H9,hS⟩ ag;replace h:=hr m2 i h;clear hr;refine yaf (zs (zH H9 (zH H8 (zq (yaF (n:=r.length) rfl underlying25 (yaE (hS.rdo 3 rfl))) (zq zL (yaa ?_))))));by_cases hp:i<(r.length:Int)
  · replace h:=h.1 hp;refine zc hp (yag (yaf (yai (yaf (yaT [0,1,2,3,4,5,6,7,8] (fun i=>match i with | 6=>[0] | _=>[]) yaD (by kernel_rfl) (by kernel_rfl) ?_)))));replace hS:=hS.drew;refine zp (yaq (vs:=[ii g,.slice Ag lg cg]) H3 underlying24 rfl yao ⟨hS.bc 1 0,hS.bc 1 1,trivial⟩) (zp (yad H1) (zp (yad H8) (zp (yad H9) ?_)));obtain ⟨hx,h⟩:=h;refine zp (zi underlying25 yaL (yaP (hS.rdo 3 rfl) hx)) ?_;obtain ⟨A,l,c,hc,hq⟩:=hS.elo 3 rfl hx 4 rfl;replace hS:=hq;clear hq;refine zp (yau (v:=(.slice A l c)) rfl underlying29 rfl hc) (rp_n rfl rfl rfl rfl (yam rfl (am3 rfl rfl rfl) enter_155 ((pok_r25_Plus h (yaB _) (hS.rdr 0 rfl) (hS.rdr 4 rfl)).mono ?_)));rintro _ w5 ⟨r2,Ar2,lr2,cr2,rfl,hC,h⟩;replace hS:=hS.call1 (hC.widen (yde (ya0 (fI .i64) _ _ _ _ _) ydA) hS.blt) 5 0 rfl;clear hC;refine ⟨_,rfl,?_⟩;refine ⟨⟨fun hh=>zZ hh,⟨fun hh=>zZ hh,⟨fun hh=>zZ hh,⟨fun hh=>zZ hh,⟨fun hh=>zZ hh,⟨fun _=>(yaq (vs:=[ii g,.slice Ag lg cg]) H3 underlying24 rfl yao ⟨hS.bc 1 0,hS.bc 1 1,trivial⟩),trivial⟩⟩⟩⟩⟩⟩,?_⟩;refine rp_n rfl rfl rfl rfl (yam rfl (am2 rfl rfl) enter_154 ((pok_r36_Wins h (yaB _) (hS.rdr 2 rfl) (hS.rdo 5 rfl)).mono ?_));rintro _ w6 ⟨r3,rfl,hC,h⟩;replace hS:=hS.pur hC.pure;refine ⟨_,rfl,?_⟩;refine zb (zp (ycX rfl) (yaZ ?_));by_cases hp2:r3=true
    · replace h:=h.1 hp2;refine yat (zC (zB hp2)) (yag (yah (zr (zH H9 ?_))));obtain ⟨hi,h⟩:=h;refine zq (zA hi) (zQ (ii (i+1)) (yaa ?_));obtain ⟨mq,hlt,h⟩:=h;exact ag mq _ _ _ ⟨_,h,rfl,H1,H3,H8,rfl,hS.sel [0,1,2,3]⟩ hlt
    · replace h:=h.2 hp2;refine yar (zC (zB (zI hp2))) (zs (zH H8 (zH H9 (zq (zi underlying25 yaL (yaP (hS.rdo 3 rfl) hx)) ?_))));obtain ⟨A2,l2,c4,hc2,hq⟩:=hS.elo 3 rfl hx 6 rfl;replace hS:=hq;clear hq;exact zq (yau (v:=(.slice A2 l2 c4)) rfl underlying29 rfl hc2) (zQ (.slice A2 l2 c4) (zQ (.bool (true)) (yaa (yaG rfl rfl rfl ⟨_,_,_,_,_,rfl,hS.sel [6],h⟩))))
  · replace h:=h.2 hp;refine zd hp (yax rfl (zs (zQ (.slice none 0 0) (zQ (.bool (false)) (yaa ?_)))));replace hS:=hS.addro 4 rfl _ (yhe cI _ _);exact yaG rfl rfl rfl ⟨_,_,_,_,_,rfl,hS.sel [4],h⟩
def ylY(g:Int)(g2:List E3)(d:List Int)(most:Int)(R:Bool→Prop):Prop :=
(∃ J2:Prop,(J2→ylU g g2 d (fun r =>
((r=0 →
ylX g g2 d (fun r2 =>
((r2=true →
ykg d (fun r3 =>
R (decide (r3≤most)))) ∧
(¬(r2=true) →
R false)))) ∧
(¬(r=0) →
R true)))) ∧
ykc g g2 (fun r4 =>
((r4=true →
((100<(d.length:Int) →
R false) ∧
(¬(100<(d.length:Int)) →
J2))) ∧
(¬(r4=true) →
R false))))
theorem pok_r38_Few{O:Nat→Prop}{w:World}{g g2 d most Ag lg cg Ad ld cd}{R:Bool→Prop}(h:ylY g g2 d most R)(hO:∀ k,O k→k<w.heap.size)(hA0:(FP.sl c3 Ag lg cg g2).P O w)(hA1:(FP.sl cI Ad ld cd d).P O w) :
    Calls Tryz.prog 38 #[(.agg #[ii g,.slice Ag lg cg]),.slice Ad ld cd,ii most] w fun e w'=>∃ r5,e = .returned (.bool (r5))∧Sep w no O w' (rl [])∧R r5:=by
  unfold ylY at h;have hS:Sep w no O w (rl [Res.ro (FP.sl c3 Ag lg cg g2),Res.ro (FP.sl cI Ad ld cd d)]):=Sep.startl hO [(FP.sl c3 Ag lg cg g2),(FP.sl cI Ad ld cd d)] ⟨hA0,hA1,trivial⟩;refine yap (l:=[(.agg #[ii g,.slice Ag lg cg]),.slice Ad ld cd,ii most]) func38 rfl ntmps38 zY (zs (zn (ya8 (v:=(.agg #[ii g,.slice Ag lg cg])) rfl ?_)));intro g3 w2 hN;replace hS:=hS.neu 2 [ii g,.slice Ag lg cg] hN;clear hN;refine zb (zQ (.bool (false)) (yaa (yaf (yaf ?_))));obtain ⟨J2,hJ,h⟩:=h;refine yc1 (fun E ds w'=>J2∧ds=[]∧E 1 = .slice Ad ld cd∧E 2=(ii most)∧E 3 = .pointer (some ⟨g3,0,none⟩)∧Sep w no O w' (rl [Res.ro (FP.sl cI Ad ld cd d),Res.box 24 g3 [ii g,.slice Ag lg cg],Res.ro (FP.sl c3 Ag lg cg g2)])) ?_ ?_
  · clear h hS;rintro E ds w3 ⟨h,rfl,H1,H2,H3,hS⟩;replace h:=hJ h;refine zs (zq (yaq (vs:=[ii g,.slice Ag lg cg]) H3 underlying24 rfl yao ⟨hS.bc 1 0,hS.bc 1 1,trivial⟩) (zH H1 (zn (yam rfl (am2 rfl rfl) enter_83 ((pok_r35_Given h (yaB _) (hS.rdr 2 rfl) (hS.rdr 0 rfl)).mono ?_)))));rintro _ w4 ⟨r,rfl,hC,h⟩;replace hS:=hS.pur hC.pure;refine ⟨_,rfl,?_⟩;refine zb (zq zN (zM (.bool (!(decide (r=0)))) ?_));by_cases hp:r=0
    · replace h:=h.1 hp;refine zW rfl rfl (zC (zB (decide_eq_true hp))) (yaq (vs:=[ii g,.slice Ag lg cg]) H3 underlying24 rfl yao ⟨hS.bc 1 0,hS.bc 1 1,trivial⟩) (zW rfl rfl (zC (zB (decide_eq_true hp))) (yad H1) (rl_n (yae rfl (yac rfl (zC (zB (decide_eq_true hp))))) rfl rfl rfl (yam rfl (am2 rfl rfl) enter_84 ((pok_r34_Low h (yaB _) (hS.rdr 2 rfl) (hS.rdr 0 rfl)).mono ?_))));rintro _ w5 ⟨r2,rfl,hC,h⟩;replace hS:=hS.pur hC.pure;refine ⟨_,rfl,?_⟩;refine zb (zW rfl rfl (zC (zB (decide_eq_true hp))) (zm (.bool (r2))) ?_);by_cases hp2:r2=true
      · replace h:=h.1 hp2;refine zW rfl rfl (zC hp2) (yad H1) (rl_n (yae rfl (yac rfl (zC hp2))) rfl rfl rfl (yam rfl (am1 rfl) enter_30 ((ykK h (yaB _) (hS.rdr 0 rfl)).mono ?_)));rintro _ w6 ⟨r3,rfl,hC,h⟩;replace hS:=hS.pur hC.pure;refine ⟨_,rfl,?_⟩;exact zb (zW rfl rfl (zC hp2) (yad H2) (zW rfl rfl (zC hp2) (yl1 rfl rfl) (zW rfl rfl (zC (zB (decide_eq_true hp))) (yas (v:=(.bool (decide (r3≤most)))) (zC hp2) rfl) (zq (yal (v:=(.bool (decide (r3≤most)))) (zC (zB (decide_eq_true hp))) rfl) (zQ (.bool (decide (r3≤most))) (yaa (yak rfl rfl ⟨_,rfl,hS.sel [],h⟩)))))))
      · replace h:=h.2 hp2;exact zV rfl rfl (zC (zI hp2)) (zV rfl rfl (zC (zI hp2)) (zV rfl rfl (zC (zI hp2)) (zV rfl rfl (zC (zI hp2)) (zW rfl rfl (zC (zB (decide_eq_true hp))) (yal (v:=(.bool (false))) (zC (zI hp2)) rfl) (zq (yal (v:=(.bool (false))) (zC (zB (decide_eq_true hp))) rfl) (zQ (.bool (false)) (yaa (yak rfl rfl ⟨_,rfl,hS.sel [],h⟩))))))))
    · replace h:=h.2 hp;exact zV rfl rfl (zC (zB (decide_eq_false hp))) (zV rfl rfl (zC (zB (decide_eq_false hp))) (zV rfl rfl (zC (zB (decide_eq_false hp))) (zV rfl rfl (zC (zB (decide_eq_false hp))) (zX (zX (zX (zX (zV rfl rfl (zC (zB (decide_eq_false hp))) (zq (yas (v:=(.bool (true))) (zC (zB (decide_eq_false hp))) rfl) (zQ (.bool (true)) (yaa (yak rfl rfl ⟨_,rfl,hS.sel [],h⟩))))))))))))
  clear hJ;intro j;refine zr (zq (yaq (vs:=[ii g,.slice Ag lg cg]) rfl underlying24 rfl yao ⟨hS.bc 2 0,hS.bc 2 1,trivial⟩) (zn (yam rfl (am1 rfl) enter_23 ((ykt h (yaB _) (hS.rdr 0 rfl)).mono ?_))));rintro _ w7 ⟨r4,rfl,hC,h⟩;replace hS:=hS.pur hC.pure;refine ⟨_,rfl,?_⟩;refine zb (zq (ycX rfl) (zM (.bool (!(r4))) ?_));by_cases hp3:r4=true
  · replace h:=h.1 hp3;refine zW rfl rfl (zC (zB hp3)) (zm (.slice Ad ld cd)) (zW rfl rfl (zC (zB hp3)) (yaF (n:=d.length) rfl underlying29 (yaE (hS.rdr 1 rfl))) (zW rfl rfl (zC (zB hp3)) zG (zq (yal (v:=(.bool (decide (100<(d.length:Int))))) (zC (zB hp3)) rfl) (yaa ?_))));by_cases hp4:100<(d.length:Int)
    · replace h:=h.1 hp4;exact zc hp4 (zs (zQ (.bool (false)) (yaa (yak rfl rfl ⟨_,rfl,hS.sel [],h⟩))))
    · replace h:=h.2 hp4;exact zd hp4 (yag (j _ _ _ ⟨h,rfl,rfl,rfl,rfl,hS.sel [1,2,0]⟩))
  · replace h:=h.2 hp3;exact zV rfl rfl (zC (zB (zI hp3))) (zV rfl rfl (zC (zB (zI hp3))) (zV rfl rfl (zC (zB (zI hp3))) (zq (yas (v:=(.bool (true))) (zC (zB (zI hp3))) rfl) (yaa (yar rfl (zs (zQ (.bool (false)) (yaa (yak rfl rfl ⟨_,rfl,hS.sel [],h⟩)))))))))
end Go.Proofs.YtadpnlimiblniaaGreat
