/- Texts laid together: Pa, Pb, Pt, Pd, Pe, Pg. -/
import Derived.Test.YtjepipbkiadcpaaGreatK3
set_option linter.unusedVariables false
set_option linter.unusedSimpArgs false
set_option linter.unusedSectionVars false
/- Pure forms of functions, made by program (pf.py), each with the proof that the code does so. -/
namespace Go.Proofs.YtjepipbkiadcpaaGreat
open Go Go.RowKit Go.Shelf Go.Proofs.Tryz
set_option maxRecDepth 100000
set_option maxHeartbeats 8000000
def yfO(k:Int)(R:Bool→Prop):Prop :=
(((-1048576)≤k →
R (decide (k≤1048576))) ∧
(¬((-1048576)≤k) →
R false))
theorem pok_r17_In{O:Nat→Prop}{w:World}{k}{R:Bool→Prop}(h:yfO k R)(hO:∀ k,O k→k<w.heap.size) :
    Calls Tryz.prog 139 #[(ii k)] w fun e w'=>∃ r,e = .returned (.bool (r))∧Sep w no O w' (rl [])∧R r:=by
  unfold yfO at h;have hS:Sep w no O w (rl []):=Sep.start w hO;refine yao (l:=[(ii k)]) func139 rfl ntmps139 zY (zs (zQ (.bool (false)) (yaa (zs (zM (ii k) (zq (yfy rfl rfl) (zM (.bool (decide ((-1048576)≤k))) ?_)))))));by_cases hp:(-1048576)≤k
  · replace h:=h.1 hp;exact zW rfl rfl (zT hp) (zm (ii k)) (zW rfl rfl (zT hp) (v_leq rfl rfl) (zq (yaq (v:=(.bool (decide (k≤1048576)))) (zT hp) rfl) (zQ (.bool (decide (k≤1048576))) (yaa (yaf rfl rfl ⟨_,rfl,(hS.sel []),h⟩)))))
  · replace h:=h.2 hp;exact zV rfl rfl (zF hp) (zV rfl rfl (zF hp) (zq (yaw (v:=(.bool (false))) (zF hp) rfl) (zQ (.bool (false)) (yaa (yaf rfl rfl ⟨_,rfl,(hS.sel []),h⟩)))))
def yd3(d:List Int)(n:Int)(R:Int→Prop):Prop :=
(∃ J2:Prop,(J2→(((d.length:Int)=n →
(∃ I2:Nat→Int→Prop,(∃ m0,I2 m0 0)∧∀ m2 v,I2 m2 v → 
((v<n →
((0≤v∧v<(d.length:Int)) ∧
yfO (gi d v.toNat) (fun r =>
((r=true →
(In64 (v+1) ∧
∃ m3,m3<m2∧I2 m3 (v+1))) ∧
(¬(r=true) →
R 2))))) ∧
(¬(v<n) →
R 0)))) ∧
(¬((d.length:Int)=n) →
R 8))) ∧
((n<1 →
R 2) ∧
(¬(n<1) →
((12<n →
R 2) ∧
(¬(12<n) →
J2)))))
theorem pok_r17_Check{O:Nat→Prop}{w:World}{d n Ad ld cd}{R:Int→Prop}(h:yd3 d n R)(hO:∀ k,O k→k<w.heap.size)(hA0:(FP.sl cI Ad ld cd d).P O w) :
    Calls Tryz.prog 89 #[(.slice Ad ld cd),(ii n)] w fun e w'=>∃ r2,e = .returned (ii r2)∧Sep w no O w' (rl [])∧R r2:=by
  unfold yd3 at h;have hS:Sep w no O w (rl [Res.ro (FP.sl cI Ad ld cd d)]):=Sep.startl hO [(FP.sl cI Ad ld cd d)] ⟨hA0,trivial⟩;refine yao (l:=[(.slice Ad ld cd),(ii n)]) func89 rfl ntmps89 zY (zs (zQ (ii 0) (yaa (yad (yad ?_)))));obtain ⟨J2,hJ,h⟩:=h;refine ycf (fun E ds w'=>J2∧ds=[]∧E 0=(Value.slice Ad ld cd)∧E 1=(ii n)∧Sep w no O w' (rl [Res.ro (FP.sl cI Ad ld cd d)])) ?_ ?_
  · clear h hS;rintro E ds w2 ⟨h,rfl,H0,H1,hS⟩;replace h:=hJ h;refine yad (zs (zq (yac H0) (zq (yaF (n:=d.length) rfl underlying34 (yaD (hS.rdr 0 rfl))) (zq (yac H1) (zq zN (yaa ?_))))));by_cases hp:(d.length:Int)=n
    · replace h:=h.1 hp;refine ze hp (yae (yad (zs (zQ (ii 0) (yaa (yah ?_))))));obtain ⟨I2,⟨m0,h0⟩,hr⟩:=h;refine yaE (fun m E ds w'=>∃ v,I2 m v∧ds=[]∧E 0=(Value.slice Ad ld cd)∧E 1=(ii n)∧E 5=(ii v)∧Sep w no O w' (rl [Res.ro (FP.sl cI Ad ld cd d)])) m0 ⟨_,h0,rfl,H0,H1,rfl,(hS.sel [0])⟩ ?_;clear h0 hS;rintro m2 E ds w3 ⟨v,h,rfl,H0,H1,H5,hS⟩ ag;replace h:=hr m2 v h;clear hr;refine yad (zs (zq (yac H5) (zq (yac H1) (zq zL (yaa ?_)))));by_cases hp2:v<n
      · replace h:=h.1 hp2;refine zc hp2 (yae (yad (yah (zs (zq (yac H0) (zq (yac H5) ?_))))));obtain ⟨hx,h⟩:=h;refine zq (zi underlying34 yai (yaK (hS.rdr 0 rfl) hx)) (zq (yay (v:=(ii (gi d v.toNat))) rfl underlying3 rfl (rd_1 (hS.rdr 0 rfl) hx (fun q=>yaQ q) rfl)) ?_);refine zn (yam rfl (am1 rfl) enter_139 ((pok_r17_In h (yaO _)).mono ?_));rintro _ w4 ⟨r,rfl,hC,h⟩;replace hS:=hS.pur hC.pure;clear hC;refine ⟨_,rfl,?_⟩;refine zb (zq (ydX rfl) (yaa ?_));by_cases hp3:r=true
        · replace h:=h.1 hp3;refine yaA (zC (zB hp3)) (yae (yaj (zr (zq (yac H5) ?_))));obtain ⟨hi,h⟩:=h;refine zq (zA hi) (zQ (ii (v+1)) (yaa ?_));obtain ⟨mq,hlt,h⟩:=h;exact ag mq _ _ _ ⟨_,h,rfl,H0,H1,rfl,(hS.sel [0])⟩ hlt
        · replace h:=h.2 hp3;exact yar (zC (zB (zI hp3))) (zs (zQ (ii 2) (yaa (yaf rfl rfl ⟨_,rfl,(hS.sel []),h⟩))))
      · replace h:=h.2 hp2;exact zd hp2 (yaC rfl (zs (zQ (ii 0) (yaa (yaf rfl rfl ⟨_,rfl,(hS.sel []),h⟩)))))
    · replace h:=h.2 hp;exact zf hp (zs (zQ (ii 8) (yaa (yaf rfl rfl ⟨_,rfl,(hS.sel []),h⟩))))
  clear hJ;intro j;refine zr (zM (ii n) (zq zL (zM (.bool (decide (n<1))) ?_)));by_cases hp4:n<1
  · replace h:=h.1 hp4;exact zV rfl rfl (zT hp4) (zV rfl rfl (zT hp4) (zq (yaq (v:=(.bool (true))) (zT hp4) rfl) (yaa (yar rfl (zs (zQ (ii 2) (yaa (yaf rfl rfl ⟨_,rfl,(hS.sel []),h⟩))))))))
  · replace h:=h.2 hp4;refine zW rfl rfl (zF hp4) (zm (ii n)) (zW rfl rfl (zF hp4) zG (zq (yaw (v:=(.bool (decide (12<n)))) (zF hp4) rfl) (yaa ?_)));by_cases hp5:12<n
    · replace h:=h.1 hp5;exact zc hp5 (zs (zQ (ii 2) (yaa (yaf rfl rfl ⟨_,rfl,(hS.sel []),h⟩))))
    · replace h:=h.2 hp5;exact zd hp5 (yae (j _ _ _ ⟨h,rfl,rfl,rfl,(hS.sel [0])⟩))
def ycD(g:Int)(g2:List E3)(v:Int)(R:Bool→Prop):Prop :=
((0≤v →
R (decide (v<g))) ∧
(¬(0≤v) →
R false))
theorem yeX{O:Nat→Prop}{w:World}{g g2 v Ag lg cg}{R:Bool→Prop}(h:ycD g g2 v R)(hO:∀ k,O k→k<w.heap.size)(hA0:(FP.sl c3 Ag lg cg g2).P O w) :
    Calls Tryz.prog 88 #[(.agg #[(ii g),(.slice Ag lg cg)]),(ii v)] w fun e w'=>∃ r,e = .returned (.bool (r))∧Sep w no O w' (rl [])∧R r:=by
  unfold ycD at h;have hS:Sep w no O w (rl [Res.ro (FP.sl c3 Ag lg cg g2)]):=Sep.startl hO [(FP.sl c3 Ag lg cg g2)] ⟨hA0,trivial⟩;refine yao (l:=[(.agg #[(ii g),(.slice Ag lg cg)]),(ii v)]) func88 rfl ntmps88 zY (zs (zn (ybH (v:=(.agg #[(ii g),(.slice Ag lg cg)])) rfl ?_)));intro g3 w2 hN;replace hS:Sep w no O w2 (stl _ 1 (Res.box 24 g3 [(ii g),(.slice Ag lg cg)])):=hS.new 1 rfl hN;clear hN;refine zb (zQ (.bool (false)) (yaa (zs (zM (ii v) (zq (yfy rfl rfl) (zM (.bool (decide (0≤v))) ?_))))));by_cases hp:0≤v
  · replace h:=h.1 hp;exact zW rfl rfl (zT hp) (zm (ii v)) (zW rfl rfl (zT hp) (yab rfl underlying24 rfl yai) (zW rfl rfl (zT hp) (zl underlying3 (Row.cell (hS.bx 1 rfl) (i:=0) rfl)) (zW rfl rfl (zT hp) zL (zq (yaq (v:=(.bool (decide (v<g)))) (zT hp) rfl) (zQ (.bool (decide (v<g))) (yaa (yaf rfl rfl ⟨_,rfl,(hS.sel []),h⟩)))))))
  · replace h:=h.2 hp;exact zV rfl rfl (zF hp) (zV rfl rfl (zF hp) (zV rfl rfl (zF hp) (zV rfl rfl (zF hp) (zq (yaw (v:=(.bool (false))) (zF hp) rfl) (zQ (.bool (false)) (yaa (yaf rfl rfl ⟨_,rfl,(hS.sel []),h⟩)))))))
def yb7(g:Int)(g2:List E3)(a:Int)(b:Int)(R:Int→Prop):Prop :=
(∃ I2:Nat→Int→Prop,(∃ m0,I2 m0 0)∧∀ m2 i,I2 m2 i → 
((i<(g2.length:Int) →
((0≤i∧i<(g2.length:Int)) ∧
((((ge g2 i.toNat).1)=(mnF a b) →
((((ge g2 i.toNat).2.1)=(mxF a b) →
R ((ge g2 i.toNat).2.2)) ∧
(¬(((ge g2 i.toNat).2.1)=(mxF a b)) →
(In64 (i+1) ∧
∃ m3,m3<m2∧I2 m3 (i+1))))) ∧
(¬(((ge g2 i.toNat).1)=(mnF a b)) →
(In64 (i+1) ∧
∃ m4,m4<m2∧I2 m4 (i+1)))))) ∧
(¬(i<(g2.length:Int)) →
R 0)))
theorem yex{O:Nat→Prop}{w:World}{g g2 a b Ag lg cg}{R:Int→Prop}(h:yb7 g g2 a b R)(hO:∀ k,O k→k<w.heap.size)(hA0:(FP.sl c3 Ag lg cg g2).P O w) :
    Calls Tryz.prog 164 #[(.agg #[(ii g),(.slice Ag lg cg)]),(ii a),(ii b)] w fun e w'=>∃ r,e = .returned (ii r)∧Sep w no O w' (rl [])∧R r:=by
  unfold yb7 at h;have hS:Sep w no O w (rl [Res.ro (FP.sl c3 Ag lg cg g2)]):=Sep.startl hO [(FP.sl c3 Ag lg cg g2)] ⟨hA0,trivial⟩;refine yao (l:=[(.agg #[(ii g),(.slice Ag lg cg)]),(ii a),(ii b)]) func164 rfl ntmps164 zY (zs (zn (ybH (v:=(.agg #[(ii g),(.slice Ag lg cg)])) rfl ?_)));intro g3 w2 hN;replace hS:Sep w no O w2 (stl _ 1 (Res.box 24 g3 [(ii g),(.slice Ag lg cg)])):=hS.new 1 rfl hN;clear hN;refine zb (zQ (ii 0) (yaa (yad (zs (zQ (ii 0) (yaa (yah ?_)))))));obtain ⟨I2,⟨m0,h0⟩,hr⟩:=h;refine yaE (fun m E ds w'=>∃ i,I2 m i∧ds=[]∧E 1=(ii a)∧E 2=(ii b)∧E 3=(Value.pointer (some ⟨g3,0,none⟩))∧E 7=(ii i)∧Sep w no O w' (rl [Res.box 24 g3 [(ii g),(.slice Ag lg cg)],Res.ro (FP.sl c3 Ag lg cg g2)])) m0 ⟨_,h0,rfl,rfl,rfl,rfl,rfl,(hS.sel [1,0])⟩ ?_;clear h0 hS;rintro m2 E ds w3 ⟨i,h,rfl,H1,H2,H3,H7,hS⟩ ag;replace h:=hr m2 i h;clear hr;refine yad (zs (zq (yac H7) (zq (yab H3 underlying24 rfl ydq) (zq (zl underlying22 (Row.cell (hS.bx 0 rfl) (i:=1) rfl)) (zq (yaF (n:=g2.length) rfl underlying22 (yaD (hS.rdr 1 rfl))) (zq zL (yaa ?_)))))));by_cases hp:i<(g2.length:Int)
  · replace h:=h.1 hp;refine zc hp (yae (yad (yah (zs (zq (yab H3 underlying24 rfl ydq) (zq (zl underlying22 (Row.cell (hS.bx 0 rfl) (i:=1) rfl)) (zq (yac H7) ?_)))))));obtain ⟨hx,h⟩:=h;refine zq (zi underlying22 ybB (yaK (hS.rdr 1 rfl) hx)) (zq (yat (vs:=[(ii ((ge g2 i.toNat).1)),(ii ((ge g2 i.toNat).2.1)),(ii ((ge g2 i.toNat).2.2))]) rfl underlying67 rfl ybB (ygm (hS.rdr 1 rfl) hx (fun q=>ydJ q))) ?_);refine zn (yaP ybB ?_);intro g4 w4 hN;replace hS:Sep w no O w4 (stl _ 2 (Res.box 67 g4 [(ii 0),(ii 0),(ii 0)])):=hS.new 2 rfl hN;clear hN;refine zb (zo (yas (b:=g4) (o:=0) (cells:=#[(ii ((ge g2 i.toNat).1)),(ii ((ge g2 i.toNat).2.1)),(ii ((ge g2 i.toNat).2.2))]) rfl rfl ybB rfl rfl (yan (hS.bx 2 rfl) zY) ?_));intro w5 e1;replace hS:=hS.bstn 2 rfl 0 [(ii ((ge g2 i.toNat).1)),(ii ((ge g2 i.toNat).2.1)),(ii ((ge g2 i.toNat).2.2))] e1;clear e1;refine zb (yaa (zs (zq (yab rfl underlying67 rfl yai) (zq (zl underlying3 (Row.cell (hS.bx 2 rfl) (i:=0) rfl)) (zq (yac H1) (zq (yac H2) (zq (v_min2 rfl rfl) (zq zE (zM (.bool (decide (((ge g2 i.toNat).1)=(mnF a b)))) ?_)))))))));by_cases hp2:((ge g2 i.toNat).1)=(mnF a b)
    · replace h:=h.1 hp2;refine zW rfl rfl (zT hp2) (yab rfl underlying67 rfl yai) (zW rfl rfl (zT hp2) (zl underlying3 (Row.cell (hS.bx 2 rfl) (i:=1) rfl)) (zW rfl rfl (zT hp2) (yac H1) (zW rfl rfl (zT hp2) (yac H2) (zW rfl rfl (zT hp2) (v_max2 rfl rfl) (zW rfl rfl (zT hp2) zE (zq (yaq (v:=(.bool (decide (((ge g2 i.toNat).2.1)=(mxF a b))))) (zT hp2) rfl) (yaa ?_)))))));by_cases hp3:((ge g2 i.toNat).2.1)=(mxF a b)
      · replace h:=h.1 hp3;exact zc hp3 (zs (zq (yab rfl underlying67 rfl yai) (zq (zl underlying3 (Row.cell (hS.bx 2 rfl) (i:=2) rfl)) (zQ (ii ((ge g2 i.toNat).2.2)) (yaa (yaf rfl rfl ⟨_,rfl,(hS.sel []),h⟩))))))
      · replace h:=h.2 hp3;refine zd hp3 (yae (yaj (zr (zq (yac H7) ?_))));obtain ⟨hi,h⟩:=h;refine zq (zA hi) (zQ (ii (i+1)) (yaa ?_));obtain ⟨mq,hlt,h⟩:=h;exact ag mq _ _ _ ⟨_,h,rfl,H1,H2,H3,rfl,(hS.sel [0,1])⟩ hlt
    · replace h:=h.2 hp2;refine zV rfl rfl (zF hp2) (zV rfl rfl (zF hp2) (zV rfl rfl (zF hp2) (zV rfl rfl (zF hp2) (zV rfl rfl (zF hp2) (zV rfl rfl (zF hp2) (zq (yaw (v:=(.bool (false))) (zF hp2) rfl) (yaa (yaA rfl (yae (yaj (zr (zq (yac H7) ?_))))))))))));obtain ⟨hi2,h⟩:=h;refine zq (zA hi2) (zQ (ii (i+1)) (yaa ?_));obtain ⟨mq,hlt,h⟩:=h;exact ag mq _ _ _ ⟨_,h,rfl,H1,H2,H3,rfl,(hS.sel [0,1])⟩ hlt
  · replace h:=h.2 hp;exact zd hp (yaC rfl (zs (zQ (ii 0) (yaa (yaf rfl rfl ⟨_,rfl,(hS.sel []),h⟩)))))
def ydb(g:Int)(g2:List E3)(v:Int)(R:Int→Prop):Prop :=
(∃ I2:Nat→Int→Int→Prop,(∃ m0,I2 m0 0 0)∧∀ m2 n u,I2 m2 n u → 
((u<g →
((u=v →
(In64 (u+1) ∧
∃ m3,m3<m2∧I2 m3 n (u+1))) ∧
(¬(u=v) →
yb7 g g2 u v (fun r =>
(In64 (n+r) ∧
(In64 (u+1) ∧
∃ m4,m4<m2∧I2 m4 (n+r) (u+1))))))) ∧
(¬(u<g) →
R n)))
theorem yix{O:Nat→Prop}{w:World}{g g2 v Ag lg cg}{R:Int→Prop}(h:ydb g g2 v R)(hO:∀ k,O k→k<w.heap.size)(hA0:(FP.sl c3 Ag lg cg g2).P O w) :
    Calls Tryz.prog 206 #[(.agg #[(ii g),(.slice Ag lg cg)]),(ii v)] w fun e w'=>∃ r2,e = .returned (ii r2)∧Sep w no O w' (rl [])∧R r2:=by
  unfold ydb at h;have hS:Sep w no O w (rl [Res.ro (FP.sl c3 Ag lg cg g2)]):=Sep.startl hO [(FP.sl c3 Ag lg cg g2)] ⟨hA0,trivial⟩;refine yao (l:=[(.agg #[(ii g),(.slice Ag lg cg)]),(ii v)]) func206 rfl ntmps206 zY (zs (zn (ybH (v:=(.agg #[(ii g),(.slice Ag lg cg)])) rfl ?_)));intro g3 w2 hN;replace hS:Sep w no O w2 (stl _ 1 (Res.box 24 g3 [(ii g),(.slice Ag lg cg)])):=hS.new 1 rfl hN;clear hN;refine zb (zQ (ii 0) (yaa (zs (zQ (ii 0) (yaa (yad (zs (zQ (ii 0) (yaa (yah ?_))))))))));obtain ⟨I2,⟨m0,h0⟩,hr⟩:=h;refine yaE (fun m E ds w'=>∃ n u,I2 m n u∧ds=[]∧E 1=(ii v)∧E 2=(Value.pointer (some ⟨g3,0,none⟩))∧E 5=(ii n)∧E 6=(ii u)∧Sep w no O w' (rl [Res.box 24 g3 [(ii g),(.slice Ag lg cg)],Res.ro (FP.sl c3 Ag lg cg g2)])) m0 ⟨_,_,h0,rfl,rfl,rfl,rfl,rfl,(hS.sel [1,0])⟩ ?_;clear h0 hS;rintro m2 E ds w3 ⟨n,u,h,rfl,H1,H2,H5,H6,hS⟩ ag;replace h:=hr m2 n u h;clear hr;refine yad (zs (zq (yac H6) (zq (yab H2 underlying24 rfl yai) (zq (zl underlying3 (Row.cell (hS.bx 0 rfl) (i:=0) rfl)) (zq zL (yaa ?_))))));by_cases hp:u<g
  · replace h:=h.1 hp;refine zc hp (yae (yad (yah (zs (zq (yac H6) (zq (yac H1) (zq zN (yaa ?_))))))));by_cases hp2:u=v
    · replace h:=h.1 hp2;refine ze hp2 (yae (yaj (zr (zq (yac H6) ?_))));obtain ⟨hi,h⟩:=h;refine zq (zA hi) (zQ (ii (u+1)) (yaa ?_));obtain ⟨mq,hlt,h⟩:=h;exact ag mq _ _ _ ⟨_,_,h,rfl,H1,H2,H5,rfl,(hS.sel [0,1])⟩ hlt
    · replace h:=h.2 hp2;refine zf hp2 (zr (zq (yac H5) (zq (yat (vs:=[(ii g),(.slice Ag lg cg)]) H2 underlying24 rfl yaM ⟨Row.cell (hS.bx 0 rfl) (i:=0) rfl,Row.cell (hS.bx 0 rfl) (i:=1) rfl,trivial⟩) (zq (yac H6) (zq (yac H1) (zn (yam rfl (am3 rfl rfl rfl) yiw ((yex h (yaO _) (hS.rdr 1 rfl)).mono ?_))))))));rintro _ w4 ⟨r,rfl,hC,h⟩;replace hS:=hS.pur hC.pure;clear hC;refine ⟨_,rfl,?_⟩;refine zb ?_;obtain ⟨hi2,h⟩:=h;refine zq (zA hi2) (zQ (ii (n+r)) (yaa (yaj (zr (zq (yac H6) ?_)))));obtain ⟨hi3,h⟩:=h;refine zq (zA hi3) (zQ (ii (u+1)) (yaa ?_));obtain ⟨mq,hlt,h⟩:=h;exact ag mq _ _ _ ⟨_,_,h,rfl,H1,H2,rfl,rfl,(hS.sel [0,1])⟩ hlt
  · replace h:=h.2 hp;exact zd hp (yaC rfl (zs (zq (yac H5) (zQ (ii n) (yaa (yaf rfl rfl ⟨_,rfl,(hS.sel []),h⟩))))))
def yey(d:Int)(d2:List E3)(i:Int)(R:Int→Prop):Prop :=
((0≤i∧i<(d2.length:Int)) ∧
(∃ J2:Prop,(J2→((((ge d2 i.toNat).2.1)<((ge d2 i.toNat).1) →
R 9) ∧
(¬(((ge d2 i.toNat).2.1)<((ge d2 i.toNat).1)) →
((0<i →
(In64 (i-1) ∧
((0≤(i-1)∧(i-1)<(d2.length:Int)) ∧
((((ge d2 i.toNat).1)<((ge d2 (i-1).toNat).1) →
R 9) ∧
(¬(((ge d2 i.toNat).1)<((ge d2 (i-1).toNat).1)) →
((((ge d2 i.toNat).1)=((ge d2 (i-1).toNat).1) →
((((ge d2 i.toNat).2.1)≤((ge d2 (i-1).toNat).2.1) →
R 9) ∧
(¬(((ge d2 i.toNat).2.1)≤((ge d2 (i-1).toNat).2.1)) →
R 0))) ∧
(¬(((ge d2 i.toNat).1)=((ge d2 (i-1).toNat).1)) →
R 0))))))) ∧
(¬(0<i) →
R 0))))) ∧
ycD d d2 ((ge d2 i.toNat).1) (fun r =>
((r=true →
ycD d d2 ((ge d2 i.toNat).2.1) (fun r2 =>
((r2=true →
((((ge d2 i.toNat).2.2)<1 →
R 2) ∧
(¬(((ge d2 i.toNat).2.2)<1) →
((50<((ge d2 i.toNat).2.2) →
R 2) ∧
(¬(50<((ge d2 i.toNat).2.2)) →
J2))))) ∧
(¬(r2=true) →
R 2)))) ∧
(¬(r=true) →
R 2)))))
theorem pok_r08_edge{O:Nat→Prop}{w:World}{d d2 i Ad ld cd}{R:Int→Prop}(h:yey d d2 i R)(hO:∀ k,O k→k<w.heap.size)(hA0:(FP.sl c3 Ad ld cd d2).P O w) :
    Calls Tryz.prog 62 #[(.agg #[(ii d),(.slice Ad ld cd)]),(ii i)] w fun e w'=>∃ r3,e = .returned (ii r3)∧Sep w no O w' (rl [])∧R r3:=by
  unfold yey at h;have hS:Sep w no O w (rl [Res.ro (FP.sl c3 Ad ld cd d2)]):=Sep.startl hO [(FP.sl c3 Ad ld cd d2)] ⟨hA0,trivial⟩;refine yao (l:=[(.agg #[(ii d),(.slice Ad ld cd)]),(ii i)]) func62 rfl ntmps62 zY (zs (zn (ybH (v:=(.agg #[(ii d),(.slice Ad ld cd)])) rfl ?_)));intro g w2 hN;replace hS:Sep w no O w2 (stl _ 1 (Res.box 24 g [(ii d),(.slice Ad ld cd)])):=hS.new 1 rfl hN;clear hN;refine zb (zQ (ii 0) (yaa (zs (zq (yab rfl underlying24 rfl ydq) (zq (zl underlying22 (Row.cell (hS.bx 1 rfl) (i:=1) rfl)) (zM (ii i) ?_))))));obtain ⟨hx,h⟩:=h;refine zq (zi underlying22 ybB (yaK (hS.rdr 0 rfl) hx)) (zq (yat (vs:=[(ii ((ge d2 i.toNat).1)),(ii ((ge d2 i.toNat).2.1)),(ii ((ge d2 i.toNat).2.2))]) rfl underlying67 rfl ybB (ygm (hS.rdr 0 rfl) hx (fun q=>ydJ q))) ?_);refine zn (yaP ybB ?_);intro g2 w3 hN;replace hS:Sep w no O w3 (stl _ 2 (Res.box 67 g2 [(ii 0),(ii 0),(ii 0)])):=hS.new 2 rfl hN;clear hN;refine zb (zo (yas (b:=g2) (o:=0) (cells:=#[(ii ((ge d2 i.toNat).1)),(ii ((ge d2 i.toNat).2.1)),(ii ((ge d2 i.toNat).2.2))]) rfl rfl ybB rfl rfl (yan (hS.bx 2 rfl) zY) ?_));intro w4 e1;replace hS:=hS.bstn 2 rfl 0 [(ii ((ge d2 i.toNat).1)),(ii ((ge d2 i.toNat).2.1)),(ii ((ge d2 i.toNat).2.2))] e1;clear e1;refine zb (yaa (yad (yad ?_)));obtain ⟨J2,hJ,h⟩:=h;refine ycf (fun E ds w'=>J2∧ds=[]∧E 1=(ii i)∧E 2=(Value.pointer (some ⟨g,0,none⟩))∧E 5=(Value.pointer (some ⟨g2,0,none⟩))∧Sep w no O w' (rl [Res.box 24 g [(ii d),(.slice Ad ld cd)],Res.ro (FP.sl c3 Ad ld cd d2),Res.box 67 g2 [(ii ((ge d2 i.toNat).1)),(ii ((ge d2 i.toNat).2.1)),(ii ((ge d2 i.toNat).2.2))]])) ?_ ?_
  · clear h hS;rintro E ds w5 ⟨h,rfl,H1,H2,H5,hS⟩;replace h:=hJ h;refine yad (zs (zq (yab H5 underlying67 rfl yai) (zq (zl underlying3 (Row.cell (hS.bx 2 rfl) (i:=0) rfl)) (zq (yab H5 underlying67 rfl yai) (zq (zl underlying3 (Row.cell (hS.bx 2 rfl) (i:=1) rfl)) (zq zG (yaa ?_)))))));by_cases hp:((ge d2 i.toNat).2.1)<((ge d2 i.toNat).1)
    · replace h:=h.1 hp;exact zc hp (zs (zQ (ii 9) (yaa (yaf rfl rfl ⟨_,rfl,(hS.sel []),h⟩))))
    · replace h:=h.2 hp;refine zd hp (yae (yad (zs (zq (yac H1) (zq zG (yaa ?_))))));by_cases hp2:0<i
      · replace h:=h.1 hp2;refine zc hp2 (zs (zq (yab H2 underlying24 rfl ydq) (zq (zl underlying22 (Row.cell (hS.bx 0 rfl) (i:=1) rfl)) (zq (yac H1) ?_))));obtain ⟨hi,h⟩:=h;refine zq (zS hi) ?_;obtain ⟨hx2,h⟩:=h;refine zq (zi underlying22 ybB (yaK (hS.rdr 1 rfl) hx2)) (zq (yat (vs:=[(ii ((ge d2 (i-1).toNat).1)),(ii ((ge d2 (i-1).toNat).2.1)),(ii ((ge d2 (i-1).toNat).2.2))]) rfl underlying67 rfl ybB (ygm (hS.rdr 1 rfl) hx2 (fun q=>ydJ q))) ?_);refine zn (yaP ybB ?_);intro g3 w6 hN;replace hS:Sep w no O w6 (stl _ 3 (Res.box 67 g3 [(ii 0),(ii 0),(ii 0)])):=hS.new 3 rfl hN;clear hN;refine zb (zo (yas (b:=g3) (o:=0) (cells:=#[(ii ((ge d2 (i-1).toNat).1)),(ii ((ge d2 (i-1).toNat).2.1)),(ii ((ge d2 (i-1).toNat).2.2))]) rfl rfl ybB rfl rfl (yan (hS.bx 3 rfl) zY) ?_));intro w7 e1;replace hS:=hS.bstn 3 rfl 0 [(ii ((ge d2 (i-1).toNat).1)),(ii ((ge d2 (i-1).toNat).2.1)),(ii ((ge d2 (i-1).toNat).2.2))] e1;clear e1;refine zb (yaa (zs (zq (yab H5 underlying67 rfl yai) (zq (zl underlying3 (Row.cell (hS.bx 2 rfl) (i:=0) rfl)) (zq (yab rfl underlying67 rfl yai) (zq (zl underlying3 (Row.cell (hS.bx 3 rfl) (i:=0) rfl)) (zq zL (zM (.bool (decide (((ge d2 i.toNat).1)<((ge d2 (i-1).toNat).1)))) ?_))))))));by_cases hp3:((ge d2 i.toNat).1)<((ge d2 (i-1).toNat).1)
        · replace h:=h.1 hp3;exact zV rfl rfl (zT hp3) (zV rfl rfl (zT hp3) (zV rfl rfl (zT hp3) (zV rfl rfl (zT hp3) (zV rfl rfl (zT hp3) (zV rfl rfl (zT hp3) (zX (zX (zX (zX (zX (zV rfl rfl (zT hp3) (zq (yaq (v:=(.bool (true))) (zT hp3) rfl) (yaa (yar rfl (zs (zQ (ii 9) (yaa (yaf rfl rfl ⟨_,rfl,(hS.sel []),h⟩))))))))))))))))))
        · replace h:=h.2 hp3;refine zW rfl rfl (zF hp3) (yab H5 underlying67 rfl yai) (zW rfl rfl (zF hp3) (zl underlying3 (Row.cell (hS.bx 2 rfl) (i:=0) rfl)) (zW rfl rfl (zF hp3) (yab rfl underlying67 rfl yai) (zW rfl rfl (zF hp3) (zl underlying3 (Row.cell (hS.bx 3 rfl) (i:=0) rfl)) (zW rfl rfl (zF hp3) zE (zW rfl rfl (zF hp3) (zm (.bool (decide (((ge d2 i.toNat).1)=((ge d2 (i-1).toNat).1))))) ?_)))));by_cases hp4:((ge d2 i.toNat).1)=((ge d2 (i-1).toNat).1)
          · replace h:=h.1 hp4;refine zW rfl rfl (zT hp4) (yab H5 underlying67 rfl yai) (zW rfl rfl (zT hp4) (zl underlying3 (Row.cell (hS.bx 2 rfl) (i:=1) rfl)) (zW rfl rfl (zT hp4) (yab rfl underlying67 rfl yai) (zW rfl rfl (zT hp4) (zl underlying3 (Row.cell (hS.bx 3 rfl) (i:=1) rfl)) (zW rfl rfl (zT hp4) (v_leq rfl rfl) (zW rfl rfl (zF hp3) (yaq (v:=(.bool (decide (((ge d2 i.toNat).2.1)≤((ge d2 (i-1).toNat).2.1))))) (zT hp4) rfl) (zq (yaw (v:=(.bool (decide (((ge d2 i.toNat).2.1)≤((ge d2 (i-1).toNat).2.1))))) (zF hp3) rfl) (yaa ?_)))))));by_cases hp5:((ge d2 i.toNat).2.1)≤((ge d2 (i-1).toNat).2.1)
            · replace h:=h.1 hp5;exact zc hp5 (zs (zQ (ii 9) (yaa (yaf rfl rfl ⟨_,rfl,(hS.sel []),h⟩))))
            · replace h:=h.2 hp5;exact zd hp5 (yae (zs (zQ (ii 0) (yaa (yaf rfl rfl ⟨_,rfl,(hS.sel []),h⟩)))))
          · replace h:=h.2 hp4;exact zV rfl rfl (zF hp4) (zV rfl rfl (zF hp4) (zV rfl rfl (zF hp4) (zV rfl rfl (zF hp4) (zV rfl rfl (zF hp4) (zW rfl rfl (zF hp3) (yaw (v:=(.bool (false))) (zF hp4) rfl) (zq (yaw (v:=(.bool (false))) (zF hp3) rfl) (yaa (yaA rfl (yae (zs (zQ (ii 0) (yaa (yaf rfl rfl ⟨_,rfl,(hS.sel []),h⟩)))))))))))))
      · replace h:=h.2 hp2;exact zd hp2 (yae (zs (zQ (ii 0) (yaa (yaf rfl rfl ⟨_,rfl,(hS.sel []),h⟩)))))
  clear hJ;intro j;refine zr (zq (yat (vs:=[(ii d),(.slice Ad ld cd)]) rfl underlying24 rfl yaM ⟨Row.cell (hS.bx 1 rfl) (i:=0) rfl,Row.cell (hS.bx 1 rfl) (i:=1) rfl,trivial⟩) (zq (yab rfl underlying67 rfl yai) (zq (zl underlying3 (Row.cell (hS.bx 2 rfl) (i:=0) rfl)) (zn (yam rfl (am2 rfl rfl) enter_88 ((yeX h (yaO _) (hS.rdr 0 rfl)).mono ?_))))));rintro _ w8 ⟨r,rfl,hC,h⟩;replace hS:=hS.pur hC.pure;clear hC;refine ⟨_,rfl,?_⟩;refine zb (zq (ydX rfl) (zM (.bool (!(r))) ?_));by_cases hp6:r=true
  · replace h:=h.1 hp6;refine zW rfl rfl (zC (zB hp6)) (yat (vs:=[(ii d),(.slice Ad ld cd)]) rfl underlying24 rfl yaM ⟨Row.cell (hS.bx 1 rfl) (i:=0) rfl,Row.cell (hS.bx 1 rfl) (i:=1) rfl,trivial⟩) (zW rfl rfl (zC (zB hp6)) (yab rfl underlying67 rfl yai) (zW rfl rfl (zC (zB hp6)) (zl underlying3 (Row.cell (hS.bx 2 rfl) (i:=1) rfl)) (rl_n (yak rfl (yal rfl (zC (zB hp6)))) rfl rfl rfl (yam rfl (am2 rfl rfl) enter_88 ((yeX h (yaO _) (hS.rdr 0 rfl)).mono ?_)))));rintro _ w9 ⟨r2,rfl,hC,h⟩;replace hS:=hS.pur hC.pure;clear hC;refine ⟨_,rfl,?_⟩;refine zb (zW rfl rfl (zC (zB hp6)) (ydX rfl) (zq (yaw (v:=(.bool (!(r2)))) (zC (zB hp6)) rfl) (zM (.bool (!(r2))) ?_)));by_cases hp7:r2=true
    · replace h:=h.1 hp7;refine zW rfl rfl (zC (zB hp7)) (yab rfl underlying67 rfl yai) (zW rfl rfl (zC (zB hp7)) (zl underlying3 (Row.cell (hS.bx 2 rfl) (i:=2) rfl)) (zW rfl rfl (zC (zB hp7)) zL (zq (yaw (v:=(.bool (decide (((ge d2 i.toNat).2.2)<1)))) (zC (zB hp7)) rfl) (zM (.bool (decide (((ge d2 i.toNat).2.2)<1))) ?_))));by_cases hp8:((ge d2 i.toNat).2.2)<1
      · replace h:=h.1 hp8;exact zV rfl rfl (zT hp8) (zV rfl rfl (zT hp8) (zV rfl rfl (zT hp8) (zq (yaq (v:=(.bool (true))) (zT hp8) rfl) (yaa (yar rfl (zs (zQ (ii 2) (yaa (yaf rfl rfl ⟨_,rfl,(hS.sel []),h⟩)))))))))
      · replace h:=h.2 hp8;refine zW rfl rfl (zF hp8) (yab rfl underlying67 rfl yai) (zW rfl rfl (zF hp8) (zl underlying3 (Row.cell (hS.bx 2 rfl) (i:=2) rfl)) (zW rfl rfl (zF hp8) zG (zq (yaw (v:=(.bool (decide (50<((ge d2 i.toNat).2.2))))) (zF hp8) rfl) (yaa ?_))));by_cases hp9:50<((ge d2 i.toNat).2.2)
        · replace h:=h.1 hp9;exact zc hp9 (zs (zQ (ii 2) (yaa (yaf rfl rfl ⟨_,rfl,(hS.sel []),h⟩))))
        · replace h:=h.2 hp9;exact zd hp9 (yae (j _ _ _ ⟨h,rfl,rfl,rfl,rfl,(hS.sel [1,0,2])⟩))
    · replace h:=h.2 hp7;exact zV rfl rfl (zC (zB (zI hp7))) (zV rfl rfl (zC (zB (zI hp7))) (zV rfl rfl (zC (zB (zI hp7))) (zq (yaq (v:=(.bool (true))) (zC (zB (zI hp7))) rfl) (zM (.bool (true)) (zU (zU (zU (zq (yaq (v:=(.bool (true))) rfl rfl) (yaa (yar rfl (zs (zQ (ii 2) (yaa (yaf rfl rfl ⟨_,rfl,(hS.sel []),h⟩))))))))))))))
  · replace h:=h.2 hp6;exact zV rfl rfl (zC (zB (zI hp6))) (zV rfl rfl (zC (zB (zI hp6))) (zV rfl rfl (zC (zB (zI hp6))) (zV rfl rfl (zC (zB (zI hp6))) (zV rfl rfl (zC (zB (zI hp6))) (zq (yaq (v:=(.bool (true))) (zC (zB (zI hp6))) rfl) (zM (.bool (true)) (zU (zU (zU (zq (yaq (v:=(.bool (true))) rfl rfl) (zM (.bool (true)) (zU (zU (zU (zq (yaq (v:=(.bool (true))) rfl rfl) (yaa (yar rfl (zs (zQ (ii 2) (yaa (yaf rfl rfl ⟨_,rfl,(hS.sel []),h⟩)))))))))))))))))))))
def yds(g:Int)(g2:List E3)(R:Int→Prop):Prop :=
(∃ J2:Prop,(J2→(∃ I2:Nat→Int→Prop,(∃ m0,I2 m0 0)∧∀ m2 i,I2 m2 i → 
((i<(g2.length:Int) →
yey g g2 i (fun r =>
((r=0 →
(In64 (i+1) ∧
∃ m3,m3<m2∧I2 m3 (i+1))) ∧
(¬(r=0) →
R r)))) ∧
(¬(i<(g2.length:Int)) →
R 0)))) ∧
((g<1 →
R 2) ∧
(¬(g<1) →
((12<g →
R 2) ∧
(¬(12<g) →
J2)))))
theorem ygP{O:Nat→Prop}{w:World}{g g2 Ag lg cg}{R:Int→Prop}(h:yds g g2 R)(hO:∀ k,O k→k<w.heap.size)(hA0:(FP.sl c3 Ag lg cg g2).P O w) :
    Calls Tryz.prog 25 #[(.agg #[(ii g),(.slice Ag lg cg)])] w fun e w'=>∃ r2,e = .returned (ii r2)∧Sep w no O w' (rl [])∧R r2:=by
  unfold yds at h;have hS:Sep w no O w (rl [Res.ro (FP.sl c3 Ag lg cg g2)]):=Sep.startl hO [(FP.sl c3 Ag lg cg g2)] ⟨hA0,trivial⟩;refine yao (l:=[(.agg #[(ii g),(.slice Ag lg cg)])]) func25 rfl ntmps25 zY (zs (zn (ybH (v:=(.agg #[(ii g),(.slice Ag lg cg)])) rfl ?_)));intro g3 w2 hN;replace hS:Sep w no O w2 (stl _ 1 (Res.box 24 g3 [(ii g),(.slice Ag lg cg)])):=hS.new 1 rfl hN;clear hN;refine zb (zQ (ii 0) (yaa (yad (yad ?_))));obtain ⟨J2,hJ,h⟩:=h;refine ycf (fun E ds w'=>J2∧ds=[]∧E 1=(Value.pointer (some ⟨g3,0,none⟩))∧Sep w no O w' (rl [Res.box 24 g3 [(ii g),(.slice Ag lg cg)],Res.ro (FP.sl c3 Ag lg cg g2)])) ?_ ?_
  · clear h hS;rintro E ds w3 ⟨h,rfl,H1,hS⟩;replace h:=hJ h;refine yad (zs (zQ (ii 0) (yaa (yah ?_))));obtain ⟨I2,⟨m0,h0⟩,hr⟩:=h;refine yaE (fun m E ds w'=>∃ i,I2 m i∧ds=[]∧E 1=(Value.pointer (some ⟨g3,0,none⟩))∧E 3=(ii i)∧Sep w no O w' (rl [Res.box 24 g3 [(ii g),(.slice Ag lg cg)],Res.ro (FP.sl c3 Ag lg cg g2)])) m0 ⟨_,h0,rfl,H1,rfl,(hS.sel [0,1])⟩ ?_;clear h0 hS;rintro m2 E ds w4 ⟨i,h,rfl,H1,H3,hS⟩ ag;replace h:=hr m2 i h;clear hr;refine yad (zs (zq (yac H3) (zq (yab H1 underlying24 rfl ydq) (zq (zl underlying22 (Row.cell (hS.bx 0 rfl) (i:=1) rfl)) (zq (yaF (n:=g2.length) rfl underlying22 (yaD (hS.rdr 1 rfl))) (zq zL (yaa ?_)))))));by_cases hp:i<(g2.length:Int)
    · replace h:=h.1 hp;refine zc hp (yae (yad (yah (zs (zq (yat (vs:=[(ii g),(.slice Ag lg cg)]) H1 underlying24 rfl yaM ⟨Row.cell (hS.bx 0 rfl) (i:=0) rfl,Row.cell (hS.bx 0 rfl) (i:=1) rfl,trivial⟩) (zq (yac H3) (zn (yam rfl (am2 rfl rfl) enter_62 ((pok_r08_edge h (yaO _) (hS.rdr 1 rfl)).mono ?_)))))))));rintro _ w5 ⟨r,rfl,hC,h⟩;replace hS:=hS.pur hC.pure;clear hC;refine ⟨_,rfl,?_⟩;refine zb (zQ (ii r) (yaa (zs (zM (ii r) (zq zN (yaa ?_))))));by_cases hp2:r=0
      · replace h:=h.1 hp2;refine ze hp2 (yae (yaj (zr (zq (yac H3) ?_))));obtain ⟨hi,h⟩:=h;refine zq (zA hi) (zQ (ii (i+1)) (yaa ?_));obtain ⟨mq,hlt,h⟩:=h;exact ag mq _ _ _ ⟨_,h,rfl,H1,rfl,(hS.sel [0,1])⟩ hlt
      · replace h:=h.2 hp2;exact zf hp2 (zs (zM (ii r) (zQ (ii r) (yaa (yaf rfl rfl ⟨_,rfl,(hS.sel []),h⟩)))))
    · replace h:=h.2 hp;exact zd hp (yaC rfl (zs (zQ (ii 0) (yaa (yaf rfl rfl ⟨_,rfl,(hS.sel []),h⟩)))))
  clear hJ;intro j;refine zr (zq (yab rfl underlying24 rfl yai) (zq (zl underlying3 (Row.cell (hS.bx 1 rfl) (i:=0) rfl)) (zq zL (zM (.bool (decide (g<1))) ?_))));by_cases hp3:g<1
  · replace h:=h.1 hp3;exact zV rfl rfl (zT hp3) (zV rfl rfl (zT hp3) (zV rfl rfl (zT hp3) (zq (yaq (v:=(.bool (true))) (zT hp3) rfl) (yaa (yar rfl (zs (zQ (ii 2) (yaa (yaf rfl rfl ⟨_,rfl,(hS.sel []),h⟩)))))))))
  · replace h:=h.2 hp3;refine zW rfl rfl (zF hp3) (yab rfl underlying24 rfl yai) (zW rfl rfl (zF hp3) (zl underlying3 (Row.cell (hS.bx 1 rfl) (i:=0) rfl)) (zW rfl rfl (zF hp3) zG (zq (yaw (v:=(.bool (decide (12<g)))) (zF hp3) rfl) (yaa ?_))));by_cases hp4:12<g
    · replace h:=h.1 hp4;exact zc hp4 (zs (zQ (ii 2) (yaa (yaf rfl rfl ⟨_,rfl,(hS.sel []),h⟩))))
    · replace h:=h.2 hp4;exact zd hp4 (yae (j _ _ _ ⟨h,rfl,rfl,(hS.sel [1,0])⟩))
def ydr(g:Int)(g2:List E3)(R:(List (Int×Int))→Prop):Prop :=
(∃ I2:Nat→(List (Int×Int))→Int→Prop,(∃ m0,I2 m0 ([]) 0)∧∀ m2 out i,I2 m2 out i → 
((i<(g2.length:Int) →
(∃ I3:Nat→(List (Int×Int))→Int→Prop,(∃ m0,I3 m0 out 0)∧∀ m3 out2 k,I3 m3 out2 k → 
((0≤i∧i<(g2.length:Int)) ∧
((k<((ge g2 i.toNat).2.2) →
(out2.length+1≤1000000000 ∧
(In64 (k+1) ∧
∃ m4,m4<m3∧I3 m4 (out2++[((ge g2 i.toNat).1,(ge g2 i.toNat).2.1)]) (k+1)))) ∧
(¬(k<((ge g2 i.toNat).2.2)) →
(In64 (i+1) ∧
∃ m5,m5<m2∧I2 m5 out2 (i+1))))))) ∧
(¬(i<(g2.length:Int)) →
R out)))
theorem yho{O:Nat→Prop}{w:World}{g g2 Ag lg cg}{R:(List (Int×Int))→Prop}(h:ydr g g2 R)(hO:∀ k,O k→k<w.heap.size)(hA0:(FP.sl c3 Ag lg cg g2).P O w) :
    Calls Tryz.prog 107 #[(.agg #[(ii g),(.slice Ag lg cg)])] w fun e w'=>∃ r Ar lr cr,e = .returned (.slice Ar lr cr)∧Sep w no O w' (rl [Res.own c2 100 Ar lr cr r])∧R r:=by
  unfold ydr at h;have hS:Sep w no O w (rl [Res.ro (FP.sl c3 Ag lg cg g2)]):=Sep.startl hO [(FP.sl c3 Ag lg cg g2)] ⟨hA0,trivial⟩;refine yao (l:=[(.agg #[(ii g),(.slice Ag lg cg)])]) func107 rfl ntmps107 zY (zs (zn (ybH (v:=(.agg #[(ii g),(.slice Ag lg cg)])) rfl ?_)));intro g3 w2 hN;replace hS:Sep w no O w2 (stl _ 1 (Res.box 24 g3 [(ii g),(.slice Ag lg cg)])):=hS.new 1 rfl hN;clear hN;refine zb (zQ (.slice none 0 0) (yaa (zs (zQ (.slice none 0 0) (yaa (yad (zs (zQ (ii 0) (yaa (yah ?_))))))))));replace hS:=hS.nil 2 rfl c2 100;obtain ⟨I2,⟨m0,h0⟩,hr⟩:=h;refine yaE (fun m E ds w'=>∃ out i Aa Ab Ac,I2 m out i∧ds=[]∧E 1=(Value.pointer (some ⟨g3,0,none⟩))∧E 3=(Value.slice Aa Ab Ac)∧E 4=(ii i)∧Sep w no O w' (rl [Res.own c2 100 Aa Ab Ac out,Res.box 24 g3 [(ii g),(.slice Ag lg cg)],Res.ro (FP.sl c3 Ag lg cg g2)])) m0 ⟨_,_,_,_,_,h0,rfl,rfl,rfl,rfl,(hS.sel [2,1,0])⟩ ?_;clear h0 hS;rintro m2 E ds w3 ⟨out,i,Aa,Ab,Ac,h,rfl,H1,H3,H4,hS⟩ ag;replace h:=hr m2 out i h;clear hr;refine yad (zs (zq (yac H4) (zq (yab H1 underlying24 rfl ydq) (zq (zl underlying22 (Row.cell (hS.bx 1 rfl) (i:=1) rfl)) (zq (yaF (n:=g2.length) rfl underlying22 (yaD (hS.rdr 2 rfl))) (zq zL (yaa ?_)))))));by_cases hp:i<(g2.length:Int)
  · replace h:=h.1 hp;refine zc hp (yae (yad (yah (zs (zQ (ii 0) (yaa (yah ?_)))))));obtain ⟨I3,⟨m0,h0⟩,hr⟩:=h;refine yaE (fun m E ds w'=>∃ out2 k Ad Ae Af,I3 m out2 k∧ds=[]∧E 1=(Value.pointer (some ⟨g3,0,none⟩))∧E 3=(Value.slice Ad Ae Af)∧E 4=(ii i)∧E 5=(ii k)∧Sep w no O w' (rl [Res.own c2 100 Ad Ae Af out2,Res.box 24 g3 [(ii g),(.slice Ag lg cg)],Res.ro (FP.sl c3 Ag lg cg g2)])) m0 ⟨_,_,_,_,_,h0,rfl,H1,H3,H4,rfl,(hS.sel [0,1,2])⟩ ?_;clear h0 hS;rintro m3 E ds w4 ⟨out2,k,Ad,Ae,Af,h,rfl,H1,H3,H4,H5,hS⟩ again2;replace h:=hr m3 out2 k h;clear hr;refine yad (zs (zq (yac H5) (zq (yab H1 underlying24 rfl ydq) (zq (zl underlying22 (Row.cell (hS.bx 1 rfl) (i:=1) rfl)) (zq (yac H4) ?_)))));obtain ⟨hx,h⟩:=h;refine zq (zi underlying22 ybB (yaK (hS.rdr 2 rfl) hx)) (zq (yab rfl underlying67 rfl yai) (zq (yay (v:=(ii ((ge g2 i.toNat).2.2))) rfl underlying3 rfl (rd_f (hS.rdr 2 rfl) hx (fun q=>ydJ q) 2 rfl)) ?_));refine zq zL (yaa ?_);by_cases hp2:k<((ge g2 i.toNat).2.2)
    · replace h:=h.1 hp2;refine zc hp2 (yae (yad (yah (ybi [0,1,2,3,4,5,6,7,8,9,10,11,12,13,14,15,16] (fun i=>match i with | 13=>[0] | 14=>[0] | _=>[]) yav (by kernel_rfl) (by kernel_rfl) ?_))));replace hS:=hS.drew;refine zp (yac H3) (zp (yab H1 underlying24 rfl ydq) (zp (zl underlying22 (Row.cell (hS.bx 1 rfl) (i:=1) rfl)) (zp (yac H4) (zp (zi underlying22 ybB (yaK (hS.rdr 2 rfl) hx)) (zp (yab rfl underlying67 rfl yai) (zp (yay (v:=(ii ((ge g2 i.toNat).1))) rfl underlying3 rfl (rd_f (hS.rdr 2 rfl) hx (fun q=>ydJ q) 0 rfl)) ?_))))));refine zp (yab H1 underlying24 rfl ydq) (zp (zl underlying22 (Row.cell (hS.bx 1 rfl) (i:=1) rfl)) (zp (yac H4) (zp (zi underlying22 ybB (yaK (hS.rdr 2 rfl) hx)) (zp (yab rfl underlying67 rfl yai) (zp (yay (v:=(ii ((ge g2 i.toNat).2.1))) rfl underlying3 rfl (rd_f (hS.rdr 2 rfl) hx (fun q=>ydJ q) 1 rfl)) ?_)))));refine rp_n rfl rfl rfl rfl (n_builda (l:=[(0,(ii ((ge g2 i.toNat).1))),(1,(ii ((ge g2 i.toNat).2.1)))]) (cells:=[(ii ((ge g2 i.toNat).1)),(ii ((ge g2 i.toNat).2.1))]) (bp2 rfl rfl) underlying100 ycZ yai (by kernel_rfl) ?_);refine ⟨⟨fun hh=>zZ hh,⟨fun hh=>zZ hh,⟨fun hh=>zZ hh,⟨fun hh=>zZ hh,⟨fun hh=>zZ hh,⟨fun hh=>zZ hh,⟨fun hh=>zZ hh,⟨fun hh=>zZ hh,⟨fun hh=>zZ hh,⟨fun hh=>zZ hh,⟨fun hh=>zZ hh,⟨fun hh=>zZ hh,⟨fun _=>(yac H3),trivial⟩⟩⟩⟩⟩⟩⟩⟩⟩⟩⟩⟩⟩,?_⟩;refine rp_n rfl rfl rfl rfl (yaI (l:=[(0,(.agg #[(ii ((ge g2 i.toNat).1)),(ii ((ge g2 i.toNat).2.1))]))]) (cells:=[(ii ((ge g2 i.toNat).1)),(ii ((ge g2 i.toNat).2.1))]) (bp1 rfl) underlying91 ycZ rfl rfl ?_);intro g4 w5 hN;replace hS:=hS.litf (n:=1) 3 rfl (fP (fI .i64) (fI .i64)) hN ([((ge g2 i.toNat).1,(ge g2 i.toNat).2.1)]:List (Int×Int)) rfl (by decide) rfl;clear hN;refine ⟨⟨fun hh=>zZ hh,⟨fun hh=>zZ hh,⟨fun hh=>zZ hh,⟨fun hh=>zZ hh,⟨fun hh=>zZ hh,⟨fun hh=>zZ hh,⟨fun hh=>zZ hh,⟨fun hh=>zZ hh,⟨fun hh=>zZ hh,⟨fun hh=>zZ hh,⟨fun hh=>zZ hh,⟨fun hh=>zZ hh,⟨fun _=>(yac H3),trivial⟩⟩⟩⟩⟩⟩⟩⟩⟩⟩⟩⟩⟩,?_⟩;obtain ⟨hx2,h⟩:=h;refine rp_n rfl rfl rfl rfl (yda (c:=c2) rfl rfl underlying91 underlying91 ycZ rfl rfl (by decide) hS 0 rfl (hS.yo 3 rfl) hx2 ?_);clear hS;intro A c w6 hS;refine zb (zp (za (.slice A (Ae+1) c)) (ybl (yaj (zr (zq (yac H5) ?_)))));obtain ⟨hi,h⟩:=h;refine zq (zA hi) (zQ (ii (k+1)) (yaa ?_));obtain ⟨mq,hlt,h⟩:=h;exact again2 mq _ _ _ ⟨_,_,_,_,_,h,rfl,H1,rfl,H4,rfl,(hS.sel [0,1,2])⟩ hlt
    · replace h:=h.2 hp2;refine zd hp2 (yaC rfl (yaj (zr (zq (yac H4) ?_))));obtain ⟨hi2,h⟩:=h;refine zq (zA hi2) (zQ (ii (i+1)) (yaa ?_));obtain ⟨mq,hlt,h⟩:=h;exact ag mq _ _ _ ⟨_,_,_,_,_,h,rfl,H1,H3,rfl,(hS.sel [0,1,2])⟩ hlt
  · replace h:=h.2 hp;exact zd hp (yaC rfl (zs (zq (yac H3) (zQ (.slice Aa Ab Ac) (yaa (yaf rfl rfl ⟨_,_,_,_,rfl,(hS.sel [0]),h⟩))))))
def ydR(g:Int)(g2:List E3)(R:Int→Prop):Prop :=
ydr g g2 (fun r =>
R (r.length:Int))
theorem yhn{O:Nat→Prop}{w:World}{g g2 Ag lg cg}{R:Int→Prop}(h:ydR g g2 R)(hO:∀ k,O k→k<w.heap.size)(hA0:(FP.sl c3 Ag lg cg g2).P O w) :
    Calls Tryz.prog 64 #[(.agg #[(ii g),(.slice Ag lg cg)])] w fun e w'=>∃ r2,e = .returned (ii r2)∧Sep w no O w' (rl [])∧R r2:=by
  unfold ydR at h;have hS:Sep w no O w (rl [Res.ro (FP.sl c3 Ag lg cg g2)]):=Sep.startl hO [(FP.sl c3 Ag lg cg g2)] ⟨hA0,trivial⟩;refine yao (l:=[(.agg #[(ii g),(.slice Ag lg cg)])]) func64 rfl ntmps64 zY (zs (zn (ybH (v:=(.agg #[(ii g),(.slice Ag lg cg)])) rfl ?_)));intro g3 w2 hN;replace hS:Sep w no O w2 (stl _ 1 (Res.box 24 g3 [(ii g),(.slice Ag lg cg)])):=hS.new 1 rfl hN;clear hN;refine zb (zQ (ii 0) (yaa (zs (zq (yat (vs:=[(ii g),(.slice Ag lg cg)]) rfl underlying24 rfl yaM ⟨Row.cell (hS.bx 1 rfl) (i:=0) rfl,Row.cell (hS.bx 1 rfl) (i:=1) rfl,trivial⟩) (zn (yam rfl (am1 rfl) enter_107 ((yho h (yaO _) (hS.rdr 0 rfl)).mono ?_)))))));rintro _ w3 ⟨r,Ar,lr,cr,rfl,hC,h⟩;replace hS:=hS.call1 (hC.widen (yfd (yb0 (fP (fI .i64) (fI .i64)) _ _ _ _ _) yfs) hS.blt) 2 0 rfl;clear hC;refine ⟨_,rfl,?_⟩;exact zb (zq (yaF (n:=r.length) rfl underlying91 (yaD (hS.rdo 2 rfl))) (zQ (ii (r.length:Int)) (yaa (yaf rfl rfl ⟨_,rfl,(hS.sel []),h⟩))))
def yd0(g:Int)(g2:List E3)(vertices:Int)(single:Int)(R:Bool→Prop):Prop :=
((40<(g2.length:Int) →
R false) ∧
(¬(40<(g2.length:Int)) →
yds g g2 (fun r =>
((r=0 →
((g≤vertices →
ydR g g2 (fun r2 =>
R (decide (r2≤single)))) ∧
(¬(g≤vertices) →
R false))) ∧
(¬(r=0) →
R true)))))
theorem pok_r08_small{O:Nat→Prop}{w:World}{g g2 vertices single Ag lg cg}{R:Bool→Prop}(h:yd0 g g2 vertices single R)(hO:∀ k,O k→k<w.heap.size)(hA0:(FP.sl c3 Ag lg cg g2).P O w) :
    Calls Tryz.prog 27 #[(.agg #[(ii g),(.slice Ag lg cg)]),(ii vertices),(ii single)] w fun e w'=>∃ r3,e = .returned (.bool (r3))∧Sep w no O w' (rl [])∧R r3:=by
  unfold yd0 at h;have hS:Sep w no O w (rl [Res.ro (FP.sl c3 Ag lg cg g2)]):=Sep.startl hO [(FP.sl c3 Ag lg cg g2)] ⟨hA0,trivial⟩;refine yao (l:=[(.agg #[(ii g),(.slice Ag lg cg)]),(ii vertices),(ii single)]) func27 rfl ntmps27 zY (zs (zn (ybH (v:=(.agg #[(ii g),(.slice Ag lg cg)])) rfl ?_)));intro g3 w2 hN;replace hS:Sep w no O w2 (stl _ 1 (Res.box 24 g3 [(ii g),(.slice Ag lg cg)])):=hS.new 1 rfl hN;clear hN;refine zb (zQ (.bool (false)) (yaa (yad (zs (zq (yab rfl underlying24 rfl ydq) (zq (zl underlying22 (Row.cell (hS.bx 1 rfl) (i:=1) rfl)) (zq (yaF (n:=g2.length) rfl underlying22 (yaD (hS.rdr 0 rfl))) (zq zG (yaa ?_)))))))));by_cases hp:40<(g2.length:Int)
  · replace h:=h.1 hp;exact zc hp (zs (zQ (.bool (false)) (yaa (yaf rfl rfl ⟨_,rfl,(hS.sel []),h⟩))))
  · replace h:=h.2 hp;refine zd hp (yae (yad (zs (zq (yat (vs:=[(ii g),(.slice Ag lg cg)]) rfl underlying24 rfl yaM ⟨Row.cell (hS.bx 1 rfl) (i:=0) rfl,Row.cell (hS.bx 1 rfl) (i:=1) rfl,trivial⟩) (zn (yam rfl (am1 rfl) enter_25 ((ygP h (yaO _) (hS.rdr 0 rfl)).mono ?_)))))));rintro _ w3 ⟨r,rfl,hC,h⟩;replace hS:=hS.pur hC.pure;clear hC;refine ⟨_,rfl,?_⟩;refine zb (zq zN (yaa ?_));by_cases hp2:r=0
    · replace h:=h.1 hp2;refine ze hp2 (yae (zs (zq (yab rfl underlying24 rfl yai) (zq (zl underlying3 (Row.cell (hS.bx 1 rfl) (i:=0) rfl)) (zM (ii vertices) (zq (v_leq rfl rfl) (zM (.bool (decide (g≤vertices))) ?_)))))));by_cases hp3:g≤vertices
      · replace h:=h.1 hp3;refine zW rfl rfl (zT hp3) (yat (vs:=[(ii g),(.slice Ag lg cg)]) rfl underlying24 rfl yaM ⟨Row.cell (hS.bx 1 rfl) (i:=0) rfl,Row.cell (hS.bx 1 rfl) (i:=1) rfl,trivial⟩) (rl_n (yak rfl (yal rfl (zT hp3))) rfl rfl rfl (yam rfl (am1 rfl) enter_64 ((yhn h (yaO _) (hS.rdr 0 rfl)).mono ?_)));rintro _ w4 ⟨r2,rfl,hC,h⟩;replace hS:=hS.pur hC.pure;clear hC;refine ⟨_,rfl,?_⟩;exact zb (zW rfl rfl (zT hp3) (zm (ii single)) (zW rfl rfl (zT hp3) (v_leq rfl rfl) (zq (yaq (v:=(.bool (decide (r2≤single)))) (zT hp3) rfl) (zQ (.bool (decide (r2≤single))) (yaa (yaf rfl rfl ⟨_,rfl,(hS.sel []),h⟩))))))
      · replace h:=h.2 hp3;exact zV rfl rfl (zF hp3) (zV rfl rfl (zF hp3) (zV rfl rfl (zF hp3) (zV rfl rfl (zF hp3) (zq (yaw (v:=(.bool (false))) (zF hp3) rfl) (zQ (.bool (false)) (yaa (yaf rfl rfl ⟨_,rfl,(hS.sel []),h⟩)))))))
    · replace h:=h.2 hp2;exact zf hp2 (zs (zQ (.bool (true)) (yaa (yaf rfl rfl ⟨_,rfl,(hS.sel []),h⟩))))
def yf8(g:Int)(g2:List E3)(R:Bool→Prop):Prop :=
yd0 g g2 6 9 (fun r =>
R r)
theorem pok_r08_Few{O:Nat→Prop}{w:World}{g g2 Ag lg cg}{R:Bool→Prop}(h:yf8 g g2 R)(hO:∀ k,O k→k<w.heap.size)(hA0:(FP.sl c3 Ag lg cg g2).P O w) :
    Calls Tryz.prog 86 #[(.agg #[(ii g),(.slice Ag lg cg)])] w fun e w'=>∃ r2,e = .returned (.bool (r2))∧Sep w no O w' (rl [])∧R r2:=by
  unfold yf8 at h;have hS:Sep w no O w (rl [Res.ro (FP.sl c3 Ag lg cg g2)]):=Sep.startl hO [(FP.sl c3 Ag lg cg g2)] ⟨hA0,trivial⟩;refine yao (l:=[(.agg #[(ii g),(.slice Ag lg cg)])]) func86 rfl ntmps86 zY (zs (zn (ybH (v:=(.agg #[(ii g),(.slice Ag lg cg)])) rfl ?_)));intro g3 w2 hN;replace hS:Sep w no O w2 (stl _ 1 (Res.box 24 g3 [(ii g),(.slice Ag lg cg)])):=hS.new 1 rfl hN;clear hN;refine zb (zQ (.bool (false)) (yaa (zs (zq (yat (vs:=[(ii g),(.slice Ag lg cg)]) rfl underlying24 rfl yaM ⟨Row.cell (hS.bx 1 rfl) (i:=0) rfl,Row.cell (hS.bx 1 rfl) (i:=1) rfl,trivial⟩) (zn (yam rfl (am3 rfl rfl rfl) enter_27 ((pok_r08_small h (yaO _) (hS.rdr 0 rfl)).mono ?_)))))));rintro _ w3 ⟨r,rfl,hC,h⟩;replace hS:=hS.pur hC.pure;clear hC;refine ⟨_,rfl,?_⟩;exact zb (zQ (.bool (r)) (yaa (yaf rfl rfl ⟨_,rfl,(hS.sel []),h⟩)))
def ydg(g:Int)(g2:List E3)(v:Int)(R:(List Bool)→Prop):Prop :=
((0≤g∧g≤1000000) ∧
((0≤v∧v<((List.replicate g.toNat false).length:Int)) ∧
(∃ I2:Nat→Int→(List Bool)→Prop,(∃ m0,I2 m0 0 ((List.replicate g.toNat false).set v.toNat true))∧∀ m2 round out,I2 m2 round out → 
((round<g →
(∃ I3:Nat→Int→(List Bool)→Prop,(∃ m0,I3 m0 0 out)∧∀ m3 a out2,I3 m3 a out2 → 
((a<g →
(∃ I4:Nat→Int→(List Bool)→Prop,(∃ m0,I4 m0 0 out2)∧∀ m4 b out3,I4 m4 b out3 → 
((b<g →
((0≤a∧a<(out3.length:Int)) ∧
((gb out3 a.toNat=true →
yb7 g g2 a b (fun r =>
((0<r →
((0≤b∧b<(out3.length:Int)) ∧
(In64 (b+1) ∧
∃ m5,m5<m4∧I4 m5 (b+1) (out3.set b.toNat true)))) ∧
(¬(0<r) →
(In64 (b+1) ∧
∃ m6,m6<m4∧I4 m6 (b+1) out3))))) ∧
(¬(gb out3 a.toNat=true) →
(In64 (b+1) ∧
∃ m7,m7<m4∧I4 m7 (b+1) out3))))) ∧
(¬(b<g) →
(In64 (a+1) ∧
∃ m8,m8<m3∧I3 m8 (a+1) out3))))) ∧
(¬(a<g) →
(In64 (round+1) ∧
∃ m9,m9<m2∧I2 m9 (round+1) out2))))) ∧
(¬(round<g) →
R out)))))
theorem yh9{O:Nat→Prop}{w:World}{g g2 v Ag lg cg}{R:(List Bool)→Prop}(h:ydg g g2 v R)(hO:∀ k,O k→k<w.heap.size)(hA0:(FP.sl c3 Ag lg cg g2).P O w) :
    Calls Tryz.prog 106 #[(.agg #[(ii g),(.slice Ag lg cg)]),(ii v)] w fun e w'=>∃ r2 Ar lr cr,e = .returned (.slice Ar lr cr)∧Sep w no O w' (rl [Res.own cB 4 Ar lr cr r2])∧R r2:=by
  unfold ydg at h;have hS:Sep w no O w (rl [Res.ro (FP.sl c3 Ag lg cg g2)]):=Sep.startl hO [(FP.sl c3 Ag lg cg g2)] ⟨hA0,trivial⟩;refine yao (l:=[(.agg #[(ii g),(.slice Ag lg cg)]),(ii v)]) func106 rfl ntmps106 zY (zs (zn (ybH (v:=(.agg #[(ii g),(.slice Ag lg cg)])) rfl ?_)));intro g3 w2 hN;replace hS:Sep w no O w2 (stl _ 1 (Res.box 24 g3 [(ii g),(.slice Ag lg cg)])):=hS.new 1 rfl hN;clear hN;refine zb (zQ (.slice none 0 0) (yaa (zs (zq (yab rfl underlying24 rfl yai) (zq (zl underlying3 (Row.cell (hS.bx 1 rfl) (i:=0) rfl)) ?_)))));obtain ⟨hx,h⟩:=h;refine zn (ygi rfl rfl underlying168 ydt (by decide) rfl hx ?_);intro g4 w3 hN;replace hS:=hS.made 2 rfl cB (.bool (false)) false (fun _ _=>rfl) hN (by omega);clear hN;refine zb (zQ (.slice (some ⟨g4,0,none⟩) g.toNat g.toNat) (yaa (zs (zM (.slice (some ⟨g4,0,none⟩) g.toNat g.toNat) (zM (ii v) ?_)))));obtain ⟨hx2,h⟩:=h;refine zq (zi underlying168 ydt (yaK (hS.rdo 2 rfl) hx2)) (zo (zt (.bool (true)) ydt (hS.wr 2 rfl rfl hx2) ?_));intro w4 e1;replace hS:=hS.st 2 rfl rfl hx2 (x:=true) rfl e1;clear e1;refine zb (yaa (yad (zs (zQ (ii 0) (yaa (yah ?_))))));obtain ⟨I2,⟨m0,h0⟩,hr⟩:=h;refine yaE (fun m E ds w'=>∃ round out,I2 m round out∧ds=[]∧E 2=(Value.pointer (some ⟨g3,0,none⟩))∧E 5=(Value.slice (some ⟨g4,0,none⟩) g.toNat g.toNat)∧E 6=(ii round)∧Sep w no O w' (rl [Res.box 24 g3 [(ii g),(.slice Ag lg cg)],Res.ro (FP.sl c3 Ag lg cg g2),Res.own cB 4 (some ⟨g4,0,none⟩) g.toNat g.toNat out])) m0 ⟨_,_,h0,rfl,rfl,rfl,rfl,(hS.sel [1,0,2])⟩ ?_;clear h0 hS;rintro m2 E ds w5 ⟨round,out,h,rfl,H2,H5,H6,hS⟩ ag;replace h:=hr m2 round out h;clear hr;refine yad (zs (zq (yac H6) (zq (yab H2 underlying24 rfl yai) (zq (zl underlying3 (Row.cell (hS.bx 0 rfl) (i:=0) rfl)) (zq zL (yaa ?_))))));by_cases hp:round<g
  · replace h:=h.1 hp;refine zc hp (yae (yad (yah (zs (zQ (ii 0) (yaa (yah ?_)))))));obtain ⟨I3,⟨m0,h0⟩,hr⟩:=h;refine yaE (fun m E ds w'=>∃ a out2,I3 m a out2∧ds=[]∧E 2=(Value.pointer (some ⟨g3,0,none⟩))∧E 5=(Value.slice (some ⟨g4,0,none⟩) g.toNat g.toNat)∧E 6=(ii round)∧E 7=(ii a)∧Sep w no O w' (rl [Res.box 24 g3 [(ii g),(.slice Ag lg cg)],Res.ro (FP.sl c3 Ag lg cg g2),Res.own cB 4 (some ⟨g4,0,none⟩) g.toNat g.toNat out2])) m0 ⟨_,_,h0,rfl,H2,H5,H6,rfl,(hS.sel [0,1,2])⟩ ?_;clear h0 hS;rintro m3 E ds w6 ⟨a,out2,h,rfl,H2,H5,H6,H7,hS⟩ again2;replace h:=hr m3 a out2 h;clear hr;refine yad (zs (zq (yac H7) (zq (yab H2 underlying24 rfl yai) (zq (zl underlying3 (Row.cell (hS.bx 0 rfl) (i:=0) rfl)) (zq zL (yaa ?_))))));by_cases hp2:a<g
    · replace h:=h.1 hp2;refine zc hp2 (yae (yad (yah (zs (zQ (ii 0) (yaa (yah ?_)))))));obtain ⟨I4,⟨m0,h0⟩,hr⟩:=h;refine yaE (fun m E ds w'=>∃ b out3,I4 m b out3∧ds=[]∧E 2=(Value.pointer (some ⟨g3,0,none⟩))∧E 5=(Value.slice (some ⟨g4,0,none⟩) g.toNat g.toNat)∧E 6=(ii round)∧E 7=(ii a)∧E 8=(ii b)∧Sep w no O w' (rl [Res.box 24 g3 [(ii g),(.slice Ag lg cg)],Res.ro (FP.sl c3 Ag lg cg g2),Res.own cB 4 (some ⟨g4,0,none⟩) g.toNat g.toNat out3])) m0 ⟨_,_,h0,rfl,H2,H5,H6,H7,rfl,(hS.sel [0,1,2])⟩ ?_;clear h0 hS;rintro m4 E ds w7 ⟨b,out3,h,rfl,H2,H5,H6,H7,H8,hS⟩ again3;replace h:=hr m4 b out3 h;clear hr;refine yad (zs (zq (yac H8) (zq (yab H2 underlying24 rfl yai) (zq (zl underlying3 (Row.cell (hS.bx 0 rfl) (i:=0) rfl)) (zq zL (yaa ?_))))));by_cases hp3:b<g
      · replace h:=h.1 hp3;refine zc hp3 (yae (yad (yah (zs (zq (yac H5) (zq (yac H7) ?_))))));obtain ⟨hx3,h⟩:=h;refine zq (zi underlying168 ydt (yaK (hS.rdo 2 rfl) hx3)) (zq (yay (v:=(.bool (gb out3 a.toNat))) rfl underlying4 rfl (rd_1 (hS.rdo 2 rfl) hx3 (fun q=>gb_some q) rfl)) ?_);refine zM (.bool (gb out3 a.toNat)) ?_;by_cases hp4:gb out3 a.toNat=true
        · replace h:=h.1 hp4;refine zW rfl rfl (zC hp4) (yat (vs:=[(ii g),(.slice Ag lg cg)]) H2 underlying24 rfl yaM ⟨Row.cell (hS.bx 0 rfl) (i:=0) rfl,Row.cell (hS.bx 0 rfl) (i:=1) rfl,trivial⟩) (zW rfl rfl (zC hp4) (yac H7) (zW rfl rfl (zC hp4) (yac H8) (rl_n (yak rfl (yal rfl (zC hp4))) rfl rfl rfl (yam rfl (am3 rfl rfl rfl) yiw ((yex h (yaO _) (hS.rdr 1 rfl)).mono ?_)))));rintro _ w8 ⟨r,rfl,hC,h⟩;replace hS:=hS.pur hC.pure;clear hC;refine ⟨_,rfl,?_⟩;refine zb (zW rfl rfl (zC hp4) zG (zq (yaq (v:=(.bool (decide (0<r)))) (zC hp4) rfl) (yaa ?_)));by_cases hp5:0<r
          · replace h:=h.1 hp5;refine zc hp5 (zr (zq (yac H5) (zq (yac H8) ?_)));obtain ⟨hx4,h⟩:=h;refine zq (zi underlying168 ydt (yaK (hS.rdo 2 rfl) hx4)) (zo (zt (.bool (true)) ydt (hS.wr 2 rfl rfl hx4) ?_));intro w9 e1;replace hS:=hS.st 2 rfl rfl hx4 (x:=true) rfl e1;clear e1;refine zb (yaa (yaj (zr (zq (yac H8) ?_))));obtain ⟨hi,h⟩:=h;refine zq (zA hi) (zQ (ii (b+1)) (yaa ?_));obtain ⟨mq,hlt,h⟩:=h;exact again3 mq _ _ _ ⟨_,_,h,rfl,H2,H5,H6,H7,rfl,(hS.sel [0,1,2])⟩ hlt
          · replace h:=h.2 hp5;refine zd hp5 (yae (yaj (zr (zq (yac H8) ?_))));obtain ⟨hi2,h⟩:=h;refine zq (zA hi2) (zQ (ii (b+1)) (yaa ?_));obtain ⟨mq,hlt,h⟩:=h;exact again3 mq _ _ _ ⟨_,_,h,rfl,H2,H5,H6,H7,rfl,(hS.sel [0,1,2])⟩ hlt
        · replace h:=h.2 hp4;refine zV rfl rfl (zC (zI hp4)) (zV rfl rfl (zC (zI hp4)) (zV rfl rfl (zC (zI hp4)) (zV rfl rfl (zC (zI hp4)) (zV rfl rfl (zC (zI hp4)) (zq (yaw (v:=(.bool (false))) (zC (zI hp4)) rfl) (yaa (yaA rfl (yae (yaj (zr (zq (yac H8) ?_)))))))))));obtain ⟨hi3,h⟩:=h;refine zq (zA hi3) (zQ (ii (b+1)) (yaa ?_));obtain ⟨mq,hlt,h⟩:=h;exact again3 mq _ _ _ ⟨_,_,h,rfl,H2,H5,H6,H7,rfl,(hS.sel [0,1,2])⟩ hlt
      · replace h:=h.2 hp3;refine zd hp3 (yaC rfl (yaj (zr (zq (yac H7) ?_))));obtain ⟨hi4,h⟩:=h;refine zq (zA hi4) (zQ (ii (a+1)) (yaa ?_));obtain ⟨mq,hlt,h⟩:=h;exact again2 mq _ _ _ ⟨_,_,h,rfl,H2,H5,H6,rfl,(hS.sel [0,1,2])⟩ hlt
    · replace h:=h.2 hp2;refine zd hp2 (yaC rfl (yaj (zr (zq (yac H6) ?_))));obtain ⟨hi5,h⟩:=h;refine zq (zA hi5) (zQ (ii (round+1)) (yaa ?_));obtain ⟨mq,hlt,h⟩:=h;exact ag mq _ _ _ ⟨_,_,h,rfl,H2,H5,rfl,(hS.sel [0,1,2])⟩ hlt
  · replace h:=h.2 hp;exact zd hp (yaC rfl (zs (zq (yac H5) (zQ (.slice (some ⟨g4,0,none⟩) g.toNat g.toNat) (yaa (yaf rfl rfl ⟨_,_,_,_,rfl,(hS.sel [2]),h⟩))))))
def ydW(g:Int)(g2:List E3)(R:Int→Prop):Prop :=
((0≤g∧g≤1000000) ∧
(∃ I2:Nat→Int→Int→(List Bool)→Prop,(∃ m0,I2 m0 0 0 (List.replicate g.toNat false))∧∀ m2 n v seen,I2 m2 n v seen → 
((v<g →
((0≤v∧v<(seen.length:Int)) ∧
((gb seen v.toNat=true →
(In64 (v+1) ∧
∃ m3,m3<m2∧I2 m3 n (v+1) seen)) ∧
(¬(gb seen v.toNat=true) →
(In64 (n+1) ∧
ydg g g2 v (fun r =>
(∃ I3:Nat→Int→(List Bool)→Prop,(∃ m0,I3 m0 0 seen)∧∀ m4 u seen2,I3 m4 u seen2 → 
((u<g →
((0≤u∧u<(seen2.length:Int)) ∧
((gb seen2 u.toNat=true →
(In64 (u+1) ∧
∃ m5,m5<m4∧I3 m5 (u+1) (seen2.set u.toNat true))) ∧
(¬(gb seen2 u.toNat=true) →
((0≤u∧u<(r.length:Int)) ∧
(In64 (u+1) ∧
∃ m6,m6<m4∧I3 m6 (u+1) (seen2.set u.toNat (gb r u.toNat)))))))) ∧
(¬(u<g) →
(In64 (v+1) ∧
∃ m7,m7<m2∧I2 m7 (n+1) (v+1) seen2)))))))))) ∧
(¬(v<g) →
R n))))
theorem pok_r08_Parts{O:Nat→Prop}{w:World}{g g2 Ag lg cg}{R:Int→Prop}(h:ydW g g2 R)(hO:∀ k,O k→k<w.heap.size)(hA0:(FP.sl c3 Ag lg cg g2).P O w) :
    Calls Tryz.prog 63 #[(.agg #[(ii g),(.slice Ag lg cg)])] w fun e w'=>∃ r2,e = .returned (ii r2)∧Sep w no O w' (rl [])∧R r2:=by
  unfold ydW at h;have hS:Sep w no O w (rl [Res.ro (FP.sl c3 Ag lg cg g2)]):=Sep.startl hO [(FP.sl c3 Ag lg cg g2)] ⟨hA0,trivial⟩;refine yao (l:=[(.agg #[(ii g),(.slice Ag lg cg)])]) func63 rfl ntmps63 zY (zs (zn (ybH (v:=(.agg #[(ii g),(.slice Ag lg cg)])) rfl ?_)));intro g3 w2 hN;replace hS:Sep w no O w2 (stl _ 1 (Res.box 24 g3 [(ii g),(.slice Ag lg cg)])):=hS.new 1 rfl hN;clear hN;refine zb (zQ (ii 0) (yaa (zs (zQ (ii 0) (yaa (zs (zq (yab rfl underlying24 rfl yai) (zq (zl underlying3 (Row.cell (hS.bx 1 rfl) (i:=0) rfl)) ?_))))))));obtain ⟨hx,h⟩:=h;refine zn (ygi rfl rfl underlying168 ydt (by decide) rfl hx ?_);intro g4 w3 hN;replace hS:=hS.made 2 rfl cB (.bool (false)) false (fun _ _=>rfl) hN (by omega);clear hN;refine zb (zQ (.slice (some ⟨g4,0,none⟩) g.toNat g.toNat) (yaa (yad (zs (zQ (ii 0) (yaa (yah ?_)))))));obtain ⟨I2,⟨m0,h0⟩,hr⟩:=h;refine yaE (fun m E ds w'=>∃ n v seen,I2 m n v seen∧ds=[]∧E 1=(Value.pointer (some ⟨g3,0,none⟩))∧E 3=(ii n)∧E 4=(Value.slice (some ⟨g4,0,none⟩) g.toNat g.toNat)∧E 5=(ii v)∧Sep w no O w' (rl [Res.box 24 g3 [(ii g),(.slice Ag lg cg)],Res.ro (FP.sl c3 Ag lg cg g2),Res.own cB 4 (some ⟨g4,0,none⟩) g.toNat g.toNat seen])) m0 ⟨_,_,_,h0,rfl,rfl,rfl,rfl,rfl,(hS.sel [1,0,2])⟩ ?_;clear h0 hS;rintro m2 E ds w4 ⟨n,v,seen,h,rfl,H1,H3,H4,H5,hS⟩ ag;replace h:=hr m2 n v seen h;clear hr;refine yad (zs (zq (yac H5) (zq (yab H1 underlying24 rfl yai) (zq (zl underlying3 (Row.cell (hS.bx 0 rfl) (i:=0) rfl)) (zq zL (yaa ?_))))));by_cases hp:v<g
  · replace h:=h.1 hp;refine zc hp (yae (yad (yah (yad (zs (zq (yac H4) (zq (yac H5) ?_)))))));obtain ⟨hx2,h⟩:=h;refine zq (zi underlying168 ydt (yaK (hS.rdo 2 rfl) hx2)) (zq (yay (v:=(.bool (gb seen v.toNat))) rfl underlying4 rfl (rd_1 (hS.rdo 2 rfl) hx2 (fun q=>gb_some q) rfl)) ?_);refine yaa ?_;by_cases hp2:gb seen v.toNat=true
    · replace h:=h.1 hp2;refine yar (zC hp2) (yaC rfl (zr (zq (yac H5) ?_)));obtain ⟨hi,h⟩:=h;refine zq (zA hi) (zQ (ii (v+1)) (yaa ?_));obtain ⟨mq,hlt,h⟩:=h;exact ag mq _ _ _ ⟨_,_,_,h,rfl,H1,H3,H4,rfl,(hS.sel [0,1,2])⟩ hlt
    · replace h:=h.2 hp2;refine yaA (zC (zI hp2)) (yae (zs (zq (yac H3) ?_)));obtain ⟨hi2,h⟩:=h;refine zq (zA hi2) (zQ (ii (n+1)) (yaa (zs (zq (yat (vs:=[(ii g),(.slice Ag lg cg)]) H1 underlying24 rfl yaM ⟨Row.cell (hS.bx 0 rfl) (i:=0) rfl,Row.cell (hS.bx 0 rfl) (i:=1) rfl,trivial⟩) (zq (yac H5) (zn (yam rfl (am2 rfl rfl) enter_106 ((yh9 h (yaO _) (hS.rdr 1 rfl)).mono ?_))))))));rintro _ w5 ⟨r,Ar,lr,cr,rfl,hC,h⟩;replace hS:=hS.call1 (hC.widen (yfd (yb0 fB _ _ _ _ _) yfs) hS.blt) 3 0 rfl;clear hC;refine ⟨_,rfl,?_⟩;refine zb (zQ (.slice Ar lr cr) (yaa (zs (zQ (ii 0) (yaa (yah ?_))))));obtain ⟨I3,⟨m0,h0⟩,hr⟩:=h;refine yaE (fun m E ds w'=>∃ u seen2,I3 m u seen2∧ds=[]∧E 1=(Value.pointer (some ⟨g3,0,none⟩))∧E 3=(ii (n+1))∧E 4=(Value.slice (some ⟨g4,0,none⟩) g.toNat g.toNat)∧E 5=(ii v)∧E 6=(Value.slice Ar lr cr)∧E 7=(ii u)∧Sep w no O w' (rl [Res.box 24 g3 [(ii g),(.slice Ag lg cg)],Res.ro (FP.sl c3 Ag lg cg g2),Res.own cB 4 (some ⟨g4,0,none⟩) g.toNat g.toNat seen2,Res.own cB 4 Ar lr cr r])) m0 ⟨_,_,h0,rfl,H1,rfl,H4,H5,rfl,rfl,(hS.sel [0,1,2,3])⟩ ?_;clear h0 hS;rintro m4 E ds w6 ⟨u,seen2,h,rfl,H1,H3,H4,H5,H6,H7,hS⟩ again2;replace h:=hr m4 u seen2 h;clear hr;refine yad (zs (zq (yac H7) (zq (yab H1 underlying24 rfl yai) (zq (zl underlying3 (Row.cell (hS.bx 0 rfl) (i:=0) rfl)) (zq zL (yaa ?_))))));by_cases hp3:u<g
      · replace h:=h.1 hp3;refine zc hp3 (yae (yad (yah (zr (zq (yac H4) (zq (yac H7) (zq (yac H4) (zq (yac H7) ?_))))))));obtain ⟨hx3,h⟩:=h;refine zq (zi underlying168 ydt (yaK (hS.rdo 2 rfl) hx3)) (zq (yay (v:=(.bool (gb seen2 u.toNat))) rfl underlying4 rfl (rd_1 (hS.rdo 2 rfl) hx3 (fun q=>gb_some q) rfl)) ?_);refine zM (.bool (gb seen2 u.toNat)) ?_;by_cases hp4:gb seen2 u.toNat=true
        · replace h:=h.1 hp4;refine zV rfl rfl (zC hp4) (zV rfl rfl (zC hp4) (zV rfl rfl (zC hp4) (zV rfl rfl (zC hp4) (zq (yaq (v:=(.bool (true))) (zC hp4) rfl) (zq (zi underlying168 ydt (yaK (hS.rdo 2 rfl) hx3)) (zo (zt (.bool (true)) ydt (hS.wr 2 rfl rfl hx3) ?_)))))));intro w7 e1;replace hS:=hS.st 2 rfl rfl hx3 (x:=true) rfl e1;clear e1;refine zb (yaa (yaj (zr (zq (yac H7) ?_))));obtain ⟨hi3,h⟩:=h;refine zq (zA hi3) (zQ (ii (u+1)) (yaa ?_));obtain ⟨mq,hlt,h⟩:=h;exact again2 mq _ _ _ ⟨_,_,h,rfl,H1,H3,H4,H5,H6,rfl,(hS.sel [0,1,2,3])⟩ hlt
        · replace h:=h.2 hp4;refine zW rfl rfl (zC (zI hp4)) (yac H6) (zW rfl rfl (zC (zI hp4)) (yac H7) ?_);obtain ⟨hx4,h⟩:=h;refine zW rfl rfl (zC (zI hp4)) (zi underlying168 ydt (yaK (hS.rdo 3 rfl) hx4)) (zW rfl rfl (zC (zI hp4)) (yay (v:=(.bool (gb r u.toNat))) rfl underlying4 rfl (rd_1 (hS.rdo 3 rfl) hx4 (fun q=>gb_some q) rfl)) ?_);refine zq (yaw (v:=(.bool (gb r u.toNat))) (zC (zI hp4)) rfl) (zq (zi underlying168 ydt (yaK (hS.rdo 2 rfl) hx3)) (zo (zt (.bool (gb r u.toNat)) ydt (hS.wr 2 rfl rfl hx3) ?_)));intro w8 e1;replace hS:=hS.st 2 rfl rfl hx3 (x:=gb r u.toNat) rfl e1;clear e1;refine zb (yaa (yaj (zr (zq (yac H7) ?_))));obtain ⟨hi4,h⟩:=h;refine zq (zA hi4) (zQ (ii (u+1)) (yaa ?_));obtain ⟨mq,hlt,h⟩:=h;exact again2 mq _ _ _ ⟨_,_,h,rfl,H1,H3,H4,H5,H6,rfl,(hS.sel [0,1,2,3])⟩ hlt
      · replace h:=h.2 hp3;refine zd hp3 (yaC rfl (yaj (zr (zq (yac H5) ?_))));obtain ⟨hi5,h⟩:=h;refine zq (zA hi5) (zQ (ii (v+1)) (yaa ?_));obtain ⟨mq,hlt,h⟩:=h;exact ag mq _ _ _ ⟨_,_,_,h,rfl,H1,H3,H4,rfl,(hS.sel [0,1,2])⟩ hlt
  · replace h:=h.2 hp;exact zd hp (yaC rfl (zs (zq (yac H3) (zQ (ii n) (yaa (yaf rfl rfl ⟨_,rfl,(hS.sel []),h⟩))))))
def ydl(g:Int)(g2:List E3)(R:Bool→Prop):Prop :=
ydW g g2 (fun r =>
R (decide (r=1)))
theorem yhj{O:Nat→Prop}{w:World}{g g2 Ag lg cg}{R:Bool→Prop}(h:ydl g g2 R)(hO:∀ k,O k→k<w.heap.size)(hA0:(FP.sl c3 Ag lg cg g2).P O w) :
    Calls Tryz.prog 26 #[(.agg #[(ii g),(.slice Ag lg cg)])] w fun e w'=>∃ r2,e = .returned (.bool (r2))∧Sep w no O w' (rl [])∧R r2:=by
  unfold ydl at h;have hS:Sep w no O w (rl [Res.ro (FP.sl c3 Ag lg cg g2)]):=Sep.startl hO [(FP.sl c3 Ag lg cg g2)] ⟨hA0,trivial⟩;refine yao (l:=[(.agg #[(ii g),(.slice Ag lg cg)])]) func26 rfl ntmps26 zY (zs (zn (ybH (v:=(.agg #[(ii g),(.slice Ag lg cg)])) rfl ?_)));intro g3 w2 hN;replace hS:Sep w no O w2 (stl _ 1 (Res.box 24 g3 [(ii g),(.slice Ag lg cg)])):=hS.new 1 rfl hN;clear hN;refine zb (zQ (.bool (false)) (yaa (zs (zq (yat (vs:=[(ii g),(.slice Ag lg cg)]) rfl underlying24 rfl yaM ⟨Row.cell (hS.bx 1 rfl) (i:=0) rfl,Row.cell (hS.bx 1 rfl) (i:=1) rfl,trivial⟩) (zn (yam rfl (am1 rfl) enter_63 ((pok_r08_Parts h (yaO _) (hS.rdr 0 rfl)).mono ?_)))))));rintro _ w3 ⟨r,rfl,hC,h⟩;replace hS:=hS.pur hC.pure;clear hC;refine ⟨_,rfl,?_⟩;exact zb (zq zE (zQ (.bool (decide (r=1))) (yaa (yaf rfl rfl ⟨_,rfl,(hS.sel []),h⟩))))
end Go.Proofs.YtjepipbkiadcpaaGreat

/- Pure forms of functions, made by program (pf.py), each with the proof that the code does so. -/
namespace Go.Proofs.YtjepipbkiadcpaaGreat
open Go Go.RowKit Go.Shelf Go.Proofs.Tryz
set_option maxRecDepth 100000
set_option maxHeartbeats 8000000
def ybN(s1:List Int)(s2:List Int)(R:Bool→Prop):Prop :=
(((s1.length:Int)=(s2.length:Int) →
(∃ I2:Nat→Int→Prop,(∃ m0,I2 m0 0)∧∀ m2 v,I2 m2 v → 
((v<(s1.length:Int) →
((0≤v∧v<(s1.length:Int)) ∧
((0≤v∧v<(s2.length:Int)) ∧
(((gi s1 v.toNat)=(gi s2 v.toNat) →
(In64 (v+1) ∧
∃ m3,m3<m2∧I2 m3 (v+1))) ∧
(¬((gi s1 v.toNat)=(gi s2 v.toNat)) →
R false))))) ∧
(¬(v<(s1.length:Int)) →
R true)))) ∧
(¬((s1.length:Int)=(s2.length:Int)) →
R false))
theorem yd4{O:Nat→Prop}{w:World}{s1 s2 As1 ls1 cs1 As2 ls2 cs2}{R:Bool→Prop}(h:ybN s1 s2 R)(hO:∀ k,O k→k<w.heap.size)(hA0:(FP.sl cI As1 ls1 cs1 s1).P O w)(hA1:(FP.sl cI As2 ls2 cs2 s2).P O w) :
    Calls Tryz.prog 24 #[(.slice As1 ls1 cs1),(.slice As2 ls2 cs2)] w fun e w'=>∃ r,e = .returned (.bool (r))∧Sep w no O w' (rl [])∧R r:=by
  unfold ybN at h;have hS:Sep w no O w (rl [Res.ro (FP.sl cI As1 ls1 cs1 s1),Res.ro (FP.sl cI As2 ls2 cs2 s2)]):=Sep.startl hO [(FP.sl cI As1 ls1 cs1 s1),(FP.sl cI As2 ls2 cs2 s2)] ⟨hA0,hA1,trivial⟩;refine yao (l:=[(.slice As1 ls1 cs1),(.slice As2 ls2 cs2)]) func24 rfl ntmps24 zY (zs (zQ (.bool (false)) (yaa (yad (zs (zM (.slice As1 ls1 cs1) (zq (yaF (n:=s1.length) rfl underlying33 (yaD (hS.rdr 0 rfl))) (zM (.slice As2 ls2 cs2) (zq (yaF (n:=s2.length) rfl underlying33 (yaD (hS.rdr 1 rfl))) (zq zN (yaa ?_)))))))))));by_cases hp:(s1.length:Int)=(s2.length:Int)
  · replace h:=h.1 hp;refine ze hp (yae (yad (zs (zM (.slice As1 ls1 cs1) (zq (yaF (n:=s1.length) rfl underlying33 (yaD (hS.rdr 0 rfl))) (zM (ii 0) (yaa (yah ?_))))))));obtain ⟨I2,⟨m0,h0⟩,hr⟩:=h;refine yaE (fun m E ds w'=>∃ v,I2 m v∧ds=[]∧E 0=(Value.slice As1 ls1 cs1)∧E 1=(Value.slice As2 ls2 cs2)∧E 12=(ii (s1.length:Int))∧E 13=(ii v)∧Sep w no O w' (rl [Res.ro (FP.sl cI As1 ls1 cs1 s1),Res.ro (FP.sl cI As2 ls2 cs2 s2)])) m0 ⟨_,h0,rfl,rfl,rfl,rfl,rfl,(hS.sel [0,1])⟩ ?_;clear h0 hS;rintro m2 E ds w2 ⟨v,h,rfl,H0,H1,H12,H13,hS⟩ ag;replace h:=hr m2 v h;clear hr;refine zs (zq (ybD H13 H12) (yaa (yad ?_)));by_cases hp2:v<(s1.length:Int)
    · replace h:=h.1 hp2;refine zc hp2 (yae (yad (yah (zs (zq (yac H13) (zQ (ii v) (yaa (yad (ybi [0,1,2,3,4,5,6,7,8] st0 yav (by kernel_rfl) (by kernel_rfl) ?_)))))))));replace hS:=hS.drew;refine zp (yac H0) (zp (zm (ii v)) ?_);obtain ⟨hx,h⟩:=h;refine zp (zi underlying33 yai (yaK (hS.rdr 0 rfl) hx)) (zp (yay (v:=(ii (gi s1 v.toNat))) rfl underlying3 rfl (rd_1 (hS.rdr 0 rfl) hx (fun q=>yaQ q) rfl)) ?_);refine zp (yac H1) (zp (zm (ii v)) ?_);obtain ⟨hx2,h⟩:=h;refine zp (zi underlying33 yai (yaK (hS.rdr 1 rfl) hx2)) (zp (yay (v:=(ii (gi s2 v.toNat))) rfl underlying3 rfl (rd_1 (hS.rdr 1 rfl) hx2 (fun q=>yaQ q) rfl)) ?_);refine zp zN (ybl ?_);by_cases hp3:(gi s1 v.toNat)=(gi s2 v.toNat)
      · replace h:=h.1 hp3;refine ze hp3 (yae (yaj (zr ?_)));obtain ⟨hi,h⟩:=h;refine zq (ybg H13 rfl hi) (zM (ii (v+1)) (yaa ?_));obtain ⟨mq,hlt,h⟩:=h;exact ag mq _ _ _ ⟨_,h,rfl,H0,H1,H12,rfl,(hS.sel [0,1])⟩ hlt
      · replace h:=h.2 hp3;exact zf hp3 (zs (zQ (.bool (false)) (yaa (yaf rfl rfl ⟨_,rfl,(hS.sel []),h⟩))))
    · replace h:=h.2 hp2;exact zd hp2 (yaC rfl (zs (zQ (.bool (true)) (yaa (yaf rfl rfl ⟨_,rfl,(hS.sel []),h⟩)))))
  · replace h:=h.2 hp;exact zf hp (zs (zQ (.bool (false)) (yaa (yaf rfl rfl ⟨_,rfl,(hS.sel []),h⟩))))
def ybI(s:List Int)(R:(List Int)→Prop):Prop :=
(∀ nil:Bool,(nil=true→s=[]) →
((nil=true →
R ([])) ∧
(¬(nil=true) →
(0+s.length≤1000000000 ∧
R ([]++s)))))
theorem yfj{O:Nat→Prop}{w:World}{s As ls cs}{R:(List Int)→Prop}(h:ybI s R)(hO:∀ k,O k→k<w.heap.size)(hA0:(FP.sl cI As ls cs s).P O w) :
    Calls Tryz.prog 76 #[(.slice As ls cs)] w fun e w'=>∃ r Ar lr cr,e = .returned (.slice Ar lr cr)∧Sep w no O w' (rl [Res.own cI 3 Ar lr cr r])∧R r:=by
  unfold ybI at h;have hS:Sep w no O w (rl [Res.ro (FP.sl cI As ls cs s)]):=Sep.startl hO [(FP.sl cI As ls cs s)] ⟨hA0,trivial⟩;refine yao (l:=[(.slice As ls cs)]) func76 rfl ntmps76 zY (zs (zQ (.slice none 0 0) (yaa (yad (zs (zM (.slice As ls cs) ?_))))));obtain ⟨nil,hn⟩:∃ b,Option.isNone As=b:=⟨_,rfl⟩;replace h:=h nil (by rw [←hn];exact rd_nil (hS.rdr 0 rfl));refine zq (ygZ rfl rfl underlying34 hn) (yaa ?_);by_cases hp:nil=true
  · replace h:=h.1 hp;refine yar (zC hp) (zs (zQ (.slice none 0 0) (yaa ?_)));replace hS:=hS.nil 1 rfl cI 3;exact yaf rfl rfl ⟨_,_,_,_,rfl,(hS.sel [1]),h⟩
  · replace h:=h.2 hp;refine yaA (zC (zI hp)) (yae (zs (zn (yaI (l:=[]) (cells:=[]) (bp0) underlying34 yai rfl rfl ?_))));intro g w2 hN;replace hS:=hS.litf (n:=0) 1 rfl (fI .i64) hN ([]:List Int) rfl (by decide) rfl;clear hN;refine zb (zM (.slice As ls cs) ?_);obtain ⟨hx,h⟩:=h;refine zn (yda (c:=cI) rfl rfl underlying34 underlying34 yai rfl rfl (by decide) hS 1 rfl (hS.yr 0 rfl) hx ?_);clear hS;intro A c w3 hS;exact zb (zQ (.slice A (0+ls) c) (yaa (yaf rfl rfl ⟨_,_,_,_,rfl,(hS.sel [1]),h⟩)))
end Go.Proofs.YtjepipbkiadcpaaGreat

/- Pure forms of functions, made by program (pf.py), each with the proof that the code does so. -/
namespace Go.Proofs.YtjepipbkiadcpaaGreat
open Go Go.RowKit Go.Shelf Go.Proofs.Tryz
set_option maxRecDepth 100000
set_option maxHeartbeats 8000000
end Go.Proofs.YtjepipbkiadcpaaGreat

/- Pure forms of functions, made by program (pf.py), each with the proof that the code does so. -/
namespace Go.Proofs.YtjepipbkiadcpaaGreat
open Go Go.RowKit Go.Shelf Go.Proofs.Tryz
set_option maxRecDepth 100000
set_option maxHeartbeats 8000000
end Go.Proofs.YtjepipbkiadcpaaGreat

/- Pure forms of functions, made by program (pf.py), each with the proof that the code does so. -/
namespace Go.Proofs.YtjepipbkiadcpaaGreat
open Go Go.RowKit Go.Shelf Go.Proofs.Tryz
set_option maxRecDepth 100000
set_option maxHeartbeats 8000000
def yb1(s:List Int)(v:Int)(R:Int→Prop):Prop :=
(∃ I2:Nat→Int→Prop,(∃ m0,I2 m0 0)∧∀ m2 v2,I2 m2 v2 → 
((v2<(s.length:Int) →
((0≤v2∧v2<(s.length:Int)) ∧
((v=(gi s v2.toNat) →
R v2) ∧
(¬(v=(gi s v2.toNat)) →
(In64 (v2+1) ∧
∃ m3,m3<m2∧I2 m3 (v2+1)))))) ∧
(¬(v2<(s.length:Int)) →
R (-1))))
theorem yfQ{O:Nat→Prop}{w:World}{s v As ls cs}{R:Int→Prop}(h:yb1 s v R)(hO:∀ k,O k→k<w.heap.size)(hA0:(FP.sl cI As ls cs s).P O w) :
    Calls Tryz.prog 221 #[(.slice As ls cs),(ii v)] w fun e w'=>∃ r,e = .returned (ii r)∧Sep w no O w' (rl [])∧R r:=by
  unfold yb1 at h;have hS:Sep w no O w (rl [Res.ro (FP.sl cI As ls cs s)]):=Sep.startl hO [(FP.sl cI As ls cs s)] ⟨hA0,trivial⟩;refine yao (l:=[(.slice As ls cs),(ii v)]) func221 rfl ntmps221 zY (zs (zQ (ii 0) (yaa (yad (zs (zM (.slice As ls cs) (zq (yaF (n:=s.length) rfl underlying33 (yaD (hS.rdr 0 rfl))) (zM (ii 0) (yaa (yah ?_))))))))));obtain ⟨I2,⟨m0,h0⟩,hr⟩:=h;refine yaE (fun m E ds w'=>∃ v2,I2 m v2∧ds=[]∧E 0=(Value.slice As ls cs)∧E 1=(ii v)∧E 7=(ii (s.length:Int))∧E 8=(ii v2)∧Sep w no O w' (rl [Res.ro (FP.sl cI As ls cs s)])) m0 ⟨_,h0,rfl,rfl,rfl,rfl,rfl,(hS.sel [0])⟩ ?_;clear h0 hS;rintro m2 E ds w2 ⟨v2,h,rfl,H0,H1,H7,H8,hS⟩ ag;replace h:=hr m2 v2 h;clear hr;refine zs (zq (ybD H8 H7) (yaa (yad ?_)));by_cases hp:v2<(s.length:Int)
  · replace h:=h.1 hp;refine zc hp (yae (yad (yah (zs (zq (yac H8) (zQ (ii v2) (yaa (zs (zq (yac H1) (zq (yac H0) (zM (ii v2) ?_)))))))))));obtain ⟨hx,h⟩:=h;refine zq (zi underlying33 yai (yaK (hS.rdr 0 rfl) hx)) (zq (yay (v:=(ii (gi s v2.toNat))) rfl underlying3 rfl (rd_1 (hS.rdr 0 rfl) hx (fun q=>yaQ q) rfl)) ?_);refine zq zE (yaa ?_);by_cases hp2:v=(gi s v2.toNat)
    · replace h:=h.1 hp2;exact zc hp2 (zs (zM (ii v2) (zQ (ii v2) (yaa (yaf rfl rfl ⟨_,rfl,(hS.sel []),h⟩)))))
    · replace h:=h.2 hp2;refine zd hp2 (yae (yaj (zr ?_)));obtain ⟨hi,h⟩:=h;refine zq (ybg H8 rfl hi) (zM (ii (v2+1)) (yaa ?_));obtain ⟨mq,hlt,h⟩:=h;exact ag mq _ _ _ ⟨_,h,rfl,H0,H1,H7,rfl,(hS.sel [0])⟩ hlt
  · replace h:=h.2 hp;exact zd hp (yaC rfl (zs (zQ (ii (-1)) (yaa (yaf rfl rfl ⟨_,rfl,(hS.sel []),h⟩)))))
def ybJ(s:List Int)(v:Int)(R:Bool→Prop):Prop :=
yb1 s v (fun r =>
R (decide (0≤r)))
theorem yfe{O:Nat→Prop}{w:World}{s v As ls cs}{R:Bool→Prop}(h:ybJ s v R)(hO:∀ k,O k→k<w.heap.size)(hA0:(FP.sl cI As ls cs s).P O w) :
    Calls Tryz.prog 211 #[(.slice As ls cs),(ii v)] w fun e w'=>∃ r2,e = .returned (.bool (r2))∧Sep w no O w' (rl [])∧R r2:=by
  unfold ybJ at h;have hS:Sep w no O w (rl [Res.ro (FP.sl cI As ls cs s)]):=Sep.startl hO [(FP.sl cI As ls cs s)] ⟨hA0,trivial⟩;refine yao (l:=[(.slice As ls cs),(ii v)]) func211 rfl ntmps211 zY (zs (zQ (.bool (false)) (yaa (zs (zM (.slice As ls cs) (zM (ii v) (zn (yam rfl (am2 rfl rfl) enter_221 ((yfQ h (yaO _) (hS.rdr 0 rfl)).mono ?_)))))))));rintro _ w2 ⟨r,rfl,hC,h⟩;replace hS:=hS.pur hC.pure;clear hC;refine ⟨_,rfl,?_⟩;exact zb (zq (yfy rfl rfl) (zQ (.bool (decide (0≤r))) (yaa (yaf rfl rfl ⟨_,rfl,(hS.sel []),h⟩))))
def ybP(x:Int)(R:Bool→Prop):Prop :=
R (!(decide (x=x)))
theorem yc6{O:Nat→Prop}{w:World}{x}{R:Bool→Prop}(h:ybP x R)(hO:∀ k,O k→k<w.heap.size) :
    Calls Tryz.prog 131 #[(ii x)] w fun e w'=>∃ r,e = .returned (.bool (r))∧Sep w no O w' (rl [])∧R r:=by
  unfold ybP at h;have hS:Sep w no O w (rl []):=Sep.start w hO;exact yao (l:=[(ii x)]) func131 rfl ntmps131 zY (zs (zQ (.bool (false)) (yaa (zs (zM (ii x) (zM (ii x) (zq zN (zQ (.bool (!(decide (x=x)))) (yaa (yaf rfl rfl ⟨_,rfl,(hS.sel []),h⟩))))))))))
def ycX(x:Int)(y:Int)(R:Bool→Prop):Prop :=
ybP x (fun r =>
((r=true →
ybP y (fun r2 =>
((r2=true →
R (decide (x<y))) ∧
(¬(r2=true) →
R true)))) ∧
(¬(r=true) →
R (decide (x<y)))))
theorem yhD{O:Nat→Prop}{w:World}{x y}{R:Bool→Prop}(h:ycX x y R)(hO:∀ k,O k→k<w.heap.size) :
    Calls Tryz.prog 219 #[(ii x),(ii y)] w fun e w'=>∃ r3,e = .returned (.bool (r3))∧Sep w no O w' (rl [])∧R r3:=by
  unfold ycX at h;have hS:Sep w no O w (rl []):=Sep.start w hO;refine yao (l:=[(ii x),(ii y)]) func219 rfl ntmps219 zY (zs (zQ (.bool (false)) (yaa (zs (zM (ii x) (zn (yam rfl (am1 rfl) ygO ((yc6 h (yaO _)).mono ?_))))))));rintro _ w2 ⟨r,rfl,hC,h⟩;replace hS:=hS.pur hC.pure;clear hC;refine ⟨_,rfl,?_⟩;refine zb (zM (.bool (r)) ?_);by_cases hp:r=true
  · replace h:=h.1 hp;refine zW rfl rfl (zC hp) (zm (ii y)) (rl_n (yak rfl (yal rfl (zC hp))) rfl rfl rfl (yam rfl (am1 rfl) ygO ((yc6 h (yaO _)).mono ?_)));rintro _ w3 ⟨r2,rfl,hC,h⟩;replace hS:=hS.pur hC.pure;clear hC;refine ⟨_,rfl,?_⟩;refine zb (zW rfl rfl (zC hp) (ydX rfl) (zq (yaq (v:=(.bool (!(r2)))) (zC hp) rfl) (zM (.bool (!(r2))) ?_)));by_cases hp2:r2=true
    · replace h:=h.1 hp2;exact zW rfl rfl (zC (zB hp2)) (zm (ii x)) (zW rfl rfl (zC (zB hp2)) (zm (ii y)) (zW rfl rfl (zC (zB hp2)) zL (zq (yaw (v:=(.bool (decide (x<y)))) (zC (zB hp2)) rfl) (zQ (.bool (decide (x<y))) (yaa (yaf rfl rfl ⟨_,rfl,(hS.sel []),h⟩))))))
    · replace h:=h.2 hp2;exact zV rfl rfl (zC (zB (zI hp2))) (zV rfl rfl (zC (zB (zI hp2))) (zV rfl rfl (zC (zB (zI hp2))) (zq (yaq (v:=(.bool (true))) (zC (zB (zI hp2))) rfl) (zQ (.bool (true)) (yaa (yaf rfl rfl ⟨_,rfl,(hS.sel []),h⟩))))))
  · replace h:=h.2 hp;exact zV rfl rfl (zC (zI hp)) (zV rfl rfl (zC (zI hp)) (zV rfl rfl (zC (zI hp)) (zq (yaw (v:=(.bool (false))) (zC (zI hp)) rfl) (zM (.bool (false)) (zW rfl rfl rfl (zm (ii x)) (zW rfl rfl rfl (zm (ii y)) (zW rfl rfl rfl zL (zq (yaw (v:=(.bool (decide (x<y)))) rfl rfl) (zQ (.bool (decide (x<y))) (yaa (yaf rfl rfl ⟨_,rfl,(hS.sel []),h⟩)))))))))))
end Go.Proofs.YtjepipbkiadcpaaGreat

/- Pure forms of functions, made by program (pf.py), each with the proof that the code does so. -/
namespace Go.Proofs.YtjepipbkiadcpaaGreat
open Go Go.RowKit Go.Shelf Go.Proofs.Tryz
set_option maxRecDepth 100000
set_option maxHeartbeats 8000000
def ycY(k:Int)(R:Bool→Prop):Prop :=
(((-1048576)≤k →
R (decide (k≤1048576))) ∧
(¬((-1048576)≤k) →
R false))
theorem yhG{O:Nat→Prop}{w:World}{k}{R:Bool→Prop}(h:ycY k R)(hO:∀ k,O k→k<w.heap.size) :
    Calls Tryz.prog 77 #[(ii k)] w fun e w'=>∃ r,e = .returned (.bool (r))∧Sep w no O w' (rl [])∧R r:=by
  unfold ycY at h;have hS:Sep w no O w (rl []):=Sep.start w hO;refine yao (l:=[(ii k)]) func77 rfl ntmps77 zY (zs (zQ (.bool (false)) (yaa (zs (zM (ii k) (zq (yfy rfl rfl) (zM (.bool (decide ((-1048576)≤k))) ?_)))))));by_cases hp:(-1048576)≤k
  · replace h:=h.1 hp;exact zW rfl rfl (zT hp) (zm (ii k)) (zW rfl rfl (zT hp) (v_leq rfl rfl) (zq (yaq (v:=(.bool (decide (k≤1048576)))) (zT hp) rfl) (zQ (.bool (decide (k≤1048576))) (yaa (yaf rfl rfl ⟨_,rfl,(hS.sel []),h⟩)))))
  · replace h:=h.2 hp;exact zV rfl rfl (zF hp) (zV rfl rfl (zF hp) (zq (yaw (v:=(.bool (false))) (zF hp) rfl) (zQ (.bool (false)) (yaa (yaf rfl rfl ⟨_,rfl,(hS.sel []),h⟩)))))
def yc5(n:Int)(R:Int→Prop):Prop :=
((n<1 →
R 2) ∧
(¬(n<1) →
((12<n →
R 2) ∧
(¬(12<n) →
R 0))))
theorem ygH{O:Nat→Prop}{w:World}{n}{R:Int→Prop}(h:yc5 n R)(hO:∀ k,O k→k<w.heap.size) :
    Calls Tryz.prog 37 #[(ii n)] w fun e w'=>∃ r,e = .returned (ii r)∧Sep w no O w' (rl [])∧R r:=by
  unfold yc5 at h;have hS:Sep w no O w (rl []):=Sep.start w hO;refine yao (l:=[(ii n)]) func37 rfl ntmps37 zY (zs (zQ (ii 0) (yaa (yad (zs (zM (ii n) (zq zL (zM (.bool (decide (n<1))) ?_))))))));by_cases hp:n<1
  · replace h:=h.1 hp;exact zV rfl rfl (zT hp) (zV rfl rfl (zT hp) (zq (yaq (v:=(.bool (true))) (zT hp) rfl) (yaa (yar rfl (zs (zQ (ii 2) (yaa (yaf rfl rfl ⟨_,rfl,(hS.sel []),h⟩))))))))
  · replace h:=h.2 hp;refine zW rfl rfl (zF hp) (zm (ii n)) (zW rfl rfl (zF hp) zG (zq (yaw (v:=(.bool (decide (12<n)))) (zF hp) rfl) (yaa ?_)));by_cases hp2:12<n
    · replace h:=h.1 hp2;exact zc hp2 (zs (zQ (ii 2) (yaa (yaf rfl rfl ⟨_,rfl,(hS.sel []),h⟩))))
    · replace h:=h.2 hp2;exact zd hp2 (yae (zs (zQ (ii 0) (yaa (yaf rfl rfl ⟨_,rfl,(hS.sel []),h⟩)))))
def yb6(d:List Int)(n:Int)(R:Int→Prop):Prop :=
yc5 n (fun r =>
((r=0 →
(((d.length:Int)=n →
(∃ I2:Nat→Int→Prop,(∃ m0,I2 m0 0)∧∀ m2 v,I2 m2 v → 
((v<(d.length:Int) →
((0≤v∧v<(d.length:Int)) ∧
ycY (gi d v.toNat) (fun r2 =>
((r2=true →
(In64 (v+1) ∧
∃ m3,m3<m2∧I2 m3 (v+1))) ∧
(¬(r2=true) →
R 2))))) ∧
(¬(v<(d.length:Int)) →
R 0)))) ∧
(¬((d.length:Int)=n) →
R 8))) ∧
(¬(r=0) →
R r)))
theorem ydB{O:Nat→Prop}{w:World}{d n Ad ld cd}{R:Int→Prop}(h:yb6 d n R)(hO:∀ k,O k→k<w.heap.size)(hA0:(FP.sl cI Ad ld cd d).P O w) :
    Calls Tryz.prog 33 #[(.slice Ad ld cd),(ii n)] w fun e w'=>∃ r3,e = .returned (ii r3)∧Sep w no O w' (rl [])∧R r3:=by
  unfold yb6 at h;have hS:Sep w no O w (rl [Res.ro (FP.sl cI Ad ld cd d)]):=Sep.startl hO [(FP.sl cI Ad ld cd d)] ⟨hA0,trivial⟩;refine yao (l:=[(.slice Ad ld cd),(ii n)]) func33 rfl ntmps33 zY (zs (zQ (ii 0) (yaa (yad (zs (zM (ii n) (zn (yam rfl (am1 rfl) enter_37 ((ygH h (yaO _)).mono ?_)))))))));rintro _ w2 ⟨r,rfl,hC,h⟩;replace hS:=hS.pur hC.pure;clear hC;refine ⟨_,rfl,?_⟩;refine zb (zQ (ii r) (yaa (zs (zM (ii r) (zq zN (yaa ?_))))));by_cases hp:r=0
  · replace h:=h.1 hp;refine ze hp (yae (yad (zs (zM (.slice Ad ld cd) (zq (yaF (n:=d.length) rfl underlying34 (yaD (hS.rdr 0 rfl))) (zM (ii n) (zq zN (yaa ?_))))))));by_cases hp2:(d.length:Int)=n
    · replace h:=h.1 hp2;refine ze hp2 (yae (yad (zs (zM (.slice Ad ld cd) (zq (yaF (n:=d.length) rfl underlying34 (yaD (hS.rdr 0 rfl))) (zM (ii 0) (yaa (yah ?_))))))));obtain ⟨I2,⟨m0,h0⟩,hr⟩:=h;refine yaE (fun m E ds w'=>∃ v,I2 m v∧ds=[]∧E 17=(Value.slice Ad ld cd)∧E 18=(ii (d.length:Int))∧E 19=(ii v)∧Sep w no O w' (rl [Res.ro (FP.sl cI Ad ld cd d)])) m0 ⟨_,h0,rfl,rfl,rfl,rfl,(hS.sel [0])⟩ ?_;clear h0 hS;rintro m2 E ds w3 ⟨v,h,rfl,H17,H18,H19,hS⟩ ag;replace h:=hr m2 v h;clear hr;refine zs (zq (ybD H19 H18) (yaa (yad ?_)));by_cases hp3:v<(d.length:Int)
      · replace h:=h.1 hp3;refine zc hp3 (yae (yad (yah (zs ?_))));obtain ⟨hx,h⟩:=h;refine zq (ya4 H17 H19 underlying34 yai (yaK (hS.rdr 0 rfl) hx)) (zq (yay (v:=(ii (gi d v.toNat))) rfl underlying3 rfl (rd_1 (hS.rdr 0 rfl) hx (fun q=>yaQ q) rfl)) ?_);refine zQ (ii (gi d v.toNat)) (yaa (zs (zM (ii (gi d v.toNat)) (zn (yam rfl (am1 rfl) enter_77 ((yhG h (yaO _)).mono ?_))))));rintro _ w4 ⟨r2,rfl,hC,h⟩;replace hS:=hS.pur hC.pure;clear hC;refine ⟨_,rfl,?_⟩;refine zb (zq (ydX rfl) (yaa ?_));by_cases hp4:r2=true
        · replace h:=h.1 hp4;refine yaA (zC (zB hp4)) (yae (yaj (zr ?_)));obtain ⟨hi,h⟩:=h;refine zq (ybg H19 rfl hi) (zM (ii (v+1)) (yaa ?_));obtain ⟨mq,hlt,h⟩:=h;exact ag mq _ _ _ ⟨_,h,rfl,H17,H18,rfl,(hS.sel [0])⟩ hlt
        · replace h:=h.2 hp4;exact yar (zC (zB (zI hp4))) (zs (zQ (ii 2) (yaa (yaf rfl rfl ⟨_,rfl,(hS.sel []),h⟩))))
      · replace h:=h.2 hp3;exact zd hp3 (yaC rfl (zs (zQ (ii 0) (yaa (yaf rfl rfl ⟨_,rfl,(hS.sel []),h⟩)))))
    · replace h:=h.2 hp2;exact zf hp2 (zs (zQ (ii 8) (yaa (yaf rfl rfl ⟨_,rfl,(hS.sel []),h⟩))))
  · replace h:=h.2 hp;exact zf hp (zs (zM (ii r) (zQ (ii r) (yaa (yaf rfl rfl ⟨_,rfl,(hS.sel []),h⟩)))))
def ybU(n:Int)(v:Int)(R:Bool→Prop):Prop :=
((0≤v →
R (decide (v<n))) ∧
(¬(0≤v) →
R false))
theorem yeb{O:Nat→Prop}{w:World}{n v}{R:Bool→Prop}(h:ybU n v R)(hO:∀ k,O k→k<w.heap.size) :
    Calls Tryz.prog 144 #[(ii n),(ii v)] w fun e w'=>∃ r,e = .returned (.bool (r))∧Sep w no O w' (rl [])∧R r:=by
  unfold ybU at h;have hS:Sep w no O w (rl []):=Sep.start w hO;refine yao (l:=[(ii n),(ii v)]) func144 rfl ntmps144 zY (zs (zQ (.bool (false)) (yaa (zs (zM (ii v) (zq (yfy rfl rfl) (zM (.bool (decide (0≤v))) ?_)))))));by_cases hp:0≤v
  · replace h:=h.1 hp;exact zW rfl rfl (zT hp) (zm (ii v)) (zW rfl rfl (zT hp) (zm (ii n)) (zW rfl rfl (zT hp) zL (zq (yaq (v:=(.bool (decide (v<n)))) (zT hp) rfl) (zQ (.bool (decide (v<n))) (yaa (yaf rfl rfl ⟨_,rfl,(hS.sel []),h⟩))))))
  · replace h:=h.2 hp;exact zV rfl rfl (zF hp) (zV rfl rfl (zF hp) (zV rfl rfl (zF hp) (zq (yaw (v:=(.bool (false))) (zF hp) rfl) (zQ (.bool (false)) (yaa (yaf rfl rfl ⟨_,rfl,(hS.sel []),h⟩))))))
def ybY(x:Int)(y:Int)(R:Int→Prop):Prop :=
ybP x (fun r =>
ybP y (fun r2 =>
((r=true →
((r2=true →
R 0) ∧
(¬(r2=true) →
R (-1)))) ∧
(¬(r=true) →
((r2=true →
R 1) ∧
(¬(r2=true) →
((x<y →
R (-1)) ∧
(¬(x<y) →
((y<x →
R 1) ∧
(¬(y<x) →
R 0))))))))))
theorem yeF{O:Nat→Prop}{w:World}{x y}{R:Int→Prop}(h:ybY x y R)(hO:∀ k,O k→k<w.heap.size) :
    Calls Tryz.prog 80 #[(ii x),(ii y)] w fun e w'=>∃ r3,e = .returned (ii r3)∧Sep w no O w' (rl [])∧R r3:=by
  unfold ybY at h;have hS:Sep w no O w (rl []):=Sep.start w hO;refine yao (l:=[(ii x),(ii y)]) func80 rfl ntmps80 zY (zs (zQ (ii 0) (yaa (zs (zM (ii x) (zn (yam rfl (am1 rfl) ygO ((yc6 h (yaO _)).mono ?_))))))));rintro _ w2 ⟨r,rfl,hC,h⟩;replace hS:=hS.pur hC.pure;clear hC;refine ⟨_,rfl,?_⟩;refine zb (zQ (.bool (r)) (yaa (zs (zM (ii y) (zn (yam rfl (am1 rfl) ygO ((yc6 h (yaO _)).mono ?_)))))));rintro _ w3 ⟨r2,rfl,hC,h⟩;replace hS:=hS.pur hC.pure;clear hC;refine ⟨_,rfl,?_⟩;refine zb (zQ (.bool (r2)) (yaa (yad (zs (zM (.bool (r)) (yaa ?_))))));by_cases hp:r=true
  · replace h:=h.1 hp;refine yar (zC hp) (yad (zs (zM (.bool (r2)) (yaa ?_))));by_cases hp2:r2=true
    · replace h:=h.1 hp2;exact yar (zC hp2) (zs (zQ (ii 0) (yaa (yaf rfl rfl ⟨_,rfl,(hS.sel []),h⟩))))
    · replace h:=h.2 hp2;exact yaA (zC (zI hp2)) (yae (zs (zQ (ii (-1)) (yaa (yaf rfl rfl ⟨_,rfl,(hS.sel []),h⟩)))))
  · replace h:=h.2 hp;refine yaA (zC (zI hp)) (yae (yad (zs (zM (.bool (r2)) (yaa ?_)))));by_cases hp3:r2=true
    · replace h:=h.1 hp3;exact yar (zC hp3) (zs (zQ (ii 1) (yaa (yaf rfl rfl ⟨_,rfl,(hS.sel []),h⟩))))
    · replace h:=h.2 hp3;refine yaA (zC (zI hp3)) (yae (yad (zs (zM (ii x) (zM (ii y) (zq zL (yaa ?_)))))));by_cases hp4:x<y
      · replace h:=h.1 hp4;exact zc hp4 (zs (zQ (ii (-1)) (yaa (yaf rfl rfl ⟨_,rfl,(hS.sel []),h⟩))))
      · replace h:=h.2 hp4;refine zd hp4 (yae (yad (zs (zM (ii x) (zM (ii y) (zq zG (yaa ?_)))))));by_cases hp5:y<x
        · replace h:=h.1 hp5;exact zc hp5 (zs (zQ (ii 1) (yaa (yaf rfl rfl ⟨_,rfl,(hS.sel []),h⟩))))
        · replace h:=h.2 hp5;exact zd hp5 (yae (zs (zQ (ii 0) (yaa (yaf rfl rfl ⟨_,rfl,(hS.sel []),h⟩)))))
def ydE(vals:List Int)(R:Int→Prop):Prop :=
(∃ I2:Nat→Int→Prop,(∃ m0,I2 m0 0)∧∀ m2 v,I2 m2 v → 
((v<(vals.length:Int) →
((0≤v∧v<(vals.length:Int)) ∧
(((gi vals v.toNat)=0 →
(In64 (v+1) ∧
∃ m3,m3<m2∧I2 m3 (v+1))) ∧
(¬((gi vals v.toNat)=0) →
R (gi vals v.toNat))))) ∧
(¬(v<(vals.length:Int)) →
R 0)))
theorem pok_cmp_Or_int{O:Nat→Prop}{w:World}{vals Aa Ab Ac}{R:Int→Prop}(h:ydE vals R)(hO:∀ k,O k→k<w.heap.size)(hA0:(FP.sl cI Aa Ab Ac vals).P O w) :
    Calls Tryz.prog 195 #[(.slice Aa Ab Ac)] w fun e w'=>∃ r,e = .returned (ii r)∧Sep w no O w' (rl [])∧R r:=by
  unfold ydE at h;have hS:Sep w no O w (rl [Res.ro (FP.sl cI Aa Ab Ac vals)]):=Sep.startl hO [(FP.sl cI Aa Ab Ac vals)] ⟨hA0,trivial⟩;refine yao (l:=[(.slice Aa Ab Ac)]) func195 rfl ntmps195 zY (zs (zQ (ii 0) (yaa (zs (zQ (ii 0) (yaa (yad (zs (zM (.slice Aa Ab Ac) (zq (yaF (n:=vals.length) rfl underlying33 (yaD (hS.rdr 0 rfl))) (zM (ii 0) (yaa (yah ?_)))))))))))));obtain ⟨I2,⟨m0,h0⟩,hr⟩:=h;refine yaE (fun m E ds w'=>∃ v,I2 m v∧ds=[]∧E 3=(ii 0)∧E 6=(Value.slice Aa Ab Ac)∧E 7=(ii (vals.length:Int))∧E 8=(ii v)∧Sep w no O w' (rl [Res.ro (FP.sl cI Aa Ab Ac vals)])) m0 ⟨_,h0,rfl,rfl,rfl,rfl,rfl,(hS.sel [0])⟩ ?_;clear h0 hS;rintro m2 E ds w2 ⟨v,h,rfl,H3,H6,H7,H8,hS⟩ ag;replace h:=hr m2 v h;clear hr;refine zs (zq (ybD H8 H7) (yaa (yad ?_)));by_cases hp:v<(vals.length:Int)
  · replace h:=h.1 hp;refine zc hp (yae (yad (yah (zs ?_))));obtain ⟨hx,h⟩:=h;refine zq (ya4 H6 H8 underlying33 yai (yaK (hS.rdr 0 rfl) hx)) (zq (yay (v:=(ii (gi vals v.toNat))) rfl underlying3 rfl (rd_1 (hS.rdr 0 rfl) hx (fun q=>yaQ q) rfl)) ?_);refine zQ (ii (gi vals v.toNat)) (yaa (zs (zM (ii (gi vals v.toNat)) (zq (yac H3) (zq zN (yaa ?_))))));by_cases hp2:(gi vals v.toNat)=0
    · replace h:=h.1 hp2;refine ze hp2 (yae (yaj (zr ?_)));obtain ⟨hi,h⟩:=h;refine zq (ybg H8 rfl hi) (zM (ii (v+1)) (yaa ?_));obtain ⟨mq,hlt,h⟩:=h;exact ag mq _ _ _ ⟨_,h,rfl,H3,H6,H7,rfl,(hS.sel [0])⟩ hlt
    · replace h:=h.2 hp2;exact zf hp2 (zs (zM (ii (gi vals v.toNat)) (zQ (ii (gi vals v.toNat)) (yaa (yaf rfl rfl ⟨_,rfl,(hS.sel []),h⟩)))))
  · replace h:=h.2 hp;exact zd hp (yaC rfl (zs (zq (yac H3) (zQ (ii 0) (yaa (yaf rfl rfl ⟨_,rfl,(hS.sel []),h⟩))))))
def ybV(p:Int)(p2:Int)(q:Int)(q2:Int)(R:Int→Prop):Prop :=
ybY p q (fun r =>
ybY p2 q2 (fun r2 =>
ydE ([r,r2]) (fun r3 =>
R r3)))
theorem ydP{O:Nat→Prop}{w:World}{p p2 q q2}{R:Int→Prop}(h:ybV p p2 q q2 R)(hO:∀ k,O k→k<w.heap.size) :
    Calls Tryz.prog 145 #[(.agg #[(ii p),(ii p2)]),(.agg #[(ii q),(ii q2)])] w fun e w'=>∃ r4,e = .returned (ii r4)∧Sep w no O w' (rl [])∧R r4:=by
  unfold ybV at h;have hS:Sep w no O w (rl []):=Sep.start w hO;refine yao (l:=[(.agg #[(ii p),(ii p2)]),(.agg #[(ii q),(ii q2)])]) func145 rfl ntmps145 zY (zs (zn (ybH (v:=(.agg #[(ii p),(ii p2)])) rfl ?_)));intro g w2 hN;replace hS:Sep w no O w2 (stl _ 0 (Res.box 148 g [(ii p),(ii p2)])):=hS.new 0 rfl hN;clear hN;refine zb (zn (ybH (v:=(.agg #[(ii q),(ii q2)])) rfl ?_));intro g2 w3 hN;replace hS:Sep w no O w3 (stl _ 1 (Res.box 148 g2 [(ii q),(ii q2)])):=hS.new 1 rfl hN;clear hN;refine zb (zQ (ii 0) (yaa (yad (ybi [0,1,2,3,5,6,7,8,4,9,10,11,12] (fun i=>match i with | 4=>[5,6,7,8] | _=>[]) yav (by kernel_rfl) (by kernel_rfl) ?_))));replace hS:=hS.drew;refine zp (yab rfl underlying148 rfl yai) (zp (zl underlying3 (Row.cell (hS.bx 0 rfl) (i:=0) rfl)) (zp (yab rfl underlying148 rfl yai) (zp (zl underlying3 (Row.cell (hS.bx 1 rfl) (i:=0) rfl)) (zp (yab rfl underlying148 rfl yai) (zp (zl underlying3 (Row.cell (hS.bx 0 rfl) (i:=1) rfl)) (zp (yab rfl underlying148 rfl yai) (zp (zl underlying3 (Row.cell (hS.bx 1 rfl) (i:=1) rfl)) (rp_n rfl rfl rfl rfl (yam rfl (am2 rfl rfl) enter_80 ((yeF h (yaO _)).mono ?_))))))))));rintro _ w4 ⟨r,rfl,hC,h⟩;replace hS:=hS.pur hC.pure;clear hC;refine ⟨_,rfl,?_⟩;refine ⟨⟨fun _=>(zl underlying3 (Row.cell (hS.bx 1 rfl) (i:=1) rfl)),⟨fun _=>(yab rfl underlying148 rfl yai),⟨fun _=>(zl underlying3 (Row.cell (hS.bx 0 rfl) (i:=1) rfl)),⟨fun _=>(yab rfl underlying148 rfl yai),⟨fun hh=>zZ hh,⟨fun hh=>zZ hh,⟨fun hh=>zZ hh,⟨fun hh=>zZ hh,trivial⟩⟩⟩⟩⟩⟩⟩⟩,?_⟩;refine rp_n rfl rfl rfl rfl (yam rfl (am2 rfl rfl) enter_80 ((yeF h (yaO _)).mono ?_));rintro _ w5 ⟨r2,rfl,hC,h⟩;replace hS:=hS.pur hC.pure;clear hC;refine ⟨_,rfl,?_⟩;refine zb (rp_n rfl rfl rfl rfl (yaI (l:=[(0,(ii r)),(1,(ii r2))]) (cells:=[(ii r),(ii r2)]) (bp2 rfl rfl) underlying33 yai rfl rfl ?_));intro g3 w6 hN;replace hS:=hS.litf (n:=2) 2 rfl (fI .i64) hN ([r,r2]:List Int) rfl (by decide) rfl;clear hN;refine zb (rp_n rfl rfl rfl rfl (yam rfl (am1 rfl) enter_195 ((pok_cmp_Or_int h (yaO _) (hS.rdo 2 rfl)).mono ?_)));rintro _ w7 ⟨r3,rfl,hC,h⟩;replace hS:=hS.pur hC.pure;clear hC;refine ⟨_,rfl,?_⟩;exact zb (zp (za (ii r3)) (ybl (yaf rfl rfl ⟨_,rfl,(hS.sel []),h⟩)))
def ycO(d:Int)(d2:List E3)(R:Int→Prop):Prop :=
(∃ J2:Prop,(J2→(∃ I2:Nat→Int→Int→Int→Prop,(∃ m0,I2 m0 0 (-1) (-1))∧∀ m2 v v2 v3,I2 m2 v v2 v3 → 
((v<(d2.length:Int) →
((0≤v∧v<(d2.length:Int)) ∧
(∃ J3:Prop,(J3→((((ge d2 v.toNat).2.1)<((ge d2 v.toNat).1) →
R 9) ∧
(¬(((ge d2 v.toNat).2.1)<((ge d2 v.toNat).1)) →
ybV v2 v3 ((ge d2 v.toNat).1) ((ge d2 v.toNat).2.1) (fun r =>
((0≤r →
R 9) ∧
(¬(0≤r) →
(In64 (v+1) ∧
∃ m3,m3<m2∧I2 m3 (v+1) ((ge d2 v.toNat).1) ((ge d2 v.toNat).2.1)))))))) ∧
ybU d ((ge d2 v.toNat).1) (fun r2 =>
((r2=true →
ybU d ((ge d2 v.toNat).2.1) (fun r3 =>
((r3=true →
((((ge d2 v.toNat).2.2)<1 →
R 2) ∧
(¬(((ge d2 v.toNat).2.2)<1) →
((50<((ge d2 v.toNat).2.2) →
R 2) ∧
(¬(50<((ge d2 v.toNat).2.2)) →
J3))))) ∧
(¬(r3=true) →
R 2)))) ∧
(¬(r2=true) →
R 2)))))) ∧
(¬(v<(d2.length:Int)) →
R 0)))) ∧
((d<1 →
R 2) ∧
(¬(d<1) →
((12<d →
R 2) ∧
(¬(12<d) →
J2)))))
theorem yfL{O:Nat→Prop}{w:World}{d d2 Ad ld cd}{R:Int→Prop}(h:ycO d d2 R)(hO:∀ k,O k→k<w.heap.size)(hA0:(FP.sl c3 Ad ld cd d2).P O w) :
    Calls Tryz.prog 93 #[(.agg #[(ii d),(.slice Ad ld cd)])] w fun e w'=>∃ r4,e = .returned (ii r4)∧Sep w no O w' (rl [])∧R r4:=by
  unfold ycO at h;have hS:Sep w no O w (rl [Res.ro (FP.sl c3 Ad ld cd d2)]):=Sep.startl hO [(FP.sl c3 Ad ld cd d2)] ⟨hA0,trivial⟩;refine yao (l:=[(.agg #[(ii d),(.slice Ad ld cd)])]) func93 rfl ntmps93 zY (zs (zn (ybH (v:=(.agg #[(ii d),(.slice Ad ld cd)])) rfl ?_)));intro g w2 hN;replace hS:Sep w no O w2 (stl _ 1 (Res.box 24 g [(ii d),(.slice Ad ld cd)])):=hS.new 1 rfl hN;clear hN;refine zb (zQ (ii 0) (yaa (yad (yad ?_))));obtain ⟨J2,hJ,h⟩:=h;refine ycf (fun E ds w'=>J2∧ds=[]∧E 1=(Value.pointer (some ⟨g,0,none⟩))∧Sep w no O w' (rl [Res.box 24 g [(ii d),(.slice Ad ld cd)],Res.ro (FP.sl c3 Ad ld cd d2)])) ?_ ?_
  · clear h hS;rintro E ds w3 ⟨h,rfl,H1,hS⟩;replace h:=hJ h;refine zs (zn (yaR (l:=[(0,(ii (-1))),(1,(ii (-1)))]) (cells:=[(ii (-1)),(ii (-1))]) (places:=[(0,1),(1,1)]) (bp2 rfl rfl) underlying148 ybR (by kernel_rfl) rfl ?_));refine zb (zn (yaP ybR ?_));intro g2 w4 hN;replace hS:Sep w no O w4 (stl _ 2 (Res.box 148 g2 [(ii 0),(ii 0)])):=hS.new 2 rfl hN;clear hN;refine zb (zo (yas (b:=g2) (o:=0) (cells:=#[(ii (-1)),(ii (-1))]) rfl rfl ybR rfl rfl (yan (hS.bx 2 rfl) zY) ?_));intro w5 e1;replace hS:=hS.bstn 2 rfl 0 [(ii (-1)),(ii (-1))] e1;clear e1;refine zb (yaa (yad (zs (zq (yab H1 underlying24 rfl ydq) (zq (zl underlying22 (Row.cell (hS.bx 0 rfl) (i:=1) rfl)) (zq (yaF (n:=d2.length) rfl underlying22 (yaD (hS.rdr 1 rfl))) (zM (ii 0) (yaa (yah ?_)))))))));obtain ⟨I2,⟨m0,h0⟩,hr⟩:=h;refine yaE (fun m E ds w'=>∃ v v2 v3,I2 m v v2 v3∧ds=[]∧E 1=(Value.pointer (some ⟨g,0,none⟩))∧E 3=(Value.pointer (some ⟨g2,0,none⟩))∧E 17=(Value.slice Ad ld cd)∧E 18=(ii (d2.length:Int))∧E 19=(ii v)∧Sep w no O w' (rl [Res.box 24 g [(ii d),(.slice Ad ld cd)],Res.ro (FP.sl c3 Ad ld cd d2),Res.box 148 g2 [(ii v2),(ii v3)]])) m0 ⟨_,_,_,h0,rfl,H1,rfl,rfl,rfl,rfl,(hS.sel [0,1,2])⟩ ?_;clear h0 hS;rintro m2 E ds w6 ⟨v,v2,v3,h,rfl,H1,H3,H17,H18,H19,hS⟩ ag;replace h:=hr m2 v v2 v3 h;clear hr;refine zs (zq (ybD H19 H18) (yaa (yad ?_)));by_cases hp:v<(d2.length:Int)
    · replace h:=h.1 hp;refine zc hp (yae (yad (yah (zs ?_))));obtain ⟨hx,h⟩:=h;refine zq (ya4 H17 H19 underlying22 ybB (yaK (hS.rdr 1 rfl) hx)) (zq (yat (vs:=[(ii ((ge d2 v.toNat).1)),(ii ((ge d2 v.toNat).2.1)),(ii ((ge d2 v.toNat).2.2))]) rfl underlying67 rfl ybB (ygm (hS.rdr 1 rfl) hx (fun q=>ydJ q))) ?_);refine zn (yaP ybB ?_);intro g3 w7 hN;replace hS:Sep w no O w7 (stl _ 3 (Res.box 67 g3 [(ii 0),(ii 0),(ii 0)])):=hS.new 3 rfl hN;clear hN;refine zb (zo (yas (b:=g3) (o:=0) (cells:=#[(ii ((ge d2 v.toNat).1)),(ii ((ge d2 v.toNat).2.1)),(ii ((ge d2 v.toNat).2.2))]) rfl rfl ybB rfl rfl (yan (hS.bx 3 rfl) zY) ?_));intro w8 e1;replace hS:=hS.bstn 3 rfl 0 [(ii ((ge d2 v.toNat).1)),(ii ((ge d2 v.toNat).2.1)),(ii ((ge d2 v.toNat).2.2))] e1;clear e1;refine zb (yaa (zs (zq (yab rfl underlying67 rfl yai) (zq (zl underlying3 (Row.cell (hS.bx 3 rfl) (i:=0) rfl)) (zq (yab rfl underlying67 rfl yai) (zq (zl underlying3 (Row.cell (hS.bx 3 rfl) (i:=1) rfl)) (zn (yaR (l:=[(0,(ii ((ge d2 v.toNat).1))),(1,(ii ((ge d2 v.toNat).2.1)))]) (cells:=[(ii ((ge d2 v.toNat).1)),(ii ((ge d2 v.toNat).2.1))]) (places:=[(0,1),(1,1)]) (bp2 rfl rfl) underlying148 ybR (by kernel_rfl) rfl ?_))))))));refine zb (zn (yaP ybR ?_));intro g4 w9 hN;replace hS:Sep w no O w9 (stl _ 4 (Res.box 148 g4 [(ii 0),(ii 0)])):=hS.new 4 rfl hN;clear hN;refine zb (zo (yas (b:=g4) (o:=0) (cells:=#[(ii ((ge d2 v.toNat).1)),(ii ((ge d2 v.toNat).2.1))]) rfl rfl ybR rfl rfl (yan (hS.bx 4 rfl) zY) ?_));intro w10 e1;replace hS:=hS.bstn 4 rfl 0 [(ii ((ge d2 v.toNat).1)),(ii ((ge d2 v.toNat).2.1))] e1;clear e1;refine zb (yaa (yad (yah (yad ?_))));obtain ⟨J3,hJ,h⟩:=h;refine wt_cutB1 (fun E ds w'=>J3∧ds=[]∧E 1=(Value.pointer (some ⟨g,0,none⟩))∧E 3=(Value.pointer (some ⟨g2,0,none⟩))∧E 5=(Value.pointer (some ⟨g3,0,none⟩))∧E 6=(Value.pointer (some ⟨g4,0,none⟩))∧E 17=(Value.slice Ad ld cd)∧E 18=(ii (d2.length:Int))∧E 19=(ii v)∧Sep w no O w' (rl [Res.box 24 g [(ii d),(.slice Ad ld cd)],Res.ro (FP.sl c3 Ad ld cd d2),Res.box 148 g2 [(ii v2),(ii v3)],Res.box 67 g3 [(ii ((ge d2 v.toNat).1)),(ii ((ge d2 v.toNat).2.1)),(ii ((ge d2 v.toNat).2.2))],Res.box 148 g4 [(ii ((ge d2 v.toNat).1)),(ii ((ge d2 v.toNat).2.1))]])) ?_ ?_
      · clear h hS;rintro E ds w11 ⟨h,rfl,H1,H3,H5,H6,H17,H18,H19,hS⟩;replace h:=hJ h;refine zs (zq (yab H5 underlying67 rfl yai) (zq (zl underlying3 (Row.cell (hS.bx 3 rfl) (i:=0) rfl)) (zq (yab H5 underlying67 rfl yai) (zq (zl underlying3 (Row.cell (hS.bx 3 rfl) (i:=1) rfl)) (zq zG (zM (.bool (decide (((ge d2 v.toNat).2.1)<((ge d2 v.toNat).1)))) ?_))))));by_cases hp2:((ge d2 v.toNat).2.1)<((ge d2 v.toNat).1)
        · replace h:=h.1 hp2;exact zV rfl rfl (zT hp2) (zV rfl rfl (zT hp2) (zV rfl rfl (zT hp2) (zV rfl rfl (zT hp2) (zq (yaq (v:=(.bool (true))) (zT hp2) rfl) (zQ (.bool (true)) (yaa (yar rfl (zs (zQ (ii 9) (yaa (yaf rfl rfl ⟨_,rfl,(hS.sel []),h⟩)))))))))))
        · replace h:=h.2 hp2;refine zW rfl rfl (zF hp2) (yat (vs:=[(ii v2),(ii v3)]) H3 underlying148 rfl ybR ⟨Row.cell (hS.bx 2 rfl) (i:=0) rfl,Row.cell (hS.bx 2 rfl) (i:=1) rfl,trivial⟩) (zW rfl rfl (zF hp2) (yat (vs:=[(ii ((ge d2 v.toNat).1)),(ii ((ge d2 v.toNat).2.1))]) H6 underlying148 rfl ybR ⟨Row.cell (hS.bx 4 rfl) (i:=0) rfl,Row.cell (hS.bx 4 rfl) (i:=1) rfl,trivial⟩) (rl_n (yak rfl (yal rfl (zF hp2))) rfl rfl rfl (yam rfl (am2 rfl rfl) enter_145 ((ydP h (yaO _)).mono ?_))));rintro _ w12 ⟨r,rfl,hC,h⟩;replace hS:=hS.pur hC.pure;clear hC;refine ⟨_,rfl,?_⟩;refine zb (zW rfl rfl (zF hp2) (yfy rfl rfl) (zq (yaw (v:=(.bool (decide (0≤r)))) (zF hp2) rfl) (zQ (.bool (decide (0≤r))) (yaa ?_))));by_cases hp3:0≤r
          · replace h:=h.1 hp3;exact zc hp3 (zs (zQ (ii 9) (yaa (yaf rfl rfl ⟨_,rfl,(hS.sel []),h⟩))))
          · replace h:=h.2 hp3;refine zd hp3 (yae (yaj (zr (zq (yat (vs:=[(ii ((ge d2 v.toNat).1)),(ii ((ge d2 v.toNat).2.1))]) H6 underlying148 rfl ybR ⟨Row.cell (hS.bx 4 rfl) (i:=0) rfl,Row.cell (hS.bx 4 rfl) (i:=1) rfl,trivial⟩) (zo (yas (b:=g2) (o:=0) (cells:=#[(ii ((ge d2 v.toNat).1)),(ii ((ge d2 v.toNat).2.1))]) H3 rfl ybR rfl rfl (yan (hS.bx 2 rfl) zY) ?_))))));intro w13 e1;replace hS:=hS.bstn 2 rfl 0 [(ii ((ge d2 v.toNat).1)),(ii ((ge d2 v.toNat).2.1))] e1;clear e1;refine zb (yaa (yaj (zr ?_)));obtain ⟨hi,h⟩:=h;refine zq (ybg H19 rfl hi) (zM (ii (v+1)) (yaa ?_));obtain ⟨mq,hlt,h⟩:=h;exact ag mq _ _ _ ⟨_,_,_,h,rfl,H1,H3,H17,H18,rfl,(hS.sel [0,1,2])⟩ hlt
      clear hJ;intro j2;refine zr (zq (yab H1 underlying24 rfl yai) (zq (zl underlying3 (Row.cell (hS.bx 0 rfl) (i:=0) rfl)) (zq (yab rfl underlying67 rfl yai) (zq (zl underlying3 (Row.cell (hS.bx 3 rfl) (i:=0) rfl)) (zn (yam rfl (am2 rfl rfl) yhS ((yeb h (yaO _)).mono ?_)))))));rintro _ w14 ⟨r2,rfl,hC,h⟩;replace hS:=hS.pur hC.pure;clear hC;refine ⟨_,rfl,?_⟩;refine zb (zq (ydX rfl) (zM (.bool (!(r2))) ?_));by_cases hp4:r2=true
      · replace h:=h.1 hp4;refine zW rfl rfl (zC (zB hp4)) (yab H1 underlying24 rfl yai) (zW rfl rfl (zC (zB hp4)) (zl underlying3 (Row.cell (hS.bx 0 rfl) (i:=0) rfl)) (zW rfl rfl (zC (zB hp4)) (yab rfl underlying67 rfl yai) (zW rfl rfl (zC (zB hp4)) (zl underlying3 (Row.cell (hS.bx 3 rfl) (i:=1) rfl)) (rl_n (yak rfl (yal rfl (zC (zB hp4)))) rfl rfl rfl (yam rfl (am2 rfl rfl) yhS ((yeb h (yaO _)).mono ?_))))));rintro _ w15 ⟨r3,rfl,hC,h⟩;replace hS:=hS.pur hC.pure;clear hC;refine ⟨_,rfl,?_⟩;refine zb (zW rfl rfl (zC (zB hp4)) (ydX rfl) (zq (yaw (v:=(.bool (!(r3)))) (zC (zB hp4)) rfl) (zM (.bool (!(r3))) ?_)));by_cases hp5:r3=true
        · replace h:=h.1 hp5;refine zW rfl rfl (zC (zB hp5)) (yab rfl underlying67 rfl yai) (zW rfl rfl (zC (zB hp5)) (zl underlying3 (Row.cell (hS.bx 3 rfl) (i:=2) rfl)) (zW rfl rfl (zC (zB hp5)) zL (zq (yaw (v:=(.bool (decide (((ge d2 v.toNat).2.2)<1)))) (zC (zB hp5)) rfl) (zM (.bool (decide (((ge d2 v.toNat).2.2)<1))) ?_))));by_cases hp6:((ge d2 v.toNat).2.2)<1
          · replace h:=h.1 hp6;exact zV rfl rfl (zT hp6) (zV rfl rfl (zT hp6) (zV rfl rfl (zT hp6) (zq (yaq (v:=(.bool (true))) (zT hp6) rfl) (zQ (.bool (true)) (yaa (yar rfl (zs (zQ (ii 2) (yaa (yaf rfl rfl ⟨_,rfl,(hS.sel []),h⟩))))))))))
          · replace h:=h.2 hp6;refine zW rfl rfl (zF hp6) (yab rfl underlying67 rfl yai) (zW rfl rfl (zF hp6) (zl underlying3 (Row.cell (hS.bx 3 rfl) (i:=2) rfl)) (zW rfl rfl (zF hp6) zG (zq (yaw (v:=(.bool (decide (50<((ge d2 v.toNat).2.2))))) (zF hp6) rfl) (zQ (.bool (decide (50<((ge d2 v.toNat).2.2)))) (yaa ?_)))));by_cases hp7:50<((ge d2 v.toNat).2.2)
            · replace h:=h.1 hp7;exact zc hp7 (zs (zQ (ii 2) (yaa (yaf rfl rfl ⟨_,rfl,(hS.sel []),h⟩))))
            · replace h:=h.2 hp7;exact zd hp7 (j2 _ _ _ ⟨h,rfl,H1,H3,rfl,rfl,H17,H18,H19,(hS.sel [0,1,2,3,4])⟩)
        · replace h:=h.2 hp5;exact zV rfl rfl (zC (zB (zI hp5))) (zV rfl rfl (zC (zB (zI hp5))) (zV rfl rfl (zC (zB (zI hp5))) (zq (yaq (v:=(.bool (true))) (zC (zB (zI hp5))) rfl) (zM (.bool (true)) (zU (zU (zU (zq (yaq (v:=(.bool (true))) rfl rfl) (zQ (.bool (true)) (yaa (yar rfl (zs (zQ (ii 2) (yaa (yaf rfl rfl ⟨_,rfl,(hS.sel []),h⟩)))))))))))))))
      · replace h:=h.2 hp4;exact zV rfl rfl (zC (zB (zI hp4))) (zV rfl rfl (zC (zB (zI hp4))) (zV rfl rfl (zC (zB (zI hp4))) (zV rfl rfl (zC (zB (zI hp4))) (zV rfl rfl (zC (zB (zI hp4))) (zV rfl rfl (zC (zB (zI hp4))) (zq (yaq (v:=(.bool (true))) (zC (zB (zI hp4))) rfl) (zM (.bool (true)) (zU (zU (zU (zq (yaq (v:=(.bool (true))) rfl rfl) (zM (.bool (true)) (zU (zU (zU (zq (yaq (v:=(.bool (true))) rfl rfl) (zQ (.bool (true)) (yaa (yar rfl (zs (zQ (ii 2) (yaa (yaf rfl rfl ⟨_,rfl,(hS.sel []),h⟩)))))))))))))))))))))))
    · replace h:=h.2 hp;exact zd hp (yaC rfl (zs (zQ (ii 0) (yaa (yaf rfl rfl ⟨_,rfl,(hS.sel []),h⟩)))))
  clear hJ;intro j;refine zr (zq (yab rfl underlying24 rfl yai) (zq (zl underlying3 (Row.cell (hS.bx 1 rfl) (i:=0) rfl)) (zq zL (zM (.bool (decide (d<1))) ?_))));by_cases hp8:d<1
  · replace h:=h.1 hp8;exact zV rfl rfl (zT hp8) (zV rfl rfl (zT hp8) (zV rfl rfl (zT hp8) (zq (yaq (v:=(.bool (true))) (zT hp8) rfl) (yaa (yar rfl (zs (zQ (ii 2) (yaa (yaf rfl rfl ⟨_,rfl,(hS.sel []),h⟩)))))))))
  · replace h:=h.2 hp8;refine zW rfl rfl (zF hp8) (yab rfl underlying24 rfl yai) (zW rfl rfl (zF hp8) (zl underlying3 (Row.cell (hS.bx 1 rfl) (i:=0) rfl)) (zW rfl rfl (zF hp8) zG (zq (yaw (v:=(.bool (decide (12<d)))) (zF hp8) rfl) (yaa ?_))));by_cases hp9:12<d
    · replace h:=h.1 hp9;exact zc hp9 (zs (zQ (ii 2) (yaa (yaf rfl rfl ⟨_,rfl,(hS.sel []),h⟩))))
    · replace h:=h.2 hp9;exact zd hp9 (yae (j _ _ _ ⟨h,rfl,rfl,(hS.sel [1,0])⟩))
end Go.Proofs.YtjepipbkiadcpaaGreat
