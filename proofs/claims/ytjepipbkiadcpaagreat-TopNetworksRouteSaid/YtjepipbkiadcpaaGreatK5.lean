/- Texts laid together: PNa_1. -/
import Derived.Test.YtjepipbkiadcpaaGreatK4
set_option linter.unusedVariables false
set_option linter.unusedSimpArgs false
set_option linter.unusedSectionVars false
/- Pure forms of functions, made by program (pf.py), each with the proof that the code does so. -/
namespace Go.Proofs.YtjepipbkiadcpaaGreat
open Go Go.RowKit Go.Shelf Go.Proofs.Tryz
set_option maxRecDepth 100000
set_option maxHeartbeats 8000000
def yf3(r:Int)(r2:List E3)(r3:List (List Int))(R:Bool→Prop):Prop :=
(∃ J2:Prop,(J2→(∃ I2:Nat→Int→Prop,(∃ m0,I2 m0 0)∧∀ m2 v,I2 m2 v → 
((v<(r3.length:Int) →
((0≤v∧v<(r3.length:Int)) ∧
((40<((gx r3 v.toNat).length:Int) →
R false) ∧
(¬(40<((gx r3 v.toNat).length:Int)) →
(In64 (v+1) ∧
∃ m3,m3<m2∧I2 m3 (v+1)))))) ∧
(¬(v<(r3.length:Int)) →
R true)))) ∧
yf8 r r2 (fun r4 =>
((r4=true →
((20<(r3.length:Int) →
R false) ∧
(¬(20<(r3.length:Int)) →
J2))) ∧
(¬(r4=true) →
R false))))
theorem pok_r44_Few{O:Nat→Prop}{w:World}{r r2 r3 Ar lr cr Ar2 lr2 cr2}{R:Bool→Prop}(h:yf3 r r2 r3 R)(hO:∀ k,O k→k<w.heap.size)(hA0:(FP.sl c3 Ar lr cr r2).P O w)(hA1:(FP.sl (cL cI) Ar2 lr2 cr2 r3).P O w) :
    Calls Tryz.prog 42 #[(.agg #[(ii r),(.slice Ar lr cr),(.slice Ar2 lr2 cr2)])] w fun e w'=>∃ r5,e = .returned (.bool (r5))∧Sep w no O w' (rl [])∧R r5:=by
  unfold yf3 at h;have hS:Sep w no O w (rl [Res.ro (FP.sl c3 Ar lr cr r2),Res.ro (FP.sl (cL cI) Ar2 lr2 cr2 r3)]):=Sep.startl hO [(FP.sl c3 Ar lr cr r2),(FP.sl (cL cI) Ar2 lr2 cr2 r3)] ⟨hA0,hA1,trivial⟩;refine yao (l:=[(.agg #[(ii r),(.slice Ar lr cr),(.slice Ar2 lr2 cr2)])]) func42 rfl ntmps42 zY (zs (zn (ybH (v:=(.agg #[(ii r),(.slice Ar lr cr),(.slice Ar2 lr2 cr2)])) rfl ?_)));intro g w2 hN;replace hS:Sep w no O w2 (stl _ 2 (Res.box 45 g [(ii r),(.slice Ar lr cr),(.slice Ar2 lr2 cr2)])):=hS.new 2 rfl hN;clear hN;refine zb (zQ (.bool (false)) (yaa (yad (yad ?_))));obtain ⟨J2,hJ,h⟩:=h;refine ycf (fun E ds w'=>J2∧ds=[]∧E 1=(Value.pointer (some ⟨g,0,none⟩))∧Sep w no O w' (rl [Res.box 45 g [(ii r),(.slice Ar lr cr),(.slice Ar2 lr2 cr2)],Res.ro (FP.sl c3 Ar lr cr r2),Res.ro (FP.sl (cL cI) Ar2 lr2 cr2 r3)])) ?_ ?_
  · clear h hS;rintro E ds w3 ⟨h,rfl,H1,hS⟩;replace h:=hJ h;refine yad (zs (zQ (ii 0) (yaa (yah ?_))));obtain ⟨I2,⟨m0,h0⟩,hr⟩:=h;refine yaE (fun m E ds w'=>∃ v,I2 m v∧ds=[]∧E 1=(Value.pointer (some ⟨g,0,none⟩))∧E 3=(ii v)∧Sep w no O w' (rl [Res.box 45 g [(ii r),(.slice Ar lr cr),(.slice Ar2 lr2 cr2)],Res.ro (FP.sl c3 Ar lr cr r2),Res.ro (FP.sl (cL cI) Ar2 lr2 cr2 r3)])) m0 ⟨_,h0,rfl,H1,rfl,(hS.sel [0,1,2])⟩ ?_;clear h0 hS;rintro m2 E ds w4 ⟨v,h,rfl,H1,H3,hS⟩ ag;replace h:=hr m2 v h;clear hr;refine yad (zs (zq (yac H3) (zq (yab H1 underlying45 rfl ybf) (zq (zl underlying43 (Row.cell (hS.bx 0 rfl) (i:=2) rfl)) (zq (yaF (n:=r3.length) rfl underlying43 (yaD (hS.rdr 2 rfl))) (zq zL (yaa ?_)))))));by_cases hp:v<(r3.length:Int)
    · replace h:=h.1 hp;refine zc hp (yae (yad (yah (zs (zq (yab H1 underlying45 rfl ybf) (zq (zl underlying43 (Row.cell (hS.bx 0 rfl) (i:=2) rfl)) (zq (yac H3) ?_)))))));obtain ⟨hx,h⟩:=h;refine zq (zi underlying43 yaL (yaK (hS.rdr 2 rfl) hx)) ?_;obtain ⟨A,l,c,hc,hq⟩:=hS.el 2 rfl hx 3 4 rfl rfl (by decide);replace hS:=hq;clear hq;refine zq (yay (v:=(.slice A l c)) rfl underlying33 rfl (hS.clr 4 rfl)) (zq (yaF (n:=(gx r3 v.toNat).length) rfl underlying33 (yaD (hS.rdr 3 rfl))) (zq zG (yaa ?_)));by_cases hp2:40<((gx r3 v.toNat).length:Int)
      · replace h:=h.1 hp2;exact zc hp2 (zs (zQ (.bool (false)) (yaa (yaf rfl rfl ⟨_,rfl,(hS.sel []),h⟩))))
      · replace h:=h.2 hp2;refine zd hp2 (yae (yaj (zr (zq (yac H3) ?_))));obtain ⟨hi,h⟩:=h;refine zq (zA hi) (zQ (ii (v+1)) (yaa ?_));obtain ⟨mq,hlt,h⟩:=h;exact ag mq _ _ _ ⟨_,h,rfl,H1,rfl,(hS.sel [0,1,2])⟩ hlt
    · replace h:=h.2 hp;exact zd hp (yaC rfl (zs (zQ (.bool (true)) (yaa (yaf rfl rfl ⟨_,rfl,(hS.sel []),h⟩)))))
  clear hJ;intro j;refine zr (zq (yab rfl underlying45 rfl yaM) (zq (yat (vs:=[(ii r),(.slice Ar lr cr)]) rfl underlying24 rfl yaM ⟨Row.cell (hS.bx 2 rfl) (i:=0) rfl,Row.cell (hS.bx 2 rfl) (i:=1) rfl,trivial⟩) (zn (yam rfl (am1 rfl) enter_86 ((pok_r08_Few h (yaO _) (hS.rdr 0 rfl)).mono ?_)))));rintro _ w5 ⟨r4,rfl,hC,h⟩;replace hS:=hS.pur hC.pure;clear hC;refine ⟨_,rfl,?_⟩;refine zb (zq (ydX rfl) (zM (.bool (!(r4))) ?_));by_cases hp3:r4=true
  · replace h:=h.1 hp3;refine zW rfl rfl (zC (zB hp3)) (yab rfl underlying45 rfl ybf) (zW rfl rfl (zC (zB hp3)) (zl underlying43 (Row.cell (hS.bx 2 rfl) (i:=2) rfl)) (zW rfl rfl (zC (zB hp3)) (yaF (n:=r3.length) rfl underlying43 (yaD (hS.rdr 1 rfl))) (zW rfl rfl (zC (zB hp3)) zG (zq (yaw (v:=(.bool (decide (20<(r3.length:Int))))) (zC (zB hp3)) rfl) (yaa ?_)))));by_cases hp4:20<(r3.length:Int)
    · replace h:=h.1 hp4;exact zc hp4 (zs (zQ (.bool (false)) (yaa (yaf rfl rfl ⟨_,rfl,(hS.sel []),h⟩))))
    · replace h:=h.2 hp4;exact zd hp4 (yae (j _ _ _ ⟨h,rfl,rfl,(hS.sel [2,0,1])⟩))
  · replace h:=h.2 hp3;exact zV rfl rfl (zC (zB (zI hp3))) (zV rfl rfl (zC (zB (zI hp3))) (zV rfl rfl (zC (zB (zI hp3))) (zV rfl rfl (zC (zB (zI hp3))) (zq (yaq (v:=(.bool (true))) (zC (zB (zI hp3))) rfl) (yaa (yar rfl (zs (zQ (.bool (false)) (yaa (yaf rfl rfl ⟨_,rfl,(hS.sel []),h⟩))))))))))
def yfg(r:Int)(r2:List E3)(r3:List (List Int))(rotors:List Int)(R:Bool→Prop):Prop :=
yf3 r r2 r3 (fun r4 =>
((r4=true →
R (decide ((rotors.length:Int)≤30))) ∧
(¬(r4=true) →
R false)))
theorem pok_r45_Few{O:Nat→Prop}{w:World}{r r2 r3 rotors Ar lr cr Ar2 lr2 cr2 Aa Ab Ac}{R:Bool→Prop}(h:yfg r r2 r3 rotors R)(hO:∀ k,O k→k<w.heap.size)(hA0:(FP.sl c3 Ar lr cr r2).P O w)(hA1:(FP.sl (cL cI) Ar2 lr2 cr2 r3).P O w)(hA2:(FP.sl cI Aa Ab Ac rotors).P O w) :
    Calls Tryz.prog 15 #[(.agg #[(ii r),(.slice Ar lr cr),(.slice Ar2 lr2 cr2)]),(.slice Aa Ab Ac)] w fun e w'=>∃ r5,e = .returned (.bool (r5))∧Sep w no O w' (rl [])∧R r5:=by
  unfold yfg at h;have hS:Sep w no O w (rl [Res.ro (FP.sl c3 Ar lr cr r2),Res.ro (FP.sl (cL cI) Ar2 lr2 cr2 r3),Res.ro (FP.sl cI Aa Ab Ac rotors)]):=Sep.startl hO [(FP.sl c3 Ar lr cr r2),(FP.sl (cL cI) Ar2 lr2 cr2 r3),(FP.sl cI Aa Ab Ac rotors)] ⟨hA0,hA1,hA2,trivial⟩;refine yao (l:=[(.agg #[(ii r),(.slice Ar lr cr),(.slice Ar2 lr2 cr2)]),(.slice Aa Ab Ac)]) func15 rfl ntmps15 zY (zs (zn (ybH (v:=(.agg #[(ii r),(.slice Ar lr cr),(.slice Ar2 lr2 cr2)])) rfl ?_)));intro g w2 hN;replace hS:Sep w no O w2 (stl _ 3 (Res.box 45 g [(ii r),(.slice Ar lr cr),(.slice Ar2 lr2 cr2)])):=hS.new 3 rfl hN;clear hN;refine zb (zQ (.bool (false)) (yaa (zs (zq (yat (vs:=[(ii r),(.slice Ar lr cr),(.slice Ar2 lr2 cr2)]) rfl underlying45 rfl ydM ⟨Row.cell (hS.bx 3 rfl) (i:=0) rfl,Row.cell (hS.bx 3 rfl) (i:=1) rfl,Row.cell (hS.bx 3 rfl) (i:=2) rfl,trivial⟩) (zn (yam rfl (am1 rfl) enter_42 ((pok_r44_Few h (yaO _) (hS.rdr 0 rfl) (hS.rdr 1 rfl)).mono ?_)))))));rintro _ w3 ⟨r4,rfl,hC,h⟩;replace hS:=hS.pur hC.pure;clear hC;refine ⟨_,rfl,?_⟩;refine zb (zM (.bool (r4)) ?_);by_cases hp:r4=true
  · replace h:=h.1 hp;exact zW rfl rfl (zC hp) (zm (.slice Aa Ab Ac)) (zW rfl rfl (zC hp) (yaF (n:=rotors.length) rfl underlying33 (yaD (hS.rdr 2 rfl))) (zW rfl rfl (zC hp) (v_leq rfl rfl) (zq (yaq (v:=(.bool (decide ((rotors.length:Int)≤30)))) (zC hp) rfl) (zQ (.bool (decide ((rotors.length:Int)≤30))) (yaa (yaf rfl rfl ⟨_,rfl,(hS.sel []),h⟩))))))
  · replace h:=h.2 hp;exact zV rfl rfl (zC (zI hp)) (zV rfl rfl (zC (zI hp)) (zV rfl rfl (zC (zI hp)) (zq (yaw (v:=(.bool (false))) (zC (zI hp)) rfl) (zQ (.bool (false)) (yaa (yaf rfl rfl ⟨_,rfl,(hS.sel []),h⟩))))))
def yf7(d:List Int)(R:Bool→Prop):Prop :=
R (decide ((d.length:Int)≤24))
theorem pok_r17_Few{O:Nat→Prop}{w:World}{d Ad ld cd}{R:Bool→Prop}(h:yf7 d R)(hO:∀ k,O k→k<w.heap.size)(hA0:(FP.sl cI Ad ld cd d).P O w) :
    Calls Tryz.prog 16 #[(.slice Ad ld cd)] w fun e w'=>∃ r,e = .returned (.bool (r))∧Sep w no O w' (rl [])∧R r:=by
  unfold yf7 at h;have hS:Sep w no O w (rl [Res.ro (FP.sl cI Ad ld cd d)]):=Sep.startl hO [(FP.sl cI Ad ld cd d)] ⟨hA0,trivial⟩;exact yao (l:=[(.slice Ad ld cd)]) func16 rfl ntmps16 zY (zs (zQ (.bool (false)) (yaa (zs (zM (.slice Ad ld cd) (zq (yaF (n:=d.length) rfl underlying34 (yaD (hS.rdr 0 rfl))) (zq (v_leq rfl rfl) (zQ (.bool (decide ((d.length:Int)≤24))) (yaa (yaf rfl rfl ⟨_,rfl,(hS.sel []),h⟩))))))))))
def ydL(g:Int)(g2:List E3)(R:Int→Prop):Prop :=
yds g g2 (fun r =>
((r=0 →
ydl g g2 (fun r2 =>
((r2=true →
R 0) ∧
(¬(r2=true) →
R 13)))) ∧
(¬(r=0) →
R r)))
theorem pok_r13_Joined{O:Nat→Prop}{w:World}{g g2 Ag lg cg}{R:Int→Prop}(h:ydL g g2 R)(hO:∀ k,O k→k<w.heap.size)(hA0:(FP.sl c3 Ag lg cg g2).P O w) :
    Calls Tryz.prog 137 #[(.agg #[(ii g),(.slice Ag lg cg)])] w fun e w'=>∃ r3,e = .returned (ii r3)∧Sep w no O w' (rl [])∧R r3:=by
  unfold ydL at h;have hS:Sep w no O w (rl [Res.ro (FP.sl c3 Ag lg cg g2)]):=Sep.startl hO [(FP.sl c3 Ag lg cg g2)] ⟨hA0,trivial⟩;refine yao (l:=[(.agg #[(ii g),(.slice Ag lg cg)])]) func137 rfl ntmps137 zY (zs (zn (ybH (v:=(.agg #[(ii g),(.slice Ag lg cg)])) rfl ?_)));intro g3 w2 hN;replace hS:Sep w no O w2 (stl _ 1 (Res.box 24 g3 [(ii g),(.slice Ag lg cg)])):=hS.new 1 rfl hN;clear hN;refine zb (zQ (ii 0) (yaa (yad (zs (zq (yat (vs:=[(ii g),(.slice Ag lg cg)]) rfl underlying24 rfl yaM ⟨Row.cell (hS.bx 1 rfl) (i:=0) rfl,Row.cell (hS.bx 1 rfl) (i:=1) rfl,trivial⟩) (zn (yam rfl (am1 rfl) enter_25 ((ygP h (yaO _) (hS.rdr 0 rfl)).mono ?_))))))));rintro _ w3 ⟨r,rfl,hC,h⟩;replace hS:=hS.pur hC.pure;clear hC;refine ⟨_,rfl,?_⟩;refine zb (zQ (ii r) (yaa (zs (zM (ii r) (zq zN (yaa ?_))))));by_cases hp:r=0
  · replace h:=h.1 hp;refine ze hp (yae (yad (zs (zq (yat (vs:=[(ii g),(.slice Ag lg cg)]) rfl underlying24 rfl yaM ⟨Row.cell (hS.bx 1 rfl) (i:=0) rfl,Row.cell (hS.bx 1 rfl) (i:=1) rfl,trivial⟩) (zn (yam rfl (am1 rfl) enter_26 ((yhj h (yaO _) (hS.rdr 0 rfl)).mono ?_)))))));rintro _ w4 ⟨r2,rfl,hC,h⟩;replace hS:=hS.pur hC.pure;clear hC;refine ⟨_,rfl,?_⟩;refine zb (zq (ydX rfl) (yaa ?_));by_cases hp2:r2=true
    · replace h:=h.1 hp2;exact yaA (zC (zB hp2)) (yae (zs (zQ (ii 0) (yaa (yaf rfl rfl ⟨_,rfl,(hS.sel []),h⟩)))))
    · replace h:=h.2 hp2;exact yar (zC (zB (zI hp2))) (zs (zQ (ii 13) (yaa (yaf rfl rfl ⟨_,rfl,(hS.sel []),h⟩))))
  · replace h:=h.2 hp;exact zf hp (zs (zM (ii r) (zQ (ii r) (yaa (yaf rfl rfl ⟨_,rfl,(hS.sel []),h⟩)))))
def ydI(g:Int)(g2:List E3)(v:Int)(R:Int→Prop):Prop :=
ydb g g2 v (fun r =>
yb7 g g2 v v (fun r2 =>
(In64 (2*r2) ∧
(In64 (r+(2*r2)) ∧
R (r+(2*r2))))))
theorem pok_r08_Degree{O:Nat→Prop}{w:World}{g g2 v Ag lg cg}{R:Int→Prop}(h:ydI g g2 v R)(hO:∀ k,O k→k<w.heap.size)(hA0:(FP.sl c3 Ag lg cg g2).P O w) :
    Calls Tryz.prog 183 #[(.agg #[(ii g),(.slice Ag lg cg)]),(ii v)] w fun e w'=>∃ r3,e = .returned (ii r3)∧Sep w no O w' (rl [])∧R r3:=by
  unfold ydI at h;have hS:Sep w no O w (rl [Res.ro (FP.sl c3 Ag lg cg g2)]):=Sep.startl hO [(FP.sl c3 Ag lg cg g2)] ⟨hA0,trivial⟩;refine yao (l:=[(.agg #[(ii g),(.slice Ag lg cg)]),(ii v)]) func183 rfl ntmps183 zY (zs (zn (ybH (v:=(.agg #[(ii g),(.slice Ag lg cg)])) rfl ?_)));intro g3 w2 hN;replace hS:Sep w no O w2 (stl _ 1 (Res.box 24 g3 [(ii g),(.slice Ag lg cg)])):=hS.new 1 rfl hN;clear hN;refine zb (zQ (ii 0) (yaa (yad (ybi [0,1,3,4,5,2,6,7,8,9] (fun i=>match i with | 2=>[3,4,5] | _=>[]) yav (by kernel_rfl) (by kernel_rfl) ?_))));replace hS:=hS.drew;refine zp (yat (vs:=[(ii g),(.slice Ag lg cg)]) rfl underlying24 rfl yaM ⟨Row.cell (hS.bx 1 rfl) (i:=0) rfl,Row.cell (hS.bx 1 rfl) (i:=1) rfl,trivial⟩) (zp (zm (ii v)) (zp (yat (vs:=[(ii g),(.slice Ag lg cg)]) rfl underlying24 rfl yaM ⟨Row.cell (hS.bx 1 rfl) (i:=0) rfl,Row.cell (hS.bx 1 rfl) (i:=1) rfl,trivial⟩) (zp (zm (ii v)) (zp (zm (ii v)) (rp_n rfl rfl rfl rfl (yam rfl (am2 rfl rfl) enter_206 ((yix h (yaO _) (hS.rdr 0 rfl)).mono ?_)))))));rintro _ w3 ⟨r,rfl,hC,h⟩;replace hS:=hS.pur hC.pure;clear hC;refine ⟨_,rfl,?_⟩;refine ⟨⟨fun _=>(zm (ii v)),⟨fun _=>(zm (ii v)),⟨fun _=>(yat (vs:=[(ii g),(.slice Ag lg cg)]) rfl underlying24 rfl yaM ⟨Row.cell (hS.bx 1 rfl) (i:=0) rfl,Row.cell (hS.bx 1 rfl) (i:=1) rfl,trivial⟩),⟨fun hh=>zZ hh,⟨fun hh=>zZ hh,trivial⟩⟩⟩⟩⟩,?_⟩;refine rp_n rfl rfl rfl rfl (yam rfl (am3 rfl rfl rfl) yiw ((yex h (yaO _) (hS.rdr 0 rfl)).mono ?_));rintro _ w4 ⟨r2,rfl,hC,h⟩;replace hS:=hS.pur hC.pure;clear hC;refine ⟨_,rfl,?_⟩;refine zb ?_;obtain ⟨hi,h⟩:=h;refine zp (v_mul rfl rfl hi) ?_;obtain ⟨hi2,h⟩:=h;exact zp (zA hi2) (zp (za (ii (r+(2*r2)))) (ybl (yaf rfl rfl ⟨_,rfl,(hS.sel []),h⟩)))
def yew(g:Int)(g2:List E3)(R:Int→Prop):Prop :=
ydR g g2 (fun r =>
(In64 (2*r) ∧
R (2*r)))
theorem pok_r44_Half{O:Nat→Prop}{w:World}{g g2 Ag lg cg}{R:Int→Prop}(h:yew g g2 R)(hO:∀ k,O k→k<w.heap.size)(hA0:(FP.sl c3 Ag lg cg g2).P O w) :
    Calls Tryz.prog 184 #[(.agg #[(ii g),(.slice Ag lg cg)])] w fun e w'=>∃ r2,e = .returned (ii r2)∧Sep w no O w' (rl [])∧R r2:=by
  unfold yew at h;have hS:Sep w no O w (rl [Res.ro (FP.sl c3 Ag lg cg g2)]):=Sep.startl hO [(FP.sl c3 Ag lg cg g2)] ⟨hA0,trivial⟩;refine yao (l:=[(.agg #[(ii g),(.slice Ag lg cg)])]) func184 rfl ntmps184 zY (zs (zn (ybH (v:=(.agg #[(ii g),(.slice Ag lg cg)])) rfl ?_)));intro g3 w2 hN;replace hS:Sep w no O w2 (stl _ 1 (Res.box 24 g3 [(ii g),(.slice Ag lg cg)])):=hS.new 1 rfl hN;clear hN;refine zb (zQ (ii 0) (yaa (zs (zq (yat (vs:=[(ii g),(.slice Ag lg cg)]) rfl underlying24 rfl yaM ⟨Row.cell (hS.bx 1 rfl) (i:=0) rfl,Row.cell (hS.bx 1 rfl) (i:=1) rfl,trivial⟩) (zn (yam rfl (am1 rfl) enter_64 ((yhn h (yaO _) (hS.rdr 0 rfl)).mono ?_)))))));rintro _ w3 ⟨r,rfl,hC,h⟩;replace hS:=hS.pur hC.pure;clear hC;refine ⟨_,rfl,?_⟩;refine zb ?_;obtain ⟨hi,h⟩:=h;exact zq (v_mul rfl rfl hi) (zQ (ii (2*r)) (yaa (yaf rfl rfl ⟨_,rfl,(hS.sel []),h⟩)))
def yfW(g:Int)(g2:List E3)(h2:Int)(R:Int→Prop):Prop :=
ydr g g2 (fun r =>
((2:Int)≠0 ∧
In64 (h2.tdiv 2) ∧
((0≤(h2.tdiv 2)∧(h2.tdiv 2)<(r.length:Int)) ∧
((0≤(h2.tmod 2)∧(h2.tmod 2)<2) ∧
(((h2.tmod 2)=0 →
((0≤(0:Int)∧(0:Int)<2) ∧
R ((gx r (h2.tdiv 2).toNat).1))) ∧
((h2.tmod 2)=1 →
((0≤(1:Int)∧(1:Int)<2) ∧
R ((gx r (h2.tdiv 2).toNat).2))))))))
theorem pok_r44_At{O:Nat→Prop}{w:World}{g g2 h2 Ag lg cg}{R:Int→Prop}(h:yfW g g2 h2 R)(hO:∀ k,O k→k<w.heap.size)(hA0:(FP.sl c3 Ag lg cg g2).P O w) :
    Calls Tryz.prog 185 #[(.agg #[(ii g),(.slice Ag lg cg)]),(ii h2)] w fun e w'=>∃ r2,e = .returned (ii r2)∧Sep w no O w' (rl [])∧R r2:=by
  unfold yfW at h;have hS:Sep w no O w (rl [Res.ro (FP.sl c3 Ag lg cg g2)]):=Sep.startl hO [(FP.sl c3 Ag lg cg g2)] ⟨hA0,trivial⟩;refine yao (l:=[(.agg #[(ii g),(.slice Ag lg cg)]),(ii h2)]) func185 rfl ntmps185 zY (zs (zn (ybH (v:=(.agg #[(ii g),(.slice Ag lg cg)])) rfl ?_)));intro g3 w2 hN;replace hS:Sep w no O w2 (stl _ 1 (Res.box 24 g3 [(ii g),(.slice Ag lg cg)])):=hS.new 1 rfl hN;clear hN;refine zb (zQ (ii 0) (yaa (zs (zq (yat (vs:=[(ii g),(.slice Ag lg cg)]) rfl underlying24 rfl yaM ⟨Row.cell (hS.bx 1 rfl) (i:=0) rfl,Row.cell (hS.bx 1 rfl) (i:=1) rfl,trivial⟩) (zn (yam rfl (am1 rfl) enter_107 ((yho h (yaO _) (hS.rdr 0 rfl)).mono ?_)))))));rintro _ w3 ⟨r,Ar,lr,cr,rfl,hC,h⟩;replace hS:=hS.call1 (hC.widen (yfd (yb0 (fP (fI .i64) (fI .i64)) _ _ _ _ _) yfs) hS.blt) 2 0 rfl;clear hC;refine ⟨_,rfl,?_⟩;refine zb (zM (ii h2) ?_);obtain ⟨hz,h⟩:=h;obtain ⟨hi,h⟩:=h;refine zq (v_quo rfl rfl hz hi) (zM (ii h2) (zq (v_rem rfl rfl hz) ?_));obtain ⟨hx,h⟩:=h;refine zq (zi underlying91 ycZ (yaK (hS.rdo 2 rfl) hx)) ?_;obtain ⟨hx2,h⟩:=h;rcases (show (h2.tmod 2)=0∨(h2.tmod 2)=1 by omega) with hk | hk
  · replace h:=h.1 hk;obtain ⟨hx3,h⟩:=h;refine zq (yeV rfl (congrArg (Value.int .i64) hk) underlying100 yai hx3) (zq (yay (v:=(ii ((gx r (h2.tdiv 2).toNat).1))) rfl underlying3 rfl (rd_f (hS.rdo 2 rfl) hx (fun q=>yaY q) 0 rfl)) ?_);exact zQ (ii ((gx r (h2.tdiv 2).toNat).1)) (yaa (yaf rfl rfl ⟨_,rfl,(hS.sel []),h⟩))
  · replace h:=h.2 hk;obtain ⟨hx4,h⟩:=h;refine zq (yeV rfl (congrArg (Value.int .i64) hk) underlying100 yai hx4) (zq (yay (v:=(ii ((gx r (h2.tdiv 2).toNat).2))) rfl underlying3 rfl (rd_f (hS.rdo 2 rfl) hx (fun q=>yaY q) 1 rfl)) ?_);exact zQ (ii ((gx r (h2.tdiv 2).toNat).2)) (yaa (yaf rfl rfl ⟨_,rfl,(hS.sel []),h⟩))
def yd1(l:List Int)(v:Int)(R:Bool→Prop):Prop :=
(∃ I2:Nat→Int→Prop,(∃ m0,I2 m0 0)∧∀ m2 i,I2 m2 i → 
((i<(l.length:Int) →
((0≤i∧i<(l.length:Int)) ∧
(((gi l i.toNat)=v →
R true) ∧
(¬((gi l i.toNat)=v) →
(In64 (i+1) ∧
∃ m3,m3<m2∧I2 m3 (i+1)))))) ∧
(¬(i<(l.length:Int)) →
R false)))
theorem pok_r08_Holds{O:Nat→Prop}{w:World}{l v Al ll cl}{R:Bool→Prop}(h:yd1 l v R)(hO:∀ k,O k→k<w.heap.size)(hA0:(FP.sl cI Al ll cl l).P O w) :
    Calls Tryz.prog 186 #[(.slice Al ll cl),(ii v)] w fun e w'=>∃ r,e = .returned (.bool (r))∧Sep w no O w' (rl [])∧R r:=by
  unfold yd1 at h;have hS:Sep w no O w (rl [Res.ro (FP.sl cI Al ll cl l)]):=Sep.startl hO [(FP.sl cI Al ll cl l)] ⟨hA0,trivial⟩;refine yao (l:=[(.slice Al ll cl),(ii v)]) func186 rfl ntmps186 zY (zs (zQ (.bool (false)) (yaa (yad (zs (zQ (ii 0) (yaa (yah ?_))))))));obtain ⟨I2,⟨m0,h0⟩,hr⟩:=h;refine yaE (fun m E ds w'=>∃ i,I2 m i∧ds=[]∧E 0=(Value.slice Al ll cl)∧E 1=(ii v)∧E 5=(ii i)∧Sep w no O w' (rl [Res.ro (FP.sl cI Al ll cl l)])) m0 ⟨_,h0,rfl,rfl,rfl,rfl,(hS.sel [0])⟩ ?_;clear h0 hS;rintro m2 E ds w2 ⟨i,h,rfl,H0,H1,H5,hS⟩ ag;replace h:=hr m2 i h;clear hr;refine yad (zs (zq (yac H5) (zq (yac H0) (zq (yaF (n:=l.length) rfl underlying33 (yaD (hS.rdr 0 rfl))) (zq zL (yaa ?_))))));by_cases hp:i<(l.length:Int)
  · replace h:=h.1 hp;refine zc hp (yae (yad (yah (zs (zq (yac H0) (zq (yac H5) ?_))))));obtain ⟨hx,h⟩:=h;refine zq (zi underlying33 yai (yaK (hS.rdr 0 rfl) hx)) (zq (yay (v:=(ii (gi l i.toNat))) rfl underlying3 rfl (rd_1 (hS.rdr 0 rfl) hx (fun q=>yaQ q) rfl)) ?_);refine zq (yac H1) (zq zE (yaa ?_));by_cases hp2:(gi l i.toNat)=v
    · replace h:=h.1 hp2;exact zc hp2 (zs (zQ (.bool (true)) (yaa (yaf rfl rfl ⟨_,rfl,(hS.sel []),h⟩))))
    · replace h:=h.2 hp2;refine zd hp2 (yae (yaj (zr (zq (yac H5) ?_))));obtain ⟨hi,h⟩:=h;refine zq (zA hi) (zQ (ii (i+1)) (yaa ?_));obtain ⟨mq,hlt,h⟩:=h;exact ag mq _ _ _ ⟨_,h,rfl,H0,H1,rfl,(hS.sel [0])⟩ hlt
  · replace h:=h.2 hp;exact zd hp (yaC rfl (zs (zQ (.bool (false)) (yaa (yaf rfl rfl ⟨_,rfl,(hS.sel []),h⟩)))))
def ydF(d:Int)(d2:List E3)(i:Int)(a:List Int)(R:Int→Prop):Prop :=
ydI d d2 i (fun r =>
(((a.length:Int)=r →
(∃ I2:Nat→Int→Prop,(∃ m0,I2 m0 0)∧∀ m2 v,I2 m2 v → 
((v<(a.length:Int) →
(∃ J2:Prop,(J2→((0≤v∧v≤(a.length:Int)) ∧
((0≤v∧v<(a.length:Int)) ∧
yd1 (a.take v.toNat) (gi a v.toNat) (fun r2 =>
((r2=true →
R 7) ∧
(¬(r2=true) →
(In64 (v+1) ∧
∃ m3,m3<m2∧I2 m3 (v+1)))))))) ∧
((0≤v∧v<(a.length:Int)) ∧
(((gi a v.toNat)<0 →
R 2) ∧
(¬((gi a v.toNat)<0) →
yew d d2 (fun r3 =>
((r3≤(gi a v.toNat) →
R 2) ∧
(¬(r3≤(gi a v.toNat)) →
yfW d d2 (gi a v.toNat) (fun r4 =>
((r4=i →
J2) ∧
(¬(r4=i) →
R 2))))))))))) ∧
(¬(v<(a.length:Int)) →
(∃ I3:Nat→Int→Prop,(∃ m0,I3 m0 1)∧∀ m4 v2,I3 m4 v2 → 
((v2<(a.length:Int) →
((0≤v2∧v2<(a.length:Int)) ∧
((0≤(0:Int)∧(0:Int)<(a.length:Int)) ∧
(((gi a v2.toNat)<(gi a (0:Int).toNat) →
R 9) ∧
(¬((gi a v2.toNat)<(gi a (0:Int).toNat)) →
(In64 (v2+1) ∧
∃ m5,m5<m4∧I3 m5 (v2+1))))))) ∧
(¬(v2<(a.length:Int)) →
R 0))))))) ∧
(¬((a.length:Int)=r) →
R 8)))
theorem pok_r44_around{O:Nat→Prop}{w:World}{d d2 i a Ad ld cd Aa la ca}{R:Int→Prop}(h:ydF d d2 i a R)(hO:∀ k,O k→k<w.heap.size)(hA0:(FP.sl c3 Ad ld cd d2).P O w)(hA1:(FP.sl cI Aa la ca a).P O w) :
    Calls Tryz.prog 138 #[(.agg #[(ii d),(.slice Ad ld cd)]),(ii i),(.slice Aa la ca)] w fun e w'=>∃ r5,e = .returned (ii r5)∧Sep w no O w' (rl [])∧R r5:=by
  unfold ydF at h;have hS:Sep w no O w (rl [Res.ro (FP.sl c3 Ad ld cd d2),Res.ro (FP.sl cI Aa la ca a)]):=Sep.startl hO [(FP.sl c3 Ad ld cd d2),(FP.sl cI Aa la ca a)] ⟨hA0,hA1,trivial⟩;refine yao (l:=[(.agg #[(ii d),(.slice Ad ld cd)]),(ii i),(.slice Aa la ca)]) func138 rfl ntmps138 zY (zs (zn (ybH (v:=(.agg #[(ii d),(.slice Ad ld cd)])) rfl ?_)));intro g w2 hN;replace hS:Sep w no O w2 (stl _ 2 (Res.box 24 g [(ii d),(.slice Ad ld cd)])):=hS.new 2 rfl hN;clear hN;refine zb (zQ (ii 0) (yaa (yad (zs (zM (.slice Aa la ca) (zq (yaF (n:=a.length) rfl underlying33 (yaD (hS.rdr 1 rfl))) (zq (yat (vs:=[(ii d),(.slice Ad ld cd)]) rfl underlying24 rfl yaM ⟨Row.cell (hS.bx 2 rfl) (i:=0) rfl,Row.cell (hS.bx 2 rfl) (i:=1) rfl,trivial⟩) (zM (ii i) (zn (yam rfl (am2 rfl rfl) enter_183 ((pok_r08_Degree h (yaO _) (hS.rdr 0 rfl)).mono ?_)))))))))));rintro _ w3 ⟨r,rfl,hC,h⟩;replace hS:=hS.pur hC.pure;clear hC;refine ⟨_,rfl,?_⟩;refine zb (zq zN (yaa ?_));by_cases hp:(a.length:Int)=r
  · replace h:=h.1 hp;refine ze hp (yae (yad (zs (zQ (ii 0) (yaa (yah ?_))))));obtain ⟨I2,⟨m0,h0⟩,hr⟩:=h;refine yaE (fun m E ds w'=>∃ v,I2 m v∧ds=[]∧E 1=(ii i)∧E 2=(Value.slice Aa la ca)∧E 3=(Value.pointer (some ⟨g,0,none⟩))∧E 7=(ii v)∧Sep w no O w' (rl [Res.ro (FP.sl cI Aa la ca a),Res.box 24 g [(ii d),(.slice Ad ld cd)],Res.ro (FP.sl c3 Ad ld cd d2)])) m0 ⟨_,h0,rfl,rfl,rfl,rfl,rfl,(hS.sel [1,2,0])⟩ ?_;clear h0 hS;rintro m2 E ds w4 ⟨v,h,rfl,H1,H2,H3,H7,hS⟩ ag;replace h:=hr m2 v h;clear hr;refine yad (zs (zq (yac H7) (zq (yac H2) (zq (yaF (n:=a.length) rfl underlying33 (yaD (hS.rdr 0 rfl))) (zq zL (yaa ?_))))));by_cases hp2:v<(a.length:Int)
    · replace h:=h.1 hp2;refine zc hp2 (yae (yad (yah (yad (yad ?_)))));obtain ⟨J2,hJ,h⟩:=h;refine ycf (fun E ds w'=>J2∧ds=[]∧E 1=(ii i)∧E 2=(Value.slice Aa la ca)∧E 3=(Value.pointer (some ⟨g,0,none⟩))∧E 7=(ii v)∧Sep w no O w' (rl [Res.ro (FP.sl cI Aa la ca a),Res.box 24 g [(ii d),(.slice Ad ld cd)],Res.ro (FP.sl c3 Ad ld cd d2)])) ?_ ?_
      · clear h hS;rintro E ds w5 ⟨h,rfl,H1,H2,H3,H7,hS⟩;replace h:=hJ h;refine yad (ybi [0,1,2,3,4,5,6,7] st0 yav (by kernel_rfl) (by kernel_rfl) ?_);replace hS:=hS.drew;refine zp (yac H2) (zp (yac H7) ?_);obtain ⟨hx,h⟩:=h;replace hS:=hS.addro 3 rfl _ (sl_take (hS.ro 0 rfl) hx);refine zp (yhT rfl rfl underlying33 yai (le_cap (hS.rdr 0 rfl) hx)) (zp (yac H2) (zp (yac H7) ?_));obtain ⟨hx2,h⟩:=h;refine zp (zi underlying33 yai (yaK (hS.rdr 0 rfl) hx2)) (zp (yay (v:=(ii (gi a v.toNat))) rfl underlying3 rfl (rd_1 (hS.rdr 0 rfl) hx2 (fun q=>yaQ q) rfl)) ?_);refine rp_n rfl rfl rfl rfl (yam rfl (am2 rfl rfl) enter_186 ((pok_r08_Holds h (yaO _) (hS.rdr 3 rfl)).mono ?_));rintro _ w6 ⟨r2,rfl,hC,h⟩;replace hS:=hS.pur hC.pure;clear hC;refine ⟨_,rfl,?_⟩;refine zb (ybl ?_);by_cases hp3:r2=true
        · replace h:=h.1 hp3;exact yar (zC hp3) (zs (zQ (ii 7) (yaa (yaf rfl rfl ⟨_,rfl,(hS.sel []),h⟩))))
        · replace h:=h.2 hp3;refine yaA (zC (zI hp3)) (yae (yaj (zr (zq (yac H7) ?_))));obtain ⟨hi,h⟩:=h;refine zq (zA hi) (zQ (ii (v+1)) (yaa ?_));obtain ⟨mq,hlt,h⟩:=h;exact ag mq _ _ _ ⟨_,h,rfl,H1,H2,H3,rfl,(hS.sel [0,1,2])⟩ hlt
      clear hJ;intro j;refine ybi [0,1,2,3,4,5,6,7,8,9,10,11,12,13,14,15,16,17,18,19,21,20,22,23] (fun i=>match i with | 11=>[6,7,8,9] | 20=>[21] | _=>[]) yav (by kernel_rfl) (by kernel_rfl) ?_;replace hS:=hS.drew;refine zp (yac H2) (zp (yac H7) ?_);obtain ⟨hx3,h⟩:=h;refine zp (zi underlying33 yai (yaK (hS.rdr 0 rfl) hx3)) (zp (yay (v:=(ii (gi a v.toNat))) rfl underlying3 rfl (rd_1 (hS.rdr 0 rfl) hx3 (fun q=>yaQ q) rfl)) ?_);refine zp zL (zp (zm (.bool (decide ((gi a v.toNat)<0)))) ?_);by_cases hp4:(gi a v.toNat)<0
      · replace h:=h.1 hp4;exact rp_p (yag rfl (yal rfl (zT hp4)) rfl) rfl (rp_p (yag rfl (yal rfl (zT hp4)) rfl) rfl (rp_p (yag rfl (yal rfl (zT hp4)) rfl) rfl (rp_p (yag rfl (yal rfl (zT hp4)) rfl) rfl (rp_p (yag rfl (yal rfl (zT hp4)) rfl) rfl (rp_p (yag rfl (yal rfl (zT hp4)) rfl) rfl (rp_p (yag rfl (yal rfl (zT hp4)) rfl) rfl (zp (yaq (v:=(.bool (true))) (zT hp4) rfl) (zp (zm (.bool (true))) (rp_p (yag rfl (yal rfl rfl) rfl) rfl (rp_p (yag rfl (yal rfl rfl) rfl) rfl (rp_p (yag rfl (yal rfl rfl) rfl) rfl (rp_p (yag rfl (yal rfl rfl) rfl) rfl (rp_p (yag rfl (yal rfl rfl) rfl) rfl (rp_p (yag rfl (yal rfl rfl) rfl) rfl (rp_p (yag rfl (yal rfl rfl) rfl) rfl (rp_p (yag rfl (yal rfl rfl) rfl) rfl (zp (yaq (v:=(.bool (true))) rfl rfl) (ybl (yar rfl (zs (zQ (ii 2) (yaa (yaf rfl rfl ⟨_,rfl,(hS.sel []),h⟩)))))))))))))))))))))))
      · replace h:=h.2 hp4;refine rp_q (yak rfl (yal rfl (zF hp4))) rfl rfl (yac H2) (rp_q (yak rfl (yal rfl (zF hp4))) rfl rfl (yac H7) (rp_q (yak rfl (yal rfl (zF hp4))) rfl rfl (zi underlying33 yai (yaK (hS.rdr 0 rfl) hx3)) (rp_q (yak rfl (yal rfl (zF hp4))) rfl rfl (yay (v:=(ii (gi a v.toNat))) rfl underlying3 rfl (rd_1 (hS.rdr 0 rfl) hx3 (fun q=>yaQ q) rfl)) ?_)));refine rp_q (yak rfl (yal rfl (zF hp4))) rfl rfl (yat (vs:=[(ii d),(.slice Ad ld cd)]) H3 underlying24 rfl yaM ⟨Row.cell (hS.bx 1 rfl) (i:=0) rfl,Row.cell (hS.bx 1 rfl) (i:=1) rfl,trivial⟩) (rp_n (yak rfl (yal rfl (zF hp4))) rfl rfl rfl (yam rfl (am1 rfl) enter_184 ((pok_r44_Half h (yaO _) (hS.rdr 2 rfl)).mono ?_)));rintro _ w7 ⟨r3,rfl,hC,h⟩;replace hS:=hS.pur hC.pure;clear hC;refine ⟨_,rfl,?_⟩;refine ⟨⟨fun hh=>zZ hh,⟨fun _=>(yay (v:=(ii (gi a v.toNat))) rfl underlying3 rfl (rd_1 (hS.rdr 0 rfl) hx3 (fun q=>yaQ q) rfl)),⟨fun _=>(zi underlying33 yai (yaK (hS.rdr 0 rfl) hx3)),⟨fun _=>(yac H7),⟨fun _=>(yac H2),⟨fun hh=>zZ hh,⟨fun hh=>zZ hh,⟨fun hh=>zZ hh,⟨fun hh=>zZ hh,⟨fun hh=>zZ hh,⟨fun hh=>zZ hh,trivial⟩⟩⟩⟩⟩⟩⟩⟩⟩⟩⟩,?_⟩;refine rp_q (yak rfl (yal rfl (zF hp4))) rfl rfl (yfy rfl rfl) (zp (yaw (v:=(.bool (decide (r3≤(gi a v.toNat))))) (zF hp4) rfl) (zp (zm (.bool (decide (r3≤(gi a v.toNat))))) ?_));by_cases hp5:r3≤(gi a v.toNat)
        · replace h:=h.1 hp5;exact rp_p (yag rfl (yal rfl (zT hp5)) rfl) rfl (rp_p (yag rfl (yal rfl (zT hp5)) rfl) rfl (rp_p (yag rfl (yal rfl (zT hp5)) rfl) rfl (rp_p (yag rfl (yal rfl (zT hp5)) rfl) rfl (rp_p (yag rfl (yal rfl (zT hp5)) rfl) rfl (rp_p (yag rfl (yal rfl (zT hp5)) rfl) rfl (rp_p (yag rfl (yal rfl (zT hp5)) rfl) rfl (rp_p (yag rfl (yal rfl (zT hp5)) rfl) rfl (zp (yaq (v:=(.bool (true))) (zT hp5) rfl) (ybl (yar rfl (zs (zQ (ii 2) (yaa (yaf rfl rfl ⟨_,rfl,(hS.sel []),h⟩))))))))))))))
        · replace h:=h.2 hp5;refine rp_q (yak rfl (yal rfl (zF hp5))) rfl rfl (yat (vs:=[(ii d),(.slice Ad ld cd)]) H3 underlying24 rfl yaM ⟨Row.cell (hS.bx 1 rfl) (i:=0) rfl,Row.cell (hS.bx 1 rfl) (i:=1) rfl,trivial⟩) (rp_q (yak rfl (yal rfl (zF hp5))) rfl rfl (yac H2) (rp_q (yak rfl (yal rfl (zF hp5))) rfl rfl (yac H7) (rp_q (yak rfl (yal rfl (zF hp5))) rfl rfl (zi underlying33 yai (yaK (hS.rdr 0 rfl) hx3)) (rp_q (yak rfl (yal rfl (zF hp5))) rfl rfl (yay (v:=(ii (gi a v.toNat))) rfl underlying3 rfl (rd_1 (hS.rdr 0 rfl) hx3 (fun q=>yaQ q) rfl)) ?_))));refine rp_q (yak rfl (yal rfl (zF hp5))) rfl rfl (yac H1) (rp_n (yak rfl (yal rfl (zF hp5))) rfl rfl rfl (yam rfl (am2 rfl rfl) enter_185 ((pok_r44_At h (yaO _) (hS.rdr 2 rfl)).mono ?_)));rintro _ w8 ⟨r4,rfl,hC,h⟩;replace hS:=hS.pur hC.pure;clear hC;refine ⟨_,rfl,?_⟩;refine ⟨⟨fun _=>(yac H1),⟨fun hh=>zZ hh,⟨fun hh=>zZ hh,⟨fun hh=>zZ hh,⟨fun hh=>zZ hh,⟨fun hh=>zZ hh,⟨fun hh=>zZ hh,⟨fun hh=>zZ hh,⟨fun hh=>zZ hh,⟨fun hh=>zZ hh,⟨fun hh=>zZ hh,⟨fun hh=>zZ hh,⟨fun hh=>zZ hh,⟨fun hh=>zZ hh,⟨fun hh=>zZ hh,⟨fun hh=>zZ hh,⟨fun hh=>zZ hh,⟨fun hh=>zZ hh,⟨fun hh=>zZ hh,⟨fun hh=>zZ hh,trivial⟩⟩⟩⟩⟩⟩⟩⟩⟩⟩⟩⟩⟩⟩⟩⟩⟩⟩⟩⟩,?_⟩;refine rp_q (yak rfl (yal rfl (zF hp5))) rfl rfl zN (zp (yaw (v:=(.bool (!(decide (r4=i))))) (zF hp5) rfl) (ybl ?_));by_cases hp6:r4=i
          · replace h:=h.1 hp6;exact ze hp6 (yae (j _ _ _ ⟨h,rfl,H1,H2,H3,H7,(hS.sel [0,1,2])⟩))
          · replace h:=h.2 hp6;exact zf hp6 (zs (zQ (ii 2) (yaa (yaf rfl rfl ⟨_,rfl,(hS.sel []),h⟩))))
    · replace h:=h.2 hp2;refine zd hp2 (yaC rfl (yad (zs (zQ (ii 1) (yaa (yah ?_))))));obtain ⟨I3,⟨m0,h0⟩,hr⟩:=h;refine yaE (fun m E ds w'=>∃ v2,I3 m v2∧ds=[]∧E 2=(Value.slice Aa la ca)∧E 8=(ii v2)∧Sep w no O w' (rl [Res.ro (FP.sl cI Aa la ca a)])) m0 ⟨_,h0,rfl,H2,rfl,(hS.sel [0])⟩ ?_;clear h0 hS;rintro m4 E ds w9 ⟨v2,h,rfl,H2,H8,hS⟩ again2;replace h:=hr m4 v2 h;clear hr;refine yad (zs (zq (yac H8) (zq (yac H2) (zq (yaF (n:=a.length) rfl underlying33 (yaD (hS.rdr 0 rfl))) (zq zL (yaa ?_))))));by_cases hp7:v2<(a.length:Int)
      · replace h:=h.1 hp7;refine zc hp7 (yae (yad (yah (yad (ybi [0,1,2,3,4,5,6,7] st0 yav (by kernel_rfl) (by kernel_rfl) ?_)))));replace hS:=hS.drew;refine zp (yac H2) (zp (yac H8) ?_);obtain ⟨hx4,h⟩:=h;refine zp (zi underlying33 yai (yaK (hS.rdr 0 rfl) hx4)) (zp (yay (v:=(ii (gi a v2.toNat))) rfl underlying3 rfl (rd_1 (hS.rdr 0 rfl) hx4 (fun q=>yaQ q) rfl)) ?_);refine zp (yac H2) ?_;obtain ⟨hx5,h⟩:=h;refine zp (zi underlying33 yai (yaK (hS.rdr 0 rfl) hx5)) (zp (yay (v:=(ii (gi a (0:Int).toNat))) rfl underlying3 rfl (rd_1 (hS.rdr 0 rfl) hx5 (fun q=>yaQ q) rfl)) ?_);refine zp zL (ybl ?_);by_cases hp8:(gi a v2.toNat)<(gi a (0:Int).toNat)
        · replace h:=h.1 hp8;exact zc hp8 (zs (zQ (ii 9) (yaa (yaf rfl rfl ⟨_,rfl,(hS.sel []),h⟩))))
        · replace h:=h.2 hp8;refine zd hp8 (yae (yaj (zr (zq (yac H8) ?_))));obtain ⟨hi2,h⟩:=h;refine zq (zA hi2) (zQ (ii (v2+1)) (yaa ?_));obtain ⟨mq,hlt,h⟩:=h;exact again2 mq _ _ _ ⟨_,h,rfl,H2,rfl,(hS.sel [0])⟩ hlt
      · replace h:=h.2 hp7;exact zd hp7 (yaC rfl (zs (zQ (ii 0) (yaa (yaf rfl rfl ⟨_,rfl,(hS.sel []),h⟩)))))
  · replace h:=h.2 hp;exact zf hp (zs (zQ (ii 8) (yaa (yaf rfl rfl ⟨_,rfl,(hS.sel []),h⟩))))
def yd2(r:Int)(r2:List E3)(r3:List (List Int))(R:Int→Prop):Prop :=
ydL r r2 (fun r4 =>
((r4=0 →
(((r3.length:Int)=r →
(∃ I2:Nat→Int→Prop,(∃ m0,I2 m0 0)∧∀ m2 v,I2 m2 v → 
((v<r →
((0≤v∧v<(r3.length:Int)) ∧
ydF r r2 v (gx r3 v.toNat) (fun r5 =>
((r5=0 →
(In64 (v+1) ∧
∃ m3,m3<m2∧I2 m3 (v+1))) ∧
(¬(r5=0) →
R r5))))) ∧
(¬(v<r) →
R 0)))) ∧
(¬((r3.length:Int)=r) →
R 8))) ∧
(¬(r4=0) →
R r4)))
theorem pok_r44_Check{O:Nat→Prop}{w:World}{r r2 r3 Ar lr cr Ar2 lr2 cr2}{R:Int→Prop}(h:yd2 r r2 r3 R)(hO:∀ k,O k→k<w.heap.size)(hA0:(FP.sl c3 Ar lr cr r2).P O w)(hA1:(FP.sl (cL cI) Ar2 lr2 cr2 r3).P O w) :
    Calls Tryz.prog 87 #[(.agg #[(ii r),(.slice Ar lr cr),(.slice Ar2 lr2 cr2)])] w fun e w'=>∃ r6,e = .returned (ii r6)∧Sep w no O w' (rl [])∧R r6:=by
  unfold yd2 at h;have hS:Sep w no O w (rl [Res.ro (FP.sl c3 Ar lr cr r2),Res.ro (FP.sl (cL cI) Ar2 lr2 cr2 r3)]):=Sep.startl hO [(FP.sl c3 Ar lr cr r2),(FP.sl (cL cI) Ar2 lr2 cr2 r3)] ⟨hA0,hA1,trivial⟩;refine yao (l:=[(.agg #[(ii r),(.slice Ar lr cr),(.slice Ar2 lr2 cr2)])]) func87 rfl ntmps87 zY (zs (zn (ybH (v:=(.agg #[(ii r),(.slice Ar lr cr),(.slice Ar2 lr2 cr2)])) rfl ?_)));intro g w2 hN;replace hS:Sep w no O w2 (stl _ 2 (Res.box 45 g [(ii r),(.slice Ar lr cr),(.slice Ar2 lr2 cr2)])):=hS.new 2 rfl hN;clear hN;refine zb (zQ (ii 0) (yaa (yad (zs (zq (yab rfl underlying45 rfl yaM) (zq (yat (vs:=[(ii r),(.slice Ar lr cr)]) rfl underlying24 rfl yaM ⟨Row.cell (hS.bx 2 rfl) (i:=0) rfl,Row.cell (hS.bx 2 rfl) (i:=1) rfl,trivial⟩) (zn (yam rfl (am1 rfl) enter_137 ((pok_r13_Joined h (yaO _) (hS.rdr 0 rfl)).mono ?_)))))))));rintro _ w3 ⟨r4,rfl,hC,h⟩;replace hS:=hS.pur hC.pure;clear hC;refine ⟨_,rfl,?_⟩;refine zb (zQ (ii r4) (yaa (zs (zM (ii r4) (zq zN (yaa ?_))))));by_cases hp:r4=0
  · replace h:=h.1 hp;refine ze hp (yae (yad (zs (zq (yab rfl underlying45 rfl ybf) (zq (zl underlying43 (Row.cell (hS.bx 2 rfl) (i:=2) rfl)) (zq (yaF (n:=r3.length) rfl underlying43 (yaD (hS.rdr 1 rfl))) (zq (yab rfl underlying45 rfl yaM) (zq (yab rfl underlying24 rfl yai) (zq (zl underlying3 (Row.cell (hS.bx 2 rfl) (i:=0) rfl)) (zq zN (yaa ?_)))))))))));by_cases hp2:(r3.length:Int)=r
    · replace h:=h.1 hp2;refine ze hp2 (yae (yad (zs (zQ (ii 0) (yaa (yah ?_))))));obtain ⟨I2,⟨m0,h0⟩,hr⟩:=h;refine yaE (fun m E ds w'=>∃ v,I2 m v∧ds=[]∧E 1=(Value.pointer (some ⟨g,0,none⟩))∧E 4=(ii v)∧Sep w no O w' (rl [Res.box 45 g [(ii r),(.slice Ar lr cr),(.slice Ar2 lr2 cr2)],Res.ro (FP.sl c3 Ar lr cr r2),Res.ro (FP.sl (cL cI) Ar2 lr2 cr2 r3)])) m0 ⟨_,h0,rfl,rfl,rfl,(hS.sel [2,0,1])⟩ ?_;clear h0 hS;rintro m2 E ds w4 ⟨v,h,rfl,H1,H4,hS⟩ ag;replace h:=hr m2 v h;clear hr;refine yad (zs (zq (yac H4) (zq (yab H1 underlying45 rfl yaM) (zq (yab rfl underlying24 rfl yai) (zq (zl underlying3 (Row.cell (hS.bx 0 rfl) (i:=0) rfl)) (zq zL (yaa ?_)))))));by_cases hp3:v<r
      · replace h:=h.1 hp3;refine zc hp3 (yae (yad (yah (yad (ybi [0,1,2,3,4,5,6,7,8,9] st0 yav (by kernel_rfl) (by kernel_rfl) ?_)))));replace hS:=hS.drew;refine zp (yab H1 underlying45 rfl yaM) (zp (yat (vs:=[(ii r),(.slice Ar lr cr)]) rfl underlying24 rfl yaM ⟨Row.cell (hS.bx 0 rfl) (i:=0) rfl,Row.cell (hS.bx 0 rfl) (i:=1) rfl,trivial⟩) (zp (yac H4) (zp (yab H1 underlying45 rfl ybf) (zp (zl underlying43 (Row.cell (hS.bx 0 rfl) (i:=2) rfl)) (zp (yac H4) ?_)))));obtain ⟨hx,h⟩:=h;refine zp (zi underlying43 yaL (yaK (hS.rdr 2 rfl) hx)) ?_;obtain ⟨A,l,c,hc,hq⟩:=hS.el 2 rfl hx 3 4 rfl rfl (by decide);replace hS:=hq;clear hq;refine zp (yay (v:=(.slice A l c)) rfl underlying33 rfl (hS.clr 4 rfl)) (rp_n rfl rfl rfl rfl (yam rfl (am3 rfl rfl rfl) enter_138 ((pok_r44_around h (yaO _) (hS.rdr 1 rfl) (hS.rdr 3 rfl)).mono ?_)));rintro _ w5 ⟨r5,rfl,hC,h⟩;replace hS:=hS.pur hC.pure;clear hC;refine ⟨_,rfl,?_⟩;refine zb (zp (za (ii r5)) (ybl (zs (zM (ii r5) (zq zN (yaa ?_))))));by_cases hp4:r5=0
        · replace h:=h.1 hp4;refine ze hp4 (yae (yaj (zr (zq (yac H4) ?_))));obtain ⟨hi,h⟩:=h;refine zq (zA hi) (zQ (ii (v+1)) (yaa ?_));obtain ⟨mq,hlt,h⟩:=h;exact ag mq _ _ _ ⟨_,h,rfl,H1,rfl,(hS.sel [0,1,2])⟩ hlt
        · replace h:=h.2 hp4;exact zf hp4 (zs (zM (ii r5) (zQ (ii r5) (yaa (yaf rfl rfl ⟨_,rfl,(hS.sel []),h⟩)))))
      · replace h:=h.2 hp3;exact zd hp3 (yaC rfl (zs (zQ (ii 0) (yaa (yaf rfl rfl ⟨_,rfl,(hS.sel []),h⟩)))))
    · replace h:=h.2 hp2;exact zf hp2 (zs (zQ (ii 8) (yaa (yaf rfl rfl ⟨_,rfl,(hS.sel []),h⟩))))
  · replace h:=h.2 hp;exact zf hp (zs (zM (ii r4) (zQ (ii r4) (yaa (yaf rfl rfl ⟨_,rfl,(hS.sel []),h⟩)))))
def ydZ(d:Int)(d2:List E3)(d3:List (List Int))(i:Int)(a:List Int)(R:Int→Prop):Prop :=
yd2 d d2 d3 (fun r =>
((r=0 →
ycD d d2 i (fun r2 =>
((r2=true →
(((a.length:Int)=d →
(∃ I2:Nat→Int→Prop,(∃ m0,I2 m0 0)∧∀ m2 v,I2 m2 v → 
((v<(a.length:Int) →
((0≤v∧v<(a.length:Int)) ∧
(((gi a v.toNat)<0 →
R 2) ∧
(¬((gi a v.toNat)<0) →
((v=i →
(((gi a v.toNat)=0 →
(In64 (v+1) ∧
∃ m3,m3<m2∧I2 m3 (v+1))) ∧
(¬((gi a v.toNat)=0) →
R 2))) ∧
(¬(v=i) →
((0≤v∧v<(d3.length:Int)) ∧
((((gx d3 v.toNat).length:Int)≤(gi a v.toNat) →
R 2) ∧
(¬(((gx d3 v.toNat).length:Int)≤(gi a v.toNat)) →
(In64 (v+1) ∧
∃ m4,m4<m2∧I2 m4 (v+1))))))))))) ∧
(¬(v<(a.length:Int)) →
R 0)))) ∧
(¬((a.length:Int)=d) →
R 8))) ∧
(¬(r2=true) →
R 2)))) ∧
(¬(r=0) →
R r)))
theorem pok_r45_Check{O:Nat→Prop}{w:World}{d d2 d3 i a Ad ld cd Ad2 ld2 cd2 Aa la ca}{R:Int→Prop}(h:ydZ d d2 d3 i a R)(hO:∀ k,O k→k<w.heap.size)(hA0:(FP.sl c3 Ad ld cd d2).P O w)(hA1:(FP.sl (cL cI) Ad2 ld2 cd2 d3).P O w)(hA2:(FP.sl cI Aa la ca a).P O w) :
    Calls Tryz.prog 43 #[(.agg #[(ii d),(.slice Ad ld cd),(.slice Ad2 ld2 cd2)]),(ii i),(.slice Aa la ca)] w fun e w'=>∃ r3,e = .returned (ii r3)∧Sep w no O w' (rl [])∧R r3:=by
  unfold ydZ at h;have hS:Sep w no O w (rl [Res.ro (FP.sl c3 Ad ld cd d2),Res.ro (FP.sl (cL cI) Ad2 ld2 cd2 d3),Res.ro (FP.sl cI Aa la ca a)]):=Sep.startl hO [(FP.sl c3 Ad ld cd d2),(FP.sl (cL cI) Ad2 ld2 cd2 d3),(FP.sl cI Aa la ca a)] ⟨hA0,hA1,hA2,trivial⟩;refine yao (l:=[(.agg #[(ii d),(.slice Ad ld cd),(.slice Ad2 ld2 cd2)]),(ii i),(.slice Aa la ca)]) func43 rfl ntmps43 zY (zs (zn (ybH (v:=(.agg #[(ii d),(.slice Ad ld cd),(.slice Ad2 ld2 cd2)])) rfl ?_)));intro g w2 hN;replace hS:Sep w no O w2 (stl _ 3 (Res.box 45 g [(ii d),(.slice Ad ld cd),(.slice Ad2 ld2 cd2)])):=hS.new 3 rfl hN;clear hN;refine zb (zQ (ii 0) (yaa (yad (zs (zq (yat (vs:=[(ii d),(.slice Ad ld cd),(.slice Ad2 ld2 cd2)]) rfl underlying45 rfl ydM ⟨Row.cell (hS.bx 3 rfl) (i:=0) rfl,Row.cell (hS.bx 3 rfl) (i:=1) rfl,Row.cell (hS.bx 3 rfl) (i:=2) rfl,trivial⟩) (zn (yam rfl (am1 rfl) enter_87 ((pok_r44_Check h (yaO _) (hS.rdr 0 rfl) (hS.rdr 1 rfl)).mono ?_))))))));rintro _ w3 ⟨r,rfl,hC,h⟩;replace hS:=hS.pur hC.pure;clear hC;refine ⟨_,rfl,?_⟩;refine zb (zQ (ii r) (yaa (zs (zM (ii r) (zq zN (yaa ?_))))));by_cases hp:r=0
  · replace h:=h.1 hp;refine ze hp (yae (yad (zs (zq (yab rfl underlying45 rfl yaM) (zq (yat (vs:=[(ii d),(.slice Ad ld cd)]) rfl underlying24 rfl yaM ⟨Row.cell (hS.bx 3 rfl) (i:=0) rfl,Row.cell (hS.bx 3 rfl) (i:=1) rfl,trivial⟩) (zM (ii i) (zn (yam rfl (am2 rfl rfl) enter_88 ((yeX h (yaO _) (hS.rdr 0 rfl)).mono ?_)))))))));rintro _ w4 ⟨r2,rfl,hC,h⟩;replace hS:=hS.pur hC.pure;clear hC;refine ⟨_,rfl,?_⟩;refine zb (zq (ydX rfl) (yaa ?_));by_cases hp2:r2=true
    · replace h:=h.1 hp2;refine yaA (zC (zB hp2)) (yae (yad (zs (zM (.slice Aa la ca) (zq (yaF (n:=a.length) rfl underlying33 (yaD (hS.rdr 2 rfl))) (zq (yab rfl underlying45 rfl yaM) (zq (yab rfl underlying24 rfl yai) (zq (zl underlying3 (Row.cell (hS.bx 3 rfl) (i:=0) rfl)) (zq zN (yaa ?_))))))))));by_cases hp3:(a.length:Int)=d
      · replace h:=h.1 hp3;refine ze hp3 (yae (yad (zs (zQ (ii 0) (yaa (yah ?_))))));obtain ⟨I2,⟨m0,h0⟩,hr⟩:=h;refine yaE (fun m E ds w'=>∃ v,I2 m v∧ds=[]∧E 1=(ii i)∧E 2=(Value.slice Aa la ca)∧E 3=(Value.pointer (some ⟨g,0,none⟩))∧E 8=(ii v)∧Sep w no O w' (rl [Res.ro (FP.sl cI Aa la ca a),Res.box 45 g [(ii d),(.slice Ad ld cd),(.slice Ad2 ld2 cd2)],Res.ro (FP.sl c3 Ad ld cd d2),Res.ro (FP.sl (cL cI) Ad2 ld2 cd2 d3)])) m0 ⟨_,h0,rfl,rfl,rfl,rfl,rfl,(hS.sel [2,3,0,1])⟩ ?_;clear h0 hS;rintro m2 E ds w5 ⟨v,h,rfl,H1,H2,H3,H8,hS⟩ ag;replace h:=hr m2 v h;clear hr;refine yad (zs (zq (yac H8) (zq (yac H2) (zq (yaF (n:=a.length) rfl underlying33 (yaD (hS.rdr 0 rfl))) (zq zL (yaa ?_))))));by_cases hp4:v<(a.length:Int)
        · replace h:=h.1 hp4;refine zc hp4 (yae (yad (yah (yad (ybi [0,1,2,3,4,5,6,7,8,9,10,11,12,13,14,15,16,17,18,19,20,21,22,23,24,25,26,27,28,29,30,31,32,33,34] st0 yav (by kernel_rfl) (by kernel_rfl) ?_)))));replace hS:=hS.drew;refine zp (yac H2) (zp (yac H8) ?_);obtain ⟨hx,h⟩:=h;refine zp (zi underlying33 yai (yaK (hS.rdr 0 rfl) hx)) (zp (yay (v:=(ii (gi a v.toNat))) rfl underlying3 rfl (rd_1 (hS.rdr 0 rfl) hx (fun q=>yaQ q) rfl)) ?_);refine zp zL (zp (zm (.bool (decide ((gi a v.toNat)<0)))) ?_);by_cases hp5:(gi a v.toNat)<0
          · replace h:=h.1 hp5;exact rp_p (yag rfl (yal rfl (zT hp5)) rfl) rfl (rp_p (yag rfl (yal rfl (zT hp5)) rfl) rfl (rp_p (yag rfl (yal rfl (zT hp5)) rfl) rfl (rp_p (yag rfl (yal rfl (zT hp5)) rfl) rfl (rp_p (yaN rfl rfl) rfl (rp_p (yaN rfl rfl) rfl (rp_p (yaN rfl rfl) rfl (rp_p (yaN rfl rfl) rfl (rp_p (yaN rfl rfl) rfl (rp_p (yag rfl (yal rfl (zT hp5)) rfl) rfl (zp (yaq (v:=(.bool (true))) (zT hp5) rfl) (zp (zm (.bool (true))) (rp_p (yag rfl (yal rfl rfl) rfl) rfl (rp_p (yag rfl (yal rfl rfl) rfl) rfl (rp_p (yag rfl (yal rfl rfl) rfl) rfl (rp_p (yag rfl (yal rfl rfl) rfl) rfl (rp_p (yaN rfl rfl) rfl (rp_p (yaN rfl rfl) rfl (rp_p (yaN rfl rfl) rfl (rp_p (yaN rfl rfl) rfl (rp_p (yaN rfl rfl) rfl (rp_p (yaN rfl rfl) rfl (rp_p (yaN rfl rfl) rfl (rp_p (yaN rfl rfl) rfl (rp_p (yaN rfl rfl) rfl (rp_p (yaN rfl rfl) rfl (rp_p (yaN rfl rfl) rfl (rp_p (yag rfl (yal rfl rfl) rfl) rfl (zp (yaq (v:=(.bool (true))) rfl rfl) (ybl (yar rfl (zs (zQ (ii 2) (yaa (yaf rfl rfl ⟨_,rfl,(hS.sel []),h⟩))))))))))))))))))))))))))))))))))
          · replace h:=h.2 hp5;refine rp_q (yak rfl (yal rfl (zF hp5))) rfl rfl (yac H8) (rp_q (yak rfl (yal rfl (zF hp5))) rfl rfl (yac H1) (rp_q (yak rfl (yal rfl (zF hp5))) rfl rfl zE (rp_q (yak rfl (yal rfl (zF hp5))) rfl rfl (zm (.bool (decide (v=i)))) ?_)));by_cases hp6:v=i
            · replace h:=h.1 hp6;refine rp_q (yak rfl (yal rfl (zT hp6))) rfl rfl (yac H2) (rp_q (yak rfl (yal rfl (zT hp6))) rfl rfl (yac H8) (rp_q (yak rfl (yal rfl (zT hp6))) rfl rfl (zi underlying33 yai (yaK (hS.rdr 0 rfl) hx)) (rp_q (yak rfl (yal rfl (zT hp6))) rfl rfl (yay (v:=(ii (gi a v.toNat))) rfl underlying3 rfl (rd_1 (hS.rdr 0 rfl) hx (fun q=>yaQ q) rfl)) ?_)));refine rp_q (yak rfl (yal rfl (zT hp6))) rfl rfl zN (rp_q (yak rfl (yal rfl (zF hp5))) rfl rfl (yaq (v:=(.bool (!(decide ((gi a v.toNat)=0))))) (zT hp6) rfl) (zp (yaw (v:=(.bool (!(decide ((gi a v.toNat)=0))))) (zF hp5) rfl) (zp (zm (.bool (!(decide ((gi a v.toNat)=0))))) ?_)));by_cases hp7:(gi a v.toNat)=0
              · replace h:=h.1 hp7;refine rp_q (yak rfl (yal rfl (zC (zB (decide_eq_true hp7))))) rfl rfl (yac H8) (rp_q (yak rfl (yal rfl (zC (zB (decide_eq_true hp7))))) rfl rfl (yac H1) (rp_q (yak rfl (yal rfl (zC (zB (decide_eq_true hp7))))) rfl rfl zN (rp_q (yak rfl (yal rfl (zC (zB (decide_eq_true hp7))))) rfl rfl (zm (.bool (!(decide (v=i))))) (rp_p (yag rfl (yal rfl (zC (zB (decide_eq_true hp6)))) rfl) rfl (rp_p (yag rfl (yal rfl (zC (zB (decide_eq_true hp6)))) rfl) rfl (rp_p (yag rfl (yal rfl (zC (zB (decide_eq_true hp6)))) rfl) rfl (rp_p (yag rfl (yal rfl (zC (zB (decide_eq_true hp6)))) rfl) rfl (rp_p (yag rfl (yal rfl (zC (zB (decide_eq_true hp6)))) rfl) rfl (rp_p (yag rfl (yal rfl (zC (zB (decide_eq_true hp6)))) rfl) rfl (rp_p (yag rfl (yal rfl (zC (zB (decide_eq_true hp6)))) rfl) rfl (rp_p (yag rfl (yal rfl (zC (zB (decide_eq_true hp6)))) rfl) rfl (rp_p (yag rfl (yal rfl (zC (zB (decide_eq_true hp6)))) rfl) rfl (rp_p (yag rfl (yal rfl (zC (zB (decide_eq_true hp6)))) rfl) rfl (rp_p (yag rfl (yal rfl (zC (zB (decide_eq_true hp6)))) rfl) rfl (rp_q (yak rfl (yal rfl (zC (zB (decide_eq_true hp7))))) rfl rfl (yaw (v:=(.bool (false))) (zC (zB (decide_eq_true hp6))) rfl) (zp (yaw (v:=(.bool (false))) (zC (zB (decide_eq_true hp7))) rfl) (ybl (yaA rfl (yae (yaj (zr (zq (yac H8) ?_))))))))))))))))))))));obtain ⟨hi,h⟩:=h;refine zq (zA hi) (zQ (ii (v+1)) (yaa ?_));obtain ⟨mq,hlt,h⟩:=h;exact ag mq _ _ _ ⟨_,h,rfl,H1,H2,H3,rfl,(hS.sel [0,1,2,3])⟩ hlt
              · replace h:=h.2 hp7;exact rp_p (yag rfl (yal rfl (zC (zB (decide_eq_false hp7)))) rfl) rfl (rp_p (yag rfl (yal rfl (zC (zB (decide_eq_false hp7)))) rfl) rfl (rp_p (yag rfl (yal rfl (zC (zB (decide_eq_false hp7)))) rfl) rfl (rp_p (yag rfl (yal rfl (zC (zB (decide_eq_false hp7)))) rfl) rfl (rp_p (yaN rfl rfl) rfl (rp_p (yaN rfl rfl) rfl (rp_p (yaN rfl rfl) rfl (rp_p (yaN rfl rfl) rfl (rp_p (yaN rfl rfl) rfl (rp_p (yaN rfl rfl) rfl (rp_p (yaN rfl rfl) rfl (rp_p (yaN rfl rfl) rfl (rp_p (yaN rfl rfl) rfl (rp_p (yaN rfl rfl) rfl (rp_p (yaN rfl rfl) rfl (rp_p (yag rfl (yal rfl (zC (zB (decide_eq_false hp7)))) rfl) rfl (zp (yaq (v:=(.bool (true))) (zC (zB (decide_eq_false hp7))) rfl) (ybl (yar rfl (zs (zQ (ii 2) (yaa (yaf rfl rfl ⟨_,rfl,(hS.sel []),h⟩))))))))))))))))))))))
            · replace h:=h.2 hp6;refine rp_p (yag rfl (yal rfl (zF hp6)) rfl) rfl (rp_p (yag rfl (yal rfl (zF hp6)) rfl) rfl (rp_p (yag rfl (yal rfl (zF hp6)) rfl) rfl (rp_p (yag rfl (yal rfl (zF hp6)) rfl) rfl (rp_p (yag rfl (yal rfl (zF hp6)) rfl) rfl (rp_q (yak rfl (yal rfl (zF hp5))) rfl rfl (yaw (v:=(.bool (false))) (zF hp6) rfl) (zp (yaw (v:=(.bool (false))) (zF hp5) rfl) (zp (zm (.bool (false))) (rp_q (yak rfl (yal rfl rfl)) rfl rfl (yac H8) (rp_q (yak rfl (yal rfl rfl)) rfl rfl (yac H1) (rp_q (yak rfl (yal rfl rfl)) rfl rfl zN (rp_q (yak rfl (yal rfl rfl)) rfl rfl (zm (.bool (!(decide (v=i))))) (rp_q (yak rfl (yal rfl (zC (zB (decide_eq_false hp6))))) rfl rfl (yac H2) (rp_q (yak rfl (yal rfl (zC (zB (decide_eq_false hp6))))) rfl rfl (yac H8) (rp_q (yak rfl (yal rfl (zC (zB (decide_eq_false hp6))))) rfl rfl (zi underlying33 yai (yaK (hS.rdr 0 rfl) hx)) (rp_q (yak rfl (yal rfl (zC (zB (decide_eq_false hp6))))) rfl rfl (yay (v:=(ii (gi a v.toNat))) rfl underlying3 rfl (rd_1 (hS.rdr 0 rfl) hx (fun q=>yaQ q) rfl)) ?_)))))))))))))));refine rp_q (yak rfl (yal rfl (zC (zB (decide_eq_false hp6))))) rfl rfl (yab H3 underlying45 rfl ybf) (rp_q (yak rfl (yal rfl (zC (zB (decide_eq_false hp6))))) rfl rfl (zl underlying43 (Row.cell (hS.bx 1 rfl) (i:=2) rfl)) (rp_q (yak rfl (yal rfl (zC (zB (decide_eq_false hp6))))) rfl rfl (yac H8) ?_));obtain ⟨hx2,h⟩:=h;refine rp_q (yak rfl (yal rfl (zC (zB (decide_eq_false hp6))))) rfl rfl (zi underlying43 yaL (yaK (hS.rdr 3 rfl) hx2)) ?_;obtain ⟨A,l,c,hc,hq⟩:=hS.el 3 rfl hx2 4 5 rfl rfl (by decide);replace hS:=hq;clear hq;refine rp_q (yak rfl (yal rfl (zC (zB (decide_eq_false hp6))))) rfl rfl (yay (v:=(.slice A l c)) rfl underlying33 rfl (hS.clr 5 rfl)) (rp_q (yak rfl (yal rfl (zC (zB (decide_eq_false hp6))))) rfl rfl (yaF (n:=(gx d3 v.toNat).length) rfl underlying33 (yaD (hS.rdr 4 rfl))) (rp_q (yak rfl (yal rfl (zC (zB (decide_eq_false hp6))))) rfl rfl (yfy rfl rfl) (rp_q (yak rfl (yal rfl rfl)) rfl rfl (yaq (v:=(.bool (decide (((gx d3 v.toNat).length:Int)≤(gi a v.toNat))))) (zC (zB (decide_eq_false hp6))) rfl) (zp (yaw (v:=(.bool (decide (((gx d3 v.toNat).length:Int)≤(gi a v.toNat))))) rfl rfl) (ybl ?_)))));by_cases hp8:((gx d3 v.toNat).length:Int)≤(gi a v.toNat)
              · replace h:=h.1 hp8;exact zc hp8 (zs (zQ (ii 2) (yaa (yaf rfl rfl ⟨_,rfl,(hS.sel []),h⟩))))
              · replace h:=h.2 hp8;refine zd hp8 (yae (yaj (zr (zq (yac H8) ?_))));obtain ⟨hi2,h⟩:=h;refine zq (zA hi2) (zQ (ii (v+1)) (yaa ?_));obtain ⟨mq,hlt,h⟩:=h;exact ag mq _ _ _ ⟨_,h,rfl,H1,H2,H3,rfl,(hS.sel [0,1,2,3])⟩ hlt
        · replace h:=h.2 hp4;exact zd hp4 (yaC rfl (zs (zQ (ii 0) (yaa (yaf rfl rfl ⟨_,rfl,(hS.sel []),h⟩)))))
      · replace h:=h.2 hp3;exact zf hp3 (zs (zQ (ii 8) (yaa (yaf rfl rfl ⟨_,rfl,(hS.sel []),h⟩))))
    · replace h:=h.2 hp2;exact yar (zC (zB (zI hp2))) (zs (zQ (ii 2) (yaa (yaf rfl rfl ⟨_,rfl,(hS.sel []),h⟩))))
  · replace h:=h.2 hp;exact zf hp (zs (zM (ii r) (zQ (ii r) (yaa (yaf rfl rfl ⟨_,rfl,(hS.sel []),h⟩)))))
def yeM(r:Int)(r2:List E3)(r3:List (List Int))(q:Int)(d:List Int)(R:Int→Prop):Prop :=
yd3 d r (fun r4 =>
((r4=0 →
(∃ I2:Nat→Int→Prop,(∃ m0,I2 m0 0)∧∀ m2 v,I2 m2 v → 
((v<(d.length:Int) →
((v=q →
(In64 (v+1) ∧
∃ m3,m3<m2∧I2 m3 (v+1))) ∧
(¬(v=q) →
((0≤v∧v<(d.length:Int)) ∧
(((gi d v.toNat)<0 →
R 2) ∧
(¬((gi d v.toNat)<0) →
(In64 (v+1) ∧
∃ m4,m4<m2∧I2 m4 (v+1)))))))) ∧
(¬(v<(d.length:Int)) →
R 0)))) ∧
(¬(r4=0) →
R r4)))
theorem pok_r45_chips{O:Nat→Prop}{w:World}{r r2 r3 q d Ar lr cr Ar2 lr2 cr2 Ad ld cd}{R:Int→Prop}(h:yeM r r2 r3 q d R)(hO:∀ k,O k→k<w.heap.size)(hA0:(FP.sl c3 Ar lr cr r2).P O w)(hA1:(FP.sl (cL cI) Ar2 lr2 cr2 r3).P O w)(hA2:(FP.sl cI Ad ld cd d).P O w) :
    Calls Tryz.prog 44 #[(.agg #[(ii r),(.slice Ar lr cr),(.slice Ar2 lr2 cr2)]),(ii q),(.slice Ad ld cd)] w fun e w'=>∃ r5,e = .returned (ii r5)∧Sep w no O w' (rl [])∧R r5:=by
  unfold yeM at h;have hS:Sep w no O w (rl [Res.ro (FP.sl c3 Ar lr cr r2),Res.ro (FP.sl (cL cI) Ar2 lr2 cr2 r3),Res.ro (FP.sl cI Ad ld cd d)]):=Sep.startl hO [(FP.sl c3 Ar lr cr r2),(FP.sl (cL cI) Ar2 lr2 cr2 r3),(FP.sl cI Ad ld cd d)] ⟨hA0,hA1,hA2,trivial⟩;refine yao (l:=[(.agg #[(ii r),(.slice Ar lr cr),(.slice Ar2 lr2 cr2)]),(ii q),(.slice Ad ld cd)]) func44 rfl ntmps44 zY (zs (zn (ybH (v:=(.agg #[(ii r),(.slice Ar lr cr),(.slice Ar2 lr2 cr2)])) rfl ?_)));intro g w2 hN;replace hS:Sep w no O w2 (stl _ 3 (Res.box 45 g [(ii r),(.slice Ar lr cr),(.slice Ar2 lr2 cr2)])):=hS.new 3 rfl hN;clear hN;refine zb (zQ (ii 0) (yaa (yad (zs (zM (.slice Ad ld cd) (zq (yab rfl underlying45 rfl yaM) (zq (yab rfl underlying24 rfl yai) (zq (zl underlying3 (Row.cell (hS.bx 3 rfl) (i:=0) rfl)) (zn (yam rfl (am2 rfl rfl) enter_89 ((pok_r17_Check h (yaO _) (hS.rdr 2 rfl)).mono ?_)))))))))));rintro _ w3 ⟨r4,rfl,hC,h⟩;replace hS:=hS.pur hC.pure;clear hC;refine ⟨_,rfl,?_⟩;refine zb (zQ (ii r4) (yaa (zs (zM (ii r4) (zq zN (yaa ?_))))));by_cases hp:r4=0
  · replace h:=h.1 hp;refine ze hp (yae (yad (zs (zQ (ii 0) (yaa (yah ?_))))));obtain ⟨I2,⟨m0,h0⟩,hr⟩:=h;refine yaE (fun m E ds w'=>∃ v,I2 m v∧ds=[]∧E 1=(ii q)∧E 2=(Value.slice Ad ld cd)∧E 8=(ii v)∧Sep w no O w' (rl [Res.ro (FP.sl cI Ad ld cd d)])) m0 ⟨_,h0,rfl,rfl,rfl,rfl,(hS.sel [2])⟩ ?_;clear h0 hS;rintro m2 E ds w4 ⟨v,h,rfl,H1,H2,H8,hS⟩ ag;replace h:=hr m2 v h;clear hr;refine yad (zs (zq (yac H8) (zq (yac H2) (zq (yaF (n:=d.length) rfl underlying34 (yaD (hS.rdr 0 rfl))) (zq zL (yaa ?_))))));by_cases hp2:v<(d.length:Int)
    · replace h:=h.1 hp2;refine zc hp2 (yae (yad (yah (zs (zq (yac H8) (zq (yac H1) (zq zN (zM (.bool (!(decide (v=q)))) ?_))))))));by_cases hp3:v=q
      · replace h:=h.1 hp3;refine zV rfl rfl (zC (zB (decide_eq_true hp3))) (zV rfl rfl (zC (zB (decide_eq_true hp3))) (zV rfl rfl (zC (zB (decide_eq_true hp3))) (zV rfl rfl (zC (zB (decide_eq_true hp3))) (zV rfl rfl (zC (zB (decide_eq_true hp3))) (zq (yaw (v:=(.bool (false))) (zC (zB (decide_eq_true hp3))) rfl) (yaa (yaA rfl (yae (yaj (zr (zq (yac H8) ?_)))))))))));obtain ⟨hi,h⟩:=h;refine zq (zA hi) (zQ (ii (v+1)) (yaa ?_));obtain ⟨mq,hlt,h⟩:=h;exact ag mq _ _ _ ⟨_,h,rfl,H1,H2,rfl,(hS.sel [0])⟩ hlt
      · replace h:=h.2 hp3;refine zW rfl rfl (zC (zB (decide_eq_false hp3))) (yac H2) (zW rfl rfl (zC (zB (decide_eq_false hp3))) (yac H8) ?_);obtain ⟨hx,h⟩:=h;refine zW rfl rfl (zC (zB (decide_eq_false hp3))) (zi underlying34 yai (yaK (hS.rdr 0 rfl) hx)) (zW rfl rfl (zC (zB (decide_eq_false hp3))) (yay (v:=(ii (gi d v.toNat))) rfl underlying3 rfl (rd_1 (hS.rdr 0 rfl) hx (fun q=>yaQ q) rfl)) ?_);refine zW rfl rfl (zC (zB (decide_eq_false hp3))) zL (zq (yaq (v:=(.bool (decide ((gi d v.toNat)<0)))) (zC (zB (decide_eq_false hp3))) rfl) (yaa ?_));by_cases hp4:(gi d v.toNat)<0
        · replace h:=h.1 hp4;exact zc hp4 (zs (zQ (ii 2) (yaa (yaf rfl rfl ⟨_,rfl,(hS.sel []),h⟩))))
        · replace h:=h.2 hp4;refine zd hp4 (yae (yaj (zr (zq (yac H8) ?_))));obtain ⟨hi2,h⟩:=h;refine zq (zA hi2) (zQ (ii (v+1)) (yaa ?_));obtain ⟨mq,hlt,h⟩:=h;exact ag mq _ _ _ ⟨_,h,rfl,H1,H2,rfl,(hS.sel [0])⟩ hlt
    · replace h:=h.2 hp2;exact zd hp2 (yaC rfl (zs (zQ (ii 0) (yaa (yaf rfl rfl ⟨_,rfl,(hS.sel []),h⟩)))))
  · replace h:=h.2 hp;exact zf hp (zs (zM (ii r4) (zQ (ii r4) (yaa (yaf rfl rfl ⟨_,rfl,(hS.sel []),h⟩)))))
def yd7(r:Int)(r2:List E3)(r3:List (List Int))(q:Int)(rotors:List Int)(d:List Int)(R:Int→Prop):Prop :=
ydZ r r2 r3 q rotors (fun r4 =>
((r4=0 →
yeM r r2 r3 q d (fun r5 =>
R r5)) ∧
(¬(r4=0) →
R r4)))
theorem pok_r45_Given{O:Nat→Prop}{w:World}{r r2 r3 q rotors d Ar lr cr Ar2 lr2 cr2 Aa Ab Ac Ad ld cd}{R:Int→Prop}(h:yd7 r r2 r3 q rotors d R)(hO:∀ k,O k→k<w.heap.size)(hA0:(FP.sl c3 Ar lr cr r2).P O w)(hA1:(FP.sl (cL cI) Ar2 lr2 cr2 r3).P O w)(hA2:(FP.sl cI Aa Ab Ac rotors).P O w)(hA3:(FP.sl cI Ad ld cd d).P O w) :
    Calls Tryz.prog 17 #[(.agg #[(ii r),(.slice Ar lr cr),(.slice Ar2 lr2 cr2)]),(ii q),(.slice Aa Ab Ac),(.slice Ad ld cd)] w fun e w'=>∃ r6,e = .returned (ii r6)∧Sep w no O w' (rl [])∧R r6:=by
  unfold yd7 at h;have hS:Sep w no O w (rl [Res.ro (FP.sl c3 Ar lr cr r2),Res.ro (FP.sl (cL cI) Ar2 lr2 cr2 r3),Res.ro (FP.sl cI Aa Ab Ac rotors),Res.ro (FP.sl cI Ad ld cd d)]):=Sep.startl hO [(FP.sl c3 Ar lr cr r2),(FP.sl (cL cI) Ar2 lr2 cr2 r3),(FP.sl cI Aa Ab Ac rotors),(FP.sl cI Ad ld cd d)] ⟨hA0,hA1,hA2,hA3,trivial⟩;refine yao (l:=[(.agg #[(ii r),(.slice Ar lr cr),(.slice Ar2 lr2 cr2)]),(ii q),(.slice Aa Ab Ac),(.slice Ad ld cd)]) func17 rfl ntmps17 zY (zs (zn (ybH (v:=(.agg #[(ii r),(.slice Ar lr cr),(.slice Ar2 lr2 cr2)])) rfl ?_)));intro g w2 hN;replace hS:Sep w no O w2 (stl _ 4 (Res.box 45 g [(ii r),(.slice Ar lr cr),(.slice Ar2 lr2 cr2)])):=hS.new 4 rfl hN;clear hN;refine zb (zQ (ii 0) (yaa (yad (zs (zq (yat (vs:=[(ii r),(.slice Ar lr cr),(.slice Ar2 lr2 cr2)]) rfl underlying45 rfl ydM ⟨Row.cell (hS.bx 4 rfl) (i:=0) rfl,Row.cell (hS.bx 4 rfl) (i:=1) rfl,Row.cell (hS.bx 4 rfl) (i:=2) rfl,trivial⟩) (zM (ii q) (zM (.slice Aa Ab Ac) (zn (yam rfl (am3 rfl rfl rfl) enter_43 ((pok_r45_Check h (yaO _) (hS.rdr 0 rfl) (hS.rdr 1 rfl) (hS.rdr 2 rfl)).mono ?_))))))))));rintro _ w3 ⟨r4,rfl,hC,h⟩;replace hS:=hS.pur hC.pure;clear hC;refine ⟨_,rfl,?_⟩;refine zb (zQ (ii r4) (yaa (zs (zM (ii r4) (zq zN (yaa ?_))))));by_cases hp:r4=0
  · replace h:=h.1 hp;refine ze hp (yae (zs (zq (yat (vs:=[(ii r),(.slice Ar lr cr),(.slice Ar2 lr2 cr2)]) rfl underlying45 rfl ydM ⟨Row.cell (hS.bx 4 rfl) (i:=0) rfl,Row.cell (hS.bx 4 rfl) (i:=1) rfl,Row.cell (hS.bx 4 rfl) (i:=2) rfl,trivial⟩) (zM (ii q) (zM (.slice Ad ld cd) (zn (yam rfl (am3 rfl rfl rfl) enter_44 ((pok_r45_chips h (yaO _) (hS.rdr 0 rfl) (hS.rdr 1 rfl) (hS.rdr 3 rfl)).mono ?_))))))));rintro _ w4 ⟨r5,rfl,hC,h⟩;replace hS:=hS.pur hC.pure;clear hC;refine ⟨_,rfl,?_⟩;exact zb (zQ (ii r5) (yaa (yaf rfl rfl ⟨_,rfl,(hS.sel []),h⟩)))
  · replace h:=h.2 hp;exact zf hp (zs (zM (ii r4) (zQ (ii r4) (yaa (yaf rfl rfl ⟨_,rfl,(hS.sel []),h⟩)))))
def yd6(d:List Int)(R:Bool→Prop):Prop :=
(∃ I2:Nat→Int→Prop,(∃ m0,I2 m0 0)∧∀ m2 v,I2 m2 v → 
((v<(d.length:Int) →
((0≤v∧v<(d.length:Int)) ∧
(((gi d v.toNat)<(-60) →
R false) ∧
(¬((gi d v.toNat)<(-60)) →
((60<(gi d v.toNat) →
R false) ∧
(¬(60<(gi d v.toNat)) →
(In64 (v+1) ∧
∃ m3,m3<m2∧I2 m3 (v+1)))))))) ∧
(¬(v<(d.length:Int)) →
R true)))
theorem pok_r17_Small{O:Nat→Prop}{w:World}{d Ad ld cd}{R:Bool→Prop}(h:yd6 d R)(hO:∀ k,O k→k<w.heap.size)(hA0:(FP.sl cI Ad ld cd d).P O w) :
    Calls Tryz.prog 18 #[(.slice Ad ld cd)] w fun e w'=>∃ r,e = .returned (.bool (r))∧Sep w no O w' (rl [])∧R r:=by
  unfold yd6 at h;have hS:Sep w no O w (rl [Res.ro (FP.sl cI Ad ld cd d)]):=Sep.startl hO [(FP.sl cI Ad ld cd d)] ⟨hA0,trivial⟩;refine yao (l:=[(.slice Ad ld cd)]) func18 rfl ntmps18 zY (zs (zQ (.bool (false)) (yaa (yad (zs (zQ (ii 0) (yaa (yah ?_))))))));obtain ⟨I2,⟨m0,h0⟩,hr⟩:=h;refine yaE (fun m E ds w'=>∃ v,I2 m v∧ds=[]∧E 0=(Value.slice Ad ld cd)∧E 3=(ii v)∧Sep w no O w' (rl [Res.ro (FP.sl cI Ad ld cd d)])) m0 ⟨_,h0,rfl,rfl,rfl,(hS.sel [0])⟩ ?_;clear h0 hS;rintro m2 E ds w2 ⟨v,h,rfl,H0,H3,hS⟩ ag;replace h:=hr m2 v h;clear hr;refine yad (zs (zq (yac H3) (zq (yac H0) (zq (yaF (n:=d.length) rfl underlying34 (yaD (hS.rdr 0 rfl))) (zq zL (yaa ?_))))));by_cases hp:v<(d.length:Int)
  · replace h:=h.1 hp;refine zc hp (yae (yad (yah (zs (zq (yac H0) (zq (yac H3) ?_))))));obtain ⟨hx,h⟩:=h;refine zq (zi underlying34 yai (yaK (hS.rdr 0 rfl) hx)) (zq (yay (v:=(ii (gi d v.toNat))) rfl underlying3 rfl (rd_1 (hS.rdr 0 rfl) hx (fun q=>yaQ q) rfl)) ?_);refine zq zL (zM (.bool (decide ((gi d v.toNat)<(-60)))) ?_);by_cases hp2:(gi d v.toNat)<(-60)
    · replace h:=h.1 hp2;exact zV rfl rfl (zT hp2) (zV rfl rfl (zT hp2) (zV rfl rfl (zT hp2) (zV rfl rfl (zT hp2) (zV rfl rfl (zT hp2) (zq (yaq (v:=(.bool (true))) (zT hp2) rfl) (yaa (yar rfl (zs (zQ (.bool (false)) (yaa (yaf rfl rfl ⟨_,rfl,(hS.sel []),h⟩)))))))))))
    · replace h:=h.2 hp2;refine zW rfl rfl (zF hp2) (yac H0) (zW rfl rfl (zF hp2) (yac H3) (zW rfl rfl (zF hp2) (zi underlying34 yai (yaK (hS.rdr 0 rfl) hx)) (zW rfl rfl (zF hp2) (yay (v:=(ii (gi d v.toNat))) rfl underlying3 rfl (rd_1 (hS.rdr 0 rfl) hx (fun q=>yaQ q) rfl)) ?_)));refine zW rfl rfl (zF hp2) zG (zq (yaw (v:=(.bool (decide (60<(gi d v.toNat))))) (zF hp2) rfl) (yaa ?_));by_cases hp3:60<(gi d v.toNat)
      · replace h:=h.1 hp3;exact zc hp3 (zs (zQ (.bool (false)) (yaa (yaf rfl rfl ⟨_,rfl,(hS.sel []),h⟩))))
      · replace h:=h.2 hp3;refine zd hp3 (yae (yaj (zr (zq (yac H3) ?_))));obtain ⟨hi,h⟩:=h;refine zq (zA hi) (zQ (ii (v+1)) (yaa ?_));obtain ⟨mq,hlt,h⟩:=h;exact ag mq _ _ _ ⟨_,h,rfl,H0,rfl,(hS.sel [0])⟩ hlt
  · replace h:=h.2 hp;exact zd hp (yaC rfl (zs (zQ (.bool (true)) (yaa (yaf rfl rfl ⟨_,rfl,(hS.sel []),h⟩)))))
def yeO(fates:List Int)(R:Int→Prop):Prop :=
((4096<(fates.length:Int) →
R 5) ∧
(¬(4096<(fates.length:Int)) →
(∃ I2:Nat→Int→Prop,(∃ m0,I2 m0 0)∧∀ m2 i,I2 m2 i → 
((i<(fates.length:Int) →
((0≤i∧i<(fates.length:Int)) ∧
(((gi fates i.toNat)<0 →
R 1) ∧
(¬((gi fates i.toNat)<0) →
((3<(gi fates i.toNat) →
R 1) ∧
(¬(3<(gi fates i.toNat)) →
(In64 (i+1) ∧
∃ m3,m3<m2∧I2 m3 (i+1)))))))) ∧
(¬(i<(fates.length:Int)) →
R 0)))))
theorem pok_r56_Check{O:Nat→Prop}{w:World}{fates Aa Ab Ac}{R:Int→Prop}(h:yeO fates R)(hO:∀ k,O k→k<w.heap.size)(hA0:(FP.sl cI Aa Ab Ac fates).P O w) :
    Calls Tryz.prog 45 #[(.slice Aa Ab Ac)] w fun e w'=>∃ r,e = .returned (ii r)∧Sep w no O w' (rl [])∧R r:=by
  unfold yeO at h;have hS:Sep w no O w (rl [Res.ro (FP.sl cI Aa Ab Ac fates)]):=Sep.startl hO [(FP.sl cI Aa Ab Ac fates)] ⟨hA0,trivial⟩;refine yao (l:=[(.slice Aa Ab Ac)]) func45 rfl ntmps45 zY (zs (zQ (ii 0) (yaa (yad (zs (zM (.slice Aa Ab Ac) (zq (yaF (n:=fates.length) rfl underlying33 (yaD (hS.rdr 0 rfl))) (zq zG (yaa ?_)))))))));by_cases hp:4096<(fates.length:Int)
  · replace h:=h.1 hp;exact zc hp (zs (zQ (ii 5) (yaa (yaf rfl rfl ⟨_,rfl,(hS.sel []),h⟩))))
  · replace h:=h.2 hp;refine zd hp (yae (yad (zs (zQ (ii 0) (yaa (yah ?_))))));obtain ⟨I2,⟨m0,h0⟩,hr⟩:=h;refine yaE (fun m E ds w'=>∃ i,I2 m i∧ds=[]∧E 0=(Value.slice Aa Ab Ac)∧E 3=(ii i)∧Sep w no O w' (rl [Res.ro (FP.sl cI Aa Ab Ac fates)])) m0 ⟨_,h0,rfl,rfl,rfl,(hS.sel [0])⟩ ?_;clear h0 hS;rintro m2 E ds w2 ⟨i,h,rfl,H0,H3,hS⟩ ag;replace h:=hr m2 i h;clear hr;refine yad (zs (zq (yac H3) (zq (yac H0) (zq (yaF (n:=fates.length) rfl underlying33 (yaD (hS.rdr 0 rfl))) (zq zL (yaa ?_))))));by_cases hp2:i<(fates.length:Int)
    · replace h:=h.1 hp2;refine zc hp2 (yae (yad (yah (zs (zq (yac H0) (zq (yac H3) ?_))))));obtain ⟨hx,h⟩:=h;refine zq (zi underlying33 yai (yaK (hS.rdr 0 rfl) hx)) (zq (yay (v:=(ii (gi fates i.toNat))) rfl underlying3 rfl (rd_1 (hS.rdr 0 rfl) hx (fun q=>yaQ q) rfl)) ?_);refine zq zL (zM (.bool (decide ((gi fates i.toNat)<0))) ?_);by_cases hp3:(gi fates i.toNat)<0
      · replace h:=h.1 hp3;exact zV rfl rfl (zT hp3) (zV rfl rfl (zT hp3) (zV rfl rfl (zT hp3) (zV rfl rfl (zT hp3) (zV rfl rfl (zT hp3) (zq (yaq (v:=(.bool (true))) (zT hp3) rfl) (yaa (yar rfl (zs (zQ (ii 1) (yaa (yaf rfl rfl ⟨_,rfl,(hS.sel []),h⟩)))))))))))
      · replace h:=h.2 hp3;refine zW rfl rfl (zF hp3) (yac H0) (zW rfl rfl (zF hp3) (yac H3) (zW rfl rfl (zF hp3) (zi underlying33 yai (yaK (hS.rdr 0 rfl) hx)) (zW rfl rfl (zF hp3) (yay (v:=(ii (gi fates i.toNat))) rfl underlying3 rfl (rd_1 (hS.rdr 0 rfl) hx (fun q=>yaQ q) rfl)) ?_)));refine zW rfl rfl (zF hp3) zG (zq (yaw (v:=(.bool (decide (3<(gi fates i.toNat))))) (zF hp3) rfl) (yaa ?_));by_cases hp4:3<(gi fates i.toNat)
        · replace h:=h.1 hp4;exact zc hp4 (zs (zQ (ii 1) (yaa (yaf rfl rfl ⟨_,rfl,(hS.sel []),h⟩))))
        · replace h:=h.2 hp4;refine zd hp4 (yae (yaj (zr (zq (yac H3) ?_))));obtain ⟨hi,h⟩:=h;refine zq (zA hi) (zQ (ii (i+1)) (yaa ?_));obtain ⟨mq,hlt,h⟩:=h;exact ag mq _ _ _ ⟨_,h,rfl,H0,rfl,(hS.sel [0])⟩ hlt
    · replace h:=h.2 hp2;exact zd hp2 (yaC rfl (zs (zQ (ii 0) (yaa (yaf rfl rfl ⟨_,rfl,(hS.sel []),h⟩)))))
def ybE(l:List Int)(R:Bool→Prop):Prop :=
(((l.length:Int)≤60 →
yeO l (fun r =>
R (decide (r=0)))) ∧
(¬((l.length:Int)≤60) →
R false))
theorem ye5{O:Nat→Prop}{w:World}{l Al ll cl}{R:Bool→Prop}(h:ybE l R)(hO:∀ k,O k→k<w.heap.size)(hA0:(FP.sl cI Al ll cl l).P O w) :
    Calls Tryz.prog 19 #[(.slice Al ll cl)] w fun e w'=>∃ r2,e = .returned (.bool (r2))∧Sep w no O w' (rl [])∧R r2:=by
  unfold ybE at h;have hS:Sep w no O w (rl [Res.ro (FP.sl cI Al ll cl l)]):=Sep.startl hO [(FP.sl cI Al ll cl l)] ⟨hA0,trivial⟩;refine yao (l:=[(.slice Al ll cl)]) func19 rfl ntmps19 zY (zs (zQ (.bool (false)) (yaa (zs (zM (.slice Al ll cl) (zq (yaF (n:=l.length) rfl underlying33 (yaD (hS.rdr 0 rfl))) (zq (v_leq rfl rfl) (zM (.bool (decide ((l.length:Int)≤60))) ?_))))))));by_cases hp:(l.length:Int)≤60
  · replace h:=h.1 hp;refine zW rfl rfl (zT hp) (zm (.slice Al ll cl)) (rl_n (yak rfl (yal rfl (zT hp))) rfl rfl rfl (yam rfl (am1 rfl) enter_45 ((pok_r56_Check h (yaO _) (hS.rdr 0 rfl)).mono ?_)));rintro _ w2 ⟨r,rfl,hC,h⟩;replace hS:=hS.pur hC.pure;clear hC;refine ⟨_,rfl,?_⟩;exact zb (zW rfl rfl (zT hp) zE (zq (yaq (v:=(.bool (decide (r=0)))) (zT hp) rfl) (zQ (.bool (decide (r=0))) (yaa (yaf rfl rfl ⟨_,rfl,(hS.sel []),h⟩)))))
  · replace h:=h.2 hp;exact zV rfl rfl (zF hp) (zV rfl rfl (zF hp) (zV rfl rfl (zF hp) (zq (yaw (v:=(.bool (false))) (zF hp) rfl) (zQ (.bool (false)) (yaa (yaf rfl rfl ⟨_,rfl,(hS.sel []),h⟩))))))
def yfm(R:(List (Int×Int×(List (List (Int×(List (Int×Int)))))))→(List Int)→(List (List Int))→Prop):Prop :=
R ([(1,1,[([(0,[(1,0)])]:List (Int×(List (Int×Int))))]),(1,1,[([(0,[])]:List (Int×(List (Int×Int))))])]:List (Int×Int×(List (List (Int×(List (Int×Int))))))) ([0,0]) ([[1],[0]])
theorem pok_l56_Pair{O:Nat→Prop}{w:World}{R:(List (Int×Int×(List (List (Int×(List (Int×Int)))))))→(List Int)→(List (List Int))→Prop}(h:yfm R)(hO:∀ k,O k→k<w.heap.size) :
    Calls Tryz.prog 46 #[] w fun e w'=>∃ r r2 r3 Ar lr cr Ar2 lr2 cr2 Ar3 lr3 cr3,e = .returned (.agg #[(.slice Ar lr cr),(.slice Ar2 lr2 cr2),(.slice Ar3 lr3 cr3)])∧Sep w no O w' (rl [Res.own (cPr cI (cPr cI (cL (cL (cPr cI (cL c2)))))) 98 Ar lr cr r,Res.own cI 3 Ar2 lr2 cr2 r2,Res.own (cL cI) 33 Ar3 lr3 cr3 r3])∧R r r2 r3:=by
  unfold yfm at h;have hS:Sep w no O w (rl []):=Sep.start w hO;refine yao (l:=[]) func46 rfl ntmps46 zY (zs (zn (yaP yap ?_)));intro g w2 hN;replace hS:Sep w no O w2 (stl _ 0 (Res.box 53 g [(.slice none 0 0),(.slice none 0 0),(.slice none 0 0)])):=hS.new 0 rfl hN;clear hN;refine zb (yaa (zs (zn (yaR (l:=[(0,(ii 1))]) (cells:=[(ii 1),(ii 0)]) (places:=[(0,1),(1,1)]) (bp1 rfl) underlying136 yby (by kernel_rfl) rfl ?_))));refine zb (zn (yaI (l:=[(0,(.agg #[(ii 1),(ii 0)]))]) (cells:=[(ii 1),(ii 0)]) (bp1 rfl) underlying137 yby rfl rfl ?_));intro g2 w3 hN;replace hS:=hS.litf (n:=1) 1 rfl (fP (fI .i64) (fI .i64)) hN ([(1,0)]:List (Int×Int)) rfl (by decide) rfl;clear hN;refine zb (zn (yaR (l:=[(1,(.slice (some ⟨g2,0,none⟩) 1 1))]) (cells:=[(ii 0),(.slice (some ⟨g2,0,none⟩) 1 1)]) (places:=[(0,1),(1,1)]) (bp1 rfl) underlying139 ya9 (by kernel_rfl) rfl ?_));refine zb ?_;replace hS:=hS.frz 1 rfl;refine zn (yaI (l:=[(0,(.agg #[(ii 0),(.slice (some ⟨g2,0,none⟩) 1 1)]))]) (cells:=[(ii 0),(.slice (some ⟨g2,0,none⟩) 1 1)]) (bp1 rfl) underlying140 ya9 rfl rfl ?_);intro g3 w4 hN;replace hS:=hS.lit (n:=1) (c:=(cPr cI (cL c2))) 2 rfl hN (([(0,[(1,0)])]:List (Int×(List (Int×Int)))):List (Int×(List (Int×Int)))) rfl (by decide) ⟨[(ii 0),(.slice (some ⟨g2,0,none⟩) 1 1)],_,rfl,⟨[(ii 0)],[(.slice (some ⟨g2,0,none⟩) 1 1)],rfl,rfl,(ro_R (hS.ro 1 rfl))⟩,rfl⟩;clear hN;refine zb ?_;replace hS:=hS.frz 2 rfl;refine zn (yaI (l:=[(0,(.slice (some ⟨g3,0,none⟩) 1 1))]) (cells:=[(.slice (some ⟨g3,0,none⟩) 1 1)]) (bp1 rfl) underlying96 ycb rfl rfl ?_);intro g4 w5 hN;replace hS:=hS.lit (n:=1) (c:=(cL (cPr cI (cL c2)))) 3 rfl hN ([([(0,[(1,0)])]:List (Int×(List (Int×Int))))]:List (List (Int×(List (Int×Int))))) rfl (by decide) ⟨[(.slice (some ⟨g3,0,none⟩) 1 1)],_,rfl,(ro_R (hS.ro 2 rfl)),rfl⟩;clear hN;refine zb (zn (yaR (l:=[(0,(ii 1)),(1,(ii 1)),(2,(.slice (some ⟨g4,0,none⟩) 1 1))]) (cells:=[(ii 1),(ii 1),(.slice (some ⟨g4,0,none⟩) 1 1)]) (places:=[(0,1),(1,1),(2,1)]) (bp3 rfl rfl rfl) underlying98 yaz (by kernel_rfl) rfl ?_));refine zb (zn (yaP yaz ?_));intro g5 w6 hN;replace hS:Sep w no O w6 (stl _ 4 (Res.box 98 g5 [(ii 0),(ii 0),(.slice none 0 0)])):=hS.new 4 rfl hN;clear hN;refine zb (zo (yas (b:=g5) (o:=0) (cells:=#[(ii 1),(ii 1),(.slice (some ⟨g4,0,none⟩) 1 1)]) rfl rfl yaz rfl rfl (yan (hS.bx 4 rfl) zY) ?_));intro w7 e1;replace hS:=hS.bstn 4 rfl 0 [(ii 1),(ii 1),(.slice (some ⟨g4,0,none⟩) 1 1)] e1;clear e1;refine zb (yaa (zs (zn (yaR (l:=[]) (cells:=[(ii 0),(.slice none 0 0)]) (places:=[(0,1),(1,1)]) (bp0) underlying139 ya9 (by kernel_rfl) rfl ?_))));refine zb (zn (yaI (l:=[(0,(.agg #[(ii 0),(.slice none 0 0)]))]) (cells:=[(ii 0),(.slice none 0 0)]) (bp1 rfl) underlying140 ya9 rfl rfl ?_));intro g6 w8 hN;replace hS:=hS.lit (n:=1) (c:=(cPr cI (cL c2))) 5 rfl hN (([(0,[])]:List (Int×(List (Int×Int)))):List (Int×(List (Int×Int)))) rfl (by decide) ⟨[(ii 0),(.slice none 0 0)],_,rfl,⟨[(ii 0)],[(.slice none 0 0)],rfl,rfl,⟨_,_,_,rfl,rfl,Nat.le_refl _,Sl.nil _ _ _ _⟩⟩,rfl⟩;clear hN;refine zb ?_;replace hS:=hS.frz 5 rfl;refine zn (yaI (l:=[(0,(.slice (some ⟨g6,0,none⟩) 1 1))]) (cells:=[(.slice (some ⟨g6,0,none⟩) 1 1)]) (bp1 rfl) underlying96 ycb rfl rfl ?_);intro g7 w9 hN;replace hS:=hS.lit (n:=1) (c:=(cL (cPr cI (cL c2)))) 6 rfl hN ([([(0,[])]:List (Int×(List (Int×Int))))]:List (List (Int×(List (Int×Int))))) rfl (by decide) ⟨[(.slice (some ⟨g6,0,none⟩) 1 1)],_,rfl,(ro_R (hS.ro 5 rfl)),rfl⟩;clear hN;refine zb (zn (yaR (l:=[(0,(ii 1)),(1,(ii 1)),(2,(.slice (some ⟨g7,0,none⟩) 1 1))]) (cells:=[(ii 1),(ii 1),(.slice (some ⟨g7,0,none⟩) 1 1)]) (places:=[(0,1),(1,1),(2,1)]) (bp3 rfl rfl rfl) underlying98 yaz (by kernel_rfl) rfl ?_));refine zb (zn (yaP yaz ?_));intro g8 w10 hN;replace hS:Sep w no O w10 (stl _ 7 (Res.box 98 g8 [(ii 0),(ii 0),(.slice none 0 0)])):=hS.new 7 rfl hN;clear hN;refine zb (zo (yas (b:=g8) (o:=0) (cells:=#[(ii 1),(ii 1),(.slice (some ⟨g7,0,none⟩) 1 1)]) rfl rfl yaz rfl rfl (yan (hS.bx 7 rfl) zY) ?_));intro w11 e1;replace hS:=hS.bstn 7 rfl 0 [(ii 1),(ii 1),(.slice (some ⟨g7,0,none⟩) 1 1)] e1;clear e1;refine zb (yaa (zs (zq (yat (vs:=[(ii 1),(ii 1),(.slice (some ⟨g4,0,none⟩) 1 1)]) rfl underlying98 rfl yaz ⟨Row.cell (hS.bx 4 rfl) (i:=0) rfl,Row.cell (hS.bx 4 rfl) (i:=1) rfl,Row.cell (hS.bx 4 rfl) (i:=2) rfl,trivial⟩) (zq (yat (vs:=[(ii 1),(ii 1),(.slice (some ⟨g7,0,none⟩) 1 1)]) rfl underlying98 rfl yaz ⟨Row.cell (hS.bx 7 rfl) (i:=0) rfl,Row.cell (hS.bx 7 rfl) (i:=1) rfl,Row.cell (hS.bx 7 rfl) (i:=2) rfl,trivial⟩) ?_))));replace hS:=hS.frz 3 rfl;replace hS:=hS.frz 6 rfl;refine zn (yaI (l:=[(0,(.agg #[(ii 1),(ii 1),(.slice (some ⟨g4,0,none⟩) 1 1)])),(1,(.agg #[(ii 1),(ii 1),(.slice (some ⟨g7,0,none⟩) 1 1)]))]) (cells:=[(ii 1),(ii 1),(.slice (some ⟨g4,0,none⟩) 1 1),(ii 1),(ii 1),(.slice (some ⟨g7,0,none⟩) 1 1)]) (bp2 rfl rfl) underlying51 yaz rfl rfl ?_);intro g9 w12 hN;replace hS:=hS.lit (n:=2) (c:=(cPr cI (cPr cI (cL (cL (cPr cI (cL c2))))))) 8 rfl hN (([(1,1,[([(0,[(1,0)])]:List (Int×(List (Int×Int))))]),(1,1,[([(0,[])]:List (Int×(List (Int×Int))))])]:List (Int×Int×(List (List (Int×(List (Int×Int))))))):List (Int×Int×(List (List (Int×(List (Int×Int))))))) rfl (by decide) ⟨[(ii 1),(ii 1),(.slice (some ⟨g4,0,none⟩) 1 1)],_,rfl,⟨[(ii 1)],[(ii 1),(.slice (some ⟨g4,0,none⟩) 1 1)],rfl,rfl,⟨[(ii 1)],[(.slice (some ⟨g4,0,none⟩) 1 1)],rfl,rfl,(ro_R (hS.ro 3 rfl))⟩⟩,⟨[(ii 1),(ii 1),(.slice (some ⟨g7,0,none⟩) 1 1)],_,rfl,⟨[(ii 1)],[(ii 1),(.slice (some ⟨g7,0,none⟩) 1 1)],rfl,rfl,⟨[(ii 1)],[(.slice (some ⟨g7,0,none⟩) 1 1)],rfl,rfl,(ro_R (hS.ro 6 rfl))⟩⟩,rfl⟩⟩;clear hN;refine zb (zn (yaI (l:=[(0,(ii 0)),(1,(ii 0))]) (cells:=[(ii 0),(ii 0)]) (bp2 rfl rfl) underlying33 yai rfl rfl ?_));intro g10 w13 hN;replace hS:=hS.litf (n:=2) 9 rfl (fI .i64) hN ([0,0]:List Int) rfl (by decide) rfl;clear hN;refine zb (zn (yaI (l:=[(0,(ii 1))]) (cells:=[(ii 1)]) (bp1 rfl) underlying33 yai rfl rfl ?_));intro g11 w14 hN;replace hS:=hS.litf (n:=1) 10 rfl (fI .i64) hN ([1]:List Int) rfl (by decide) rfl;clear hN;refine zb (zn (yaI (l:=[(0,(ii 0))]) (cells:=[(ii 0)]) (bp1 rfl) underlying33 yai rfl rfl ?_));intro g12 w15 hN;replace hS:=hS.litf (n:=1) 11 rfl (fI .i64) hN ([0]:List Int) rfl (by decide) rfl;clear hN;refine zb ?_;replace hS:=hS.frz 10 rfl;replace hS:=hS.frz 11 rfl
  refine zn (yaI (l:=[(0,(.slice (some ⟨g11,0,none⟩) 1 1)),(1,(.slice (some ⟨g12,0,none⟩) 1 1))]) (cells:=[(.slice (some ⟨g11,0,none⟩) 1 1),(.slice (some ⟨g12,0,none⟩) 1 1)]) (bp2 rfl rfl) underlying43 yaL rfl rfl ?_);intro g13 w16 hN;replace hS:=hS.lit (n:=2) (c:=(cL cI)) 12 rfl hN ([[1],[0]]:List (List Int)) rfl (by decide) ⟨[(.slice (some ⟨g11,0,none⟩) 1 1)],_,rfl,(ro_R (hS.ro 10 rfl)),⟨[(.slice (some ⟨g12,0,none⟩) 1 1)],_,rfl,(ro_R (hS.ro 11 rfl)),rfl⟩⟩;clear hN;refine zb (zn (yaR (l:=[(0,(.slice (some ⟨g9,0,none⟩) 2 2)),(1,(.slice (some ⟨g10,0,none⟩) 2 2)),(2,(.slice (some ⟨g13,0,none⟩) 2 2))]) (cells:=[(.slice (some ⟨g9,0,none⟩) 2 2),(.slice (some ⟨g10,0,none⟩) 2 2),(.slice (some ⟨g13,0,none⟩) 2 2)]) (places:=[(0,1),(1,1),(2,1)]) (bp3 rfl rfl rfl) underlying53 yap (by kernel_rfl) rfl ?_));refine zb (zo (yas (b:=g) (o:=0) (cells:=#[(.slice (some ⟨g9,0,none⟩) 2 2),(.slice (some ⟨g10,0,none⟩) 2 2),(.slice (some ⟨g13,0,none⟩) 2 2)]) rfl rfl yap rfl rfl (yan (hS.bx 0 rfl) zY) ?_));intro w17 e1;replace hS:=hS.bstn 0 rfl 0 [(.slice (some ⟨g9,0,none⟩) 2 2),(.slice (some ⟨g10,0,none⟩) 2 2),(.slice (some ⟨g13,0,none⟩) 2 2)] e1;clear e1;exact zb (yaa (yf4 rfl (rv_n (vs:=[(.slice (some ⟨g9,0,none⟩) 2 2),(.slice (some ⟨g10,0,none⟩) 2 2),(.slice (some ⟨g13,0,none⟩) 2 2)]) rfl underlying53 rfl yap ⟨Row.cell (hS.bx 0 rfl) (i:=0) rfl,Row.cell (hS.bx 0 rfl) (i:=1) rfl,Row.cell (hS.bx 0 rfl) (i:=2) rfl,trivial⟩) ⟨_,_,_,_,_,_,_,_,_,_,_,_,rfl,(hS.sel [8,9,12]),h⟩))
def ybM(n:Int)(bound:Int)(R:Bool→Prop):Prop :=
((0≤n →
R (decide (n<bound))) ∧
(¬(0≤n) →
R false))
theorem ydo{O:Nat→Prop}{w:World}{n bound}{R:Bool→Prop}(h:ybM n bound R)(hO:∀ k,O k→k<w.heap.size) :
    Calls Tryz.prog 212 #[(ii n),(ii bound)] w fun e w'=>∃ r,e = .returned (.bool (r))∧Sep w no O w' (rl [])∧R r:=by
  unfold ybM at h;have hS:Sep w no O w (rl []):=Sep.start w hO;refine yao (l:=[(ii n),(ii bound)]) func212 rfl ntmps212 zY (zs (zQ (.bool (false)) (yaa (zs (zM (ii n) (zq (yfy rfl rfl) (zM (.bool (decide (0≤n))) ?_)))))));by_cases hp:0≤n
  · replace h:=h.1 hp;exact zW rfl rfl (zT hp) (zm (ii n)) (zW rfl rfl (zT hp) (zm (ii bound)) (zW rfl rfl (zT hp) zL (zq (yaq (v:=(.bool (decide (n<bound)))) (zT hp) rfl) (zQ (.bool (decide (n<bound))) (yaa (yaf rfl rfl ⟨_,rfl,(hS.sel []),h⟩))))))
  · replace h:=h.2 hp;exact zV rfl rfl (zF hp) (zV rfl rfl (zF hp) (zV rfl rfl (zF hp) (zq (yaw (v:=(.bool (false))) (zF hp) rfl) (zQ (.bool (false)) (yaa (yaf rfl rfl ⟨_,rfl,(hS.sel []),h⟩))))))
def ycw(l:List (Int×Int))(n:Int)(R:Int→Prop):Prop :=
(∃ I2:Nat→Int→Prop,(∃ m0,I2 m0 0)∧∀ m2 v,I2 m2 v → 
((v<(l.length:Int) →
((0≤v∧v<(l.length:Int)) ∧
ybM ((gx l v.toNat).1) n (fun r =>
((r=true →
ybM ((gx l v.toNat).2) 8 (fun r2 =>
((r2=true →
(In64 (v+1) ∧
∃ m3,m3<m2∧I2 m3 (v+1))) ∧
(¬(r2=true) →
R 2)))) ∧
(¬(r=true) →
R 2))))) ∧
(¬(v<(l.length:Int)) →
R 0)))
theorem ygT{O:Nat→Prop}{w:World}{l n Al ll cl}{R:Int→Prop}(h:ycw l n R)(hO:∀ k,O k→k<w.heap.size)(hA0:(FP.sl c2 Al ll cl l).P O w) :
    Calls Tryz.prog 213 #[(.slice Al ll cl),(ii n)] w fun e w'=>∃ r3,e = .returned (ii r3)∧Sep w no O w' (rl [])∧R r3:=by
  unfold ycw at h;have hS:Sep w no O w (rl [Res.ro (FP.sl c2 Al ll cl l)]):=Sep.startl hO [(FP.sl c2 Al ll cl l)] ⟨hA0,trivial⟩;refine yao (l:=[(.slice Al ll cl),(ii n)]) func213 rfl ntmps213 zY (zs (zQ (ii 0) (yaa (yad (zs (zM (.slice Al ll cl) (zq (yaF (n:=l.length) rfl underlying137 (yaD (hS.rdr 0 rfl))) (zM (ii 0) (yaa (yah ?_))))))))));obtain ⟨I2,⟨m0,h0⟩,hr⟩:=h;refine yaE (fun m E ds w'=>∃ v,I2 m v∧ds=[]∧E 1=(ii n)∧E 7=(Value.slice Al ll cl)∧E 8=(ii (l.length:Int))∧E 9=(ii v)∧Sep w no O w' (rl [Res.ro (FP.sl c2 Al ll cl l)])) m0 ⟨_,h0,rfl,rfl,rfl,rfl,rfl,(hS.sel [0])⟩ ?_;clear h0 hS;rintro m2 E ds w2 ⟨v,h,rfl,H1,H7,H8,H9,hS⟩ ag;replace h:=hr m2 v h;clear hr;refine zs (zq (ybD H9 H8) (yaa (yad ?_)));by_cases hp:v<(l.length:Int)
  · replace h:=h.1 hp;refine zc hp (yae (yad (yah (zs ?_))));obtain ⟨hx,h⟩:=h;refine zq (ya4 H7 H9 underlying137 yby (yaK (hS.rdr 0 rfl) hx)) (zq (yat (vs:=[(ii ((gx l v.toNat).1)),(ii ((gx l v.toNat).2))]) rfl underlying136 rfl yby (ygm (hS.rdr 0 rfl) hx (fun q=>yaY q))) ?_);refine zn (yaP yby ?_);intro g w3 hN;replace hS:Sep w no O w3 (stl _ 1 (Res.box 136 g [(ii 0),(ii 0)])):=hS.new 1 rfl hN;clear hN;refine zb (zo (yas (b:=g) (o:=0) (cells:=#[(ii ((gx l v.toNat).1)),(ii ((gx l v.toNat).2))]) rfl rfl yby rfl rfl (yan (hS.bx 1 rfl) zY) ?_));intro w4 e1;replace hS:=hS.bstn 1 rfl 0 [(ii ((gx l v.toNat).1)),(ii ((gx l v.toNat).2))] e1;clear e1;refine zb (yaa (zs (zq (yab rfl underlying136 rfl yai) (zq (zl underlying3 (Row.cell (hS.bx 1 rfl) (i:=0) rfl)) (zq (yac H1) (zn (yam rfl (am2 rfl rfl) yhY ((ydo h (yaO _)).mono ?_))))))));rintro _ w5 ⟨r,rfl,hC,h⟩;replace hS:=hS.pur hC.pure;clear hC;refine ⟨_,rfl,?_⟩;refine zb (zq (ydX rfl) (zM (.bool (!(r))) ?_));by_cases hp2:r=true
    · replace h:=h.1 hp2;refine zW rfl rfl (zC (zB hp2)) (yab rfl underlying136 rfl yai) (zW rfl rfl (zC (zB hp2)) (zl underlying3 (Row.cell (hS.bx 1 rfl) (i:=1) rfl)) (rl_n (yak rfl (yal rfl (zC (zB hp2)))) rfl rfl rfl (yam rfl (am2 rfl rfl) yhY ((ydo h (yaO _)).mono ?_))));rintro _ w6 ⟨r2,rfl,hC,h⟩;replace hS:=hS.pur hC.pure;clear hC;refine ⟨_,rfl,?_⟩;refine zb (zW rfl rfl (zC (zB hp2)) (ydX rfl) (zq (yaw (v:=(.bool (!(r2)))) (zC (zB hp2)) rfl) (yaa ?_)));by_cases hp3:r2=true
      · replace h:=h.1 hp3;refine yaA (zC (zB hp3)) (yae (yaj (zr ?_)));obtain ⟨hi,h⟩:=h;refine zq (ybg H9 rfl hi) (zM (ii (v+1)) (yaa ?_));obtain ⟨mq,hlt,h⟩:=h;exact ag mq _ _ _ ⟨_,h,rfl,H1,H7,H8,rfl,(hS.sel [0])⟩ hlt
      · replace h:=h.2 hp3;exact yar (zC (zB (zI hp3))) (zs (zQ (ii 2) (yaa (yaf rfl rfl ⟨_,rfl,(hS.sel []),h⟩))))
    · replace h:=h.2 hp2;exact zV rfl rfl (zC (zB (zI hp2))) (zV rfl rfl (zC (zB (zI hp2))) (zV rfl rfl (zC (zB (zI hp2))) (zV rfl rfl (zC (zB (zI hp2))) (zq (yaq (v:=(.bool (true))) (zC (zB (zI hp2))) rfl) (yaa (yar rfl (zs (zQ (ii 2) (yaa (yaf rfl rfl ⟨_,rfl,(hS.sel []),h⟩))))))))))
  · replace h:=h.2 hp;exact zd hp (yaC rfl (zs (zQ (ii 0) (yaa (yaf rfl rfl ⟨_,rfl,(hS.sel []),h⟩)))))
def yc3(r:Int)(r2:List (Int×Int))(states:Int)(n:Int)(R:Int→Prop):Prop :=
ybM r states (fun r3 =>
((r3=true →
((16<(r2.length:Int) →
R 5) ∧
(¬(16<(r2.length:Int)) →
ycw r2 n (fun r4 =>
R r4)))) ∧
(¬(r3=true) →
R 2)))
theorem ygR{O:Nat→Prop}{w:World}{r r2 states n Ar lr cr}{R:Int→Prop}(h:yc3 r r2 states n R)(hO:∀ k,O k→k<w.heap.size)(hA0:(FP.sl c2 Ar lr cr r2).P O w) :
    Calls Tryz.prog 196 #[(.agg #[(ii r),(.slice Ar lr cr)]),(ii states),(ii n)] w fun e w'=>∃ r5,e = .returned (ii r5)∧Sep w no O w' (rl [])∧R r5:=by
  unfold yc3 at h;have hS:Sep w no O w (rl [Res.ro (FP.sl c2 Ar lr cr r2)]):=Sep.startl hO [(FP.sl c2 Ar lr cr r2)] ⟨hA0,trivial⟩;refine yao (l:=[(.agg #[(ii r),(.slice Ar lr cr)]),(ii states),(ii n)]) func196 rfl ntmps196 zY (zs (zn (ybH (v:=(.agg #[(ii r),(.slice Ar lr cr)])) rfl ?_)));intro g w2 hN;replace hS:Sep w no O w2 (stl _ 1 (Res.box 139 g [(ii r),(.slice Ar lr cr)])):=hS.new 1 rfl hN;clear hN;refine zb (zQ (ii 0) (yaa (yad (yah (zs (zq (yab rfl underlying139 rfl yai) (zq (zl underlying3 (Row.cell (hS.bx 1 rfl) (i:=0) rfl)) (zM (ii states) (zn (yam rfl (am2 rfl rfl) yhY ((ydo h (yaO _)).mono ?_)))))))))));rintro _ w3 ⟨r3,rfl,hC,h⟩;replace hS:=hS.pur hC.pure;clear hC;refine ⟨_,rfl,?_⟩;refine zb (zq (ydX rfl) (zQ (.bool (!(r3))) (yaa ?_)));by_cases hp:r3=true
  · replace h:=h.1 hp;refine yaA (zC (zB hp)) (zs (zq (yab rfl underlying139 rfl yen) (zq (zl underlying137 (Row.cell (hS.bx 1 rfl) (i:=1) rfl)) (zq (yaF (n:=r2.length) rfl underlying137 (yaD (hS.rdr 0 rfl))) (zq zG (zQ (.bool (decide (16<(r2.length:Int)))) (yaa ?_)))))));by_cases hp2:16<(r2.length:Int)
    · replace h:=h.1 hp2;exact zc hp2 (zs (zQ (ii 5) (yaa (yaf rfl rfl ⟨_,rfl,(hS.sel []),h⟩))))
    · replace h:=h.2 hp2;refine zd hp2 (yae (yaj (zs (zq (yab rfl underlying139 rfl yen) (zq (zl underlying137 (Row.cell (hS.bx 1 rfl) (i:=1) rfl)) (zM (ii n) (zn (yam rfl (am2 rfl rfl) enter_213 ((ygT h (yaO _) (hS.rdr 0 rfl)).mono ?_)))))))));rintro _ w4 ⟨r4,rfl,hC,h⟩;replace hS:=hS.pur hC.pure;clear hC;refine ⟨_,rfl,?_⟩;exact zb (zQ (ii r4) (yaa (yaf rfl rfl ⟨_,rfl,(hS.sel []),h⟩)))
  · replace h:=h.2 hp;exact yar (zC (zB (zI hp))) (zs (zQ (ii 2) (yaa (yaf rfl rfl ⟨_,rfl,(hS.sel []),h⟩))))
def ycp(d:Int)(d2:Int)(d3:List (List (Int×(List (Int×Int)))))(i:Int)(R:Int→Prop):Prop :=
(∃ J2:Prop,(J2→(∃ I2:Nat→Int→Prop,(∃ m0,I2 m0 0)∧∀ m2 v,I2 m2 v → 
((v<(d3.length:Int) →
((0≤v∧v<(d3.length:Int)) ∧
((((gx d3 v.toNat).length:Int)=d2 →
(∃ I3:Nat→Int→Prop,(∃ m0,I3 m0 0)∧∀ m3 v2,I3 m3 v2 → 
((v2<((gx d3 v.toNat).length:Int) →
((0≤v2∧v2<((gx d3 v.toNat).length:Int)) ∧
yc3 ((gx (gx d3 v.toNat) v2.toNat).1) ((gx (gx d3 v.toNat) v2.toNat).2) d i (fun r =>
((r=0 →
(In64 (v2+1) ∧
∃ m4,m4<m3∧I3 m4 (v2+1))) ∧
(¬(r=0) →
R r))))) ∧
(¬(v2<((gx d3 v.toNat).length:Int)) →
(In64 (v+1) ∧
∃ m5,m5<m2∧I2 m5 (v+1)))))) ∧
(¬(((gx d3 v.toNat).length:Int)=d2) →
R 8)))) ∧
(¬(v<(d3.length:Int)) →
R 0)))) ∧
∃ J3:Prop,(J3→(∃ J4:Prop,(J4→J2) ∧
∃ J5:Prop,(J5→(((d3.length:Int)=d →
J4) ∧
(¬((d3.length:Int)=d) →
R 8))) ∧
((d<1 →
R 2) ∧
(¬(d<1) →
((16<d →
R 2) ∧
(¬(16<d) →
((d2<1 →
R 2) ∧
(¬(d2<1) →
((8<d2 →
R 2) ∧
(¬(8<d2) →
J5)))))))))) ∧
((i<1 →
R 1) ∧
(¬(i<1) →
((12<i →
R 1) ∧
(¬(12<i) →
J3)))))
theorem ygq{O:Nat→Prop}{w:World}{d d2 d3 i Ad ld cd}{R:Int→Prop}(h:ycp d d2 d3 i R)(hO:∀ k,O k→k<w.heap.size)(hA0:(FP.sl (cL (cPr cI (cL c2))) Ad ld cd d3).P O w) :
    Calls Tryz.prog 147 #[(.agg #[(ii d),(ii d2),(.slice Ad ld cd)]),(ii i)] w fun e w'=>∃ r2,e = .returned (ii r2)∧Sep w no O w' (rl [])∧R r2:=by
  unfold ycp at h;have hS:Sep w no O w (rl [Res.ro (FP.sl (cL (cPr cI (cL c2))) Ad ld cd d3)]):=Sep.startl hO [(FP.sl (cL (cPr cI (cL c2))) Ad ld cd d3)] ⟨hA0,trivial⟩;refine yao (l:=[(.agg #[(ii d),(ii d2),(.slice Ad ld cd)]),(ii i)]) func147 rfl ntmps147 zY (zs (zn (ybH (v:=(.agg #[(ii d),(ii d2),(.slice Ad ld cd)])) rfl ?_)));intro g w2 hN;replace hS:Sep w no O w2 (stl _ 1 (Res.box 98 g [(ii d),(ii d2),(.slice Ad ld cd)])):=hS.new 1 rfl hN;clear hN;refine zb (zQ (ii 0) (yaa (yad (yah (yad ?_)))));obtain ⟨J2,hJ,h⟩:=h;refine ycf (fun E ds w'=>J2∧ds=[]∧E 1=(ii i)∧E 2=(Value.pointer (some ⟨g,0,none⟩))∧Sep w no O w' (rl [Res.box 98 g [(ii d),(ii d2),(.slice Ad ld cd)],Res.ro (FP.sl (cL (cPr cI (cL c2))) Ad ld cd d3)])) ?_ ?_
  · clear h hS;rintro E ds w3 ⟨h,rfl,H1,H2,hS⟩;replace h:=hJ h;refine yaj (yad (zs (zq (yab H2 underlying98 rfl ycC) (zq (zl underlying96 (Row.cell (hS.bx 0 rfl) (i:=2) rfl)) (zq (yaF (n:=d3.length) rfl underlying96 (yaD (hS.rdr 1 rfl))) (zM (ii 0) (yaa (yah ?_))))))));obtain ⟨I2,⟨m0,h0⟩,hr⟩:=h;refine yaE (fun m E ds w'=>∃ v,I2 m v∧ds=[]∧E 1=(ii i)∧E 2=(Value.pointer (some ⟨g,0,none⟩))∧E 44=(Value.slice Ad ld cd)∧E 45=(ii (d3.length:Int))∧E 46=(ii v)∧Sep w no O w' (rl [Res.box 98 g [(ii d),(ii d2),(.slice Ad ld cd)],Res.ro (FP.sl (cL (cPr cI (cL c2))) Ad ld cd d3)])) m0 ⟨_,h0,rfl,H1,H2,rfl,rfl,rfl,(hS.sel [0,1])⟩ ?_;clear h0 hS;rintro m2 E ds w4 ⟨v,h,rfl,H1,H2,H44,H45,H46,hS⟩ ag;replace h:=hr m2 v h;clear hr;refine zs (zq (ybD H46 H45) (yaa (yad ?_)));by_cases hp:v<(d3.length:Int)
    · replace h:=h.1 hp;refine zc hp (yae (yad (yah (zs ?_))));obtain ⟨hx,h⟩:=h;refine zq (ya4 H44 H46 underlying96 ycb (yaK (hS.rdr 1 rfl) hx)) ?_;obtain ⟨A,l,c,hc,hq⟩:=hS.el 1 rfl hx 2 3 rfl rfl (by decide);replace hS:=hq;clear hq;refine zq (yay (v:=(.slice A l c)) rfl underlying140 rfl (hS.clr 3 rfl)) (zQ (.slice A l c) (yaa (yad (zs (zM (.slice A l c) (zq (yaF (n:=(gx d3 v.toNat).length) rfl underlying140 (yaD (hS.rdr 2 rfl))) (zq (yab H2 underlying98 rfl yai) (zq (zl underlying3 (Row.cell (hS.bx 0 rfl) (i:=1) rfl)) (zq zN (yaa ?_))))))))));by_cases hp2:((gx d3 v.toNat).length:Int)=d2
      · replace h:=h.1 hp2;refine ze hp2 (yae (zs (zM (.slice A l c) (zq (yaF (n:=(gx d3 v.toNat).length) rfl underlying140 (yaD (hS.rdr 2 rfl))) (zM (ii 0) (yaa (yah ?_)))))));obtain ⟨I3,⟨m0,h0⟩,hr⟩:=h;refine yaE (fun m E ds w'=>∃ v2,I3 m v2∧ds=[]∧E 1=(ii i)∧E 2=(Value.pointer (some ⟨g,0,none⟩))∧E 44=(Value.slice Ad ld cd)∧E 45=(ii (d3.length:Int))∧E 46=(ii v)∧E 55=(Value.slice A l c)∧E 56=(ii ((gx d3 v.toNat).length:Int))∧E 57=(ii v2)∧Sep w no O w' (rl [Res.box 98 g [(ii d),(ii d2),(.slice Ad ld cd)],Res.ro (FP.sl (cL (cPr cI (cL c2))) Ad ld cd d3),Res.ro (FP.sl (cPr cI (cL c2)) A l c (gx d3 v.toNat))])) m0 ⟨_,h0,rfl,H1,H2,H44,H45,H46,rfl,rfl,rfl,(hS.sel [0,1,2])⟩ ?_;clear h0 hS;rintro m3 E ds w5 ⟨v2,h,rfl,H1,H2,H44,H45,H46,H55,H56,H57,hS⟩ again2;replace h:=hr m3 v2 h;clear hr;refine zs (zq (ybD H57 H56) (yaa (yad ?_)));by_cases hp3:v2<((gx d3 v.toNat).length:Int)
        · replace h:=h.1 hp3;refine zc hp3 (yae (yad (yah (zs ?_))));obtain ⟨hx2,h⟩:=h;refine zq (ya4 H55 H57 underlying140 ya9 (yaK (hS.rdr 2 rfl) hx2)) ?_;obtain ⟨vs_,hR,_,hc2⟩:=yeB (hS.ro 2 rfl) hx2 (fun q=>yaY q);obtain ⟨u_,v_,rfl,hq2,hR⟩:=hR;replace hq2:u_=[(ii ((gx (gx d3 v.toNat) v2.toNat).1))]:=hq2;subst hq2;have hq3:=hR;obtain ⟨A2,l2,c4,rfl,hp4⟩:=R_ro hq3;clear hq3;have hc2_:ygE _ _ 0 [(ii ((gx (gx d3 v.toNat) v2.toNat).1)),(.slice A2 l2 c4)]:=⟨hc2 0 _ rfl,hc2 1 _ rfl,trivial⟩;have hq_0:=hS.addro 3 rfl _ hp4;replace hS:=hq_0;clear hq_0;refine zq (yat (vs:=[(ii ((gx (gx d3 v.toNat) v2.toNat).1)),(.slice A2 l2 c4)]) rfl underlying139 rfl ya9 hc2_) (zn (yaP ya9 ?_));intro g2 w6 hN;replace hS:Sep w no O w6 (stl _ 4 (Res.box 139 g2 [(ii 0),(.slice none 0 0)])):=hS.new 4 rfl hN;clear hN;refine zb (zo (yas (b:=g2) (o:=0) (cells:=#[(ii ((gx (gx d3 v.toNat) v2.toNat).1)),(.slice A2 l2 c4)]) rfl rfl ya9 rfl rfl (yan (hS.bx 4 rfl) zY) ?_));intro w7 e1;replace hS:=hS.bstn 4 rfl 0 [(ii ((gx (gx d3 v.toNat) v2.toNat).1)),(.slice A2 l2 c4)] e1;clear e1;refine zb (yaa (zs (zq (yat (vs:=[(ii ((gx (gx d3 v.toNat) v2.toNat).1)),(.slice A2 l2 c4)]) rfl underlying139 rfl ya9 ⟨Row.cell (hS.bx 4 rfl) (i:=0) rfl,Row.cell (hS.bx 4 rfl) (i:=1) rfl,trivial⟩) (zq (yab H2 underlying98 rfl yai) (zq (zl underlying3 (Row.cell (hS.bx 0 rfl) (i:=0) rfl)) (zq (yac H1) (zn (yam rfl (am3 rfl rfl rfl) enter_196 ((ygR h (yaO _) (hS.rdr 3 rfl)).mono ?_)))))))));rintro _ w8 ⟨r,rfl,hC,h⟩;replace hS:=hS.pur hC.pure;clear hC;refine ⟨_,rfl,?_⟩;refine zb (zQ (ii r) (yaa (zs (zM (ii r) (zq zN (yaa ?_))))));by_cases hp5:r=0
          · replace h:=h.1 hp5;refine ze hp5 (yae (yaj (zr ?_)));obtain ⟨hi,h⟩:=h;refine zq (ybg H57 rfl hi) (zM (ii (v2+1)) (yaa ?_));obtain ⟨mq,hlt,h⟩:=h;exact again2 mq _ _ _ ⟨_,h,rfl,H1,H2,H44,H45,H46,H55,H56,rfl,(hS.sel [0,1,2])⟩ hlt
          · replace h:=h.2 hp5;exact zf hp5 (zs (zM (ii r) (zQ (ii r) (yaa (yaf rfl rfl ⟨_,rfl,(hS.sel []),h⟩)))))
        · replace h:=h.2 hp3;refine zd hp3 (yaC rfl (yaj (zr ?_)));obtain ⟨hi2,h⟩:=h;refine zq (ybg H46 rfl hi2) (zM (ii (v+1)) (yaa ?_));obtain ⟨mq,hlt,h⟩:=h;exact ag mq _ _ _ ⟨_,h,rfl,H1,H2,H44,H45,rfl,(hS.sel [0,1])⟩ hlt
      · replace h:=h.2 hp2;exact zf hp2 (zs (zQ (ii 8) (yaa (yaf rfl rfl ⟨_,rfl,(hS.sel []),h⟩))))
    · replace h:=h.2 hp;exact zd hp (yaC rfl (zs (zQ (ii 0) (yaa (yaf rfl rfl ⟨_,rfl,(hS.sel []),h⟩)))))
  clear hJ;intro j;obtain ⟨J3,hJ,h⟩:=h;refine wt_cutB1 (fun E ds w'=>J3∧ds=[]∧E 1=(ii i)∧E 2=(Value.pointer (some ⟨g,0,none⟩))∧Sep w no O w' (rl [Res.box 98 g [(ii d),(ii d2),(.slice Ad ld cd)],Res.ro (FP.sl (cL (cPr cI (cL c2))) Ad ld cd d3)])) ?_ ?_
  · clear h hS;rintro E ds w9 ⟨h,rfl,H1,H2,hS⟩;replace h:=hJ h;refine yad ?_;obtain ⟨J4,hJ,h⟩:=h;refine ycf (fun E ds w'=>J4∧ds=[]∧E 1=(ii i)∧E 2=(Value.pointer (some ⟨g,0,none⟩))∧Sep w no O w' (rl [Res.box 98 g [(ii d),(ii d2),(.slice Ad ld cd)],Res.ro (FP.sl (cL (cPr cI (cL c2))) Ad ld cd d3)])) ?_ ?_
    · clear h hS;rintro E ds w10 ⟨h,rfl,H1,H2,hS⟩;replace h:=hJ h;exact j _ _ _ ⟨h,rfl,H1,H2,(hS.sel [0,1])⟩
    clear hJ;intro j3;obtain ⟨J5,hJ,h⟩:=h;refine wt_cutB1 (fun E ds w'=>J5∧ds=[]∧E 1=(ii i)∧E 2=(Value.pointer (some ⟨g,0,none⟩))∧Sep w no O w' (rl [Res.box 98 g [(ii d),(ii d2),(.slice Ad ld cd)],Res.ro (FP.sl (cL (cPr cI (cL c2))) Ad ld cd d3)])) ?_ ?_
    · clear h hS;rintro E ds w11 ⟨h,rfl,H1,H2,hS⟩;replace h:=hJ h;refine zs (zq (yab H2 underlying98 rfl ycC) (zq (zl underlying96 (Row.cell (hS.bx 0 rfl) (i:=2) rfl)) (zq (yaF (n:=d3.length) rfl underlying96 (yaD (hS.rdr 1 rfl))) (zq (yab H2 underlying98 rfl yai) (zq (zl underlying3 (Row.cell (hS.bx 0 rfl) (i:=0) rfl)) (zq zN (zQ (.bool (!(decide ((d3.length:Int)=d)))) (yaa ?_))))))));by_cases hp6:(d3.length:Int)=d
      · replace h:=h.1 hp6;exact ze hp6 (yae (j3 _ _ _ ⟨h,rfl,H1,H2,(hS.sel [0,1])⟩))
      · replace h:=h.2 hp6;exact zf hp6 (zs (zQ (ii 8) (yaa (yaf rfl rfl ⟨_,rfl,(hS.sel []),h⟩))))
    clear hJ;intro j4;refine zr (zq (yab H2 underlying98 rfl yai) (zq (zl underlying3 (Row.cell (hS.bx 0 rfl) (i:=0) rfl)) (zq zL (zM (.bool (decide (d<1))) ?_))));by_cases hp7:d<1
    · replace h:=h.1 hp7;exact zV rfl rfl (zT hp7) (zV rfl rfl (zT hp7) (zV rfl rfl (zT hp7) (zq (yaq (v:=(.bool (true))) (zT hp7) rfl) (zM (.bool (true)) (zU (zU (zU (zq (yaq (v:=(.bool (true))) rfl rfl) (zM (.bool (true)) (zU (zU (zU (zq (yaq (v:=(.bool (true))) rfl rfl) (zQ (.bool (true)) (yaa (yar rfl (zs (zQ (ii 2) (yaa (yaf rfl rfl ⟨_,rfl,(hS.sel []),h⟩))))))))))))))))))))
    · replace h:=h.2 hp7;refine zW rfl rfl (zF hp7) (yab H2 underlying98 rfl yai) (zW rfl rfl (zF hp7) (zl underlying3 (Row.cell (hS.bx 0 rfl) (i:=0) rfl)) (zW rfl rfl (zF hp7) zG (zq (yaw (v:=(.bool (decide (16<d)))) (zF hp7) rfl) (zM (.bool (decide (16<d))) ?_))));by_cases hp8:16<d
      · replace h:=h.1 hp8;exact zV rfl rfl (zT hp8) (zV rfl rfl (zT hp8) (zV rfl rfl (zT hp8) (zq (yaq (v:=(.bool (true))) (zT hp8) rfl) (zM (.bool (true)) (zU (zU (zU (zq (yaq (v:=(.bool (true))) rfl rfl) (zQ (.bool (true)) (yaa (yar rfl (zs (zQ (ii 2) (yaa (yaf rfl rfl ⟨_,rfl,(hS.sel []),h⟩)))))))))))))))
      · replace h:=h.2 hp8;refine zW rfl rfl (zF hp8) (yab H2 underlying98 rfl yai) (zW rfl rfl (zF hp8) (zl underlying3 (Row.cell (hS.bx 0 rfl) (i:=1) rfl)) (zW rfl rfl (zF hp8) zL (zq (yaw (v:=(.bool (decide (d2<1)))) (zF hp8) rfl) (zM (.bool (decide (d2<1))) ?_))));by_cases hp9:d2<1
        · replace h:=h.1 hp9;exact zV rfl rfl (zT hp9) (zV rfl rfl (zT hp9) (zV rfl rfl (zT hp9) (zq (yaq (v:=(.bool (true))) (zT hp9) rfl) (zQ (.bool (true)) (yaa (yar rfl (zs (zQ (ii 2) (yaa (yaf rfl rfl ⟨_,rfl,(hS.sel []),h⟩))))))))))
        · replace h:=h.2 hp9;refine zW rfl rfl (zF hp9) (yab H2 underlying98 rfl yai) (zW rfl rfl (zF hp9) (zl underlying3 (Row.cell (hS.bx 0 rfl) (i:=1) rfl)) (zW rfl rfl (zF hp9) zG (zq (yaw (v:=(.bool (decide (8<d2)))) (zF hp9) rfl) (zQ (.bool (decide (8<d2))) (yaa ?_)))));by_cases hp10:8<d2
          · replace h:=h.1 hp10;exact zc hp10 (zs (zQ (ii 2) (yaa (yaf rfl rfl ⟨_,rfl,(hS.sel []),h⟩))))
          · replace h:=h.2 hp10;exact zd hp10 (j4 _ _ _ ⟨h,rfl,H1,H2,(hS.sel [0,1])⟩)
  clear hJ;intro j2;refine zr (zM (ii i) (zq zL (zM (.bool (decide (i<1))) ?_)));by_cases hp11:i<1
  · replace h:=h.1 hp11;exact zV rfl rfl (zT hp11) (zV rfl rfl (zT hp11) (zq (yaq (v:=(.bool (true))) (zT hp11) rfl) (zQ (.bool (true)) (yaa (yar rfl (zs (zQ (ii 1) (yaa (yaf rfl rfl ⟨_,rfl,(hS.sel []),h⟩)))))))))
  · replace h:=h.2 hp11;refine zW rfl rfl (zF hp11) (zm (ii i)) (zW rfl rfl (zF hp11) zG (zq (yaw (v:=(.bool (decide (12<i)))) (zF hp11) rfl) (zQ (.bool (decide (12<i))) (yaa ?_))));by_cases hp12:12<i
    · replace h:=h.1 hp12;exact zc hp12 (zs (zQ (ii 1) (yaa (yaf rfl rfl ⟨_,rfl,(hS.sel []),h⟩))))
    · replace h:=h.2 hp12;exact zd hp12 (j2 _ _ _ ⟨h,rfl,rfl,rfl,(hS.sel [1,0])⟩)
def ybT(x:List (Int×Int×(List (List (Int×(List (Int×Int)))))))(x2:List Int)(x3:List (List Int))(p:Int)(p2:Int)(p3:List (List (Int×(List (Int×Int)))))(R:Bool→Prop):Prop :=
(∃ I2:Nat→Int→Prop,(∃ m0,I2 m0 0)∧∀ m2 v,I2 m2 v → 
((v<(p3.length:Int) →
((0≤v∧v<(p3.length:Int)) ∧
(∃ I3:Nat→Int→Prop,(∃ m0,I3 m0 0)∧∀ m3 v2,I3 m3 v2 → 
((v2<((gx p3 v.toNat).length:Int) →
((0≤v2∧v2<((gx p3 v.toNat).length:Int)) ∧
(∃ I4:Nat→Int→Prop,(∃ m0,I4 m0 0)∧∀ m4 v3,I4 m4 v3 → 
((v3<((((gx (gx p3 v.toNat) v2.toNat).2).length:Nat):Int) →
((0≤v3∧v3<((((gx (gx p3 v.toNat) v2.toNat).2).length:Nat):Int)) ∧
((0≤((gx ((gx (gx p3 v.toNat) v2.toNat).2) v3.toNat).1)∧((gx ((gx (gx p3 v.toNat) v2.toNat).2) v3.toNat).1)<(x.length:Int)) ∧
((((gx x ((gx ((gx (gx p3 v.toNat) v2.toNat).2) v3.toNat).1).toNat).2.1)≤((gx ((gx (gx p3 v.toNat) v2.toNat).2) v3.toNat).2) →
R false) ∧
(¬(((gx x ((gx ((gx (gx p3 v.toNat) v2.toNat).2) v3.toNat).1).toNat).2.1)≤((gx ((gx (gx p3 v.toNat) v2.toNat).2) v3.toNat).2)) →
(In64 (v3+1) ∧
∃ m5,m5<m4∧I4 m5 (v3+1))))))) ∧
(¬(v3<((((gx (gx p3 v.toNat) v2.toNat).2).length:Nat):Int)) →
(In64 (v2+1) ∧
∃ m6,m6<m3∧I3 m6 (v2+1))))))) ∧
(¬(v2<((gx p3 v.toNat).length:Int)) →
(In64 (v+1) ∧
∃ m7,m7<m2∧I2 m7 (v+1))))))) ∧
(¬(v<(p3.length:Int)) →
R true)))
theorem yfA{O:Nat→Prop}{w:World}{x x2 x3 p p2 p3 Ax lx cx Ax2 lx2 cx2 Ax3 lx3 cx3 Ap lp cp}{R:Bool→Prop}(h:ybT x x2 x3 p p2 p3 R)(hO:∀ k,O k→k<w.heap.size)(hA0:(FP.sl (cPr cI (cPr cI (cL (cL (cPr cI (cL c2)))))) Ax lx cx x).P O w)(hA1:(FP.sl cI Ax2 lx2 cx2 x2).P O w)(hA2:(FP.sl (cL cI) Ax3 lx3 cx3 x3).P O w)(hA3:(FP.sl (cL (cPr cI (cL c2))) Ap lp cp p3).P O w) :
    Calls Tryz.prog 148 #[(.agg #[(.slice Ax lx cx),(.slice Ax2 lx2 cx2),(.slice Ax3 lx3 cx3)]),(.agg #[(ii p),(ii p2),(.slice Ap lp cp)])] w fun e w'=>∃ r,e = .returned (.bool (r))∧Sep w no O w' (rl [])∧R r:=by
  unfold ybT at h;have hS:Sep w no O w (rl [Res.ro (FP.sl (cPr cI (cPr cI (cL (cL (cPr cI (cL c2)))))) Ax lx cx x),Res.ro (FP.sl cI Ax2 lx2 cx2 x2),Res.ro (FP.sl (cL cI) Ax3 lx3 cx3 x3),Res.ro (FP.sl (cL (cPr cI (cL c2))) Ap lp cp p3)]):=Sep.startl hO [(FP.sl (cPr cI (cPr cI (cL (cL (cPr cI (cL c2)))))) Ax lx cx x),(FP.sl cI Ax2 lx2 cx2 x2),(FP.sl (cL cI) Ax3 lx3 cx3 x3),(FP.sl (cL (cPr cI (cL c2))) Ap lp cp p3)] ⟨hA0,hA1,hA2,hA3,trivial⟩;refine yao (l:=[(.agg #[(.slice Ax lx cx),(.slice Ax2 lx2 cx2),(.slice Ax3 lx3 cx3)]),(.agg #[(ii p),(ii p2),(.slice Ap lp cp)])]) func148 rfl ntmps148 zY (zs (zn (ybH (v:=(.agg #[(.slice Ax lx cx),(.slice Ax2 lx2 cx2),(.slice Ax3 lx3 cx3)])) rfl ?_)));intro g w2 hN;replace hS:Sep w no O w2 (stl _ 4 (Res.box 53 g [(.slice Ax lx cx),(.slice Ax2 lx2 cx2),(.slice Ax3 lx3 cx3)])):=hS.new 4 rfl hN;clear hN;refine zb (zn (ybH (v:=(.agg #[(ii p),(ii p2),(.slice Ap lp cp)])) rfl ?_));intro g2 w3 hN;replace hS:Sep w no O w3 (stl _ 5 (Res.box 98 g2 [(ii p),(ii p2),(.slice Ap lp cp)])):=hS.new 5 rfl hN;clear hN;refine zb (zQ (.bool (false)) (yaa (yad (zs (zq (yab rfl underlying98 rfl ycC) (zq (zl underlying96 (Row.cell (hS.bx 5 rfl) (i:=2) rfl)) (zq (yaF (n:=p3.length) rfl underlying96 (yaD (hS.rdr 3 rfl))) (zM (ii 0) (yaa (yah ?_))))))))));obtain ⟨I2,⟨m0,h0⟩,hr⟩:=h;refine yaE (fun m E ds w'=>∃ v,I2 m v∧ds=[]∧E 2=(Value.pointer (some ⟨g,0,none⟩))∧E 12=(Value.slice Ap lp cp)∧E 13=(ii (p3.length:Int))∧E 14=(ii v)∧Sep w no O w' (rl [Res.box 53 g [(.slice Ax lx cx),(.slice Ax2 lx2 cx2),(.slice Ax3 lx3 cx3)],Res.ro (FP.sl (cPr cI (cPr cI (cL (cL (cPr cI (cL c2)))))) Ax lx cx x),Res.ro (FP.sl cI Ax2 lx2 cx2 x2),Res.ro (FP.sl (cL cI) Ax3 lx3 cx3 x3),Res.ro (FP.sl (cL (cPr cI (cL c2))) Ap lp cp p3)])) m0 ⟨_,h0,rfl,rfl,rfl,rfl,rfl,(hS.sel [4,0,1,2,3])⟩ ?_;clear h0 hS;rintro m2 E ds w4 ⟨v,h,rfl,H2,H12,H13,H14,hS⟩ ag;replace h:=hr m2 v h;clear hr;refine zs (zq (ybD H14 H13) (yaa (yad ?_)));by_cases hp:v<(p3.length:Int)
  · replace h:=h.1 hp;refine zc hp (yae (yad (yah (zs ?_))));obtain ⟨hx,h⟩:=h;refine zq (ya4 H12 H14 underlying96 ycb (yaK (hS.rdr 4 rfl) hx)) ?_;obtain ⟨A,l,c,hc,hq⟩:=hS.el 4 rfl hx 5 6 rfl rfl (by decide);replace hS:=hq;clear hq;refine zq (yay (v:=(.slice A l c)) rfl underlying140 rfl (hS.clr 6 rfl)) (zQ (.slice A l c) (yaa (zs (zM (.slice A l c) (zq (yaF (n:=(gx p3 v.toNat).length) rfl underlying140 (yaD (hS.rdr 5 rfl))) (zM (ii 0) (yaa (yah ?_))))))));obtain ⟨I3,⟨m0,h0⟩,hr⟩:=h;refine yaE (fun m E ds w'=>∃ v2,I3 m v2∧ds=[]∧E 2=(Value.pointer (some ⟨g,0,none⟩))∧E 12=(Value.slice Ap lp cp)∧E 13=(ii (p3.length:Int))∧E 14=(ii v)∧E 18=(Value.slice A l c)∧E 19=(ii ((gx p3 v.toNat).length:Int))∧E 20=(ii v2)∧Sep w no O w' (rl [Res.box 53 g [(.slice Ax lx cx),(.slice Ax2 lx2 cx2),(.slice Ax3 lx3 cx3)],Res.ro (FP.sl (cPr cI (cPr cI (cL (cL (cPr cI (cL c2)))))) Ax lx cx x),Res.ro (FP.sl cI Ax2 lx2 cx2 x2),Res.ro (FP.sl (cL cI) Ax3 lx3 cx3 x3),Res.ro (FP.sl (cL (cPr cI (cL c2))) Ap lp cp p3),Res.ro (FP.sl (cPr cI (cL c2)) A l c (gx p3 v.toNat))])) m0 ⟨_,h0,rfl,H2,H12,H13,H14,rfl,rfl,rfl,(hS.sel [0,1,2,3,4,5])⟩ ?_;clear h0 hS;rintro m3 E ds w5 ⟨v2,h,rfl,H2,H12,H13,H14,H18,H19,H20,hS⟩ again2;replace h:=hr m3 v2 h;clear hr;refine zs (zq (ybD H20 H19) (yaa (yad ?_)));by_cases hp2:v2<((gx p3 v.toNat).length:Int)
    · replace h:=h.1 hp2;refine zc hp2 (yae (yad (yah (zs ?_))));obtain ⟨hx2,h⟩:=h;refine zq (ya4 H18 H20 underlying140 ya9 (yaK (hS.rdr 5 rfl) hx2)) ?_;obtain ⟨vs_,hR,_,hc2⟩:=yeB (hS.ro 5 rfl) hx2 (fun q=>yaY q);obtain ⟨u_,v_,rfl,hq2,hR⟩:=hR;replace hq2:u_=[(ii ((gx (gx p3 v.toNat) v2.toNat).1))]:=hq2;subst hq2;have hq3:=hR;obtain ⟨A2,l2,c4,rfl,hp3⟩:=R_ro hq3;clear hq3;have hc2_:ygE _ _ 0 [(ii ((gx (gx p3 v.toNat) v2.toNat).1)),(.slice A2 l2 c4)]:=⟨hc2 0 _ rfl,hc2 1 _ rfl,trivial⟩;have hq_0:=hS.addro 6 rfl _ hp3;replace hS:=hq_0;clear hq_0;refine zq (yat (vs:=[(ii ((gx (gx p3 v.toNat) v2.toNat).1)),(.slice A2 l2 c4)]) rfl underlying139 rfl ya9 hc2_) (zn (yaP ya9 ?_));intro g3 w6 hN;replace hS:Sep w no O w6 (stl _ 7 (Res.box 139 g3 [(ii 0),(.slice none 0 0)])):=hS.new 7 rfl hN;clear hN;refine zb (zo (yas (b:=g3) (o:=0) (cells:=#[(ii ((gx (gx p3 v.toNat) v2.toNat).1)),(.slice A2 l2 c4)]) rfl rfl ya9 rfl rfl (yan (hS.bx 7 rfl) zY) ?_));intro w7 e1;replace hS:=hS.bstn 7 rfl 0 [(ii ((gx (gx p3 v.toNat) v2.toNat).1)),(.slice A2 l2 c4)] e1;clear e1;refine zb (yaa (zs (zq (yab rfl underlying139 rfl yen) (zq (zl underlying137 (Row.cell (hS.bx 7 rfl) (i:=1) rfl)) (zq (yaF (n:=((gx (gx p3 v.toNat) v2.toNat).2).length) rfl underlying137 (yaD (hS.rdr 6 rfl))) (zM (ii 0) (yaa (yah ?_))))))));obtain ⟨I4,⟨m0,h0⟩,hr⟩:=h;refine yaE (fun m E ds w'=>∃ v3,I4 m v3∧ds=[]∧E 2=(Value.pointer (some ⟨g,0,none⟩))∧E 12=(Value.slice Ap lp cp)∧E 13=(ii (p3.length:Int))∧E 14=(ii v)∧E 18=(Value.slice A l c)∧E 19=(ii ((gx p3 v.toNat).length:Int))∧E 20=(ii v2)∧E 25=(Value.slice A2 l2 c4)∧E 26=(ii ((((gx (gx p3 v.toNat) v2.toNat).2).length:Nat):Int))∧E 27=(ii v3)∧Sep w no O w' (rl [Res.box 53 g [(.slice Ax lx cx),(.slice Ax2 lx2 cx2),(.slice Ax3 lx3 cx3)],Res.ro (FP.sl (cPr cI (cPr cI (cL (cL (cPr cI (cL c2)))))) Ax lx cx x),Res.ro (FP.sl cI Ax2 lx2 cx2 x2),Res.ro (FP.sl (cL cI) Ax3 lx3 cx3 x3),Res.ro (FP.sl (cL (cPr cI (cL c2))) Ap lp cp p3),Res.ro (FP.sl (cPr cI (cL c2)) A l c (gx p3 v.toNat)),Res.ro (FP.sl c2 A2 l2 c4 ((gx (gx p3 v.toNat) v2.toNat).2))])) m0 ⟨_,h0,rfl,H2,H12,H13,H14,H18,H19,H20,rfl,rfl,rfl,(hS.sel [0,1,2,3,4,5,6])⟩ ?_;clear h0 hS;rintro m4 E ds w8 ⟨v3,h,rfl,H2,H12,H13,H14,H18,H19,H20,H25,H26,H27,hS⟩ again3;replace h:=hr m4 v3 h;clear hr;refine zs (zq (ybD H27 H26) (yaa (yad ?_)));by_cases hp4:v3<((((gx (gx p3 v.toNat) v2.toNat).2).length:Nat):Int)
      · replace h:=h.1 hp4;refine zc hp4 (yae (yad (yah (zs ?_))));obtain ⟨hx3,h⟩:=h;refine zq (ya4 H25 H27 underlying137 yby (yaK (hS.rdr 6 rfl) hx3)) (zq (yat (vs:=[(ii ((gx ((gx (gx p3 v.toNat) v2.toNat).2) v3.toNat).1)),(ii ((gx ((gx (gx p3 v.toNat) v2.toNat).2) v3.toNat).2))]) rfl underlying136 rfl yby (ygm (hS.rdr 6 rfl) hx3 (fun q=>yaY q))) ?_);refine zn (yaP yby ?_);intro g4 w9 hN;replace hS:Sep w no O w9 (stl _ 7 (Res.box 136 g4 [(ii 0),(ii 0)])):=hS.new 7 rfl hN;clear hN;refine zb (zo (yas (b:=g4) (o:=0) (cells:=#[(ii ((gx ((gx (gx p3 v.toNat) v2.toNat).2) v3.toNat).1)),(ii ((gx ((gx (gx p3 v.toNat) v2.toNat).2) v3.toNat).2))]) rfl rfl yby rfl rfl (yan (hS.bx 7 rfl) zY) ?_));intro w10 e1;replace hS:=hS.bstn 7 rfl 0 [(ii ((gx ((gx (gx p3 v.toNat) v2.toNat).2) v3.toNat).1)),(ii ((gx ((gx (gx p3 v.toNat) v2.toNat).2) v3.toNat).2))] e1;clear e1;refine zb (yaa (yad (ybi [0,1,2,3,4,5,6,7,8,9] st0 yav (by kernel_rfl) (by kernel_rfl) ?_)));replace hS:=hS.drew;refine zp (yab rfl underlying136 rfl yai) (zp (zl underlying3 (Row.cell (hS.bx 7 rfl) (i:=1) rfl)) (zp (yab H2 underlying53 rfl ya5) (zp (zl underlying51 (Row.cell (hS.bx 0 rfl) (i:=0) rfl)) (zp (yab rfl underlying136 rfl yai) (zp (zl underlying3 (Row.cell (hS.bx 7 rfl) (i:=0) rfl)) ?_)))));obtain ⟨hx4,h⟩:=h;refine zp (zi underlying51 yaz (yaK (hS.rdr 1 rfl) hx4)) (zp (yab rfl underlying98 rfl yai) ?_);obtain ⟨vs_,hR2,_,hc3⟩:=yeB (hS.ro 1 rfl) hx4 (fun q=>yaY q);obtain ⟨u_,v_,rfl,hq4,hR2⟩:=hR2;replace hq4:u_=[(ii ((gx x ((gx ((gx (gx p3 v.toNat) v2.toNat).2) v3.toNat).1).toNat).1))]:=hq4;subst hq4;obtain ⟨u_,v_,rfl,hq5,hR2⟩:=hR2;replace hq5:u_=[(ii ((gx x ((gx ((gx (gx p3 v.toNat) v2.toNat).2) v3.toNat).1).toNat).2.1))]:=hq5;subst hq5;have hq6:=hR2;obtain ⟨A3,l3,c5,rfl,hp5⟩:=R_ro hq6;clear hq6;have hc3_:=hc3 1 _ rfl;have hq_0:=hS.addro 8 rfl _ hp5;replace hS:=hq_0;clear hq_0;refine zp (yay (v:=(ii ((gx x ((gx ((gx (gx p3 v.toNat) v2.toNat).2) v3.toNat).1).toNat).2.1))) rfl underlying3 rfl hc3_) (zp (yfy rfl rfl) (ybl ?_));by_cases hp6:((gx x ((gx ((gx (gx p3 v.toNat) v2.toNat).2) v3.toNat).1).toNat).2.1)≤((gx ((gx (gx p3 v.toNat) v2.toNat).2) v3.toNat).2)
        · replace h:=h.1 hp6;exact zc hp6 (zs (zQ (.bool (false)) (yaa (yaf rfl rfl ⟨_,rfl,(hS.sel []),h⟩))))
        · replace h:=h.2 hp6;refine zd hp6 (yae (yaj (zr ?_)));obtain ⟨hi,h⟩:=h;refine zq (ybg H27 rfl hi) (zM (ii (v3+1)) (yaa ?_));obtain ⟨mq,hlt,h⟩:=h;exact again3 mq _ _ _ ⟨_,h,rfl,H2,H12,H13,H14,H18,H19,H20,H25,H26,rfl,(hS.sel [0,1,2,3,4,5,6])⟩ hlt
      · replace h:=h.2 hp4;refine zd hp4 (yaC rfl (yaj (zr ?_)));obtain ⟨hi2,h⟩:=h;refine zq (ybg H20 rfl hi2) (zM (ii (v2+1)) (yaa ?_));obtain ⟨mq,hlt,h⟩:=h;exact again2 mq _ _ _ ⟨_,h,rfl,H2,H12,H13,H14,H18,H19,rfl,(hS.sel [0,1,2,3,4,5])⟩ hlt
    · replace h:=h.2 hp2;refine zd hp2 (yaC rfl (yaj (zr ?_)));obtain ⟨hi3,h⟩:=h;refine zq (ybg H14 rfl hi3) (zM (ii (v+1)) (yaa ?_));obtain ⟨mq,hlt,h⟩:=h;exact ag mq _ _ _ ⟨_,h,rfl,H2,H12,H13,rfl,(hS.sel [0,1,2,3,4])⟩ hlt
  · replace h:=h.2 hp;exact zd hp (yaC rfl (zs (zQ (.bool (true)) (yaa (yaf rfl rfl ⟨_,rfl,(hS.sel []),h⟩)))))
def yc7(x:List (Int×Int×(List (List (Int×(List (Int×Int)))))))(x2:List Int)(x3:List (List Int))(table:List (List Int))(R:Int→Prop):Prop :=
(((table.length:Int)=(x.length:Int) →
(∃ I2:Nat→Int→Prop,(∃ m0,I2 m0 0)∧∀ m2 v,I2 m2 v → 
((v<(table.length:Int) →
((0≤v∧v<(table.length:Int)) ∧
((0≤v∧v<(x.length:Int)) ∧
((((gx table v.toNat).length:Int)=((gx x v.toNat).2.1) →
(In64 (v+1) ∧
∃ m3,m3<m2∧I2 m3 (v+1))) ∧
(¬(((gx table v.toNat).length:Int)=((gx x v.toNat).2.1)) →
R 8))))) ∧
(¬(v<(table.length:Int)) →
R 0)))) ∧
(¬((table.length:Int)=(x.length:Int)) →
R 8))
theorem ygB{O:Nat→Prop}{w:World}{x x2 x3 table Ax lx cx Ax2 lx2 cx2 Ax3 lx3 cx3 Aa Ab Ac}{R:Int→Prop}(h:yc7 x x2 x3 table R)(hO:∀ k,O k→k<w.heap.size)(hA0:(FP.sl (cPr cI (cPr cI (cL (cL (cPr cI (cL c2)))))) Ax lx cx x).P O w)(hA1:(FP.sl cI Ax2 lx2 cx2 x2).P O w)(hA2:(FP.sl (cL cI) Ax3 lx3 cx3 x3).P O w)(hA3:(FP.sl (cL cI) Aa Ab Ac table).P O w) :
    Calls Tryz.prog 149 #[(.agg #[(.slice Ax lx cx),(.slice Ax2 lx2 cx2),(.slice Ax3 lx3 cx3)]),(.slice Aa Ab Ac)] w fun e w'=>∃ r,e = .returned (ii r)∧Sep w no O w' (rl [])∧R r:=by
  unfold yc7 at h;have hS:Sep w no O w (rl [Res.ro (FP.sl (cPr cI (cPr cI (cL (cL (cPr cI (cL c2)))))) Ax lx cx x),Res.ro (FP.sl cI Ax2 lx2 cx2 x2),Res.ro (FP.sl (cL cI) Ax3 lx3 cx3 x3),Res.ro (FP.sl (cL cI) Aa Ab Ac table)]):=Sep.startl hO [(FP.sl (cPr cI (cPr cI (cL (cL (cPr cI (cL c2)))))) Ax lx cx x),(FP.sl cI Ax2 lx2 cx2 x2),(FP.sl (cL cI) Ax3 lx3 cx3 x3),(FP.sl (cL cI) Aa Ab Ac table)] ⟨hA0,hA1,hA2,hA3,trivial⟩;refine yao (l:=[(.agg #[(.slice Ax lx cx),(.slice Ax2 lx2 cx2),(.slice Ax3 lx3 cx3)]),(.slice Aa Ab Ac)]) func149 rfl ntmps149 zY (zs (zn (ybH (v:=(.agg #[(.slice Ax lx cx),(.slice Ax2 lx2 cx2),(.slice Ax3 lx3 cx3)])) rfl ?_)));intro g w2 hN;replace hS:Sep w no O w2 (stl _ 4 (Res.box 53 g [(.slice Ax lx cx),(.slice Ax2 lx2 cx2),(.slice Ax3 lx3 cx3)])):=hS.new 4 rfl hN;clear hN;refine zb (zQ (ii 0) (yaa (yad (zs (zM (.slice Aa Ab Ac) (zq (yaF (n:=table.length) rfl underlying43 (yaD (hS.rdr 3 rfl))) (zq (yab rfl underlying53 rfl ya5) (zq (zl underlying51 (Row.cell (hS.bx 4 rfl) (i:=0) rfl)) (zq (yaF (n:=x.length) rfl underlying51 (yaD (hS.rdr 0 rfl))) (zq zN (yaa ?_)))))))))));by_cases hp:(table.length:Int)=(x.length:Int)
  · replace h:=h.1 hp;refine ze hp (yae (yad (zs (zM (.slice Aa Ab Ac) (zq (yaF (n:=table.length) rfl underlying43 (yaD (hS.rdr 3 rfl))) (zM (ii 0) (yaa (yah ?_))))))));obtain ⟨I2,⟨m0,h0⟩,hr⟩:=h;refine yaE (fun m E ds w'=>∃ v,I2 m v∧ds=[]∧E 2=(Value.pointer (some ⟨g,0,none⟩))∧E 13=(Value.slice Aa Ab Ac)∧E 14=(ii (table.length:Int))∧E 15=(ii v)∧Sep w no O w' (rl [Res.box 53 g [(.slice Ax lx cx),(.slice Ax2 lx2 cx2),(.slice Ax3 lx3 cx3)],Res.ro (FP.sl (cPr cI (cPr cI (cL (cL (cPr cI (cL c2)))))) Ax lx cx x),Res.ro (FP.sl cI Ax2 lx2 cx2 x2),Res.ro (FP.sl (cL cI) Ax3 lx3 cx3 x3),Res.ro (FP.sl (cL cI) Aa Ab Ac table)])) m0 ⟨_,h0,rfl,rfl,rfl,rfl,rfl,(hS.sel [4,0,1,2,3])⟩ ?_;clear h0 hS;rintro m2 E ds w3 ⟨v,h,rfl,H2,H13,H14,H15,hS⟩ ag;replace h:=hr m2 v h;clear hr;refine zs (zq (ybD H15 H14) (yaa (yad ?_)));by_cases hp2:v<(table.length:Int)
    · replace h:=h.1 hp2;refine zc hp2 (yae (yad (yah (zs (zq (yac H15) ?_)))));obtain ⟨hx,h⟩:=h;refine zq (ya4 H13 H15 underlying43 yaL (yaK (hS.rdr 4 rfl) hx)) ?_;obtain ⟨A,l,c,hc,hq⟩:=hS.el 4 rfl hx 5 6 rfl rfl (by decide);replace hS:=hq;clear hq;refine zq (yay (v:=(.slice A l c)) rfl underlying33 rfl (hS.clr 6 rfl)) (zQ (ii v) (zQ (.slice A l c) (yaa (zs (zM (.slice A l c) (zq (yaF (n:=(gx table v.toNat).length) rfl underlying33 (yaD (hS.rdr 5 rfl))) (zq (yab H2 underlying53 rfl ya5) (zq (zl underlying51 (Row.cell (hS.bx 0 rfl) (i:=0) rfl)) (zM (ii v) ?_)))))))));obtain ⟨hx2,h⟩:=h;refine zq (zi underlying51 yaz (yaK (hS.rdr 1 rfl) hx2)) (zq (yab rfl underlying98 rfl yai) ?_);obtain ⟨vs_,hR,_,hc2⟩:=yeB (hS.ro 1 rfl) hx2 (fun q=>yaY q);obtain ⟨u_,v_,rfl,hq2,hR⟩:=hR;replace hq2:u_=[(ii ((gx x v.toNat).1))]:=hq2;subst hq2;obtain ⟨u_,v_,rfl,hq3,hR⟩:=hR;replace hq3:u_=[(ii ((gx x v.toNat).2.1))]:=hq3;subst hq3;have hq4:=hR;obtain ⟨A2,l2,c4,rfl,hp3⟩:=R_ro hq4;clear hq4;have hc2_:=hc2 1 _ rfl;have hq_0:=hS.addro 7 rfl _ hp3;replace hS:=hq_0;clear hq_0;refine zq (yay (v:=(ii ((gx x v.toNat).2.1))) rfl underlying3 rfl hc2_) (zq zN (yaa ?_));by_cases hp4:((gx table v.toNat).length:Int)=((gx x v.toNat).2.1)
      · replace h:=h.1 hp4;refine ze hp4 (yae (yaj (zr ?_)));obtain ⟨hi,h⟩:=h;refine zq (ybg H15 rfl hi) (zM (ii (v+1)) (yaa ?_));obtain ⟨mq,hlt,h⟩:=h;exact ag mq _ _ _ ⟨_,h,rfl,H2,H13,H14,rfl,(hS.sel [0,1,2,3,4])⟩ hlt
      · replace h:=h.2 hp4;exact zf hp4 (zs (zQ (ii 8) (yaa (yaf rfl rfl ⟨_,rfl,(hS.sel []),h⟩))))
    · replace h:=h.2 hp2;exact zd hp2 (yaC rfl (zs (zQ (ii 0) (yaa (yaf rfl rfl ⟨_,rfl,(hS.sel []),h⟩)))))
  · replace h:=h.2 hp;exact zf hp (zs (zQ (ii 8) (yaa (yaf rfl rfl ⟨_,rfl,(hS.sel []),h⟩))))
def ybu(d:List (Int×Int×(List (List (Int×(List (Int×Int)))))))(d2:List Int)(d3:List (List Int))(R:Int→Prop):Prop :=
(∃ J2:Prop,(J2→(∃ I2:Nat→Int→Prop,(∃ m0,I2 m0 0)∧∀ m2 v,I2 m2 v → 
((v<(d.length:Int) →
((0≤v∧v<(d.length:Int)) ∧
ycp ((gx d v.toNat).1) ((gx d v.toNat).2.1) ((gx d v.toNat).2.2) (d.length:Int) (fun r =>
((r=0 →
(In64 (v+1) ∧
∃ m3,m3<m2∧I2 m3 (v+1))) ∧
(¬(r=0) →
R r))))) ∧
(¬(v<(d.length:Int)) →
(∃ I3:Nat→Int→Prop,(∃ m0,I3 m0 0)∧∀ m4 v2,I3 m4 v2 → 
((v2<(d.length:Int) →
((0≤v2∧v2<(d.length:Int)) ∧
ybT d d2 d3 ((gx d v2.toNat).1) ((gx d v2.toNat).2.1) ((gx d v2.toNat).2.2) (fun r2 =>
((r2=true →
(In64 (v2+1) ∧
∃ m5,m5<m4∧I3 m5 (v2+1))) ∧
(¬(r2=true) →
R 6))))) ∧
(¬(v2<(d.length:Int)) →
(((d2.length:Int)=(d.length:Int) →
(∃ I4:Nat→Int→Prop,(∃ m0,I4 m0 0)∧∀ m6 v3,I4 m6 v3 → 
((v3<(d2.length:Int) →
((0≤v3∧v3<(d2.length:Int)) ∧
(((gi d2 v3.toNat)<0 →
R 2) ∧
(¬((gi d2 v3.toNat)<0) →
((0≤v3∧v3<(d.length:Int)) ∧
((((gx d v3.toNat).1)≤(gi d2 v3.toNat) →
R 2) ∧
(¬(((gx d v3.toNat).1)≤(gi d2 v3.toNat)) →
(In64 (v3+1) ∧
∃ m7,m7<m6∧I4 m7 (v3+1))))))))) ∧
(¬(v3<(d2.length:Int)) →
yc7 d d2 d3 d3 (fun r3 =>
((r3=0 →
(∃ I5:Nat→Int→Prop,(∃ m0,I5 m0 0)∧∀ m8 v4,I5 m8 v4 → 
((v4<(d3.length:Int) →
((0≤v4∧v4<(d3.length:Int)) ∧
(∃ I6:Nat→Int→Prop,(∃ m0,I6 m0 0)∧∀ m9 v5,I6 m9 v5 → 
((v5<((gx d3 v4.toNat).length:Int) →
((0≤v5∧v5<((gx d3 v4.toNat).length:Int)) ∧
(((gi (gx d3 v4.toNat) v5.toNat)<0 →
R 2) ∧
(¬((gi (gx d3 v4.toNat) v5.toNat)<0) →
((1048576<(gi (gx d3 v4.toNat) v5.toNat) →
R 2) ∧
(¬(1048576<(gi (gx d3 v4.toNat) v5.toNat)) →
(In64 (v5+1) ∧
∃ m10,m10<m9∧I6 m10 (v5+1)))))))) ∧
(¬(v5<((gx d3 v4.toNat).length:Int)) →
(In64 (v4+1) ∧
∃ m11,m11<m8∧I5 m11 (v4+1))))))) ∧
(¬(v4<(d3.length:Int)) →
R 0)))) ∧
(¬(r3=0) →
R r3))))))) ∧
(¬((d2.length:Int)=(d.length:Int)) →
R 8))))))))) ∧
(((d.length:Int)<1 →
R 2) ∧
(¬((d.length:Int)<1) →
((12<(d.length:Int) →
R 2) ∧
(¬(12<(d.length:Int)) →
J2)))))
theorem yg9{O:Nat→Prop}{w:World}{d d2 d3 Ad ld cd Ad2 ld2 cd2 Ad3 ld3 cd3}{R:Int→Prop}(h:ybu d d2 d3 R)(hO:∀ k,O k→k<w.heap.size)(hA0:(FP.sl (cPr cI (cPr cI (cL (cL (cPr cI (cL c2)))))) Ad ld cd d).P O w)(hA1:(FP.sl cI Ad2 ld2 cd2 d2).P O w)(hA2:(FP.sl (cL cI) Ad3 ld3 cd3 d3).P O w) :
    Calls Tryz.prog 97 #[(.agg #[(.slice Ad ld cd),(.slice Ad2 ld2 cd2),(.slice Ad3 ld3 cd3)])] w fun e w'=>∃ r4,e = .returned (ii r4)∧Sep w no O w' (rl [])∧R r4:=by
  unfold ybu at h;have hS:Sep w no O w (rl [Res.ro (FP.sl (cPr cI (cPr cI (cL (cL (cPr cI (cL c2)))))) Ad ld cd d),Res.ro (FP.sl cI Ad2 ld2 cd2 d2),Res.ro (FP.sl (cL cI) Ad3 ld3 cd3 d3)]):=Sep.startl hO [(FP.sl (cPr cI (cPr cI (cL (cL (cPr cI (cL c2)))))) Ad ld cd d),(FP.sl cI Ad2 ld2 cd2 d2),(FP.sl (cL cI) Ad3 ld3 cd3 d3)] ⟨hA0,hA1,hA2,trivial⟩;refine yao (l:=[(.agg #[(.slice Ad ld cd),(.slice Ad2 ld2 cd2),(.slice Ad3 ld3 cd3)])]) func97 rfl ntmps97 zY (zs (zn (ybH (v:=(.agg #[(.slice Ad ld cd),(.slice Ad2 ld2 cd2),(.slice Ad3 ld3 cd3)])) rfl ?_)));intro g w2 hN;replace hS:Sep w no O w2 (stl _ 3 (Res.box 53 g [(.slice Ad ld cd),(.slice Ad2 ld2 cd2),(.slice Ad3 ld3 cd3)])):=hS.new 3 rfl hN;clear hN;refine zb (zQ (ii 0) (yaa (zs (zq (yab rfl underlying53 rfl ya5) (zq (zl underlying51 (Row.cell (hS.bx 3 rfl) (i:=0) rfl)) (zq (yaF (n:=d.length) rfl underlying51 (yaD (hS.rdr 0 rfl))) (zQ (ii (d.length:Int)) (yaa (yad (yad ?_))))))))));obtain ⟨J2,hJ,h⟩:=h;refine ycf (fun E ds w'=>J2∧ds=[]∧E 1=(Value.pointer (some ⟨g,0,none⟩))∧E 3=(ii (d.length:Int))∧Sep w no O w' (rl [Res.box 53 g [(.slice Ad ld cd),(.slice Ad2 ld2 cd2),(.slice Ad3 ld3 cd3)],Res.ro (FP.sl (cPr cI (cPr cI (cL (cL (cPr cI (cL c2)))))) Ad ld cd d),Res.ro (FP.sl cI Ad2 ld2 cd2 d2),Res.ro (FP.sl (cL cI) Ad3 ld3 cd3 d3)])) ?_ ?_
  · clear h hS;rintro E ds w3 ⟨h,rfl,H1,H3,hS⟩;replace h:=hJ h;refine yad (zs (zq (yab H1 underlying53 rfl ya5) (zq (zl underlying51 (Row.cell (hS.bx 0 rfl) (i:=0) rfl)) (zq (yaF (n:=d.length) rfl underlying51 (yaD (hS.rdr 1 rfl))) (zM (ii 0) (yaa (yah ?_)))))));obtain ⟨I2,⟨m0,h0⟩,hr⟩:=h;refine yaE (fun m E ds w'=>∃ v,I2 m v∧ds=[]∧E 1=(Value.pointer (some ⟨g,0,none⟩))∧E 3=(ii (d.length:Int))∧E 26=(Value.slice Ad ld cd)∧E 27=(ii (d.length:Int))∧E 28=(ii v)∧Sep w no O w' (rl [Res.box 53 g [(.slice Ad ld cd),(.slice Ad2 ld2 cd2),(.slice Ad3 ld3 cd3)],Res.ro (FP.sl (cPr cI (cPr cI (cL (cL (cPr cI (cL c2)))))) Ad ld cd d),Res.ro (FP.sl cI Ad2 ld2 cd2 d2),Res.ro (FP.sl (cL cI) Ad3 ld3 cd3 d3)])) m0 ⟨_,h0,rfl,H1,H3,rfl,rfl,rfl,(hS.sel [0,1,2,3])⟩ ?_;clear h0 hS;rintro m2 E ds w4 ⟨v,h,rfl,H1,H3,H26,H27,H28,hS⟩ ag;replace h:=hr m2 v h;clear hr;refine zs (zq (ybD H28 H27) (yaa (yad ?_)));by_cases hp:v<(d.length:Int)
    · replace h:=h.1 hp;refine zc hp (yae (yad (yah (zs ?_))));obtain ⟨hx,h⟩:=h;refine zq (ya4 H26 H28 underlying51 yaz (yaK (hS.rdr 1 rfl) hx)) ?_;obtain ⟨vs_,hR,_,hc⟩:=yeB (hS.ro 1 rfl) hx (fun q=>yaY q);obtain ⟨u_,v_,rfl,hq2,hR⟩:=hR;replace hq2:u_=[(ii ((gx d v.toNat).1))]:=hq2;subst hq2;obtain ⟨u_,v_,rfl,hq3,hR⟩:=hR;replace hq3:u_=[(ii ((gx d v.toNat).2.1))]:=hq3;subst hq3;have hq4:=hR;obtain ⟨A,l,c,rfl,hp2⟩:=R_ro hq4;clear hq4;have hc_:ygE _ _ 0 [(ii ((gx d v.toNat).1)),(ii ((gx d v.toNat).2.1)),(.slice A l c)]:=⟨hc 0 _ rfl,hc 1 _ rfl,hc 2 _ rfl,trivial⟩;have hq_0:=hS.addro 4 rfl _ hp2;replace hS:=hq_0;clear hq_0;refine zq (yat (vs:=[(ii ((gx d v.toNat).1)),(ii ((gx d v.toNat).2.1)),(.slice A l c)]) rfl underlying98 rfl yaz hc_) (zn (yaP yaz ?_));intro g2 w5 hN;replace hS:Sep w no O w5 (stl _ 5 (Res.box 98 g2 [(ii 0),(ii 0),(.slice none 0 0)])):=hS.new 5 rfl hN;clear hN;refine zb (zo (yas (b:=g2) (o:=0) (cells:=#[(ii ((gx d v.toNat).1)),(ii ((gx d v.toNat).2.1)),(.slice A l c)]) rfl rfl yaz rfl rfl (yan (hS.bx 5 rfl) zY) ?_));intro w6 e1;replace hS:=hS.bstn 5 rfl 0 [(ii ((gx d v.toNat).1)),(ii ((gx d v.toNat).2.1)),(.slice A l c)] e1;clear e1;refine zb (yaa (zs (zq (yat (vs:=[(ii ((gx d v.toNat).1)),(ii ((gx d v.toNat).2.1)),(.slice A l c)]) rfl underlying98 rfl yaz ⟨Row.cell (hS.bx 5 rfl) (i:=0) rfl,Row.cell (hS.bx 5 rfl) (i:=1) rfl,Row.cell (hS.bx 5 rfl) (i:=2) rfl,trivial⟩) (zq (yac (v:=(ii (d.length:Int))) H3) (zn (yam rfl (am2 rfl rfl) enter_147 ((ygq h (yaO _) (hS.rdr 4 rfl)).mono ?_)))))));rintro _ w7 ⟨r,rfl,hC,h⟩;replace hS:=hS.pur hC.pure;clear hC;refine ⟨_,rfl,?_⟩;refine zb (zQ (ii r) (yaa (zs (zM (ii r) (zq zN (yaa ?_))))));by_cases hp3:r=0
      · replace h:=h.1 hp3;refine ze hp3 (yae (yaj (zr ?_)));obtain ⟨hi,h⟩:=h;refine zq (ybg H28 rfl hi) (zM (ii (v+1)) (yaa ?_));obtain ⟨mq,hlt,h⟩:=h;exact ag mq _ _ _ ⟨_,h,rfl,H1,H3,H26,H27,rfl,(hS.sel [0,1,2,3])⟩ hlt
      · replace h:=h.2 hp3;exact zf hp3 (zs (zM (ii r) (zQ (ii r) (yaa (yaf rfl rfl ⟨_,rfl,(hS.sel []),h⟩)))))
    · replace h:=h.2 hp;refine zd hp (yaC rfl (yad (zs (zq (yab H1 underlying53 rfl ya5) (zq (zl underlying51 (Row.cell (hS.bx 0 rfl) (i:=0) rfl)) (zq (yaF (n:=d.length) rfl underlying51 (yaD (hS.rdr 1 rfl))) (zM (ii 0) (yaa (yah ?_)))))))));obtain ⟨I3,⟨m0,h0⟩,hr⟩:=h;refine yaE (fun m E ds w'=>∃ v2,I3 m v2∧ds=[]∧E 1=(Value.pointer (some ⟨g,0,none⟩))∧E 3=(ii (d.length:Int))∧E 40=(Value.slice Ad ld cd)∧E 41=(ii (d.length:Int))∧E 42=(ii v2)∧Sep w no O w' (rl [Res.box 53 g [(.slice Ad ld cd),(.slice Ad2 ld2 cd2),(.slice Ad3 ld3 cd3)],Res.ro (FP.sl (cPr cI (cPr cI (cL (cL (cPr cI (cL c2)))))) Ad ld cd d),Res.ro (FP.sl cI Ad2 ld2 cd2 d2),Res.ro (FP.sl (cL cI) Ad3 ld3 cd3 d3)])) m0 ⟨_,h0,rfl,H1,H3,rfl,rfl,rfl,(hS.sel [0,1,2,3])⟩ ?_;clear h0 hS;rintro m4 E ds w8 ⟨v2,h,rfl,H1,H3,H40,H41,H42,hS⟩ again2;replace h:=hr m4 v2 h;clear hr;refine zs (zq (ybD H42 H41) (yaa (yad ?_)));by_cases hp4:v2<(d.length:Int)
      · replace h:=h.1 hp4;refine zc hp4 (yae (yad (yah (zs ?_))));obtain ⟨hx2,h⟩:=h;refine zq (ya4 H40 H42 underlying51 yaz (yaK (hS.rdr 1 rfl) hx2)) ?_;obtain ⟨vs_,hR2,_,hc2⟩:=yeB (hS.ro 1 rfl) hx2 (fun q=>yaY q);obtain ⟨u_,v_,rfl,hq5,hR2⟩:=hR2;replace hq5:u_=[(ii ((gx d v2.toNat).1))]:=hq5;subst hq5;obtain ⟨u_,v_,rfl,hq6,hR2⟩:=hR2;replace hq6:u_=[(ii ((gx d v2.toNat).2.1))]:=hq6;subst hq6;have hq7:=hR2;obtain ⟨A2,l2,c4,rfl,hp5⟩:=R_ro hq7;clear hq7;have hc2_:ygE _ _ 0 [(ii ((gx d v2.toNat).1)),(ii ((gx d v2.toNat).2.1)),(.slice A2 l2 c4)]:=⟨hc2 0 _ rfl,hc2 1 _ rfl,hc2 2 _ rfl,trivial⟩;have hq_0:=hS.addro 4 rfl _ hp5;replace hS:=hq_0;clear hq_0;refine zq (yat (vs:=[(ii ((gx d v2.toNat).1)),(ii ((gx d v2.toNat).2.1)),(.slice A2 l2 c4)]) rfl underlying98 rfl yaz hc2_) (zn (yaP yaz ?_));intro g3 w9 hN;replace hS:Sep w no O w9 (stl _ 5 (Res.box 98 g3 [(ii 0),(ii 0),(.slice none 0 0)])):=hS.new 5 rfl hN;clear hN;refine zb (zo (yas (b:=g3) (o:=0) (cells:=#[(ii ((gx d v2.toNat).1)),(ii ((gx d v2.toNat).2.1)),(.slice A2 l2 c4)]) rfl rfl yaz rfl rfl (yan (hS.bx 5 rfl) zY) ?_));intro w10 e1;replace hS:=hS.bstn 5 rfl 0 [(ii ((gx d v2.toNat).1)),(ii ((gx d v2.toNat).2.1)),(.slice A2 l2 c4)] e1;clear e1;refine zb (yaa (zs (zq (yat (vs:=[(.slice Ad ld cd),(.slice Ad2 ld2 cd2),(.slice Ad3 ld3 cd3)]) H1 underlying53 rfl yap ⟨Row.cell (hS.bx 0 rfl) (i:=0) rfl,Row.cell (hS.bx 0 rfl) (i:=1) rfl,Row.cell (hS.bx 0 rfl) (i:=2) rfl,trivial⟩) (zq (yat (vs:=[(ii ((gx d v2.toNat).1)),(ii ((gx d v2.toNat).2.1)),(.slice A2 l2 c4)]) rfl underlying98 rfl yaz ⟨Row.cell (hS.bx 5 rfl) (i:=0) rfl,Row.cell (hS.bx 5 rfl) (i:=1) rfl,Row.cell (hS.bx 5 rfl) (i:=2) rfl,trivial⟩) (zn (yam rfl (am2 rfl rfl) enter_148 ((yfA h (yaO _) (hS.rdr 1 rfl) (hS.rdr 2 rfl) (hS.rdr 3 rfl) (hS.rdr 4 rfl)).mono ?_)))))));rintro _ w11 ⟨r2,rfl,hC,h⟩;replace hS:=hS.pur hC.pure;clear hC;refine ⟨_,rfl,?_⟩;refine zb (zq (ydX rfl) (yaa ?_));by_cases hp6:r2=true
        · replace h:=h.1 hp6;refine yaA (zC (zB hp6)) (yae (yaj (zr ?_)));obtain ⟨hi2,h⟩:=h;refine zq (ybg H42 rfl hi2) (zM (ii (v2+1)) (yaa ?_));obtain ⟨mq,hlt,h⟩:=h;exact again2 mq _ _ _ ⟨_,h,rfl,H1,H3,H40,H41,rfl,(hS.sel [0,1,2,3])⟩ hlt
        · replace h:=h.2 hp6;exact yar (zC (zB (zI hp6))) (zs (zQ (ii 6) (yaa (yaf rfl rfl ⟨_,rfl,(hS.sel []),h⟩))))
      · replace h:=h.2 hp4;refine zd hp4 (yaC rfl (yad (zs (zq (yab H1 underlying53 rfl yaL) (zq (zl underlying33 (Row.cell (hS.bx 0 rfl) (i:=1) rfl)) (zq (yaF (n:=d2.length) rfl underlying33 (yaD (hS.rdr 2 rfl))) (zq (yac (v:=(ii (d.length:Int))) H3) (zq zN (yaa ?_)))))))));by_cases hp7:(d2.length:Int)=(d.length:Int)
        · replace h:=h.1 hp7;refine ze hp7 (yae (yad (zs (zq (yab H1 underlying53 rfl yaL) (zq (zl underlying33 (Row.cell (hS.bx 0 rfl) (i:=1) rfl)) (zq (yaF (n:=d2.length) rfl underlying33 (yaD (hS.rdr 2 rfl))) (zM (ii 0) (yaa (yah ?_)))))))));obtain ⟨I4,⟨m0,h0⟩,hr⟩:=h;refine yaE (fun m E ds w'=>∃ v3,I4 m v3∧ds=[]∧E 1=(Value.pointer (some ⟨g,0,none⟩))∧E 57=(Value.slice Ad2 ld2 cd2)∧E 58=(ii (d2.length:Int))∧E 59=(ii v3)∧Sep w no O w' (rl [Res.box 53 g [(.slice Ad ld cd),(.slice Ad2 ld2 cd2),(.slice Ad3 ld3 cd3)],Res.ro (FP.sl (cPr cI (cPr cI (cL (cL (cPr cI (cL c2)))))) Ad ld cd d),Res.ro (FP.sl cI Ad2 ld2 cd2 d2),Res.ro (FP.sl (cL cI) Ad3 ld3 cd3 d3)])) m0 ⟨_,h0,rfl,H1,rfl,rfl,rfl,(hS.sel [0,1,2,3])⟩ ?_;clear h0 hS;rintro m6 E ds w12 ⟨v3,h,rfl,H1,H57,H58,H59,hS⟩ again3;replace h:=hr m6 v3 h;clear hr;refine zs (zq (ybD H59 H58) (yaa (yad ?_)));by_cases hp8:v3<(d2.length:Int)
          · replace h:=h.1 hp8;refine zc hp8 (yae (yad (yah (zs (zq (yac H59) ?_)))));obtain ⟨hx3,h⟩:=h;refine zq (ya4 H57 H59 underlying33 yai (yaK (hS.rdr 2 rfl) hx3)) (zq (yay (v:=(ii (gi d2 v3.toNat))) rfl underlying3 rfl (rd_1 (hS.rdr 2 rfl) hx3 (fun q=>yaQ q) rfl)) ?_);refine zQ (ii v3) (zQ (ii (gi d2 v3.toNat)) (yaa (zs (zM (ii (gi d2 v3.toNat)) (zq zL (zM (.bool (decide ((gi d2 v3.toNat)<0))) ?_))))));by_cases hp9:(gi d2 v3.toNat)<0
            · replace h:=h.1 hp9;exact zV rfl rfl (zT hp9) (zV rfl rfl (zT hp9) (zV rfl rfl (zT hp9) (zV rfl rfl (zT hp9) (zV rfl rfl (zT hp9) (zV rfl rfl (zT hp9) (zV rfl rfl (zT hp9) (zV rfl rfl (zT hp9) (zq (yaq (v:=(.bool (true))) (zT hp9) rfl) (yaa (yar rfl (zs (zQ (ii 2) (yaa (yaf rfl rfl ⟨_,rfl,(hS.sel []),h⟩))))))))))))))
            · replace h:=h.2 hp9;refine zW rfl rfl (zF hp9) (zm (ii (gi d2 v3.toNat))) (zW rfl rfl (zF hp9) (yab H1 underlying53 rfl ya5) (zW rfl rfl (zF hp9) (zl underlying51 (Row.cell (hS.bx 0 rfl) (i:=0) rfl)) (zW rfl rfl (zF hp9) (zm (ii v3)) ?_)));obtain ⟨hx4,h⟩:=h;refine zW rfl rfl (zF hp9) (zi underlying51 yaz (yaK (hS.rdr 1 rfl) hx4)) (zW rfl rfl (zF hp9) (yab rfl underlying98 rfl yai) ?_);obtain ⟨vs_,hR3,_,hc3⟩:=yeB (hS.ro 1 rfl) hx4 (fun q=>yaY q);obtain ⟨u_,v_,rfl,hq8,hR3⟩:=hR3;replace hq8:u_=[(ii ((gx d v3.toNat).1))]:=hq8;subst hq8;obtain ⟨u_,v_,rfl,hq9,hR3⟩:=hR3;replace hq9:u_=[(ii ((gx d v3.toNat).2.1))]:=hq9;subst hq9;have hq10:=hR3;obtain ⟨A3,l3,c5,rfl,hp10⟩:=R_ro hq10;clear hq10;have hc3_:=hc3 0 _ rfl;have hq_0:=hS.addro 4 rfl _ hp10;replace hS:=hq_0;clear hq_0;refine zW rfl rfl (zF hp9) (yay (v:=(ii ((gx d v3.toNat).1))) rfl underlying3 rfl hc3_) (zW rfl rfl (zF hp9) (yfy rfl rfl) (zq (yaw (v:=(.bool (decide (((gx d v3.toNat).1)≤(gi d2 v3.toNat))))) (zF hp9) rfl) (yaa ?_)));by_cases hp11:((gx d v3.toNat).1)≤(gi d2 v3.toNat)
              · replace h:=h.1 hp11;exact zc hp11 (zs (zQ (ii 2) (yaa (yaf rfl rfl ⟨_,rfl,(hS.sel []),h⟩))))
              · replace h:=h.2 hp11;refine zd hp11 (yae (yaj (zr ?_)));obtain ⟨hi3,h⟩:=h;refine zq (ybg H59 rfl hi3) (zM (ii (v3+1)) (yaa ?_));obtain ⟨mq,hlt,h⟩:=h;exact again3 mq _ _ _ ⟨_,h,rfl,H1,H57,H58,rfl,(hS.sel [0,1,2,3])⟩ hlt
          · replace h:=h.2 hp8;refine zd hp8 (yaC rfl (yad (zs (zq (yat (vs:=[(.slice Ad ld cd),(.slice Ad2 ld2 cd2),(.slice Ad3 ld3 cd3)]) H1 underlying53 rfl yap ⟨Row.cell (hS.bx 0 rfl) (i:=0) rfl,Row.cell (hS.bx 0 rfl) (i:=1) rfl,Row.cell (hS.bx 0 rfl) (i:=2) rfl,trivial⟩) (zq (yab H1 underlying53 rfl ybf) (zq (zl underlying43 (Row.cell (hS.bx 0 rfl) (i:=2) rfl)) (zn (yam rfl (am2 rfl rfl) enter_149 ((ygB h (yaO _) (hS.rdr 1 rfl) (hS.rdr 2 rfl) (hS.rdr 3 rfl) (hS.rdr 3 rfl)).mono ?_)))))))));rintro _ w13 ⟨r3,rfl,hC,h⟩;replace hS:=hS.pur hC.pure;clear hC;refine ⟨_,rfl,?_⟩;refine zb (zQ (ii r3) (yaa (zs (zM (ii r3) (zq zN (yaa ?_))))));by_cases hp12:r3=0
            · replace h:=h.1 hp12;refine ze hp12 (yae (yad (zs (zq (yab H1 underlying53 rfl ybf) (zq (zl underlying43 (Row.cell (hS.bx 0 rfl) (i:=2) rfl)) (zq (yaF (n:=d3.length) rfl underlying43 (yaD (hS.rdr 3 rfl))) (zM (ii 0) (yaa (yah ?_)))))))));obtain ⟨I5,⟨m0,h0⟩,hr⟩:=h;refine yaE (fun m E ds w'=>∃ v4,I5 m v4∧ds=[]∧E 85=(Value.slice Ad3 ld3 cd3)∧E 86=(ii (d3.length:Int))∧E 87=(ii v4)∧Sep w no O w' (rl [Res.ro (FP.sl (cL cI) Ad3 ld3 cd3 d3)])) m0 ⟨_,h0,rfl,rfl,rfl,rfl,(hS.sel [3])⟩ ?_;clear h0 hS;rintro m8 E ds w14 ⟨v4,h,rfl,H85,H86,H87,hS⟩ again4;replace h:=hr m8 v4 h;clear hr;refine zs (zq (ybD H87 H86) (yaa (yad ?_)));by_cases hp13:v4<(d3.length:Int)
              · replace h:=h.1 hp13;refine zc hp13 (yae (yad (yah (zs ?_))));obtain ⟨hx5,h⟩:=h;refine zq (ya4 H85 H87 underlying43 yaL (yaK (hS.rdr 0 rfl) hx5)) ?_;obtain ⟨A4,l4,c6,hc4,hq⟩:=hS.el 0 rfl hx5 1 2 rfl rfl (by decide);replace hS:=hq;clear hq;refine zq (yay (v:=(.slice A4 l4 c6)) rfl underlying33 rfl (hS.clr 2 rfl)) (zQ (.slice A4 l4 c6) (yaa (zs (zM (.slice A4 l4 c6) (zq (yaF (n:=(gx d3 v4.toNat).length) rfl underlying33 (yaD (hS.rdr 1 rfl))) (zM (ii 0) (yaa (yah ?_))))))));obtain ⟨I6,⟨m0,h0⟩,hr⟩:=h;refine yaE (fun m E ds w'=>∃ v5,I6 m v5∧ds=[]∧E 85=(Value.slice Ad3 ld3 cd3)∧E 86=(ii (d3.length:Int))∧E 87=(ii v4)∧E 91=(Value.slice A4 l4 c6)∧E 92=(ii ((gx d3 v4.toNat).length:Int))∧E 93=(ii v5)∧Sep w no O w' (rl [Res.ro (FP.sl (cL cI) Ad3 ld3 cd3 d3),Res.ro (FP.sl cI A4 l4 c6 (gx d3 v4.toNat))])) m0 ⟨_,h0,rfl,H85,H86,H87,rfl,rfl,rfl,(hS.sel [0,1])⟩ ?_;clear h0 hS;rintro m9 E ds w15 ⟨v5,h,rfl,H85,H86,H87,H91,H92,H93,hS⟩ again5;replace h:=hr m9 v5 h;clear hr;refine zs (zq (ybD H93 H92) (yaa (yad ?_)));by_cases hp14:v5<((gx d3 v4.toNat).length:Int)
                · replace h:=h.1 hp14;refine zc hp14 (yae (yad (yah (zs ?_))));obtain ⟨hx6,h⟩:=h;refine zq (ya4 H91 H93 underlying33 yai (yaK (hS.rdr 1 rfl) hx6)) (zq (yay (v:=(ii (gi (gx d3 v4.toNat) v5.toNat))) rfl underlying3 rfl (rd_1 (hS.rdr 1 rfl) hx6 (fun q=>yaQ q) rfl)) ?_);refine zQ (ii (gi (gx d3 v4.toNat) v5.toNat)) (yaa (zs (zM (ii (gi (gx d3 v4.toNat) v5.toNat)) (zq zL (zM (.bool (decide ((gi (gx d3 v4.toNat) v5.toNat)<0))) ?_)))));by_cases hp15:(gi (gx d3 v4.toNat) v5.toNat)<0
                  · replace h:=h.1 hp15;exact zV rfl rfl (zT hp15) (zV rfl rfl (zT hp15) (zq (yaq (v:=(.bool (true))) (zT hp15) rfl) (yaa (yar rfl (zs (zQ (ii 2) (yaa (yaf rfl rfl ⟨_,rfl,(hS.sel []),h⟩))))))))
                  · replace h:=h.2 hp15;refine zW rfl rfl (zF hp15) (zm (ii (gi (gx d3 v4.toNat) v5.toNat))) (zW rfl rfl (zF hp15) zG (zq (yaw (v:=(.bool (decide (1048576<(gi (gx d3 v4.toNat) v5.toNat))))) (zF hp15) rfl) (yaa ?_)));by_cases hp16:1048576<(gi (gx d3 v4.toNat) v5.toNat)
                    · replace h:=h.1 hp16;exact zc hp16 (zs (zQ (ii 2) (yaa (yaf rfl rfl ⟨_,rfl,(hS.sel []),h⟩))))
                    · replace h:=h.2 hp16;refine zd hp16 (yae (yaj (zr ?_)));obtain ⟨hi4,h⟩:=h;refine zq (ybg H93 rfl hi4) (zM (ii (v5+1)) (yaa ?_));obtain ⟨mq,hlt,h⟩:=h;exact again5 mq _ _ _ ⟨_,h,rfl,H85,H86,H87,H91,H92,rfl,(hS.sel [0,1])⟩ hlt
                · replace h:=h.2 hp14;refine zd hp14 (yaC rfl (yaj (zr ?_)));obtain ⟨hi5,h⟩:=h;refine zq (ybg H87 rfl hi5) (zM (ii (v4+1)) (yaa ?_));obtain ⟨mq,hlt,h⟩:=h;exact again4 mq _ _ _ ⟨_,h,rfl,H85,H86,rfl,(hS.sel [0])⟩ hlt
              · replace h:=h.2 hp13;exact zd hp13 (yaC rfl (zs (zQ (ii 0) (yaa (yaf rfl rfl ⟨_,rfl,(hS.sel []),h⟩)))))
            · replace h:=h.2 hp12;exact zf hp12 (zs (zM (ii r3) (zQ (ii r3) (yaa (yaf rfl rfl ⟨_,rfl,(hS.sel []),h⟩)))))
        · replace h:=h.2 hp7;exact zf hp7 (zs (zQ (ii 8) (yaa (yaf rfl rfl ⟨_,rfl,(hS.sel []),h⟩))))
  clear hJ;intro j;refine zr (zM (ii (d.length:Int)) (zq zL (zM (.bool (decide ((d.length:Int)<1))) ?_)));by_cases hp17:(d.length:Int)<1
  · replace h:=h.1 hp17;exact zV rfl rfl (zT hp17) (zV rfl rfl (zT hp17) (zq (yaq (v:=(.bool (true))) (zT hp17) rfl) (yaa (yar rfl (zs (zQ (ii 2) (yaa (yaf rfl rfl ⟨_,rfl,(hS.sel []),h⟩))))))))
  · replace h:=h.2 hp17;refine zW rfl rfl (zF hp17) (zm (ii (d.length:Int))) (zW rfl rfl (zF hp17) zG (zq (yaw (v:=(.bool (decide (12<(d.length:Int))))) (zF hp17) rfl) (yaa ?_)));by_cases hp18:12<(d.length:Int)
    · replace h:=h.1 hp18;exact zc hp18 (zs (zQ (ii 2) (yaa (yaf rfl rfl ⟨_,rfl,(hS.sel []),h⟩))))
    · replace h:=h.2 hp18;exact zd hp18 (yae (j _ _ _ ⟨h,rfl,rfl,rfl,(hS.sel [3,0,1,2])⟩))
def ybp(s:List Int)(Ff:Int→(Bool→Prop)→Prop)(R:Int→Prop):Prop :=
(∃ I2:Nat→Int→Prop,(∃ m0,I2 m0 0)∧∀ m2 v,I2 m2 v → 
((v<(s.length:Int) →
((0≤v∧v<(s.length:Int)) ∧
Ff (gi s v.toNat) (fun (r:Bool) =>
((r=true →
R v) ∧
(¬(r=true) →
(In64 (v+1) ∧
∃ m3,m3<m2∧I2 m3 (v+1))))))) ∧
(¬(v<(s.length:Int)) →
R (-1))))
theorem ydd{O:Nat→Prop}{w:World}{s:List Int}{Ff:Int→(Bool→Prop)→Prop}{As:Option Addr}{ls:Nat}{cs:Nat}{f:Value}{R:Int→Prop}(h:ybp s Ff R)(hO:∀ k,O k→k<w.heap.size)(hA0:(FP.sl cI As ls cs s).P O w)(hA1:(FP.st fun w'=>∃ (fid:Nat) (us:Array Value),f=Value.func (.func fid) #[] us∧Enters Tryz.prog fid∧∀ (x0:Int) (R:Bool→Prop),Ff x0 R→Calls Tryz.prog fid (#[(Value.int .i64 x0)]++us) w' fun e w''=>∃ r0:Bool,e = .returned (Value.bool (r0))∧Sep w' no no w'' (rl [])∧R r0).P O w) :
    Calls Tryz.prog 157 #[(.slice As ls cs),f] w fun e w'=>∃ r2,e = .returned (ii r2)∧Sep w no O w' (rl [])∧R r2:=by
  unfold ybp at h;have hS:Sep w no O w (rl [Res.ro (FP.sl cI As ls cs s),Res.ro (FP.st fun w'=>∃ (fid:Nat) (us:Array Value),f=Value.func (.func fid) #[] us∧Enters Tryz.prog fid∧∀ (x0:Int) (R:Bool→Prop),Ff x0 R→Calls Tryz.prog fid (#[(Value.int .i64 x0)]++us) w' fun e w''=>∃ r0:Bool,e = .returned (Value.bool (r0))∧Sep w' no no w'' (rl [])∧R r0)]):=Sep.startl hO [(FP.sl cI As ls cs s),(FP.st fun w'=>∃ (fid:Nat) (us:Array Value),f=Value.func (.func fid) #[] us∧Enters Tryz.prog fid∧∀ (x0:Int) (R:Bool→Prop),Ff x0 R→Calls Tryz.prog fid (#[(Value.int .i64 x0)]++us) w' fun e w''=>∃ r0:Bool,e = .returned (Value.bool (r0))∧Sep w' no no w'' (rl [])∧R r0)] ⟨hA0,hA1,trivial⟩;refine yao (l:=[(Value.slice As ls cs),f]) func157 rfl ntmps157 (Nat.le_of_ble_eq_true rfl) ?_;refine yad ?_;refine yau yav ?_;refine rl_q rfl rfl rfl (yaH (v:=(.int .i64 0)) rfl) ?_;refine yaa ?_;refine yad ?_;refine yad ?_;refine yau yav ?_;refine rl_q rfl rfl rfl (yac (v:=(.slice As ls cs)) rfl) ?_;refine rl_q rfl rfl rfl (yaF (n:=s.length) rfl underlying33 (yaD (hS.rdr 0 rfl))) ?_;refine rl_q rfl rfl rfl (yac (v:=(.int .i64 0)) rfl) ?_;refine yaa ?_;refine yah ?_;obtain ⟨I2,⟨m0,h0⟩,hr⟩:=h;refine yaE (fun m E ds w'=>∃ v:Int,I2 m v∧ds=[]∧E 0=(Value.slice As ls cs)∧E 1=f∧E 7=(Value.int .i64 ((s.length:Nat):Int))∧E 8=(Value.int .i64 v)∧Sep w no O w' (rl [Res.ro (FP.sl cI As ls cs s),Res.ro (FP.st fun w'=>∃ (fid:Nat) (us:Array Value),f=Value.func (.func fid) #[] us∧Enters Tryz.prog fid∧∀ (x0:Int) (R:Bool→Prop),Ff x0 R→Calls Tryz.prog fid (#[(Value.int .i64 x0)]++us) w' fun e w''=>∃ r0:Bool,e = .returned (Value.bool (r0))∧Sep w' no no w'' (rl [])∧R r0)])) m0 ⟨_,h0,rfl,rfl,rfl,rfl,rfl,(hS.sel [0,1] (by decide))⟩ ?_;clear h0 hS;rintro m2 E ds w2 ⟨v,h,rfl,H0,H1,H7,H8,hS⟩ ag;replace h:=hr m2 v h;clear hr;refine yad ?_;refine yau yav ?_;refine rl_q rfl rfl rfl (ybD H8 H7) ?_;refine yaa ?_;refine yad ?_;by_cases hp:v<((s.length:Nat):Int)
  · replace h:=h.1 hp;refine zc hp (yae (yad (yah (zs (zq (yac H8) (zQ (ii v) (yaa (zs (zq (yac H1) (zq (yac H0) (zM (ii v) ?_)))))))))));obtain ⟨hx,h⟩:=h;refine zq (zi underlying33 yai (yaK (hS.rdr 0 rfl) hx)) (zq (yay (v:=(ii (gi s v.toNat))) rfl underlying3 rfl (rd_1 (hS.rdr 0 rfl) hx (fun q=>yaQ q) rfl)) ?_);obtain ⟨fid,us,hf,he,hcl⟩:=hS.ro 1 rfl _ (Keeps.refl _ _);replace h:=hcl _ _ h;clear hcl;refine zn (yc8 (hf) (am1 rfl) he (h.mono ?_));clear hf he;rintro _ w3 ⟨r,rfl,hC,h⟩;replace hS:=hS.pur hC.pure;clear hC;refine ⟨_,rfl,?_⟩;refine zb (yaa ?_);by_cases hp2:r=true
    · replace h:=h.1 hp2;exact yar (zC hp2) (zs (zM (ii v) (zQ (ii v) (yaa (yaf rfl rfl ⟨_,rfl,(hS.sel []),h⟩)))))
    · replace h:=h.2 hp2;refine yaA (zC (zI hp2)) (yae (yaj (zr ?_)));obtain ⟨hi,h⟩:=h;refine zq (ybg H8 rfl hi) (zM (ii (v+1)) (yaa ?_));obtain ⟨mq,hlt,h⟩:=h;exact ag mq _ _ _ ⟨_,h,rfl,H0,H1,H7,rfl,(hS.sel [0,1])⟩ hlt
  · replace h:=h.2 hp;exact zd hp (yaC rfl (zs (zQ (ii (-1)) (yaa (yaf rfl rfl ⟨_,rfl,(hS.sel []),h⟩)))))
def ybd(s:List Int)(Ff:Int→(Bool→Prop)→Prop)(R:Bool→Prop):Prop :=
ybp s Ff (fun r =>
R (decide (0≤r)))
theorem ycR{O:Nat→Prop}{w:World}{s:List Int}{Ff:Int→(Bool→Prop)→Prop}{As:Option Addr}{ls:Nat}{cs:Nat}{f:Value}{R:Bool→Prop}(h:ybd s Ff R)(hO:∀ k,O k→k<w.heap.size)(hA0:(FP.sl cI As ls cs s).P O w)(hA1:(FP.st fun w'=>∃ (fid:Nat) (us:Array Value),f=Value.func (.func fid) #[] us∧Enters Tryz.prog fid∧∀ (x0:Int) (R:Bool→Prop),Ff x0 R→Calls Tryz.prog fid (#[(Value.int .i64 x0)]++us) w' fun e w''=>∃ r0:Bool,e = .returned (Value.bool (r0))∧Sep w' no no w'' (rl [])∧R r0).P O w) :
    Calls Tryz.prog 150 #[(.slice As ls cs),f] w fun e w'=>∃ r2,e = .returned (.bool (r2))∧Sep w no O w' (rl [])∧R r2:=by
  unfold ybd at h;have hS:Sep w no O w (rl [Res.ro (FP.sl cI As ls cs s),Res.ro (FP.st fun w'=>∃ (fid:Nat) (us:Array Value),f=Value.func (.func fid) #[] us∧Enters Tryz.prog fid∧∀ (x0:Int) (R:Bool→Prop),Ff x0 R→Calls Tryz.prog fid (#[(Value.int .i64 x0)]++us) w' fun e w''=>∃ r0:Bool,e = .returned (Value.bool (r0))∧Sep w' no no w'' (rl [])∧R r0)]):=Sep.startl hO [(FP.sl cI As ls cs s),(FP.st fun w'=>∃ (fid:Nat) (us:Array Value),f=Value.func (.func fid) #[] us∧Enters Tryz.prog fid∧∀ (x0:Int) (R:Bool→Prop),Ff x0 R→Calls Tryz.prog fid (#[(Value.int .i64 x0)]++us) w' fun e w''=>∃ r0:Bool,e = .returned (Value.bool (r0))∧Sep w' no no w'' (rl [])∧R r0)] ⟨hA0,hA1,trivial⟩;refine yao (l:=[(Value.slice As ls cs),f]) func150 rfl ntmps150 (Nat.le_of_ble_eq_true rfl) ?_;refine yad ?_;refine yau yav ?_;refine rl_q rfl rfl rfl (yaH (v:=(.bool (false))) rfl) ?_;refine yaa ?_;refine yad ?_;refine yau yav ?_;refine rl_q rfl rfl rfl (yac (v:=(.slice As ls cs)) rfl) ?_;refine rl_q rfl rfl rfl (yac (v:=f) rfl) ?_;refine rl_n rfl rfl rfl rfl (yam rfl (am2 rfl rfl) enter_157 ((ydd h (yaO _) (hS.rdr 0 rfl) (FP.sub _ (hS.ro 1 rfl) (fun _ _ h=>h.elim):FP.P _ no _)).mono ?_));rintro _ w2 ⟨r,rfl,hC,h⟩;replace hS:=hS.pur hC.pure;clear hC;refine ⟨_,rfl,?_⟩;refine ⟨Stb.none _,?_⟩;refine rl_q rfl rfl rfl (yfy rfl rfl) ?_;refine rl_q rfl rfl rfl (yaH (v:=(.bool (decide (0≤r)))) rfl) ?_;refine yaa ?_;exact yaf rfl rfl ⟨_,rfl,(hS.sel [] (by decide)),h⟩
def ybj(s:List Int)(R:(List Int)→Prop):Prop :=
(∀ nil:Bool,(nil=true→s=[]) →
((nil=true →
R ([])) ∧
(¬(nil=true) →
(0+s.length≤1000000000 ∧
R ([]++s)))))
theorem ycl{O:Nat→Prop}{w:World}{s As ls cs}{R:(List Int)→Prop}(h:ybj s R)(hO:∀ k,O k→k<w.heap.size)(hA0:(FP.sl cI As ls cs s).P O w) :
    Calls Tryz.prog 51 #[(.slice As ls cs)] w fun e w'=>∃ r Ar lr cr,e = .returned (.slice Ar lr cr)∧Sep w no O w' (rl [Res.own cI 3 Ar lr cr r])∧R r:=by
  unfold ybj at h;have hS:Sep w no O w (rl [Res.ro (FP.sl cI As ls cs s)]):=Sep.startl hO [(FP.sl cI As ls cs s)] ⟨hA0,trivial⟩;refine yao (l:=[(.slice As ls cs)]) func51 rfl ntmps51 zY (zs (zQ (.slice none 0 0) (yaa (yad (zs (zM (.slice As ls cs) ?_))))));obtain ⟨nil,hn⟩:∃ b,Option.isNone As=b:=⟨_,rfl⟩;replace h:=h nil (by rw [←hn];exact rd_nil (hS.rdr 0 rfl));refine zq (ygZ rfl rfl underlying33 hn) (yaa ?_);by_cases hp:nil=true
  · replace h:=h.1 hp;refine yar (zC hp) (zs (zQ (.slice none 0 0) (yaa ?_)));replace hS:=hS.nil 1 rfl cI 3;exact yaf rfl rfl ⟨_,_,_,_,rfl,(hS.sel [1]),h⟩
  · replace h:=h.2 hp;refine yaA (zC (zI hp)) (yae (zs (zn (yaI (l:=[]) (cells:=[]) (bp0) underlying33 yai rfl rfl ?_))));intro g w2 hN;replace hS:=hS.litf (n:=0) 1 rfl (fI .i64) hN ([]:List Int) rfl (by decide) rfl;clear hN;refine zb (zM (.slice As ls cs) ?_);obtain ⟨hx,h⟩:=h;refine zn (yda (c:=cI) rfl rfl underlying33 underlying33 yai rfl rfl (by decide) hS 1 rfl (hS.yr 0 rfl) hx ?_);clear hS;intro A c w3 hS;exact zb (zQ (.slice A (0+ls) c) (yaa (yaf rfl rfl ⟨_,_,_,_,rfl,(hS.sel [1]),h⟩)))
def ybS(s:List (List Int))(Ff:(List Int)→(Bool→Prop)→Prop)(R:Int→Prop):Prop :=
(∃ I2:Nat→Int→Prop,(∃ m0,I2 m0 0)∧∀ m2 v,I2 m2 v → 
((v<(s.length:Int) →
((0≤v∧v<(s.length:Int)) ∧
Ff (gx s v.toNat) (fun (r:Bool) =>
((r=true →
R v) ∧
(¬(r=true) →
(In64 (v+1) ∧
∃ m3,m3<m2∧I2 m3 (v+1))))))) ∧
(¬(v<(s.length:Int)) →
R (-1))))
theorem yeI{O:Nat→Prop}{w:World}{s:List (List Int)}{Ff:(List Int)→(Bool→Prop)→Prop}{As:Option Addr}{ls:Nat}{cs:Nat}{f:Value}{R:Int→Prop}(h:ybS s Ff R)(hO:∀ k,O k→k<w.heap.size)(hA0:(FP.sl (cL cI) As ls cs s).P O w)(hA1:(FP.st fun w'=>∃ (fid:Nat) (us:Array Value),f=Value.func (.func fid) #[] us∧Enters Tryz.prog fid∧∀ (x0:List Int) (Ax0:Option Addr) (lx0:Nat) (cx0:Nat) (R:Bool→Prop),Ff x0 R→(FP.sl cI Ax0 lx0 cx0 x0).P no w'→Calls Tryz.prog fid (#[(Value.slice Ax0 lx0 cx0)]++us) w' fun e w''=>∃ r0:Bool,e = .returned (Value.bool (r0))∧Sep w' no no w'' (rl [])∧R r0).P O w) :
    Calls Tryz.prog 197 #[(.slice As ls cs),f] w fun e w'=>∃ r2,e = .returned (ii r2)∧Sep w no O w' (rl [])∧R r2:=by
  unfold ybS at h;have hS:Sep w no O w (rl [Res.ro (FP.sl (cL cI) As ls cs s),Res.ro (FP.st fun w'=>∃ (fid:Nat) (us:Array Value),f=Value.func (.func fid) #[] us∧Enters Tryz.prog fid∧∀ (x0:List Int) (Ax0:Option Addr) (lx0:Nat) (cx0:Nat) (R:Bool→Prop),Ff x0 R→(FP.sl cI Ax0 lx0 cx0 x0).P no w'→Calls Tryz.prog fid (#[(Value.slice Ax0 lx0 cx0)]++us) w' fun e w''=>∃ r0:Bool,e = .returned (Value.bool (r0))∧Sep w' no no w'' (rl [])∧R r0)]):=Sep.startl hO [(FP.sl (cL cI) As ls cs s),(FP.st fun w'=>∃ (fid:Nat) (us:Array Value),f=Value.func (.func fid) #[] us∧Enters Tryz.prog fid∧∀ (x0:List Int) (Ax0:Option Addr) (lx0:Nat) (cx0:Nat) (R:Bool→Prop),Ff x0 R→(FP.sl cI Ax0 lx0 cx0 x0).P no w'→Calls Tryz.prog fid (#[(Value.slice Ax0 lx0 cx0)]++us) w' fun e w''=>∃ r0:Bool,e = .returned (Value.bool (r0))∧Sep w' no no w'' (rl [])∧R r0)] ⟨hA0,hA1,trivial⟩;refine yao (l:=[(Value.slice As ls cs),f]) func197 rfl ntmps197 (Nat.le_of_ble_eq_true rfl) ?_;refine yad ?_;refine yau yav ?_;refine rl_q rfl rfl rfl (yaH (v:=(.int .i64 0)) rfl) ?_;refine yaa ?_;refine yad ?_;refine yad ?_;refine yau yav ?_;refine rl_q rfl rfl rfl (yac (v:=(.slice As ls cs)) rfl) ?_;refine rl_q rfl rfl rfl (yaF (n:=s.length) rfl underlying43 (yaD (hS.rdr 0 rfl))) ?_;refine rl_q rfl rfl rfl (yac (v:=(.int .i64 0)) rfl) ?_;refine yaa ?_;refine yah ?_;obtain ⟨I2,⟨m0,h0⟩,hr⟩:=h;refine yaE (fun m E ds w'=>∃ v:Int,I2 m v∧ds=[]∧E 0=(Value.slice As ls cs)∧E 1=f∧E 7=(Value.int .i64 ((s.length:Nat):Int))∧E 8=(Value.int .i64 v)∧Sep w no O w' (rl [Res.ro (FP.sl (cL cI) As ls cs s),Res.ro (FP.st fun w'=>∃ (fid:Nat) (us:Array Value),f=Value.func (.func fid) #[] us∧Enters Tryz.prog fid∧∀ (x0:List Int) (Ax0:Option Addr) (lx0:Nat) (cx0:Nat) (R:Bool→Prop),Ff x0 R→(FP.sl cI Ax0 lx0 cx0 x0).P no w'→Calls Tryz.prog fid (#[(Value.slice Ax0 lx0 cx0)]++us) w' fun e w''=>∃ r0:Bool,e = .returned (Value.bool (r0))∧Sep w' no no w'' (rl [])∧R r0)])) m0 ⟨_,h0,rfl,rfl,rfl,rfl,rfl,(hS.sel [0,1] (by decide))⟩ ?_;clear h0 hS;rintro m2 E ds w2 ⟨v,h,rfl,H0,H1,H7,H8,hS⟩ ag;replace h:=hr m2 v h;clear hr;refine yad ?_;refine yau yav ?_;refine rl_q rfl rfl rfl (ybD H8 H7) ?_;refine yaa ?_;refine yad ?_;by_cases hp:v<((s.length:Nat):Int)
  · replace h:=h.1 hp;refine zc hp (yae (yad (yah (zs (zq (yac H8) (zQ (ii v) (yaa (zs (zq (yac H1) (zq (yac H0) (zM (ii v) ?_)))))))))));obtain ⟨hx,h⟩:=h;refine zq (zi underlying43 yaL (yaK (hS.rdr 0 rfl) hx)) ?_;obtain ⟨A,l,c,hc,hq⟩:=hS.el 0 rfl hx 2 3 rfl rfl (by decide);replace hS:=hq;clear hq;refine zq (yay (v:=(.slice A l c)) rfl underlying33 rfl (hS.clr 3 rfl)) ?_;obtain ⟨fid,us,hf,he,hcl⟩:=hS.ro 1 rfl _ (Keeps.refl _ _);replace h:=hcl _ _ _ _ _ h (hS.rdr 2 rfl);clear hcl;refine zn (yc8 (hf) (am1 rfl) he (h.mono ?_));clear hf he;rintro _ w3 ⟨r,rfl,hC,h⟩;replace hS:=hS.pur hC.pure;clear hC;refine ⟨_,rfl,?_⟩;refine zb (yaa ?_);by_cases hp2:r=true
    · replace h:=h.1 hp2;exact yar (zC hp2) (zs (zM (ii v) (zQ (ii v) (yaa (yaf rfl rfl ⟨_,rfl,(hS.sel []),h⟩)))))
    · replace h:=h.2 hp2;refine yaA (zC (zI hp2)) (yae (yaj (zr ?_)));obtain ⟨hi,h⟩:=h;refine zq (ybg H8 rfl hi) (zM (ii (v+1)) (yaa ?_));obtain ⟨mq,hlt,h⟩:=h;exact ag mq _ _ _ ⟨_,h,rfl,H0,H1,H7,rfl,(hS.sel [0,1])⟩ hlt
  · replace h:=h.2 hp;exact zd hp (yaC rfl (zs (zQ (ii (-1)) (yaa (yaf rfl rfl ⟨_,rfl,(hS.sel []),h⟩)))))
def ybo(s:List (List Int))(Ff:(List Int)→(Bool→Prop)→Prop)(R:Bool→Prop):Prop :=
ybS s Ff (fun r =>
R (decide (0≤r)))
theorem yee{O:Nat→Prop}{w:World}{s:List (List Int)}{Ff:(List Int)→(Bool→Prop)→Prop}{As:Option Addr}{ls:Nat}{cs:Nat}{f:Value}{R:Bool→Prop}(h:ybo s Ff R)(hO:∀ k,O k→k<w.heap.size)(hA0:(FP.sl (cL cI) As ls cs s).P O w)(hA1:(FP.st fun w'=>∃ (fid:Nat) (us:Array Value),f=Value.func (.func fid) #[] us∧Enters Tryz.prog fid∧∀ (x0:List Int) (Ax0:Option Addr) (lx0:Nat) (cx0:Nat) (R:Bool→Prop),Ff x0 R→(FP.sl cI Ax0 lx0 cx0 x0).P no w'→Calls Tryz.prog fid (#[(Value.slice Ax0 lx0 cx0)]++us) w' fun e w''=>∃ r0:Bool,e = .returned (Value.bool (r0))∧Sep w' no no w'' (rl [])∧R r0).P O w) :
    Calls Tryz.prog 153 #[(.slice As ls cs),f] w fun e w'=>∃ r2,e = .returned (.bool (r2))∧Sep w no O w' (rl [])∧R r2:=by
  unfold ybo at h;have hS:Sep w no O w (rl [Res.ro (FP.sl (cL cI) As ls cs s),Res.ro (FP.st fun w'=>∃ (fid:Nat) (us:Array Value),f=Value.func (.func fid) #[] us∧Enters Tryz.prog fid∧∀ (x0:List Int) (Ax0:Option Addr) (lx0:Nat) (cx0:Nat) (R:Bool→Prop),Ff x0 R→(FP.sl cI Ax0 lx0 cx0 x0).P no w'→Calls Tryz.prog fid (#[(Value.slice Ax0 lx0 cx0)]++us) w' fun e w''=>∃ r0:Bool,e = .returned (Value.bool (r0))∧Sep w' no no w'' (rl [])∧R r0)]):=Sep.startl hO [(FP.sl (cL cI) As ls cs s),(FP.st fun w'=>∃ (fid:Nat) (us:Array Value),f=Value.func (.func fid) #[] us∧Enters Tryz.prog fid∧∀ (x0:List Int) (Ax0:Option Addr) (lx0:Nat) (cx0:Nat) (R:Bool→Prop),Ff x0 R→(FP.sl cI Ax0 lx0 cx0 x0).P no w'→Calls Tryz.prog fid (#[(Value.slice Ax0 lx0 cx0)]++us) w' fun e w''=>∃ r0:Bool,e = .returned (Value.bool (r0))∧Sep w' no no w'' (rl [])∧R r0)] ⟨hA0,hA1,trivial⟩;refine yao (l:=[(Value.slice As ls cs),f]) func153 rfl ntmps153 (Nat.le_of_ble_eq_true rfl) ?_;refine yad ?_;refine yau yav ?_;refine rl_q rfl rfl rfl (yaH (v:=(.bool (false))) rfl) ?_;refine yaa ?_;refine yad ?_;refine yau yav ?_;refine rl_q rfl rfl rfl (yac (v:=(.slice As ls cs)) rfl) ?_;refine rl_q rfl rfl rfl (yac (v:=f) rfl) ?_;refine rl_n rfl rfl rfl rfl (yam rfl (am2 rfl rfl) enter_197 ((yeI h (yaO _) (hS.rdr 0 rfl) (FP.sub _ (hS.ro 1 rfl) (fun _ _ h=>h.elim):FP.P _ no _)).mono ?_));rintro _ w2 ⟨r,rfl,hC,h⟩;replace hS:=hS.pur hC.pure;clear hC;refine ⟨_,rfl,?_⟩;refine ⟨Stb.none _,?_⟩;refine rl_q rfl rfl rfl (yfy rfl rfl) ?_;refine rl_q rfl rfl rfl (yaH (v:=(.bool (decide (0≤r)))) rfl) ?_;refine yaa ?_;exact yaf rfl rfl ⟨_,rfl,(hS.sel [] (by decide)),h⟩
def ybL(s:List (Int×Int))(R:(List (Int×Int))→Prop):Prop :=
(∀ nil:Bool,(nil=true→s=[]) →
((nil=true →
R ([])) ∧
(¬(nil=true) →
(0+s.length≤1000000000 ∧
R ([]++s)))))
theorem yfa{O:Nat→Prop}{w:World}{s As ls cs}{R:(List (Int×Int))→Prop}(h:ybL s R)(hO:∀ k,O k→k<w.heap.size)(hA0:(FP.sl c2 As ls cs s).P O w) :
    Calls Tryz.prog 163 #[(.slice As ls cs)] w fun e w'=>∃ r Ar lr cr,e = .returned (.slice Ar lr cr)∧Sep w no O w' (rl [Res.own c2 136 Ar lr cr r])∧R r:=by
  unfold ybL at h;have hS:Sep w no O w (rl [Res.ro (FP.sl c2 As ls cs s)]):=Sep.startl hO [(FP.sl c2 As ls cs s)] ⟨hA0,trivial⟩;refine yao (l:=[(.slice As ls cs)]) func163 rfl ntmps163 zY (zs (zQ (.slice none 0 0) (yaa (yad (zs (zM (.slice As ls cs) ?_))))));obtain ⟨nil,hn⟩:∃ b,Option.isNone As=b:=⟨_,rfl⟩;replace h:=h nil (by rw [←hn];exact rd_nil (hS.rdr 0 rfl));refine zq (ygZ rfl rfl underlying137 hn) (yaa ?_);by_cases hp:nil=true
  · replace h:=h.1 hp;refine yar (zC hp) (zs (zQ (.slice none 0 0) (yaa ?_)));replace hS:=hS.nil 1 rfl c2 136;exact yaf rfl rfl ⟨_,_,_,_,rfl,(hS.sel [1]),h⟩
  · replace h:=h.2 hp;refine yaA (zC (zI hp)) (yae (zs (zn (yaI (l:=[]) (cells:=[]) (bp0) underlying137 yby rfl rfl ?_))));intro g w2 hN;replace hS:=hS.litf (n:=0) 1 rfl (fP (fI .i64) (fI .i64)) hN ([]:List (Int×Int)) rfl (by decide) rfl;clear hN;refine zb (zM (.slice As ls cs) ?_);obtain ⟨hx,h⟩:=h;refine zn (yda (c:=c2) rfl rfl underlying137 underlying137 yby rfl rfl (by decide) hS 1 rfl (hS.yr 0 rfl) hx ?_);clear hS;intro A c w3 hS;exact zb (zQ (.slice A (0+ls) c) (yaa (yaf rfl rfl ⟨_,_,_,_,rfl,(hS.sel [1]),h⟩)))
def ybZ(R:Int→(List E3)→Prop):Prop :=
R 3 ([(0,1,1),(0,2,1),(1,2,1)])
theorem ye0{O:Nat→Prop}{w:World}{R:Int→(List E3)→Prop}(h:ybZ R)(hO:∀ k,O k→k<w.heap.size) :
    Calls Tryz.prog 48 #[] w fun e w'=>∃ r r2 Ar lr cr,e = .returned (.agg #[(ii r),(.slice Ar lr cr)])∧Sep w no O w' (rl [Res.own c3 67 Ar lr cr r2])∧R r r2:=by
  unfold ybZ at h;have hS:Sep w no O w (rl []):=Sep.start w hO;refine yao (l:=[]) func48 rfl ntmps48 zY (zs (zn (yaP yaM ?_)));intro g w2 hN;replace hS:Sep w no O w2 (stl _ 0 (Res.box 24 g [(ii 0),(.slice none 0 0)])):=hS.new 0 rfl hN;clear hN;refine zb (yaa (zs (zn (yaR (l:=[(0,(ii 0)),(1,(ii 1)),(2,(ii 1))]) (cells:=[(ii 0),(ii 1),(ii 1)]) (places:=[(0,1),(1,1),(2,1)]) (bp3 rfl rfl rfl) underlying67 ybB (by kernel_rfl) rfl ?_))));refine zb (zn (yaR (l:=[(0,(ii 0)),(1,(ii 2)),(2,(ii 1))]) (cells:=[(ii 0),(ii 2),(ii 1)]) (places:=[(0,1),(1,1),(2,1)]) (bp3 rfl rfl rfl) underlying67 ybB (by kernel_rfl) rfl ?_));refine zb (zn (yaR (l:=[(0,(ii 1)),(1,(ii 2)),(2,(ii 1))]) (cells:=[(ii 1),(ii 2),(ii 1)]) (places:=[(0,1),(1,1),(2,1)]) (bp3 rfl rfl rfl) underlying67 ybB (by kernel_rfl) rfl ?_));refine zb (zn (yaI (l:=[(0,(.agg #[(ii 0),(ii 1),(ii 1)])),(1,(.agg #[(ii 0),(ii 2),(ii 1)])),(2,(.agg #[(ii 1),(ii 2),(ii 1)]))]) (cells:=[(ii 0),(ii 1),(ii 1),(ii 0),(ii 2),(ii 1),(ii 1),(ii 2),(ii 1)]) (bp3 rfl rfl rfl) underlying22 ybB rfl rfl ?_));intro g2 w3 hN;replace hS:=hS.litf (n:=3) 1 rfl (fP (fI .i64) (fP (fI .i64) (fI .i64))) hN ([(0,1,1),(0,2,1),(1,2,1)]:List E3) rfl (by decide) rfl;clear hN;refine zb (zn (yaR (l:=[(0,(ii 3)),(1,(.slice (some ⟨g2,0,none⟩) 3 3))]) (cells:=[(ii 3),(.slice (some ⟨g2,0,none⟩) 3 3)]) (places:=[(0,1),(1,1)]) (bp2 rfl rfl) underlying24 yaM (by kernel_rfl) rfl ?_));refine zb (zo (yas (b:=g) (o:=0) (cells:=#[(ii 3),(.slice (some ⟨g2,0,none⟩) 3 3)]) rfl rfl yaM rfl rfl (yan (hS.bx 0 rfl) zY) ?_));intro w4 e1;replace hS:=hS.bstn 0 rfl 0 [(ii 3),(.slice (some ⟨g2,0,none⟩) 3 3)] e1;clear e1;exact zb (yaa (yf4 rfl (rv_n (vs:=[(ii 3),(.slice (some ⟨g2,0,none⟩) 3 3)]) rfl underlying24 rfl yaM ⟨Row.cell (hS.bx 0 rfl) (i:=0) rfl,Row.cell (hS.bx 0 rfl) (i:=1) rfl,trivial⟩) ⟨_,_,_,_,_,rfl,(hS.sel [1]),h⟩))
def ycB(g:Int)(g2:List E3)(q:Int)(R:Int→Prop):Prop :=
yb2 g g2 (fun r r2 =>
((r2=0 →
((r=true →
((q<0 →
R 2) ∧
(¬(q<0) →
((g≤q →
R 2) ∧
(¬(g≤q) →
R 0))))) ∧
(¬(r=true) →
R 13))) ∧
(¬(r2=0) →
R r2)))
theorem ygd{O:Nat→Prop}{w:World}{g g2 q Ag lg cg}{R:Int→Prop}(h:ycB g g2 q R)(hO:∀ k,O k→k<w.heap.size)(hA0:(FP.sl c3 Ag lg cg g2).P O w) :
    Calls Tryz.prog 140 #[(.agg #[(ii g),(.slice Ag lg cg)]),(ii q)] w fun e w'=>∃ r3,e = .returned (ii r3)∧Sep w no O w' (rl [])∧R r3:=by
  unfold ycB at h;have hS:Sep w no O w (rl [Res.ro (FP.sl c3 Ag lg cg g2)]):=Sep.startl hO [(FP.sl c3 Ag lg cg g2)] ⟨hA0,trivial⟩;refine yao (l:=[(.agg #[(ii g),(.slice Ag lg cg)]),(ii q)]) func140 rfl ntmps140 zY (zs (zn (ybH (v:=(.agg #[(ii g),(.slice Ag lg cg)])) rfl ?_)));intro g3 w2 hN;replace hS:Sep w no O w2 (stl _ 1 (Res.box 24 g3 [(ii g),(.slice Ag lg cg)])):=hS.new 1 rfl hN;clear hN;refine zb (zQ (ii 0) (yaa (zs (zq (yat (vs:=[(ii g),(.slice Ag lg cg)]) rfl underlying24 rfl yaM ⟨Row.cell (hS.bx 1 rfl) (i:=0) rfl,Row.cell (hS.bx 1 rfl) (i:=1) rfl,trivial⟩) (zn (yam rfl (am1 rfl) enter_72 ((yd5 h (yaO _) (hS.rdr 0 rfl)).mono ?_)))))));rintro _ w3 ⟨r,r2,rfl,hC,h⟩;replace hS:=hS.pur hC.pure;clear hC;refine ⟨_,rfl,?_⟩;refine zb (zM (.tuple #[(.bool (r)),(ii r2)]) (zq (zx (.bool (r))) (zq (zx (ii r2)) (zQ (.bool (r)) (zQ (ii r2) (yaa (yad (yah (zs (zM (ii r2) (zq zN (zQ (.bool (!(decide (r2=0)))) (yaa ?_)))))))))))));by_cases hp:r2=0
  · replace h:=h.1 hp;refine ze hp (zs (zM (.bool (r)) (zq (ydX rfl) (zQ (.bool (!(r))) (yaa ?_)))));by_cases hp2:r=true
    · replace h:=h.1 hp2;refine yaA (zC (zB hp2)) (zs (zM (ii q) (zq zL (zM (.bool (decide (q<0))) ?_))));by_cases hp3:q<0
      · replace h:=h.1 hp3;exact zV rfl rfl (zT hp3) (zV rfl rfl (zT hp3) (zV rfl rfl (zT hp3) (zV rfl rfl (zT hp3) (zq (yaq (v:=(.bool (true))) (zT hp3) rfl) (zQ (.bool (true)) (yaa (yar rfl (zs (zQ (ii 2) (yaa (yaf rfl rfl ⟨_,rfl,(hS.sel []),h⟩)))))))))))
      · replace h:=h.2 hp3;refine zW rfl rfl (zF hp3) (zm (ii q)) (zW rfl rfl (zF hp3) (yab rfl underlying24 rfl yai) (zW rfl rfl (zF hp3) (zl underlying3 (Row.cell (hS.bx 1 rfl) (i:=0) rfl)) (zW rfl rfl (zF hp3) (yfy rfl rfl) (zq (yaw (v:=(.bool (decide (g≤q)))) (zF hp3) rfl) (zQ (.bool (decide (g≤q))) (yaa ?_))))));by_cases hp4:g≤q
        · replace h:=h.1 hp4;exact zc hp4 (zs (zQ (ii 2) (yaa (yaf rfl rfl ⟨_,rfl,(hS.sel []),h⟩))))
        · replace h:=h.2 hp4;exact zd hp4 (yae (yaj (zs (zQ (ii 0) (yaa (yaf rfl rfl ⟨_,rfl,(hS.sel []),h⟩))))))
    · replace h:=h.2 hp2;exact yar (zC (zB (zI hp2))) (zs (zQ (ii 13) (yaa (yaf rfl rfl ⟨_,rfl,(hS.sel []),h⟩))))
  · replace h:=h.2 hp;exact zf hp (zs (zM (ii r2) (zQ (ii r2) (yaa (yaf rfl rfl ⟨_,rfl,(hS.sel []),h⟩)))))
def ycQ(g:Int)(g2:List E3)(q:Int)(d:List Int)(R:Int→Prop):Prop :=
ycB g g2 q (fun r =>
((r=0 →
yb6 d g (fun r2 =>
((r2=0 →
(∃ I2:Nat→Int→Prop,(∃ m0,I2 m0 0)∧∀ m2 v,I2 m2 v → 
((v<(d.length:Int) →
((0≤v∧v<(d.length:Int)) ∧
((v=q →
(In64 (v+1) ∧
∃ m3,m3<m2∧I2 m3 (v+1))) ∧
(¬(v=q) →
(((gi d v.toNat)<0 →
R 2) ∧
(¬((gi d v.toNat)<0) →
(In64 (v+1) ∧
∃ m4,m4<m2∧I2 m4 (v+1)))))))) ∧
(¬(v<(d.length:Int)) →
R 0)))) ∧
(¬(r2=0) →
R r2)))) ∧
(¬(r=0) →
R r)))
theorem ygp{O:Nat→Prop}{w:World}{g g2 q d Ag lg cg Ad ld cd}{R:Int→Prop}(h:ycQ g g2 q d R)(hO:∀ k,O k→k<w.heap.size)(hA0:(FP.sl c3 Ag lg cg g2).P O w)(hA1:(FP.sl cI Ad ld cd d).P O w) :
    Calls Tryz.prog 90 #[(.agg #[(ii g),(.slice Ag lg cg)]),(ii q),(.slice Ad ld cd)] w fun e w'=>∃ r3,e = .returned (ii r3)∧Sep w no O w' (rl [])∧R r3:=by
  unfold ycQ at h;have hS:Sep w no O w (rl [Res.ro (FP.sl c3 Ag lg cg g2),Res.ro (FP.sl cI Ad ld cd d)]):=Sep.startl hO [(FP.sl c3 Ag lg cg g2),(FP.sl cI Ad ld cd d)] ⟨hA0,hA1,trivial⟩;refine yao (l:=[(.agg #[(ii g),(.slice Ag lg cg)]),(ii q),(.slice Ad ld cd)]) func90 rfl ntmps90 zY (zs (zn (ybH (v:=(.agg #[(ii g),(.slice Ag lg cg)])) rfl ?_)));intro g3 w2 hN;replace hS:Sep w no O w2 (stl _ 2 (Res.box 24 g3 [(ii g),(.slice Ag lg cg)])):=hS.new 2 rfl hN;clear hN;refine zb (zQ (ii 0) (yaa (yad (zs (zq (yat (vs:=[(ii g),(.slice Ag lg cg)]) rfl underlying24 rfl yaM ⟨Row.cell (hS.bx 2 rfl) (i:=0) rfl,Row.cell (hS.bx 2 rfl) (i:=1) rfl,trivial⟩) (zM (ii q) (zn (yam rfl (am2 rfl rfl) enter_140 ((ygd h (yaO _) (hS.rdr 0 rfl)).mono ?_)))))))));rintro _ w3 ⟨r,rfl,hC,h⟩;replace hS:=hS.pur hC.pure;clear hC;refine ⟨_,rfl,?_⟩;refine zb (zQ (ii r) (yaa (zs (zM (ii r) (zq zN (yaa ?_))))));by_cases hp:r=0
  · replace h:=h.1 hp;refine ze hp (yae (yad (zs (zM (.slice Ad ld cd) (zq (yab rfl underlying24 rfl yai) (zq (zl underlying3 (Row.cell (hS.bx 2 rfl) (i:=0) rfl)) (zn (yam rfl (am2 rfl rfl) yhK ((ydB h (yaO _) (hS.rdr 1 rfl)).mono ?_)))))))));rintro _ w4 ⟨r2,rfl,hC,h⟩;replace hS:=hS.pur hC.pure;clear hC;refine ⟨_,rfl,?_⟩;refine zb (zQ (ii r2) (yaa (zs (zM (ii r2) (zq zN (yaa ?_))))));by_cases hp2:r2=0
    · replace h:=h.1 hp2;refine ze hp2 (yae (yad (zs (zM (.slice Ad ld cd) (zq (yaF (n:=d.length) rfl underlying34 (yaD (hS.rdr 1 rfl))) (zM (ii 0) (yaa (yah ?_))))))));obtain ⟨I2,⟨m0,h0⟩,hr⟩:=h;refine yaE (fun m E ds w'=>∃ v,I2 m v∧ds=[]∧E 1=(ii q)∧E 24=(Value.slice Ad ld cd)∧E 25=(ii (d.length:Int))∧E 26=(ii v)∧Sep w no O w' (rl [Res.ro (FP.sl cI Ad ld cd d)])) m0 ⟨_,h0,rfl,rfl,rfl,rfl,rfl,(hS.sel [1])⟩ ?_;clear h0 hS;rintro m2 E ds w5 ⟨v,h,rfl,H1,H24,H25,H26,hS⟩ ag;replace h:=hr m2 v h;clear hr;refine zs (zq (ybD H26 H25) (yaa (yad ?_)));by_cases hp3:v<(d.length:Int)
      · replace h:=h.1 hp3;refine zc hp3 (yae (yad (yah (zs (zq (yac H26) ?_)))));obtain ⟨hx,h⟩:=h;refine zq (ya4 H24 H26 underlying34 yai (yaK (hS.rdr 0 rfl) hx)) (zq (yay (v:=(ii (gi d v.toNat))) rfl underlying3 rfl (rd_1 (hS.rdr 0 rfl) hx (fun q=>yaQ q) rfl)) ?_);refine zQ (ii v) (zQ (ii (gi d v.toNat)) (yaa (zs (zM (ii v) (zq (yac H1) (zq zN (zM (.bool (!(decide (v=q)))) ?_)))))));by_cases hp4:v=q
        · replace h:=h.1 hp4;refine zV rfl rfl (zC (zB (decide_eq_true hp4))) (zV rfl rfl (zC (zB (decide_eq_true hp4))) (zq (yaw (v:=(.bool (false))) (zC (zB (decide_eq_true hp4))) rfl) (yaa (yaA rfl (yae (yaj (zr ?_)))))));obtain ⟨hi,h⟩:=h;refine zq (ybg H26 rfl hi) (zM (ii (v+1)) (yaa ?_));obtain ⟨mq,hlt,h⟩:=h;exact ag mq _ _ _ ⟨_,h,rfl,H1,H24,H25,rfl,(hS.sel [0])⟩ hlt
        · replace h:=h.2 hp4;refine zW rfl rfl (zC (zB (decide_eq_false hp4))) (zm (ii (gi d v.toNat))) (zW rfl rfl (zC (zB (decide_eq_false hp4))) zL (zq (yaq (v:=(.bool (decide ((gi d v.toNat)<0)))) (zC (zB (decide_eq_false hp4))) rfl) (yaa ?_)));by_cases hp5:(gi d v.toNat)<0
          · replace h:=h.1 hp5;exact zc hp5 (zs (zQ (ii 2) (yaa (yaf rfl rfl ⟨_,rfl,(hS.sel []),h⟩))))
          · replace h:=h.2 hp5;refine zd hp5 (yae (yaj (zr ?_)));obtain ⟨hi2,h⟩:=h;refine zq (ybg H26 rfl hi2) (zM (ii (v+1)) (yaa ?_));obtain ⟨mq,hlt,h⟩:=h;exact ag mq _ _ _ ⟨_,h,rfl,H1,H24,H25,rfl,(hS.sel [0])⟩ hlt
      · replace h:=h.2 hp3;exact zd hp3 (yaC rfl (zs (zQ (ii 0) (yaa (yaf rfl rfl ⟨_,rfl,(hS.sel []),h⟩)))))
    · replace h:=h.2 hp2;exact zf hp2 (zs (zM (ii r2) (zQ (ii r2) (yaa (yaf rfl rfl ⟨_,rfl,(hS.sel []),h⟩)))))
  · replace h:=h.2 hp;exact zf hp (zs (zM (ii r) (zQ (ii r) (yaa (yaf rfl rfl ⟨_,rfl,(hS.sel []),h⟩)))))
def ybn(d:List Int)(q:Int)(R:(List (List Int))→Prop):Prop :=
(∃ I2:Nat→(List (List Int))→Int→Prop,(∃ m0,I2 m0 ([]) 0)∧∀ m2 out v,I2 m2 out v → 
((v<(d.length:Int) →
((0≤v∧v<(d.length:Int)) ∧
(∃ J2:Int→Prop,(∀ (k:Int),J2 k→(out.length+1≤1000000000 ∧
(In64 (v+1) ∧
∃ m3,m3<m2∧I2 m3 (out++[[k]]) (v+1)))) ∧
((v=q →
J2 0) ∧
(¬(v=q) →
J2 (gi d v.toNat)))))) ∧
(¬(v<(d.length:Int)) →
R out)))
theorem ybQ{O:Nat→Prop}{w:World}{d q Ad ld cd}{R:(List (List Int))→Prop}(h:ybn d q R)(hO:∀ k,O k→k<w.heap.size)(hA0:(FP.sl cI Ad ld cd d).P O w) :
    Calls Tryz.prog 52 #[(.slice Ad ld cd),(ii q)] w fun e w'=>∃ r Ar lr cr,e = .returned (.slice Ar lr cr)∧Sep w no O w' (rl [Res.own (cL cI) 33 Ar lr cr r])∧R r:=by
  unfold ybn at h;have hS:Sep w no O w (rl [Res.ro (FP.sl cI Ad ld cd d)]):=Sep.startl hO [(FP.sl cI Ad ld cd d)] ⟨hA0,trivial⟩;refine yao (l:=[(.slice Ad ld cd),(ii q)]) func52 rfl ntmps52 zY (zs (zQ (.slice none 0 0) (yaa (zs (zQ (.slice none 0 0) (yaa (yad (zs (zM (.slice Ad ld cd) (zq (yaF (n:=d.length) rfl underlying34 (yaD (hS.rdr 0 rfl))) (zM (ii 0) (yaa (yah ?_)))))))))))));replace hS:=hS.nil 1 rfl (cL cI) 33;obtain ⟨I2,⟨m0,h0⟩,hr⟩:=h;refine yaE (fun m E ds w'=>∃ out v Aa Ab Ac,I2 m out v∧ds=[]∧E 1=(ii q)∧E 5=(Value.slice Aa Ab Ac)∧E 8=(Value.slice Ad ld cd)∧E 9=(ii (d.length:Int))∧E 10=(ii v)∧Sep w no O w' (rl [Res.own (cL cI) 33 Aa Ab Ac out,Res.ro (FP.sl cI Ad ld cd d)])) m0 ⟨_,_,_,_,_,h0,rfl,rfl,rfl,rfl,rfl,rfl,(hS.sel [1,0])⟩ ?_;clear h0 hS;rintro m2 E ds w2 ⟨out,v,Aa,Ab,Ac,h,rfl,H1,H5,H8,H9,H10,hS⟩ ag;replace h:=hr m2 out v h;clear hr;refine zs (zq (ybD H10 H9) (yaa (yad ?_)));by_cases hp:v<(d.length:Int)
  · replace h:=h.1 hp;refine zc hp (yae (yad (yah (zs (zq (yac H10) ?_)))));obtain ⟨hx,h⟩:=h;refine zq (ya4 H8 H10 underlying34 yai (yaK (hS.rdr 1 rfl) hx)) (zq (yay (v:=(ii (gi d v.toNat))) rfl underlying3 rfl (rd_1 (hS.rdr 1 rfl) hx (fun q=>yaQ q) rfl)) ?_);refine zQ (ii v) (zQ (ii (gi d v.toNat)) (yaa (yad (zs (zM (ii v) (zq (yac H1) (zq zE (yaa ?_))))))));obtain ⟨J2,hJ,h⟩:=h;refine yck (fun E ds w'=>∃ k,J2 k∧ds=[]∧E 1=(ii q)∧E 5=(Value.slice Aa Ab Ac)∧E 7=(ii k)∧E 8=(Value.slice Ad ld cd)∧E 9=(ii (d.length:Int))∧E 10=(ii v)∧Sep w no O w' (rl [Res.own (cL cI) 33 Aa Ab Ac out,Res.ro (FP.sl cI Ad ld cd d)])) ?_ ?_
    · clear h hS;rintro E ds w3 ⟨k,h,rfl,H1,H5,H7,H8,H9,H10,hS⟩;replace h:=hJ k h;refine zr (zq (yac H5) (zq (yac H7) (zn (yaI (l:=[(0,(ii k))]) (cells:=[(ii k)]) (bp1 rfl) underlying33 yai rfl rfl ?_))));intro g w4 hN;replace hS:=hS.litf (n:=1) 2 rfl (fI .i64) hN ([k]:List Int) rfl (by decide) rfl;clear hN;refine zb ?_;replace hS:=hS.frz 2 rfl;refine zn (yaI (l:=[(0,(.slice (some ⟨g,0,none⟩) 1 1))]) (cells:=[(.slice (some ⟨g,0,none⟩) 1 1)]) (bp1 rfl) underlying43 yaL rfl rfl ?_);intro g2 w5 hN;replace hS:=hS.lit (n:=1) (c:=(cL cI)) 3 rfl hN ([[k]]:List (List Int)) rfl (by decide) ⟨[(.slice (some ⟨g,0,none⟩) 1 1)],_,rfl,(ro_R (hS.ro 2 rfl)),rfl⟩;clear hN;refine zb ?_;obtain ⟨hx2,h⟩:=h;refine zn (yda (c:=(cL cI)) rfl rfl underlying43 underlying43 yaL rfl rfl (by decide) hS 0 rfl (hS.yo 3 rfl) hx2 ?_);clear hS;intro A c w6 hS;refine zb (zQ (.slice A (Ab+1) c) (yaa (yaj (zr ?_))));obtain ⟨hi,h⟩:=h;refine zq (ybg H10 rfl hi) (zM (ii (v+1)) (yaa ?_));obtain ⟨mq,hlt,h⟩:=h;exact ag mq _ _ _ ⟨_,_,_,_,_,h,rfl,H1,rfl,H8,H9,rfl,(hS.sel [0,1])⟩ hlt
    clear hJ;intro j;by_cases hp2:v=q
    · replace h:=h.1 hp2;exact zc hp2 (zr (zQ (ii 0) (yaa (j _ _ _ ⟨_,h,rfl,H1,H5,rfl,H8,H9,H10,(hS.sel [0,1])⟩))))
    · replace h:=h.2 hp2;exact zd hp2 (yae (j _ _ _ ⟨_,h,rfl,H1,H5,rfl,H8,H9,H10,(hS.sel [0,1])⟩))
  · replace h:=h.2 hp;exact zd hp (yaC rfl (zs (zq (yac H5) (zQ (.slice Aa Ab Ac) (yaa (yaf rfl rfl ⟨_,_,_,_,rfl,(hS.sel [0]),h⟩))))))
def ybK(R:Int→Int→(List (List (Int×(List (Int×Int)))))→Prop):Prop :=
R 1 1 ([([(0,[])]:List (Int×(List (Int×Int))))])
theorem ybC{O:Nat→Prop}{w:World}{R:Int→Int→(List (List (Int×(List (Int×Int)))))→Prop}(h:ybK R)(hO:∀ k,O k→k<w.heap.size) :
    Calls Tryz.prog 53 #[] w fun e w'=>∃ r r2 r3 Ar lr cr,e = .returned (.agg #[(ii r),(ii r2),(.slice Ar lr cr)])∧Sep w no O w' (rl [Res.own (cL (cPr cI (cL c2))) 140 Ar lr cr r3])∧R r r2 r3:=by
  unfold ybK at h;have hS:Sep w no O w (rl []):=Sep.start w hO;refine yao (l:=[]) func53 rfl ntmps53 zY (zs (zn (yaP yaz ?_)));intro g w2 hN;replace hS:Sep w no O w2 (stl _ 0 (Res.box 98 g [(ii 0),(ii 0),(.slice none 0 0)])):=hS.new 0 rfl hN;clear hN;refine zb (yaa (zs (zn (yaR (l:=[]) (cells:=[(ii 0),(.slice none 0 0)]) (places:=[(0,1),(1,1)]) (bp0) underlying139 ya9 (by kernel_rfl) rfl ?_))));refine zb (zn (yaI (l:=[(0,(.agg #[(ii 0),(.slice none 0 0)]))]) (cells:=[(ii 0),(.slice none 0 0)]) (bp1 rfl) underlying140 ya9 rfl rfl ?_));intro g2 w3 hN;replace hS:=hS.lit (n:=1) (c:=(cPr cI (cL c2))) 1 rfl hN (([(0,[])]:List (Int×(List (Int×Int)))):List (Int×(List (Int×Int)))) rfl (by decide) ⟨[(ii 0),(.slice none 0 0)],_,rfl,⟨[(ii 0)],[(.slice none 0 0)],rfl,rfl,⟨_,_,_,rfl,rfl,Nat.le_refl _,Sl.nil _ _ _ _⟩⟩,rfl⟩;clear hN;refine zb ?_;replace hS:=hS.frz 1 rfl;refine zn (yaI (l:=[(0,(.slice (some ⟨g2,0,none⟩) 1 1))]) (cells:=[(.slice (some ⟨g2,0,none⟩) 1 1)]) (bp1 rfl) underlying96 ycb rfl rfl ?_);intro g3 w4 hN;replace hS:=hS.lit (n:=1) (c:=(cL (cPr cI (cL c2)))) 2 rfl hN ([([(0,[])]:List (Int×(List (Int×Int))))]:List (List (Int×(List (Int×Int))))) rfl (by decide) ⟨[(.slice (some ⟨g2,0,none⟩) 1 1)],_,rfl,(ro_R (hS.ro 1 rfl)),rfl⟩;clear hN;refine zb (zn (yaR (l:=[(0,(ii 1)),(1,(ii 1)),(2,(.slice (some ⟨g3,0,none⟩) 1 1))]) (cells:=[(ii 1),(ii 1),(.slice (some ⟨g3,0,none⟩) 1 1)]) (places:=[(0,1),(1,1),(2,1)]) (bp3 rfl rfl rfl) underlying98 yaz (by kernel_rfl) rfl ?_));refine zb (zo (yas (b:=g) (o:=0) (cells:=#[(ii 1),(ii 1),(.slice (some ⟨g3,0,none⟩) 1 1)]) rfl rfl yaz rfl rfl (yan (hS.bx 0 rfl) zY) ?_));intro w5 e1;replace hS:=hS.bstn 0 rfl 0 [(ii 1),(ii 1),(.slice (some ⟨g3,0,none⟩) 1 1)] e1;clear e1;exact zb (yaa (yf4 rfl (rv_n (vs:=[(ii 1),(ii 1),(.slice (some ⟨g3,0,none⟩) 1 1)]) rfl underlying98 rfl yaz ⟨Row.cell (hS.bx 0 rfl) (i:=0) rfl,Row.cell (hS.bx 0 rfl) (i:=1) rfl,Row.cell (hS.bx 0 rfl) (i:=2) rfl,trivial⟩) ⟨_,_,_,_,_,_,rfl,(hS.sel [2]),h⟩))
def yez(g:Int)(g2:List E3)(vertices:List Int)(R:Int→Prop):Prop :=
ycO g g2 (fun r =>
((r=0 →
(∃ I2:Nat→Int→Prop,(∃ m0,I2 m0 0)∧∀ m2 v,I2 m2 v → 
((v<(vertices.length:Int) →
((0≤v∧v<(vertices.length:Int)) ∧
ybU g (gi vertices v.toNat) (fun r2 =>
((r2=true →
(In64 (v+1) ∧
∃ m3,m3<m2∧I2 m3 (v+1))) ∧
(¬(r2=true) →
R 2))))) ∧
(¬(v<(vertices.length:Int)) →
R 0)))) ∧
(¬(r=0) →
R r)))
theorem pok_graph_at{O:Nat→Prop}{w:World}{g g2 vertices Ag lg cg Aa Ab Ac}{R:Int→Prop}(h:yez g g2 vertices R)(hO:∀ k,O k→k<w.heap.size)(hA0:(FP.sl c3 Ag lg cg g2).P O w)(hA1:(FP.sl cI Aa Ab Ac vertices).P O w) :
    Calls Tryz.prog 187 #[(.agg #[(ii g),(.slice Ag lg cg)]),(.slice Aa Ab Ac)] w fun e w'=>∃ r3,e = .returned (ii r3)∧Sep w no O w' (rl [])∧R r3:=by
  unfold yez at h;have hS:Sep w no O w (rl [Res.ro (FP.sl c3 Ag lg cg g2),Res.ro (FP.sl cI Aa Ab Ac vertices)]):=Sep.startl hO [(FP.sl c3 Ag lg cg g2),(FP.sl cI Aa Ab Ac vertices)] ⟨hA0,hA1,trivial⟩;refine yao (l:=[(.agg #[(ii g),(.slice Ag lg cg)]),(.slice Aa Ab Ac)]) func187 rfl ntmps187 zY (zs (zn (ybH (v:=(.agg #[(ii g),(.slice Ag lg cg)])) rfl ?_)));intro g3 w2 hN;replace hS:Sep w no O w2 (stl _ 2 (Res.box 24 g3 [(ii g),(.slice Ag lg cg)])):=hS.new 2 rfl hN;clear hN;refine zb (zQ (ii 0) (yaa (yad (zs (zq (yat (vs:=[(ii g),(.slice Ag lg cg)]) rfl underlying24 rfl yaM ⟨Row.cell (hS.bx 2 rfl) (i:=0) rfl,Row.cell (hS.bx 2 rfl) (i:=1) rfl,trivial⟩) (zn (yam rfl (am1 rfl) enter_93 ((yfL h (yaO _) (hS.rdr 0 rfl)).mono ?_))))))));rintro _ w3 ⟨r,rfl,hC,h⟩;replace hS:=hS.pur hC.pure;clear hC;refine ⟨_,rfl,?_⟩;refine zb (zQ (ii r) (yaa (zs (zM (ii r) (zq zN (yaa ?_))))));by_cases hp:r=0
  · replace h:=h.1 hp;refine ze hp (yae (yad (zs (zM (.slice Aa Ab Ac) (zq (yaF (n:=vertices.length) rfl underlying33 (yaD (hS.rdr 1 rfl))) (zM (ii 0) (yaa (yah ?_))))))));obtain ⟨I2,⟨m0,h0⟩,hr⟩:=h;refine yaE (fun m E ds w'=>∃ v,I2 m v∧ds=[]∧E 2=(Value.pointer (some ⟨g3,0,none⟩))∧E 13=(Value.slice Aa Ab Ac)∧E 14=(ii (vertices.length:Int))∧E 15=(ii v)∧Sep w no O w' (rl [Res.box 24 g3 [(ii g),(.slice Ag lg cg)],Res.ro (FP.sl c3 Ag lg cg g2),Res.ro (FP.sl cI Aa Ab Ac vertices)])) m0 ⟨_,h0,rfl,rfl,rfl,rfl,rfl,(hS.sel [2,0,1])⟩ ?_;clear h0 hS;rintro m2 E ds w4 ⟨v,h,rfl,H2,H13,H14,H15,hS⟩ ag;replace h:=hr m2 v h;clear hr;refine zs (zq (ybD H15 H14) (yaa (yad ?_)));by_cases hp2:v<(vertices.length:Int)
    · replace h:=h.1 hp2;refine zc hp2 (yae (yad (yah (zs ?_))));obtain ⟨hx,h⟩:=h;refine zq (ya4 H13 H15 underlying33 yai (yaK (hS.rdr 2 rfl) hx)) (zq (yay (v:=(ii (gi vertices v.toNat))) rfl underlying3 rfl (rd_1 (hS.rdr 2 rfl) hx (fun q=>yaQ q) rfl)) ?_);refine zQ (ii (gi vertices v.toNat)) (yaa (zs (zq (yab H2 underlying24 rfl yai) (zq (zl underlying3 (Row.cell (hS.bx 0 rfl) (i:=0) rfl)) (zM (ii (gi vertices v.toNat)) (zn (yam rfl (am2 rfl rfl) yhS ((yeb h (yaO _)).mono ?_))))))));rintro _ w5 ⟨r2,rfl,hC,h⟩;replace hS:=hS.pur hC.pure;clear hC;refine ⟨_,rfl,?_⟩;refine zb (zq (ydX rfl) (yaa ?_));by_cases hp3:r2=true
      · replace h:=h.1 hp3;refine yaA (zC (zB hp3)) (yae (yaj (zr ?_)));obtain ⟨hi,h⟩:=h;refine zq (ybg H15 rfl hi) (zM (ii (v+1)) (yaa ?_));obtain ⟨mq,hlt,h⟩:=h;exact ag mq _ _ _ ⟨_,h,rfl,H2,H13,H14,rfl,(hS.sel [0,1,2])⟩ hlt
      · replace h:=h.2 hp3;exact yar (zC (zB (zI hp3))) (zs (zQ (ii 2) (yaa (yaf rfl rfl ⟨_,rfl,(hS.sel []),h⟩))))
    · replace h:=h.2 hp2;exact zd hp2 (yaC rfl (zs (zQ (ii 0) (yaa (yaf rfl rfl ⟨_,rfl,(hS.sel []),h⟩)))))
  · replace h:=h.2 hp;exact zf hp (zs (zM (ii r) (zQ (ii r) (yaa (yaf rfl rfl ⟨_,rfl,(hS.sel []),h⟩)))))
def ydy(a:Int)(b:Int)(R:Int→Int→Prop):Prop :=
R (mnF a b) (mxF a b)
theorem yhF{O:Nat→Prop}{w:World}{a b}{R:Int→Int→Prop}(h:ydy a b R)(hO:∀ k,O k→k<w.heap.size) :
    Calls Tryz.prog 189 #[(ii a),(ii b)] w fun e w'=>∃ r r2,e = .returned (.agg #[(ii r),(ii r2)])∧Sep w no O w' (rl [])∧R r r2:=by
  unfold ydy at h;have hS:Sep w no O w (rl []):=Sep.start w hO;refine yao (l:=[(ii a),(ii b)]) func189 rfl ntmps189 zY (zs (zn (yaP ybR ?_)));intro g w2 hN;replace hS:Sep w no O w2 (stl _ 0 (Res.box 148 g [(ii 0),(ii 0)])):=hS.new 0 rfl hN;clear hN;refine zb (yaa (zs (zM (ii a) (zM (ii b) (zq (v_min2 rfl rfl) (zM (ii a) (zM (ii b) (zq (v_max2 rfl rfl) (zn (yaR (l:=[(0,(ii (mnF a b))),(1,(ii (mxF a b)))]) (cells:=[(ii (mnF a b)),(ii (mxF a b))]) (places:=[(0,1),(1,1)]) (bp2 rfl rfl) underlying148 ybR (by kernel_rfl) rfl ?_))))))))));refine zb (zo (yas (b:=g) (o:=0) (cells:=#[(ii (mnF a b)),(ii (mxF a b))]) rfl rfl ybR rfl rfl (yan (hS.bx 0 rfl) zY) ?_));intro w3 e1;replace hS:=hS.bstn 0 rfl 0 [(ii (mnF a b)),(ii (mxF a b))] e1;clear e1;exact zb (yaa (yf4 rfl (rv_n (vs:=[(ii (mnF a b)),(ii (mxF a b))]) rfl underlying148 rfl ybR ⟨Row.cell (hS.bx 0 rfl) (i:=0) rfl,Row.cell (hS.bx 0 rfl) (i:=1) rfl,trivial⟩) ⟨_,_,rfl,(hS.sel []),h⟩))
def ybb(x:List E3)(target:Int)(target2:Int)(Fcmp:Int→Int→Int→Int→Int→(Int→Prop)→Prop)(R:Int→Bool→Prop):Prop :=
(∃ I2:Nat→Int→Int→Prop,(∃ m0,I2 m0 0 (x.length:Int))∧∀ m2 i j,I2 m2 i j → 
((i<j →
(In64 (i+j) ∧
(InK .u64 (i+j) ∧
((0≤(1:Int)∧(1:Int)<64) ∧
(In64 ((i+j) / 2^(1:Int).toNat) ∧
((0≤((i+j) / 2^(1:Int).toNat)∧((i+j) / 2^(1:Int).toNat)<(x.length:Int)) ∧
Fcmp ((ge x ((i+j) / 2^(1:Int).toNat).toNat).1) ((ge x ((i+j) / 2^(1:Int).toNat).toNat).2.1) ((ge x ((i+j) / 2^(1:Int).toNat).toNat).2.2) target target2 (fun (r:Int) =>
((r<0 →
(In64 (((i+j) / 2^(1:Int).toNat)+1) ∧
∃ m3,m3<m2∧I2 m3 (((i+j) / 2^(1:Int).toNat)+1) j)) ∧
(¬(r<0) →
∃ m4,m4<m2∧I2 m4 i ((i+j) / 2^(1:Int).toNat)))))))))) ∧
(¬(i<j) →
((i<(x.length:Int) →
((0≤i∧i<(x.length:Int)) ∧
Fcmp ((ge x i.toNat).1) ((ge x i.toNat).2.1) ((ge x i.toNat).2.2) target target2 (fun (r2:Int) =>
R i (decide (r2=0))))) ∧
(¬(i<(x.length:Int)) →
R i false)))))
theorem ydK{O:Nat→Prop}{w:World}{x:List (Int×Int×Int)}{target:Int}{target2:Int}{Fcmp:Int→Int→Int→Int→Int→(Int→Prop)→Prop}{Ax:Option Addr}{lx:Nat}{cx:Nat}{cmp:Value}{R:Int→Bool→Prop}(h:ybb x target target2 Fcmp R)(hO:∀ k,O k→k<w.heap.size)(hA0:(FP.sl c3 Ax lx cx x).P O w)(hA1:(FP.st fun w'=>∃ (fid:Nat) (us:Array Value),cmp=Value.func (.func fid) #[] us∧Enters Tryz.prog fid∧∀ (x0:Int) (x02:Int) (x03:Int) (x1:Int) (x12:Int) (R:Int→Prop),Fcmp x0 x02 x03 x1 x12 R→Calls Tryz.prog fid (#[(Value.agg #[(Value.int .i64 x0),(Value.int .i64 x02),(Value.int .i64 x03)]),(Value.agg #[(Value.int .i64 x1),(Value.int .i64 x12)])]++us) w' fun e w''=>∃ r0:Int,e = .returned (Value.int .i64 r0)∧Sep w' no no w'' (rl [])∧R r0).P O w) :
    Calls Tryz.prog 188 #[(.slice Ax lx cx),(.agg #[(ii target),(ii target2)]),cmp] w fun e w'=>∃ r3 r4,e = .returned (.tuple #[(ii r3),(.bool (r4))])∧Sep w no O w' (rl [])∧R r3 r4:=by
  unfold ybb at h;have hS:Sep w no O w (rl [Res.ro (FP.sl c3 Ax lx cx x),Res.ro (FP.st fun w'=>∃ (fid:Nat) (us:Array Value),cmp=Value.func (.func fid) #[] us∧Enters Tryz.prog fid∧∀ (x0:Int) (x02:Int) (x03:Int) (x1:Int) (x12:Int) (R:Int→Prop),Fcmp x0 x02 x03 x1 x12 R→Calls Tryz.prog fid (#[(Value.agg #[(Value.int .i64 x0),(Value.int .i64 x02),(Value.int .i64 x03)]),(Value.agg #[(Value.int .i64 x1),(Value.int .i64 x12)])]++us) w' fun e w''=>∃ r0:Int,e = .returned (Value.int .i64 r0)∧Sep w' no no w'' (rl [])∧R r0)]):=Sep.startl hO [(FP.sl c3 Ax lx cx x),(FP.st fun w'=>∃ (fid:Nat) (us:Array Value),cmp=Value.func (.func fid) #[] us∧Enters Tryz.prog fid∧∀ (x0:Int) (x02:Int) (x03:Int) (x1:Int) (x12:Int) (R:Int→Prop),Fcmp x0 x02 x03 x1 x12 R→Calls Tryz.prog fid (#[(Value.agg #[(Value.int .i64 x0),(Value.int .i64 x02),(Value.int .i64 x03)]),(Value.agg #[(Value.int .i64 x1),(Value.int .i64 x12)])]++us) w' fun e w''=>∃ r0:Int,e = .returned (Value.int .i64 r0)∧Sep w' no no w'' (rl [])∧R r0)] ⟨hA0,hA1,trivial⟩;refine yao (l:=[(Value.slice Ax lx cx),(Value.agg #[(Value.int .i64 target),(Value.int .i64 target2)]),cmp]) func188 rfl ntmps188 (Nat.le_of_ble_eq_true rfl) ?_;refine yad ?_;refine yau yav ?_;refine rl_n rfl rfl rfl rfl (ybH (v:=(.agg #[(.int .i64 target),(.int .i64 target2)])) rfl ?_);intro g w2 hN;replace hS:Sep w no O w2 (stl _ 2 (Res.box 148 g [(Value.int .i64 target),(Value.int .i64 target2)])):=hS.new 2 rfl hN;clear hN;refine ⟨Stb.none _,?_⟩;refine rl_q rfl rfl rfl (yaH (v:=(.int .i64 0)) rfl) ?_;refine rl_q rfl rfl rfl (yaH (v:=(.bool (false))) rfl) ?_;refine yaa ?_;refine yad ?_;refine yau yav ?_;refine rl_q rfl rfl rfl (yac (v:=(.slice Ax lx cx)) rfl) ?_;refine rl_q rfl rfl rfl (yaF (n:=x.length) rfl underlying22 (yaD (hS.rdr 0 rfl))) ?_;refine rl_q rfl rfl rfl (yaH (v:=(.int .i64 ((x.length:Nat):Int))) rfl) ?_;refine yaa ?_;refine yad ?_;refine yau yav ?_;refine rl_q rfl rfl rfl (yac (v:=(.int .i64 ((x.length:Nat):Int))) rfl) ?_;refine rl_q rfl rfl rfl (yaH (v:=(.int .i64 0)) rfl) ?_;refine rl_q rfl rfl rfl (yaH (v:=(.int .i64 ((x.length:Nat):Int))) rfl) ?_;refine yaa ?_;refine yad ?_;refine yah ?_;obtain ⟨I2,⟨m0,h0⟩,hr⟩:=h;refine yaE (fun m E ds w'=>∃ i:Int,∃ j:Int,I2 m i j∧ds=[]∧E 0=(Value.slice Ax lx cx)∧E 2=cmp∧E 4=(Value.pointer (some (⟨g,0,none⟩:Addr)))∧E 8=(Value.int .i64 ((x.length:Nat):Int))∧E 9=(Value.int .i64 i)∧E 10=(Value.int .i64 j)∧Sep w no O w' (rl [Res.ro (FP.sl c3 Ax lx cx x),Res.ro (FP.st fun w'=>∃ (fid:Nat) (us:Array Value),cmp=Value.func (.func fid) #[] us∧Enters Tryz.prog fid∧∀ (x0:Int) (x02:Int) (x03:Int) (x1:Int) (x12:Int) (R:Int→Prop),Fcmp x0 x02 x03 x1 x12 R→Calls Tryz.prog fid (#[(Value.agg #[(Value.int .i64 x0),(Value.int .i64 x02),(Value.int .i64 x03)]),(Value.agg #[(Value.int .i64 x1),(Value.int .i64 x12)])]++us) w' fun e w''=>∃ r0:Int,e = .returned (Value.int .i64 r0)∧Sep w' no no w'' (rl [])∧R r0),Res.box 148 g [(Value.int .i64 target),(Value.int .i64 target2)]])) m0 ⟨_,_,h0,rfl,rfl,rfl,rfl,rfl,rfl,rfl,(hS.sel [0,1,2] (by decide))⟩ ?_;clear h0 hS;rintro m2 E ds w3 ⟨i,j,h,rfl,H0,H2,H4,H8,H9,H10,hS⟩ ag;replace h:=hr m2 i j h;clear hr;refine yad ?_;refine yad ?_;refine yau yav ?_;refine rl_q rfl rfl rfl (yac (v:=(.int .i64 i)) H9) ?_;refine rl_q rfl rfl rfl (yac (v:=(.int .i64 j)) H10) ?_;refine rl_q rfl rfl rfl (ybD rfl rfl) ?_;refine yaa ?_;by_cases hp:i<j
  · replace h:=h.1 hp;refine zc hp (yae (yah (zs (zq (yac H9) (zq (yac H10) ?_)))));obtain ⟨hi,h⟩:=h;refine zq (zA hi) ?_;obtain ⟨hi2,h⟩:=h;refine zq (v_convk rfl underlying3 underlying129 hi2) ?_;obtain ⟨hz,h⟩:=h;refine zq (yir rfl rfl hz) ?_;obtain ⟨hi3,h⟩:=h;refine zq (v_conv rfl underlying129 underlying3 hi3) (zQ (ii ((i+j) / 2^(1:Int).toNat)) (yaa (yad (ybi [0,1,2,3,4,5,6,7] st0 yav (by kernel_rfl) (by kernel_rfl) ?_))));replace hS:=hS.drew;refine zp (yac H2) (zp (yac H0) (zp (zm (ii ((i+j) / 2^(1:Int).toNat))) ?_));obtain ⟨hx,h⟩:=h;refine zp (zi underlying22 ybB (yaK (hS.rdr 0 rfl) hx)) (zp (yat (vs:=[(ii ((ge x ((i+j) / 2^(1:Int).toNat).toNat).1)),(ii ((ge x ((i+j) / 2^(1:Int).toNat).toNat).2.1)),(ii ((ge x ((i+j) / 2^(1:Int).toNat).toNat).2.2))]) rfl underlying67 rfl ybB (ygm (hS.rdr 0 rfl) hx (fun q=>ydJ q))) ?_);refine zp (yat (vs:=[(ii target),(ii target2)]) H4 underlying148 rfl ybR ⟨Row.cell (hS.bx 2 rfl) (i:=0) rfl,Row.cell (hS.bx 2 rfl) (i:=1) rfl,trivial⟩) ?_;obtain ⟨fid,us,hf,he,hcl⟩:=hS.ro 1 rfl _ (Keeps.refl _ _);replace h:=hcl _ _ _ _ _ _ h;clear hcl;refine rp_n rfl rfl rfl rfl (yc8 (hf) (am2 rfl rfl) he (h.mono ?_));clear hf he;rintro _ w4 ⟨r,rfl,hC,h⟩;replace hS:=hS.pur hC.pure;clear hC;refine ⟨_,rfl,?_⟩;refine zb (zp zL (ybl ?_));by_cases hp2:r<0
    · replace h:=h.1 hp2;refine zc hp2 (zr (zM (ii ((i+j) / 2^(1:Int).toNat)) ?_));obtain ⟨hi4,h⟩:=h;refine zq (zA hi4) (zQ (ii (((i+j) / 2^(1:Int).toNat)+1)) (yaa (yaj ?_)));obtain ⟨mq,hlt,h⟩:=h;exact ag mq _ _ _ ⟨_,_,h,rfl,H0,H2,H4,H8,rfl,H10,(hS.sel [0,1,2])⟩ hlt
    · replace h:=h.2 hp2;refine zd hp2 (zr (zM (ii ((i+j) / 2^(1:Int).toNat)) (zQ (ii ((i+j) / 2^(1:Int).toNat)) (yaa (yaj ?_)))));obtain ⟨mq,hlt,h⟩:=h;exact ag mq _ _ _ ⟨_,_,h,rfl,H0,H2,H4,H8,H9,rfl,(hS.sel [0,1,2])⟩ hlt
  · replace h:=h.2 hp;refine zd hp (yaC rfl (yad (ybi [0,1,2,3,4,5,6,7,8,9,10,11,12,13,14,15] (fun i=>match i with | 11=>[0] | _=>[]) yav (by kernel_rfl) (by kernel_rfl) ?_)));replace hS:=hS.drew;refine zp (yac H9) (zp (yac H9) (zp (yac (v:=(ii (x.length:Int))) H8) (zp zL (zp (zm (.bool (decide (i<(x.length:Int))))) ?_))));by_cases hp3:i<(x.length:Int)
    · replace h:=h.1 hp3;refine rp_q (yak rfl (yal rfl (zT hp3))) rfl rfl (yac H2) (rp_q (yak rfl (yal rfl (zT hp3))) rfl rfl (yac H0) (rp_q (yak rfl (yal rfl (zT hp3))) rfl rfl (yac H9) ?_));obtain ⟨hx2,h⟩:=h;refine rp_q (yak rfl (yal rfl (zT hp3))) rfl rfl (zi underlying22 ybB (yaK (hS.rdr 0 rfl) hx2)) (rp_q (yak rfl (yal rfl (zT hp3))) rfl rfl (yat (vs:=[(ii ((ge x i.toNat).1)),(ii ((ge x i.toNat).2.1)),(ii ((ge x i.toNat).2.2))]) rfl underlying67 rfl ybB (ygm (hS.rdr 0 rfl) hx2 (fun q=>ydJ q))) ?_);refine rp_q (yak rfl (yal rfl (zT hp3))) rfl rfl (yat (vs:=[(ii target),(ii target2)]) H4 underlying148 rfl ybR ⟨Row.cell (hS.bx 2 rfl) (i:=0) rfl,Row.cell (hS.bx 2 rfl) (i:=1) rfl,trivial⟩) ?_;obtain ⟨fid,us,hf,he,hcl⟩:=hS.ro 1 rfl _ (Keeps.refl _ _);replace h:=hcl _ _ _ _ _ _ h;clear hcl;refine rp_n (yak rfl (yal rfl (zT hp3))) rfl rfl rfl (yc8 (hf) (am2 rfl rfl) he (h.mono ?_));clear hf he;rintro _ w5 ⟨r2,rfl,hC,h⟩;replace hS:=hS.pur hC.pure;clear hC;refine ⟨_,rfl,?_⟩;refine ⟨⟨fun hh=>zZ hh,⟨fun hh=>zZ hh,⟨fun hh=>zZ hh,⟨fun hh=>zZ hh,⟨fun hh=>zZ hh,⟨fun hh=>zZ hh,⟨fun hh=>zZ hh,⟨fun hh=>zZ hh,⟨fun hh=>zZ hh,⟨fun hh=>zZ hh,⟨fun _=>(yac H9),trivial⟩⟩⟩⟩⟩⟩⟩⟩⟩⟩⟩,?_⟩;exact rp_q (yak rfl (yal rfl (zT hp3))) rfl rfl zE (zp (yaq (v:=(.bool (decide (r2=0)))) (zT hp3) rfl) (zp (za (ii i)) (zp (za (.bool (decide (r2=0)))) (ybl (ybt rfl rfl rfl ⟨_,_,rfl,(hS.sel []),h⟩)))))
    · replace h:=h.2 hp3;exact rp_p (yag rfl (yal rfl (zF hp3)) rfl) rfl (rp_p (yag rfl (yal rfl (zF hp3)) rfl) rfl (rp_p (yag rfl (yal rfl (zF hp3)) rfl) rfl (rp_p (yag rfl (yal rfl (zF hp3)) rfl) rfl (rp_p (yag rfl (yal rfl (zF hp3)) rfl) rfl (rp_p (yag rfl (yal rfl (zF hp3)) rfl) rfl (rp_p (yag rfl (yal rfl (zF hp3)) rfl) rfl (rp_p (yag rfl (yal rfl (zF hp3)) rfl) rfl (zp (yaw (v:=(.bool (false))) (zF hp3) rfl) (zp (za (ii i)) (zp (za (.bool (false))) (ybl (ybt rfl rfl rfl ⟨_,_,rfl,(hS.sel []),h⟩))))))))))))
end Go.Proofs.YtjepipbkiadcpaaGreat
