/- Texts laid together: PVa_2, TabT, PVb, PFe, Mk, Gn, Va, Vn. -/
import Derived.Test.YtencmgolklfmkaaGreatK4
set_option linter.unusedVariables false
set_option linter.unusedSimpArgs false
set_option linter.unusedSectionVars false
/- Pure forms of functions, made by program (pf.py), each with the proof that the code does so. -/
namespace Go.Proofs.YtencmgolklfmkaaGreat
open Go Go.RowKit Go.Shelf Go.Proofs.Tryz
set_option maxRecDepth 100000
set_option maxHeartbeats 8000000
def yb4(l:List (List Int))(x:List Int)(R:(List Int)→Int→Bool→Prop):Prop :=
ya1 x (fun r =>
(∃ I2:Nat→(List Int)→Int→Prop,(∃ m0,I2 m0 r 0)∧∀ m2 x2 n,I2 m2 x2 n → 
ycG l x2 1 ((∃ Pr Rr:List (List Int)→Prop,ybI l x2 1 Pr Rr ∧
(∃ K:List (List Int)→(List Int)→Prop,∃ I3:List (List Int)→Prop,I3 [] ∧
(∀ pre y,I3 pre→Pr (pre++[y]) →
K (pre++[y]) y) ∧
(∀ ys,I3 ys→Rr ys →
R x2 n true) ∧
(∀ (ys2:List (List Int)) (first:List Int),K ys2 first → 
(∀ nil:Bool,(nil=true→first=[]) →
((nil=true →
R x2 n true) ∧
(¬(nil=true) →
((n=4096 →
R ([]) 0 false) ∧
(¬(n=4096) →
ybg x2 first (fun r2 =>
(In64 (n+1) ∧
∃ m3,m3<m2∧I2 m3 r2 (n+1))))))))))))))
theorem yek{O:Nat→Prop}{w:World}{l x Al ll cl Ax lx cx}{R:(List Int)→Int→Bool→Prop}(h:yb4 l x R)(hO:∀ k,O k→k<w.heap.size)(hA0:(FP.sl (cL cI) Al ll cl l).P O w)(hA1:(FP.sl cI Ax lx cx x).P O w) :
    Calls Tryz.prog 50 #[(.slice Al ll cl),(.slice Ax lx cx)] w fun e w'=>∃ r3 r4 r5 Ar3 lr3 cr3,e = .returned (.tuple #[(.slice Ar3 lr3 cr3),(ii r4),(.bool (r5))])∧Sep w no O w' (rl [Res.ro (FP.sl cI Ar3 lr3 cr3 r3)])∧R r3 r4 r5:=by
  unfold yb4 at h;have hS:Sep w no O w (rl [Res.ro (FP.sl (cL cI) Al ll cl l),Res.ro (FP.sl cI Ax lx cx x)]):=Sep.startl hO [(FP.sl (cL cI) Al ll cl l),(FP.sl cI Ax lx cx x)] ⟨hA0,hA1,trivial⟩;refine yfE (l:=[(.slice Al ll cl),(.slice Ax lx cx)]) func50 rfl ntmps50 zY (zs (zQ (.slice none 0 0) (zQ (ii 0) (zQ (.bool (false)) (yaa (zs (zM (.slice Ax lx cx) (zn (yai rfl (am1 rfl) enter_79 ((ycx h (yaz _) (hS.rdr 1 rfl)).mono ?_))))))))));rintro _ w2 ⟨r,Ar,lr,cr,rfl,hC,h⟩;replace hS:=hS.call1 (hC.widen (ycv (yaP (fI .i64) _ _ _ _ _) ycH) hS.blt) 2 0 rfl;clear hC;refine ⟨_,rfl,?_⟩;refine zb (zQ (.slice Ar lr cr) (yaa (zs (zQ (ii 0) (yaa (yad ?_))))));replace hS:=hS.dfs0 3 rfl;obtain ⟨I2,⟨m0,h0⟩,hr⟩:=h;refine yax (fun m E ds w'=>∃ x2 n Ax2 lx2 cx2 Gd,I2 m x2 n∧ds=(List.map mark Gd)∧E 0=(Value.slice Al ll cl)∧E 1=(Value.slice Ax2 lx2 cx2)∧E 7=(ii n)∧Sep w no O w' (rl [Res.own cI 3 Ax2 lx2 cx2 x2,Res.ro (FP.sl (cL cI) Al ll cl l),dfrs Gd])) m0 ⟨_,_,_,_,_,[],h0,rfl,rfl,rfl,rfl,(hS.sel [2,0,3])⟩ ?_;clear h0 hS;rintro m2 E ds w3 ⟨x2,n,Ax2,lx2,cx2,Gd,h,rfl,H0,H1,H7,hS⟩ ag;replace h:=hr m2 x2 n h;clear hr;refine yac (yad (zs (zn (yaS yaJ ?_))));intro g w4 hN;replace hS:Sep w no O w4 (stl _ 3 (Res.box 35 g [(.slice none 0 0)])):=hS.new 3 rfl hN;clear hN;refine zb (yaa (yac (zs (zq (yab H0) (zq (yab H1) (zn (yai rfl (am3 rfl rfl rfl) enter_53 ((yeB h (yaz _) (hS.rdr 1 rfl) (hS.rdo 0 rfl)).mono ?_))))))));rintro _ w5 ⟨gc,gc2,gc3,rfl,hC,h⟩;replace hS:=hS.call3 (hC.widen (ycv (flat_box _ _ _) (ycv (flat_box _ _ _) (ycv (flat_box _ _ _) ycH))) hS.blt) 4 5 6 rfl rfl rfl (by decide) (by decide) (by decide);clear hC;refine ⟨_,rfl,?_⟩;refine zb (yaa (yad ?_));replace hS:=hS.frz 0 rfl;replace hS:=hS.addro 7 rfl _ (yeK cI _ _);obtain ⟨Pr,Rr,hgp,K,I3,h0,hb,h,hx⟩:=h;refine wt_iterSP hS [2,1,0,3] [4,1,5,0,6] (by decide) (by decide) ⟨.inl (by decide), .inr rfl, .inl (by decide), .inr rfl, .inl (by decide),trivial⟩ rfl enter_103 (val:=(fun (x:List Int) (b:(Option Addr×Nat×Nat))=>#[(.slice b.1 b.2.1 b.2.2)])) (pass:=(fun (x:List Int) (b:(Option Addr×Nat×Nat))=>(FP.sl cI b.1 b.2.1 b.2.2 x))) (Pr:=Pr) (R:=Rr) (fun _ _=>rfl) rfl (fun pr LL=>I3 pr∧LL=[dfrs Gd,Res.ro (FP.sl (cL cI) Al ll cl l),Res.ro (FP.sl cI Ax2 lx2 cx2 x2),Res.box 35 g [(.slice none 0 0)]]) (fun c ys LL=>c=some 2∧∃ first Aa Ab,∃ Ac:Nat,K ys first∧LL=[dfrs Gd,Res.ro (FP.sl (cL cI) Al ll cl l),Res.ro (FP.sl cI Ax2 lx2 cx2 x2),Res.box 35 g [(.slice Aa Ab Ac)],Res.ro (FP.sl cI Aa Ab Ac first)]) ⟨h0,rfl⟩ (fun T G hG=>ydT hgp hG) ?_ ?_ ?_
  · clear h h0 hS hgp;rintro ll rdy busy S O2 pre y ⟨A,l2,c⟩ w6 _ ⟨hI,rfl⟩ hPr hpass hS;have h:=hb pre y hI hPr;clear hb hI hPr;replace hS:=hS.addro 5 rfl _ hpass;clear hpass;refine yaE (ydD ll) (zQ (.slice A l2 c) (yaa (yhq fun a ra=>⟨rfl,_,_,ra,hS,⟨4,rfl⟩,?_⟩)));intro w8 hw;replace hS:=hS.flip 4 rfl busy hw;clear hw ra a;refine yad (yac (yaE (ydD ll) (zM (.slice A l2 c) (zo (zt (.slice A l2 c) yaJ (hS.bwr 3 rfl (j:=0) rfl) ?_)))));intro w9 e1;replace hS:=hS.bst 3 rfl 0 (.slice A l2 c) e1;clear e1;exact zb (yaa (wt_leave rfl fun a r=>⟨_,⟨rfl,_,_,_,_,h,rfl⟩,(hS.sel [0,1,2,3,5,4])⟩))
  · clear hb h0 hS hgp;rintro D ys w7 _ hRr ⟨hI,rfl⟩ hS;replace h:=h ys hI hRr;clear hI hRr;refine yae (yac (yad (zs (zq (zl underlying35 (Row.cell (hS.bx 3 rfl) (i:=0) rfl)) (zq (v_seql rfl rfl underlying35) (zQ (.bool (true)) (yaa (yaq rfl (zs (zq (yab H1) (zq (yab H7) (zQ (.slice Ax2 lx2 cx2) (zQ (ii n) (zQ (.bool (true)) (yaa ?_)))))))))))))));replace hS:=hS.dfspush 4 0 rfl rfl rfl;exact wt_retk3 (rs:=(D::Gd)) (hS.dfsn 0 rfl) (hS.dfsm 0 rfl) rfl rfl rfl rfl (fun w9 hk=>⟨_,_,_,_,_,_,rfl,(hS.unmark [0] [2] (by decide) (by decide) (undfs 0 rfl) hk),h⟩)
  · clear h hb h0 hS hgp;rintro D2 c ys2 w10 _ ⟨rfl,first,Aa,Ab,Ac,hK,rfl⟩ hS;have h:=hx ys2 first hK;clear hx hK;refine jump_to rfl (yac (yad (zs (zq (zl underlying35 (Row.cell (hS.bx 3 rfl) (i:=0) rfl)) ?_))));obtain ⟨nil,hn⟩:∃ b,Option.isNone Aa=b:=⟨_,rfl⟩;replace h:=h nil (by rw [←hn];exact rd_nil (hS.rdr 4 rfl));refine zq (v_seqlx rfl rfl underlying35 hn) (zQ (.bool (nil)) (yaa ?_));by_cases hp:nil=true
    · replace h:=h.1 hp;refine yaq (zC hp) (zs (zq (yab H1) (zq (yab H7) (zQ (.slice Ax2 lx2 cx2) (zQ (ii n) (zQ (.bool (true)) (yaa ?_)))))));replace hS:=hS.dfspush 5 0 rfl rfl rfl;exact wt_retk3 (rs:=(D2::Gd)) (hS.dfsn 0 rfl) (hS.dfsm 0 rfl) rfl rfl rfl rfl (fun w9 hk=>⟨_,_,_,_,_,_,rfl,(hS.unmark [0] [2] (by decide) (by decide) (undfs 0 rfl) hk),h⟩)
    · replace h:=h.2 hp;refine yav (zC (zI hp)) (zs (zq (yab H7) (zq zE (zQ (.bool (decide (n=4096))) (yaa ?_)))));by_cases hp2:n=4096
      · replace h:=h.1 hp2;refine zc hp2 (zs (zQ (.slice none 0 0) (zQ (ii 0) (zQ (.bool (false)) (yaa ?_)))));replace hS:=hS.addro 6 rfl _ (yeK cI _ _);replace hS:=hS.dfspush 5 0 rfl rfl rfl;exact wt_retk3 (rs:=(D2::Gd)) (hS.dfsn 0 rfl) (hS.dfsm 0 rfl) rfl rfl rfl rfl (fun w9 hk=>⟨_,_,_,_,_,_,rfl,(hS.unmark [0] [6] (by decide) (by decide) (undfs 0 rfl) hk),h⟩)
      · replace h:=h.2 hp2;refine zd hp2 (yaf (yae (zr (zq (yab H1) (zq (zl underlying35 (Row.cell (hS.bx 3 rfl) (i:=0) rfl)) (zn (yai rfl (am2 rfl rfl) yhF ((yc2 h (yaz _) (hS.rdr 2 rfl) (hS.rdr 4 rfl)).mono ?_))))))));rintro _ w11 ⟨r2,Ar2,lr2,cr2,rfl,hC,h⟩;replace hS:=hS.call1 (hC.widen (ycv (yaP (fI .i64) _ _ _ _ _) ycH) hS.blt) 6 0 rfl;clear hC;refine ⟨_,rfl,?_⟩;refine zb (zQ (.slice Ar2 lr2 cr2) (yaa (yae (zr (zq (yab H7) ?_)))));obtain ⟨hi,h⟩:=h;refine zq (zA hi) (zQ (ii (n+1)) (yaa ?_));replace hS:=hS.dfspush 5 0 rfl rfl rfl;obtain ⟨mq,hlt,h⟩:=h;exact ag mq _ _ _ ⟨_,_,_,_,_,(D2::Gd),h,rfl,H0,rfl,rfl,(hS.sel [6,1,0])⟩ hlt
def yc3(g:Int)(g2:List E3)(x:List Int)(R:(List Int)→Int→Int→Prop):Prop :=
yby g g2 x (fun r r2 =>
((r2=0 →
yb4 r x (fun r3 r4 r5 =>
((r5=true →
R r3 r4 0) ∧
(¬(r5=true) →
R ([]) 0 12)))) ∧
(¬(r2=0) →
R ([]) 0 r2)))
theorem yg8{O:Nat→Prop}{w:World}{g g2 x Ag lg cg Ax lx cx}{R:(List Int)→Int→Int→Prop}(h:yc3 g g2 x R)(hO:∀ k,O k→k<w.heap.size)(hA0:(FP.sl c3 Ag lg cg g2).P O w)(hA1:(FP.sl cI Ax lx cx x).P O w) :
    Calls Tryz.prog 15 #[(.agg #[(ii g),(.slice Ag lg cg)]),(.slice Ax lx cx)] w fun e w'=>∃ r6 r7 r8 Ar3 lr3 cr3,e = .returned (.tuple #[(.slice Ar3 lr3 cr3),(ii r7),(ii r8)])∧Sep w no O w' (rl [Res.ro (FP.sl cI Ar3 lr3 cr3 r6)])∧R r6 r7 r8:=by
  unfold yc3 at h;have hS:Sep w no O w (rl [Res.ro (FP.sl c3 Ag lg cg g2),Res.ro (FP.sl cI Ax lx cx x)]):=Sep.startl hO [(FP.sl c3 Ag lg cg g2),(FP.sl cI Ax lx cx x)] ⟨hA0,hA1,trivial⟩;refine yal (l:=[(.agg #[(ii g),(.slice Ag lg cg)]),(.slice Ax lx cx)]) func15 rfl ntmps15 zY (zs (zn (ybm (v:=(.agg #[(ii g),(.slice Ag lg cg)])) rfl ?_)));intro g3 w2 hN;replace hS:Sep w no O w2 (stl _ 2 (Res.box 24 g3 [(ii g),(.slice Ag lg cg)])):=hS.new 2 rfl hN;clear hN;refine zb (zQ (.slice none 0 0) (zQ (ii 0) (zQ (ii 0) (yaa (zs (zq (yao (vs:=[(ii g),(.slice Ag lg cg)]) rfl underlying24 rfl yak ⟨Row.cell (hS.bx 2 rfl) (i:=0) rfl,Row.cell (hS.bx 2 rfl) (i:=1) rfl,trivial⟩) (zM (.slice Ax lx cx) (zn (yai rfl (am2 rfl rfl) enter_49 ((ydy h hS.blt (hS.ro 0 rfl) (hS.ro 1 rfl)).mono ?_))))))))));rintro _ w3 ⟨r,r2,Ar,lr,cr,rfl,hC,h⟩;replace hS:=hS.call1 hC 3 0 rfl;clear hC;refine ⟨_,rfl,?_⟩;refine zb (zM (.tuple #[(.slice Ar lr cr),(ii r2)]) (zq (zx (.slice Ar lr cr)) (zq (zx (ii r2)) (zQ (.slice Ar lr cr) (zQ (ii r2) (yaa (yac (zs (zM (ii r2) (zq zN (yaa ?_)))))))))));by_cases hp:r2=0
  · replace h:=h.1 hp;refine ze hp (yaf (zs (zM (.slice Ar lr cr) (zM (.slice Ax lx cx) (zn (yai rfl (am2 rfl rfl) enter_50 ((yek h hS.blt (hS.ro 3 rfl) (hS.ro 1 rfl)).mono ?_)))))));rintro _ w4 ⟨r3,r4,r5,Ar2,lr2,cr2,rfl,hC,h⟩;replace hS:=hS.call1 hC 4 0 rfl;clear hC;refine ⟨_,rfl,?_⟩;refine zb (zM (.tuple #[(.slice Ar2 lr2 cr2),(ii r4),(.bool (r5))]) (zq (zx (.slice Ar2 lr2 cr2)) (zq (zx (ii r4)) (zq (zx (.bool (r5))) (zQ (.slice Ar2 lr2 cr2) (zQ (ii r4) (zQ (.bool (r5)) (yaa (yac (zs (zM (.bool (r5)) (zq (yds rfl) (yaa ?_)))))))))))));by_cases hp2:r5=true
    · replace h:=h.1 hp2;exact yav (zC (zB hp2)) (yaf (zs (zM (.slice Ar2 lr2 cr2) (zM (ii r4) (zQ (.slice Ar2 lr2 cr2) (zQ (ii r4) (zQ (ii 0) (yaa (yfh rfl rfl rfl rfl ⟨_,_,_,_,_,_,rfl,(hS.sel [4]),h⟩)))))))))
    · replace h:=h.2 hp2;refine yaq (zC (zB (zI hp2))) (zs (zQ (.slice none 0 0) (zQ (ii 0) (zQ (ii 12) (yaa ?_)))));replace hS:=hS.addro 5 rfl _ (yeK cI _ _);exact yfh rfl rfl rfl rfl ⟨_,_,_,_,_,_,rfl,(hS.sel [5]),h⟩
  · replace h:=h.2 hp;refine zf hp (zs (zM (ii r2) (zQ (.slice none 0 0) (zQ (ii 0) (zQ (ii r2) (yaa ?_))))));replace hS:=hS.addro 4 rfl _ (yeK cI _ _);exact yfh rfl rfl rfl rfl ⟨_,_,_,_,_,_,rfl,(hS.sel [4]),h⟩
def ybh(f:List Int)(v:Int)(R:Int→Prop):Prop :=
(∃ I2:Nat→Int→Prop,(∃ m0,I2 m0 v)∧∀ m2 v2,I2 m2 v2 → 
((0≤v2∧v2<12) ∧
(((gi f v2.toNat)=v2 →
R v2) ∧
(¬((gi f v2.toNat)=v2) →
∃ m3,m3<m2∧I2 m3 (gi f v2.toNat)))))
theorem ydJ{S O:Nat→Prop}{w:World}{f v gc}{R:Int→Prop}(h:ybh f v R)(hS:Sep w S O w (rl [Res.own cI 121 (some ⟨gc,0,none⟩) 12 12 f])) :
    Calls Tryz.prog 105 #[(.pointer (some ⟨gc,0,none⟩)),(ii v)] w fun e w'=>∃ r,e = .returned (ii r)∧Sep w S O w' (rl [Res.own cI 121 (some ⟨gc,0,none⟩) 12 12 f])∧R r:=by
  unfold ybh at h;refine yal (l:=[(.pointer (some ⟨gc,0,none⟩)),(ii v)]) func105 rfl ntmps105 zY (zs (zQ (ii 0) (yaa (yac (yad ?_)))));obtain ⟨I2,⟨m0,h0⟩,hr⟩:=h;refine yax (fun m E ds w'=>∃ v2,I2 m v2∧ds=[]∧E 0=(Value.pointer (some ⟨gc,0,none⟩))∧E 1=(ii v2)∧Sep w S O w' (rl [Res.own cI 121 (some ⟨gc,0,none⟩) 12 12 f])) m0 ⟨_,h0,rfl,rfl,rfl,(hS.sel [0])⟩ ?_;clear h0 hS;rintro m2 E ds w2 ⟨v2,h,rfl,H0,H1,hS⟩ ag;replace h:=hr m2 v2 h;clear hr;refine yac (zs (zq (yab (v:=(.pointer (some ⟨gc,0,none⟩))) H0) (zq (yab H1) (zq (v_nil rfl) ?_))));obtain ⟨hx,h⟩:=h;have hy:=yhj (hS.rdo 0 rfl) hx;refine zq (yew rfl rfl underlying121 yag hx) (zq (yar (v:=(ii (gi f v2.toNat))) rfl underlying3 rfl (rd_1 (hS.rdo 0 rfl) hy (fun q=>yaF q) rfl)) ?_);refine zq (yab H1) (zq zN (yaa ?_));by_cases hp:(gi f v2.toNat)=v2
  · replace h:=h.1 hp;exact ze hp (yas rfl (zs (zq (yab H1) (zQ (ii v2) (yaa (yah rfl rfl ⟨_,rfl,(hS.sel [0]),h⟩))))))
  · replace h:=h.2 hp;refine zf hp (yaf (yad (zr (zq (yab (v:=(.pointer (some ⟨gc,0,none⟩))) H0) (zq (yab H1) (zq (v_nil rfl) ?_))))));have hy2:=yhj (hS.rdo 0 rfl) hx;refine zq (yew rfl rfl underlying121 yag hx) (zq (yar (v:=(ii (gi f v2.toNat))) rfl underlying3 rfl (rd_1 (hS.rdo 0 rfl) hy2 (fun q=>yaF q) rfl)) ?_);refine zQ (ii (gi f v2.toNat)) (yaa (yae ?_));obtain ⟨mq,hlt,h⟩:=h;exact ag mq _ _ _ ⟨_,h,rfl,H0,rfl,(hS.sel [0])⟩ hlt
def ycp(g:Int)(g2:List E3)(R:Int→Int→Prop):Prop :=
ybF g g2 (fun r =>
((r=0 →
(∃ I2:Nat→Int→(List Int)→Prop,(∃ m0,I2 m0 0 (List.replicate 12 (0:Int)))∧∀ m2 v f,I2 m2 v f → 
((v<12 →
((0≤v∧v<12) ∧
(In64 (v+1) ∧
∃ m3,m3<m2∧I2 m3 (v+1) (f.set v.toNat v)))) ∧
(¬(v<12) →
yc0 g g2 ((∃ Pr Rr:List E3→Prop,ybt g g2 Pr Rr ∧
(∃ I3:List E3→(List Int)→Int→Prop,I3 [] f 0 ∧
(∀ pre y y2 y3 f2 genus,I3 pre f2 genus→Pr (pre++[(y,y2,y3)]) →
ybh f2 y2 (fun r2 =>
ybh f2 y3 (fun r3 =>
(∃ J2:Int→Prop,(∀ (genus2:Int),J2 genus2→((0≤(mxF r2 r3)∧(mxF r2 r3)<12) ∧
I3 (pre++[(y,y2,y3)]) (f2.set (mxF r2 r3).toNat (mnF r2 r3)) genus2)) ∧
((r2=r3 →
(In64 (genus+1) ∧
J2 (genus+1))) ∧
(¬(r2=r3) →
J2 genus)))))) ∧
(∀ ys f2 genus,I3 ys f2 genus→Rr ys →
R genus 0)))))))) ∧
(¬(r=0) →
R 0 r)))
theorem yir{O:Nat→Prop}{w:World}{g g2 Ag lg cg}{R:Int→Int→Prop}(h:ycp g g2 R)(hO:∀ k,O k→k<w.heap.size)(hA0:(FP.sl c3 Ag lg cg g2).P O w) :
    Calls Tryz.prog 57 #[(.agg #[(ii g),(.slice Ag lg cg)])] w fun e w'=>∃ r4 r5,e = .returned (.tuple #[(ii r4),(ii r5)])∧Sep w no O w' (rl [])∧R r4 r5:=by
  unfold ycp at h;have hS:Sep w no O w (rl [Res.ro (FP.sl c3 Ag lg cg g2)]):=Sep.startl hO [(FP.sl c3 Ag lg cg g2)] ⟨hA0,trivial⟩;refine yfE (l:=[(.agg #[(ii g),(.slice Ag lg cg)])]) func57 rfl ntmps57 zY (zs (zn (ybm (v:=(.agg #[(ii g),(.slice Ag lg cg)])) rfl ?_)));intro g3 w2 hN;replace hS:Sep w no O w2 (stl _ 1 (Res.box 24 g3 [(ii g),(.slice Ag lg cg)])):=hS.new 1 rfl hN;clear hN;refine zb (zQ (ii 0) (zQ (ii 0) (yaa (yac (zs (zq (yao (vs:=[(ii g),(.slice Ag lg cg)]) rfl underlying24 rfl yak ⟨Row.cell (hS.bx 1 rfl) (i:=0) rfl,Row.cell (hS.bx 1 rfl) (i:=1) rfl,trivial⟩) (zn (yai rfl (am1 rfl) yhE ((ydq h (yaz _) (hS.rdr 0 rfl)).mono ?_)))))))));rintro _ w3 ⟨r,rfl,hC,h⟩;replace hS:=hS.pur hC.pure;clear hC;refine ⟨_,rfl,?_⟩;refine zb (zQ (ii r) (yaa (zs (zM (ii r) (zq zN (yaa ?_))))));by_cases hp:r=0
  · replace h:=h.1 hp;refine ze hp (yaf (zs (zn (yaS info_121 ?_))));intro g4 w4 hN;replace hS:=hS.made (n:=12) 2 rfl cI (ii 0) (0:Int) (fun _ _=>rfl) (hN:New _ _ _ (Array.replicate 12 (ii 0)) 121) (by decide);clear hN;refine zb (yaa (yac (zs (zM (ii 0) (yaa (yad ?_))))));obtain ⟨I2,⟨m0,h0⟩,hr⟩:=h;refine yax (fun m E ds w'=>∃ v f,I2 m v f∧ds=[]∧E 1=(Value.pointer (some ⟨g3,0,none⟩))∧E 5=(Value.pointer (some ⟨g4,0,none⟩))∧E 17=(ii v)∧Sep w no O w' (rl [Res.box 24 g3 [(ii g),(.slice Ag lg cg)],Res.ro (FP.sl c3 Ag lg cg g2),Res.own cI 121 (some ⟨g4,0,none⟩) 12 12 f])) m0 ⟨_,_,h0,rfl,rfl,rfl,rfl,(hS.sel [1,0,2])⟩ ?_;clear h0 hS;rintro m2 E ds w5 ⟨v,f,h,rfl,H1,H5,H17,hS⟩ ag;replace h:=hr m2 v f h;clear hr;refine zs (zq (ydm H17 rfl) (yaa (yac ?_)));by_cases hp2:v<12
    · replace h:=h.1 hp2;refine zc hp2 (yaf (yac (yad (zs (zq (yab H17) (zQ (ii v) (yaa (zr (zM (ii v) (zM (ii v) ?_))))))))));obtain ⟨hx,h⟩:=h;have hy:=yhj (hS.rdo 2 rfl) hx;refine zq (yew H5 rfl underlying121 yag hx) (zo (zt (ii v) yag (hS.wr 2 rfl rfl hy) ?_));intro w6 e1;replace hS:=hS.st 2 rfl rfl hy (x:=v) rfl e1;clear e1;refine zb (yaa (yae (zr ?_)));obtain ⟨hi,h⟩:=h;refine zq (yb3 H17 rfl hi) (zM (ii (v+1)) (yaa ?_));obtain ⟨mq,hlt,h⟩:=h;exact ag mq _ _ _ ⟨_,_,h,rfl,H1,H5,rfl,(hS.sel [0,1,2])⟩ hlt
    · replace h:=h.2 hp2;refine zd hp2 (yas rfl (zs (zn (yaS yag ?_))));intro g5 w7 hN;replace hS:Sep w no O w7 (stl _ 3 (Res.box 3 g5 [(ii 0)])):=hS.new 3 rfl hN;clear hN;refine zb (zo (zt (ii 0) yag (hS.bwr 3 rfl (j:=0) rfl) ?_));intro w8 e1;replace hS:=hS.bst 3 rfl 0 (ii 0) e1;clear e1;refine zb (yaa (yac (zs (zq (yao (vs:=[(ii g),(.slice Ag lg cg)]) H1 underlying24 rfl yak ⟨Row.cell (hS.bx 0 rfl) (i:=0) rfl,Row.cell (hS.bx 0 rfl) (i:=1) rfl,trivial⟩) (zn (yai rfl (am1 rfl) enter_104 ((yeM h hS.blt (hS.ro 1 rfl)).mono ?_)))))));rintro _ w9 ⟨gc,rfl,hC,h⟩;replace hS:=hS.call1 hC 4 0 rfl;clear hC;refine ⟨_,rfl,?_⟩;refine zb (yaa (yad ?_));obtain ⟨Pr,Rr,hgp,I3,h0,hb,h⟩:=h;refine wt_iterS hS [2,3] [4,1] (by decide) (by decide) ⟨.inl (by decide), .inr rfl,trivial⟩ rfl enter_142 (val:=(fun (x:E3)=>#[(ii x.1),(.agg #[(ii x.2.1),(ii x.2.2)])])) (pass:=(fun _=>FP.tt)) (Pr:=Pr) (R:=Rr) (fun _=>rfl) rfl (fun pr LL=>∃ f2 genus,I3 pr f2 genus∧LL=[Res.own cI 121 (some ⟨g4,0,none⟩) 12 12 f2,Res.box 3 g5 [(ii genus)]]) (fun _ _ _=>False) ⟨_,_,h0,rfl⟩ (fun T G hG=>yee hgp hG) ?_ ?_ (fun _ _ _ _ _ hx=>hx.elim)
      · clear h h0 hS hgp;rintro ll rdy busy S O2 pre ⟨y,y2,y3⟩ w10 _ ⟨f2,genus,hI,rfl⟩ hPr hpass hS;have h:=hb pre y y2 y3 f2 genus hI hPr;clear hb hI hPr;clear hpass;refine yaE (ydD ll) (zn (yaS ycd ?_));intro g6 w12 hN;replace hS:Sep w10 S O2 w12 (stl _ 3 (Res.box 126 g6 [(ii 0),(ii 0)])):=hS.new 3 rfl hN;clear hN;refine zb (zo (yaQ (b:=g6) (o:=0) (cells:=#[(ii y2),(ii y3)]) rfl rfl ycd rfl rfl (yaL (hS.bx 3 rfl) zY) ?_));intro w13 e1;replace hS:=hS.bstn 3 rfl 0 [(ii y2),(ii y3)] e1;clear e1;refine zb (yaa (yhq fun a ra=>⟨rfl,_,_,ra,hS,⟨2,rfl⟩,?_⟩));intro w14 hw;replace hS:=hS.flip 2 rfl busy hw;clear hw ra a;refine yad (yac (ybq [0,1,3,4,2,5,6,7] (fun i=>match i with | 2=>[3,4] | _=>[]) (ydD ll) (by kernel_rfl) (by kernel_rfl) ?_));replace hS:=hS.drew;refine zp (yam rfl underlying126 rfl yag) (zp (zl underlying3 (Row.cell (hS.bx 3 rfl) (i:=0) rfl)) (zp (yam rfl underlying126 rfl yag) (zp (zl underlying3 (Row.cell (hS.bx 3 rfl) (i:=1) rfl)) ?_)));have hB:=hS.lend (asc [(0,0)]) [0] (by decide) ⟨.inl (ya5 rfl),trivial⟩;refine rp_n rfl rfl rfl rfl (ydt (vs:=#[(.pointer (some ⟨g4,0,none⟩)),(ii y2)]) (us:=#[]) rfl (am2 H5 rfl) enter_105 ((ya4 (by simp) (ydJ h hB)).mono ?_));rintro _ w15 ⟨r2,rfl,hC,h⟩;replace hS:=hS.back (asc [(0,0)]) (ydl (by decide)) hC;clear hC hB;refine ⟨_,rfl,?_⟩;refine ⟨⟨fun _=>(zl underlying3 (Row.cell (hS.bx 3 rfl) (i:=1) rfl)),⟨fun _=>(yam rfl underlying126 rfl yag),⟨fun hh=>zZ hh,⟨fun hh=>zZ hh,trivial⟩⟩⟩⟩,?_⟩;have hB:=hS.lend (asc [(0,0)]) [0] (by decide) ⟨.inl (ya5 rfl),trivial⟩;refine rp_n rfl rfl rfl rfl (ydt (vs:=#[(.pointer (some ⟨g4,0,none⟩)),(ii y3)]) (us:=#[]) rfl (am2 H5 rfl) enter_105 ((ya4 (by simp) (ydJ h hB)).mono ?_));rintro _ w16 ⟨r3,rfl,hC,h⟩;replace hS:=hS.back (asc [(0,0)]) (ydl (by decide)) hC;clear hC hB;refine ⟨_,rfl,?_⟩;refine zb (zp (za (ii r2)) (zp (za (ii r3)) (ybH (yac (yac (yaE (ydD ll) (zM (ii r2) (zM (ii r3) (zq zE (yaa ?_))))))))));obtain ⟨J2,hJ,h⟩:=h;refine wt_cutT0 (fun E ds w'=>∃ genus2,J2 genus2∧ds=[]∧E 5=(Value.pointer (some ⟨g4,0,none⟩))∧E 7=(Value.pointer (some ⟨g5,0,none⟩))∧E 10=(ii r2)∧E 11=(ii r3)∧Sep w10 S O2 w' (rl [Res.obj ll busy,Res.own cI 121 (some ⟨g4,0,none⟩) 12 12 f2,Res.box 3 g5 [(ii genus2)]])) ?_ ?_
        · clear h hS;rintro E ds w17 ⟨genus2,h,rfl,H5,H7,H10,H11,hS⟩;replace h:=hJ genus2 h;refine yaE (ydD ll) (zq (yab H10) (zq (yab H11) (zq (v_max2 rfl rfl) (zq (yab H10) (zq (yab H11) (zq (v_min2 rfl rfl) ?_))))));obtain ⟨hx2,h⟩:=h;have hy2:=yhj (hS.rdo 1 rfl) hx2;refine zq (yew H5 rfl underlying121 yag hx2) (zo (zt (ii (mnF r2 r3)) yag (hS.wr 1 rfl rfl hy2) ?_));intro w18 e1;replace hS:=hS.st 1 rfl rfl hy2 (x:=mnF r2 r3) rfl e1;clear e1;exact zb (yaa (yae (yhq fun a r=>⟨_,⟨_,_,h,rfl⟩,(hS.sel [1,2,0])⟩)))
        clear hJ;intro j;by_cases hp3:r2=r3
        · replace h:=h.1 hp3;refine zc hp3 (yaE (ydD ll) (zq (zl underlying3 (Row.cell (hS.bx 1 rfl) (i:=0) rfl)) ?_));obtain ⟨hi2,h⟩:=h;refine zq (zA hi2) (zo (zt (ii (genus+1)) yag (hS.bwr 1 rfl (j:=0) rfl) ?_));intro w19 e1;replace hS:=hS.bst 1 rfl 0 (ii (genus+1)) e1;clear e1;exact zb (yaa (j _ _ _ ⟨_,h,rfl,H5,rfl,rfl,rfl,(hS.sel [2,0,1])⟩))
        · replace h:=h.2 hp3;exact zd hp3 (yaf (j _ _ _ ⟨_,h,rfl,H5,rfl,rfl,rfl,(hS.sel [2,0,1])⟩))
      · clear hb h0 hS hgp;rintro D ys w11 _ hRr ⟨f2,genus,hI,rfl⟩ hS;replace h:=h ys f2 genus hI hRr;clear hI hRr;exact yae (zs (zq (zl underlying3 (Row.cell (hS.bx 1 rfl) (i:=0) rfl)) (zQ (ii genus) (zQ (ii 0) (yaa (yhT (rs:=[D]) (by simp) (hS.marked 2 rfl) rfl rfl rfl (fun w9 hk=>⟨_,_,rfl,(hS.unmark [2] [] (by decide) (by decide) (yhc 2 rfl) hk),h⟩)))))))
  · replace h:=h.2 hp;exact zf hp (zs (zM (ii r) (zQ (ii 0) (zQ (ii r) (yaa (yhT (rs:=[]) (by simp) (by simp) rfl rfl rfl (fun w9 hk=>⟨_,_,rfl,(hS.unmark [] [] (by decide) (by decide) (by simp) hk),h⟩)))))))
def ybX(z:List Int)(cap:List Int)(R:Bool→Prop):Prop :=
yaO cap z (fun r =>
R r)
theorem yfT{O:Nat→Prop}{w:World}{z cap Az lz cz gc Aa Ab Ac}{R:Bool→Prop}(h:ybX z cap R)(hO:∀ k,O k→k<w.heap.size)(hA0:(FP.sl cI Az lz cz z).P O w)(hA1:(FP.bx 35 gc [(Value.slice Aa Ab Ac)]).P O w)(hA2:(FP.sl cI Aa Ab Ac cap).P O w) :
    Calls Tryz.prog 61 #[(.slice Az lz cz),(.pointer (some ⟨gc,0,none⟩))] w fun e w'=>∃ r2,e = .returned (.bool (r2))∧Sep w no O w' (rl [])∧R r2:=by
  unfold ybX at h;have hS:Sep w no O w (rl [Res.ro (FP.sl cI Az lz cz z),Res.ro (FP.bx 35 gc [(.slice Aa Ab Ac)]),Res.ro (FP.sl cI Aa Ab Ac cap)]):=Sep.startl hO [(FP.sl cI Az lz cz z),(FP.bx 35 gc [(.slice Aa Ab Ac)]),(FP.sl cI Aa Ab Ac cap)] ⟨hA0,hA1,hA2,trivial⟩;refine yal (l:=[(.slice Az lz cz),(.pointer (some ⟨gc,0,none⟩))]) func61 rfl ntmps61 zY (zs (zQ (.bool (false)) (yaa (zs (zq (zl underlying35 (Row.cell (hS.bxr 1 rfl) (i:=0) rfl)) (zM (.slice Az lz cz) (zn (yai rfl (am2 rfl rfl) enter_31 ((yb8 h (yaz _) (hS.rdr 2 rfl) (hS.rdr 0 rfl)).mono ?_)))))))));rintro _ w2 ⟨r,rfl,hC,h⟩;replace hS:=hS.pur hC.pure;clear hC;refine ⟨_,rfl,?_⟩;exact zb (zQ (.bool (r)) (yaa (yah rfl rfl ⟨_,rfl,(hS.sel []),h⟩)))
def ycP(n:Int)(R:Bool→Prop):Prop :=
((n<(-9) →
R true) ∧
(¬(n<(-9)) →
R (decide (9<n))))
theorem yfD{O:Nat→Prop}{w:World}{n}{R:Bool→Prop}(h:ycP n R)(hO:∀ k,O k→k<w.heap.size) :
    Calls Tryz.prog 58 #[(ii n)] w fun e w'=>∃ r,e = .returned (.bool (r))∧Sep w no O w' (rl [])∧R r:=by
  unfold ycP at h;have hS:Sep w no O w (rl []):=Sep.start w hO;refine yal (l:=[(ii n)]) func58 rfl ntmps58 zY (zs (zQ (.bool (false)) (yaa (zs (zM (ii n) (zq zL (zM (.bool (decide (n<(-9)))) ?_)))))));by_cases hp:n<(-9)
  · replace h:=h.1 hp;exact zV rfl rfl (zT hp) (zV rfl rfl (zT hp) (zq (yan (v:=(.bool (true))) (zT hp) rfl) (zQ (.bool (true)) (yaa (yah rfl rfl ⟨_,rfl,(hS.sel []),h⟩)))))
  · replace h:=h.2 hp;exact zW rfl rfl (zF hp) (zm (ii n)) (zW rfl rfl (zF hp) zG (zq (yaj (v:=(.bool (decide (9<n)))) (zF hp) rfl) (zQ (.bool (decide (9<n))) (yaa (yah rfl rfl ⟨_,rfl,(hS.sel []),h⟩)))))
def yct(d:Int)(d2:List E3)(i:List Int)(R:(List (List Int))→Int→Int→Prop):Prop :=
yby d d2 i (fun r r2 =>
((r2=0 →
ycp d d2 (fun r3 r4 =>
((r4=0 →
(∃ J2:Prop,(J2→yb4 r i (fun r5 r6 r7 =>
((r7=true →
ya2 r5 r5 (fun r8 =>
ybg i r5 (fun r9 =>
(∃ I2:Nat→(List (List Int))→Int→Prop,(∃ m0,I2 m0 ([r9]) 0)∧∀ m2 v v2,I2 m2 v v2 → 
((v2<(v.length:Int) →
(∃ I3:Nat→(List (List Int))→Int→Prop,(∃ m0,I3 m0 v 0)∧∀ m3 v3 v4,I3 m3 v3 v4 → 
((v4<(r.length:Int) →
((0≤v4∧v4<(r.length:Int)) ∧
((0≤v2∧v2<(v3.length:Int)) ∧
ybg (gx v3 v2.toNat) (gx r v4.toNat) (fun r10 =>
ybg i r10 (fun r11 =>
ya2 r11 r11 (fun r12 =>
((r12=r8 →
yaX v3 (fun x R=>ybX x r10 R) (fun r13 =>
((r13=true →
(In64 (v4+1) ∧
∃ m4,m4<m3∧I3 m4 v3 (v4+1))) ∧
(¬(r13=true) →
(v3.length+1≤1000000000 ∧
(In64 (v4+1) ∧
∃ m5,m5<m3∧I3 m5 (v3++[r10]) (v4+1))))))) ∧
(¬(r12=r8) →
(In64 (v4+1) ∧
∃ m6,m6<m3∧I3 m6 v3 (v4+1)))))))))) ∧
(¬(v4<(r.length:Int)) →
(In64 (v2+1) ∧
∃ m7,m7<m2∧I2 m7 v3 (v2+1)))))) ∧
(¬(v2<(v.length:Int)) →
ydr v (fun y =>
R y r8 0))))))) ∧
(¬(r7=true) →
R ([]) 0 12)))) ∧
((4<r3 →
R ([]) 0 12) ∧
(¬(4<r3) →
yaR i (fun x2 R=>ycP x2 R) (fun r14 =>
((r14=true →
R ([]) 0 12) ∧
(¬(r14=true) →
J2))))))) ∧
(¬(r4=0) →
R ([]) 0 r4)))) ∧
(¬(r2=0) →
R ([]) 0 r2)))
theorem ygq{O:Nat→Prop}{w:World}{d d2 i Ad ld cd Ai li ci}{R:(List (List Int))→Int→Int→Prop}(h:yct d d2 i R)(hO:∀ k,O k→k<w.heap.size)(hA0:(FP.sl c3 Ad ld cd d2).P O w)(hA1:(FP.sl cI Ai li ci i).P O w) :
    Calls Tryz.prog 21 #[(.agg #[(ii d),(.slice Ad ld cd)]),(.slice Ai li ci)] w fun e w'=>∃ r15 r16 r17 Ar6 lr6 cr6,e = .returned (.tuple #[(.slice Ar6 lr6 cr6),(ii r16),(ii r17)])∧Sep w no O w' (rl [Res.own (cL cI) 35 Ar6 lr6 cr6 r15])∧R r15 r16 r17:=by
  unfold yct at h;have hS:Sep w no O w (rl [Res.ro (FP.sl c3 Ad ld cd d2),Res.ro (FP.sl cI Ai li ci i)]):=Sep.startl hO [(FP.sl c3 Ad ld cd d2),(FP.sl cI Ai li ci i)] ⟨hA0,hA1,trivial⟩;refine yal (l:=[(.agg #[(ii d),(.slice Ad ld cd)]),(.slice Ai li ci)]) func21 rfl ntmps21 zY (zs (zn (ybm (v:=(.agg #[(ii d),(.slice Ad ld cd)])) rfl ?_)));intro g w2 hN;replace hS:Sep w no O w2 (stl _ 2 (Res.box 24 g [(ii d),(.slice Ad ld cd)])):=hS.new 2 rfl hN;clear hN;refine zb (zQ (.slice none 0 0) (zQ (ii 0) (zQ (ii 0) (yaa (zs (zq (yao (vs:=[(ii d),(.slice Ad ld cd)]) rfl underlying24 rfl yak ⟨Row.cell (hS.bx 2 rfl) (i:=0) rfl,Row.cell (hS.bx 2 rfl) (i:=1) rfl,trivial⟩) (zM (.slice Ai li ci) (zn (yai rfl (am2 rfl rfl) enter_49 ((ydy h hS.blt (hS.ro 0 rfl) (hS.ro 1 rfl)).mono ?_))))))))));rintro _ w3 ⟨r,r2,Ar,lr,cr,rfl,hC,h⟩;replace hS:=hS.call1 hC 3 0 rfl;clear hC;refine ⟨_,rfl,?_⟩;refine zb (zM (.tuple #[(.slice Ar lr cr),(ii r2)]) (zq (zx (.slice Ar lr cr)) (zq (zx (ii r2)) (zQ (.slice Ar lr cr) (zQ (ii r2) (yaa (yac (zs (zM (ii r2) (zq zN (yaa ?_)))))))))));by_cases hp:r2=0
  · replace h:=h.1 hp;refine ze hp (yaf (zs (zq (yao (vs:=[(ii d),(.slice Ad ld cd)]) rfl underlying24 rfl yak ⟨Row.cell (hS.bx 2 rfl) (i:=0) rfl,Row.cell (hS.bx 2 rfl) (i:=1) rfl,trivial⟩) (zn (yai rfl (am1 rfl) enter_57 ((yir h (yaz _) (hS.rdr 0 rfl)).mono ?_))))));rintro _ w4 ⟨r3,r4,rfl,hC,h⟩;replace hS:=hS.pur hC.pure;clear hC;refine ⟨_,rfl,?_⟩;refine zb (zM (.tuple #[(ii r3),(ii r4)]) (zq (zx (ii r3)) (zq (zx (ii r4)) (zQ (ii r3) (zQ (ii r4) (yaa (yac (zs (zM (ii r4) (zq zN (yaa ?_)))))))))));by_cases hp2:r4=0
    · replace h:=h.1 hp2;refine ze hp2 (yaf (yac (yac ?_)));obtain ⟨J2,hJ,h⟩:=h;refine ycA (fun E ds w'=>J2∧ds=[]∧E 1=(Value.slice Ai li ci)∧E 7=(Value.slice Ar lr cr)∧Sep w no O w' (rl [Res.ro (FP.sl cI Ai li ci i),Res.ro (FP.sl (cL cI) Ar lr cr r)])) ?_ ?_
      · clear h hS;rintro E ds w5 ⟨h,rfl,H1,H7,hS⟩;replace h:=hJ h;refine zs (zq (yab H7) (zq (yab H1) (zn (yai rfl (am2 rfl rfl) enter_50 ((yek h hS.blt (hS.ro 1 rfl) (hS.ro 0 rfl)).mono ?_)))));rintro _ w6 ⟨r5,r6,r7,Ar2,lr2,cr2,rfl,hC,h⟩;replace hS:=hS.call1 hC 2 0 rfl;clear hC;refine ⟨_,rfl,?_⟩;refine zb (zM (.tuple #[(.slice Ar2 lr2 cr2),(ii r6),(.bool (r7))]) (zq (zx (.slice Ar2 lr2 cr2)) (zq (zx (ii r6)) (zq (zx (.bool (r7))) (zQ (.slice Ar2 lr2 cr2) (zQ (ii r6) (zQ (.bool (r7)) (yaa (yac (zs (zM (.bool (r7)) (zq (yds rfl) (yaa ?_)))))))))))));by_cases hp3:r7=true
        · replace h:=h.1 hp3;refine yav (zC (zB hp3)) (yaf (zs (zM (.slice Ar2 lr2 cr2) (zM (.slice Ar2 lr2 cr2) (zn (yai rfl (am2 rfl rfl) yhR ((yck h (yaz _) (hS.rdr 2 rfl) (hS.rdr 2 rfl)).mono ?_)))))));rintro _ w7 ⟨r8,rfl,hC,h⟩;replace hS:=hS.pur hC.pure;clear hC;refine ⟨_,rfl,?_⟩;refine zb (zQ (ii r8) (yaa (zs (zq (yab H1) (zM (.slice Ar2 lr2 cr2) (zn (yai rfl (am2 rfl rfl) yhF ((yc2 h (yaz _) (hS.rdr 0 rfl) (hS.rdr 2 rfl)).mono ?_))))))));rintro _ w8 ⟨r9,Ar3,lr3,cr3,rfl,hC,h⟩;replace hS:=hS.call1 (hC.widen (ycv (yaP (fI .i64) _ _ _ _ _) ycH) hS.blt) 3 0 rfl;clear hC;refine ⟨_,rfl,?_⟩;refine zb ?_;replace hS:=hS.frz 3 rfl;refine zn (yaK (l:=[(0,(.slice Ar3 lr3 cr3))]) (cells:=[(.slice Ar3 lr3 cr3)]) (bp1 rfl) underlying27 yaJ rfl rfl ?_);intro g2 w9 hN;replace hS:=hS.lit (n:=1) (c:=(cL cI)) 4 rfl hN ([r9]:List (List Int)) rfl (by decide) ⟨[(.slice Ar3 lr3 cr3)],_,rfl,(ro_R (hS.ro 3 rfl)),rfl⟩;clear hN;refine zb (zQ (.slice (some ⟨g2,0,none⟩) 1 1) (yaa (yac (zs (zQ (ii 0) (yaa (yad ?_)))))));obtain ⟨I2,⟨m0,h0⟩,hr⟩:=h;refine yax (fun m E ds w'=>∃ v v2 Av lv cv,I2 m v v2∧ds=[]∧E 1=(Value.slice Ai li ci)∧E 7=(Value.slice Ar lr cr)∧E 13=(ii r8)∧E 14=(Value.slice Av lv cv)∧E 15=(ii v2)∧Sep w no O w' (rl [Res.own (cL cI) 35 Av lv cv v,Res.ro (FP.sl cI Ai li ci i),Res.ro (FP.sl (cL cI) Ar lr cr r)])) m0 ⟨_,_,_,_,_,h0,rfl,H1,H7,rfl,rfl,rfl,(hS.sel [4,0,1])⟩ ?_;clear h0 hS;rintro m2 E ds w10 ⟨v,v2,Av,lv,cv,h,rfl,H1,H7,H13,H14,H15,hS⟩ ag;replace h:=hr m2 v v2 h;clear hr;refine yac (zs (zq (yab H15) (zq (yab H14) (zq (yaG (n:=v.length) rfl underlying27 (yaD (hS.rdo 0 rfl))) (zq zL (yaa ?_))))));by_cases hp4:v2<(v.length:Int)
          · replace h:=h.1 hp4;refine zc hp4 (yaf (yac (yad (zs (zq (yab H7) (zq (yaG (n:=r.length) rfl underlying27 (yaD (hS.rdr 2 rfl))) (zM (ii 0) (yaa (yad ?_)))))))));obtain ⟨I3,⟨m0,h0⟩,hr⟩:=h;refine yax (fun m E ds w'=>∃ v3 v4 Av2 lv2 cv2,I3 m v3 v4∧ds=[]∧E 1=(Value.slice Ai li ci)∧E 7=(Value.slice Ar lr cr)∧E 13=(ii r8)∧E 14=(Value.slice Av2 lv2 cv2)∧E 15=(ii v2)∧E 65=(Value.slice Ar lr cr)∧E 66=(ii (r.length:Int))∧E 67=(ii v4)∧Sep w no O w' (rl [Res.own (cL cI) 35 Av2 lv2 cv2 v3,Res.ro (FP.sl cI Ai li ci i),Res.ro (FP.sl (cL cI) Ar lr cr r)])) m0 ⟨_,_,_,_,_,h0,rfl,H1,H7,H13,H14,H15,rfl,rfl,rfl,(hS.sel [0,1,2])⟩ ?_;clear h0 hS;rintro m3 E ds w11 ⟨v3,v4,Av2,lv2,cv2,h,rfl,H1,H7,H13,H14,H15,H65,H66,H67,hS⟩ again2;replace h:=hr m3 v3 v4 h;clear hr;refine zs (zq (ydm H67 H66) (yaa (yac ?_)));by_cases hp5:v4<(r.length:Int)
            · replace h:=h.1 hp5;refine zc hp5 (yaf (yac (yad (zs ?_))));obtain ⟨hx,h⟩:=h;refine zq (ydA H65 H67 underlying27 yaJ (yaB (hS.rdr 2 rfl) hx)) ?_;obtain ⟨A,l,c,hc,hq⟩:=hS.el 2 rfl hx 3 4 rfl rfl (by decide);replace hS:=hq;clear hq;refine zq (yar (v:=(.slice A l c)) rfl underlying35 rfl (hS.clr 4 rfl)) (zQ (.slice A l c) (yaa (zs (zq (yab H14) (zq (yab H15) ?_)))));obtain ⟨hx2,h⟩:=h;refine zq (zi underlying27 yaJ (yaB (hS.rdo 0 rfl) hx2)) ?_;obtain ⟨A2,l2,c4,hc2,hq⟩:=hS.elo 0 rfl hx2 5 rfl;replace hS:=hq;clear hq;refine zq (yar (v:=(.slice A2 l2 c4)) rfl underlying35 rfl hc2) (zM (.slice A l c) (zn (yai rfl (am2 rfl rfl) yhF ((yc2 h (yaz _) (hS.rdr 5 rfl) (hS.rdr 3 rfl)).mono ?_))));rintro _ w12 ⟨r10,Ar4,lr4,cr4,rfl,hC,h⟩;replace hS:=hS.call1 (hC.widen (ycv (yaP (fI .i64) _ _ _ _ _) ycH) hS.blt) 6 0 rfl;clear hC;refine ⟨_,rfl,?_⟩;refine zb (zn (yaS yaJ ?_));intro g3 w13 hN;replace hS:Sep w no O w13 (stl _ 7 (Res.box 35 g3 [(.slice none 0 0)])):=hS.new 7 rfl hN;clear hN;refine zb (zo (zt (.slice Ar4 lr4 cr4) yaJ (hS.bwr 7 rfl (j:=0) rfl) ?_));intro w14 e1;replace hS:=hS.bst 7 rfl 0 (.slice Ar4 lr4 cr4) e1;clear e1;refine zb (yaa (zs (zq (yab H1) (zq (zl underlying35 (Row.cell (hS.bx 7 rfl) (i:=0) rfl)) (zn (yai rfl (am2 rfl rfl) yhF ((yc2 h (yaz _) (hS.rdr 1 rfl) (hS.rdo 6 rfl)).mono ?_)))))));rintro _ w15 ⟨r11,Ar5,lr5,cr5,rfl,hC,h⟩;replace hS:=hS.call1 (hC.widen (ycv (yaP (fI .i64) _ _ _ _ _) ycH) hS.blt) 8 0 rfl;clear hC;refine ⟨_,rfl,?_⟩;refine zb (zQ (.slice Ar5 lr5 cr5) (yaa (zs (zM (.slice Ar5 lr5 cr5) (zM (.slice Ar5 lr5 cr5) (zn (yai rfl (am2 rfl rfl) yhR ((yck h (yaz _) (hS.rdo 8 rfl) (hS.rdo 8 rfl)).mono ?_))))))));rintro _ w16 ⟨r12,rfl,hC,h⟩;replace hS:=hS.pur hC.pure;clear hC;refine ⟨_,rfl,?_⟩;refine zb (zq (yab H13) (zq zE (zM (.bool (decide (r12=r8))) ?_)));by_cases hp6:r12=r8
              · replace h:=h.1 hp6;refine zW rfl rfl (zT hp6) (yab H14) (zW rfl rfl (zT hp6) (v_func (am0) (am1 rfl)) ?_);replace hS:=hS.frzb 7 rfl;replace hS:=hS.frz 6 rfl;refine rl_n (yaA rfl (ybc rfl (zT hp6))) rfl rfl rfl (yai rfl (am2 rfl rfl) enter_29 ((ydN h (yaz _) (hS.rdo 0 rfl) (fun w' hk=>⟨61,#[(.pointer (some ⟨g3,0,none⟩))],rfl,enter_61,fun x Ax lx cx R hF hz0=>ya4 (by simp) (yfT hF (yaz _) hz0 (FP.sub _ (FP.keep _ (FP.sub _ (hS.ro 7 rfl) (fun _ _ h=>h.elim):FP.P _ no _) hk) fun _ _ h=>h.elim) (FP.sub _ (FP.keep _ (FP.sub _ (hS.ro 6 rfl) (fun _ _ h=>h.elim):FP.P _ no _) hk) fun _ _ h=>h.elim))⟩)).mono ?_));rintro _ w17 ⟨r13,rfl,hC,h⟩;replace hS:=hS.pur hC.pure;clear hC;refine ⟨_,rfl,?_⟩;refine zb (zW rfl rfl (zT hp6) (yds rfl) (zq (yan (v:=(.bool (!(r13)))) (zT hp6) rfl) (yaa ?_)));by_cases hp7:r13=true
                · replace h:=h.1 hp7;refine yav (zC (zB hp7)) (yaf (yae (zr ?_)));obtain ⟨hi,h⟩:=h;refine zq (yb3 H67 rfl hi) (zM (ii (v4+1)) (yaa ?_));obtain ⟨mq,hlt,h⟩:=h;exact again2 mq _ _ _ ⟨_,_,_,_,_,h,rfl,H1,H7,H13,H14,H15,H65,H66,rfl,(hS.sel [0,1,2])⟩ hlt
                · replace h:=h.2 hp7;refine yaq (zC (zB (zI hp7))) (zr (zq (yab H14) (zq (zl underlying35 (Row.cell (hS.bxr 7 rfl) (i:=0) rfl)) (zn (yaK (l:=[(0,(.slice Ar4 lr4 cr4))]) (cells:=[(.slice Ar4 lr4 cr4)]) (bp1 rfl) underlying27 yaJ rfl rfl ?_)))));intro g4 w18 hN;replace hS:=hS.lit (n:=1) (c:=(cL cI)) 9 rfl hN ([r10]:List (List Int)) rfl (by decide) ⟨[(.slice Ar4 lr4 cr4)],_,rfl,(ro_R (hS.ro 6 rfl)),rfl⟩;clear hN;refine zb ?_;obtain ⟨hx3,h⟩:=h;refine zn (yfv (c:=(cL cI)) rfl rfl underlying27 underlying27 yaJ rfl rfl (by decide) hS 0 rfl (hS.yo 9 rfl) hx3 ?_);clear hS;intro A3 c5 w19 hS;refine zb (zQ (.slice A3 (lv2+1) c5) (yaa (yae (zr ?_))));obtain ⟨hi2,h⟩:=h;refine zq (yb3 H67 rfl hi2) (zM (ii (v4+1)) (yaa ?_));obtain ⟨mq,hlt,h⟩:=h;exact again2 mq _ _ _ ⟨_,_,_,_,_,h,rfl,H1,H7,H13,rfl,H15,H65,H66,rfl,(hS.sel [0,1,2])⟩ hlt
              · replace h:=h.2 hp6;refine zV rfl rfl (zF hp6) (zV rfl rfl (zF hp6) (zV rfl rfl (zF hp6) (zV rfl rfl (zF hp6) (zq (yaj (v:=(.bool (false))) (zF hp6) rfl) (yaa (yav rfl (yaf (yae (zr ?_)))))))));obtain ⟨hi3,h⟩:=h;refine zq (yb3 H67 rfl hi3) (zM (ii (v4+1)) (yaa ?_));obtain ⟨mq,hlt,h⟩:=h;exact again2 mq _ _ _ ⟨_,_,_,_,_,h,rfl,H1,H7,H13,H14,H15,H65,H66,rfl,(hS.sel [0,1,2])⟩ hlt
            · replace h:=h.2 hp5;refine zd hp5 (yas rfl (yae (zr (zq (yab H15) ?_))));obtain ⟨hi4,h⟩:=h;refine zq (zA hi4) (zQ (ii (v2+1)) (yaa ?_));obtain ⟨mq,hlt,h⟩:=h;exact ag mq _ _ _ ⟨_,_,_,_,_,h,rfl,H1,H7,H13,H14,rfl,(hS.sel [0,1,2])⟩ hlt
          · replace h:=h.2 hp4;refine zd hp4 (yas rfl (zs (zq (yab H14) ?_)));have hB:=hS.lend (asc [(0,0)]) [0] (by decide) ⟨.inl (ya5 rfl),trivial⟩;refine zn (ydt (vs:=#[(.slice Av lv cv),(.func (Fn.func 47) #[] #[])]) (us:=#[]) rfl (am2 rfl rfl) enter_46 ((ya4 (by simp) (yeH h hB)).mono ?_));rintro _ w20 ⟨y,rfl,hC,h⟩;replace hS:=hS.back (asc [(0,0)]) (ydl (by decide)) hC;clear hC hB;refine ⟨_,rfl,?_⟩;exact zb (yaa (zs (zq (yab H14) (zq (yab H13) (zQ (.slice Av lv cv) (zQ (ii r8) (zQ (ii 0) (yaa (yfh rfl rfl rfl rfl ⟨_,_,_,_,_,_,rfl,(hS.sel [0]),h⟩)))))))))
        · replace h:=h.2 hp3;refine yaq (zC (zB (zI hp3))) (zs (zQ (.slice none 0 0) (zQ (ii 0) (zQ (ii 12) (yaa ?_)))));replace hS:=hS.nil 3 rfl (cL cI) 35;exact yfh rfl rfl rfl rfl ⟨_,_,_,_,_,_,rfl,(hS.sel [3]),h⟩
      clear hJ;intro j;refine zr (zM (ii r3) (zq zG (zM (.bool (decide (4<r3))) ?_)));by_cases hp8:4<r3
      · replace h:=h.1 hp8;refine zV rfl rfl (zT hp8) (zV rfl rfl (zT hp8) (zq (yan (v:=(.bool (true))) (zT hp8) rfl) (yaa (yaq rfl (zs (zQ (.slice none 0 0) (zQ (ii 0) (zQ (ii 12) (yaa ?_)))))))));replace hS:=hS.nil 4 rfl (cL cI) 35;exact yfh rfl rfl rfl rfl ⟨_,_,_,_,_,_,rfl,(hS.sel [4]),h⟩
      · replace h:=h.2 hp8;refine zW rfl rfl (zF hp8) (zm (.slice Ai li ci)) (rl_n (yaA rfl (ybc rfl (zF hp8))) rfl rfl rfl (yai rfl (am2 rfl rfl) enter_25 ((ycs h (yaz _) (hS.rdr 1 rfl) (fun w' hk=>⟨58,#[],rfl,enter_58,fun x2 R hF=>ya4 (by simp) (yfD hF (yaz _))⟩)).mono ?_)));rintro _ w21 ⟨r14,rfl,hC,h⟩;replace hS:=hS.pur hC.pure;clear hC;refine ⟨_,rfl,?_⟩;refine zb (zq (yaj (v:=(.bool (r14))) (zF hp8) rfl) (yaa ?_));by_cases hp9:r14=true
        · replace h:=h.1 hp9;refine yaq (zC hp9) (zs (zQ (.slice none 0 0) (zQ (ii 0) (zQ (ii 12) (yaa ?_)))));replace hS:=hS.nil 4 rfl (cL cI) 35;exact yfh rfl rfl rfl rfl ⟨_,_,_,_,_,_,rfl,(hS.sel [4]),h⟩
        · replace h:=h.2 hp9;exact yav (zC (zI hp9)) (yaf (j _ _ _ ⟨h,rfl,rfl,rfl,(hS.sel [1,3])⟩))
    · replace h:=h.2 hp2;refine zf hp2 (zs (zM (ii r4) (zQ (.slice none 0 0) (zQ (ii 0) (zQ (ii r4) (yaa ?_))))));replace hS:=hS.nil 4 rfl (cL cI) 35;exact yfh rfl rfl rfl rfl ⟨_,_,_,_,_,_,rfl,(hS.sel [4]),h⟩
  · replace h:=h.2 hp;refine zf hp (zs (zM (ii r2) (zQ (.slice none 0 0) (zQ (ii 0) (zQ (ii r2) (yaa ?_))))));replace hS:=hS.nil 4 rfl (cL cI) 35;exact yfh rfl rfl rfl rfl ⟨_,_,_,_,_,_,rfl,(hS.sel [4]),h⟩
def yb6(g:Int)(g2:List E3)(x:List Int)(k:Int)(R:Bool→Int→Prop):Prop :=
yby g g2 x (fun r r2 =>
((r2=0 →
(∃ J2:Prop,(J2→ycG r x k ((∃ Pr Rr:List (List Int)→Prop,ybI r x k Pr Rr ∧
(∃ I2:List (List Int)→Prop,I2 [] ∧
(∀ pre y,I2 pre→Pr (pre++[y]) →
R false 0) ∧
(∀ ys,I2 ys→Rr ys →
R true 0))))) ∧
((k<1 →
R false 2) ∧
(¬(k<1) →
((1048576<k →
R false 2) ∧
(¬(1048576<k) →
J2)))))) ∧
(¬(r2=0) →
R false r2)))
theorem yen{O:Nat→Prop}{w:World}{g g2 x k Ag lg cg Ax lx cx}{R:Bool→Int→Prop}(h:yb6 g g2 x k R)(hO:∀ k,O k→k<w.heap.size)(hA0:(FP.sl c3 Ag lg cg g2).P O w)(hA1:(FP.sl cI Ax lx cx x).P O w) :
    Calls Tryz.prog 17 #[(.agg #[(ii g),(.slice Ag lg cg)]),(.slice Ax lx cx),(ii k)] w fun e w'=>∃ r7 r8,e = .returned (.tuple #[(.bool (r7)),(ii r8)])∧Sep w no O w' (rl [])∧R r7 r8:=by
  unfold yb6 at h;have hS:Sep w no O w (rl [Res.ro (FP.sl c3 Ag lg cg g2),Res.ro (FP.sl cI Ax lx cx x)]):=Sep.startl hO [(FP.sl c3 Ag lg cg g2),(FP.sl cI Ax lx cx x)] ⟨hA0,hA1,trivial⟩;refine yfE (l:=[(.agg #[(ii g),(.slice Ag lg cg)]),(.slice Ax lx cx),(ii k)]) func17 rfl ntmps17 zY (zs (zn (ybm (v:=(.agg #[(ii g),(.slice Ag lg cg)])) rfl ?_)));intro g3 w2 hN;replace hS:Sep w no O w2 (stl _ 2 (Res.box 24 g3 [(ii g),(.slice Ag lg cg)])):=hS.new 2 rfl hN;clear hN;refine zb (zn (yaS ybb ?_));intro g4 w3 hN;replace hS:Sep w no O w3 (stl _ 3 (Res.box 4 g4 [(.bool (false))])):=hS.new 3 rfl hN;clear hN;refine zb (zn (yaS yhg ?_));intro g5 w4 hN;replace hS:Sep w no O w4 (stl _ 4 (Res.box 28 g5 [(ii 0)])):=hS.new 4 rfl hN;clear hN;refine zb (yaa (zs (zq (yao (vs:=[(ii g),(.slice Ag lg cg)]) rfl underlying24 rfl yak ⟨Row.cell (hS.bx 2 rfl) (i:=0) rfl,Row.cell (hS.bx 2 rfl) (i:=1) rfl,trivial⟩) (zM (.slice Ax lx cx) (zn (yai rfl (am2 rfl rfl) enter_49 ((ydy h hS.blt (hS.ro 0 rfl) (hS.ro 1 rfl)).mono ?_)))))));rintro _ w5 ⟨r,r2,Ar,lr,cr,rfl,hC,h⟩;replace hS:=hS.call1 hC 5 0 rfl;clear hC;refine ⟨_,rfl,?_⟩;refine zb (zM (.tuple #[(.slice Ar lr cr),(ii r2)]) (zq (zx (.slice Ar lr cr)) (zq (zx (ii r2)) (zQ (.slice Ar lr cr) (zQ (ii r2) (yaa (yac (zs (zM (ii r2) (zq zN (yaa ?_)))))))))));by_cases hp:r2=0
  · replace h:=h.1 hp;refine ze hp (yaf (yac (yac ?_)));obtain ⟨J2,hJ,h⟩:=h;refine ycA (fun E ds w'=>J2∧ds=[]∧E 1=(Value.slice Ax lx cx)∧E 2=(ii k)∧E 6=(Value.pointer (some ⟨g4,0,none⟩))∧E 7=(Value.pointer (some ⟨g5,0,none⟩))∧E 8=(Value.slice Ar lr cr)∧Sep w no O w' (rl [Res.ro (FP.sl cI Ax lx cx x),Res.box 4 g4 [(.bool (false))],Res.box 28 g5 [(ii 0)],Res.ro (FP.sl (cL cI) Ar lr cr r)])) ?_ ?_
    · clear h hS;rintro E ds w6 ⟨h,rfl,H1,H2,H6,H7,H8,hS⟩;replace h:=hJ h;refine yac (zs (zq (yab H8) (zq (yab H1) (zq (yab H2) (zn (yai rfl (am3 rfl rfl rfl) enter_53 ((yeB h hS.blt (hS.ro 3 rfl) (hS.ro 0 rfl)).mono ?_)))))));rintro _ w7 ⟨gc,gc2,gc3,rfl,hC,h⟩;replace hS:=hS.call3 hC 4 5 6 rfl rfl rfl (by decide) (by decide) (by decide);clear hC;refine ⟨_,rfl,?_⟩;refine zb (yaa (yad ?_));obtain ⟨Pr,Rr,hgp,I2,h0,hb,h⟩:=h;refine wt_iterSP hS [1,2] [4,3,5,0,6] (by decide) (by decide) ⟨.inl (by decide), .inr rfl, .inl (by decide), .inr rfl, .inl (by decide),trivial⟩ rfl enter_103 (val:=(fun (x:List Int) (b:(Option Addr×Nat×Nat))=>#[(.slice b.1 b.2.1 b.2.2)])) (pass:=(fun (x:List Int) (b:(Option Addr×Nat×Nat))=>(FP.sl cI b.1 b.2.1 b.2.2 x))) (Pr:=Pr) (R:=Rr) (fun _ _=>rfl) rfl (fun pr LL=>I2 pr∧LL=[Res.box 4 g4 [(.bool (false))],Res.box 28 g5 [(ii 0)]]) (fun c ys LL=>c=none∧∃ r5 r6,LL=[Res.box 4 g4 [(.bool (r5))],Res.box 28 g5 [(ii r6)]]∧R r5 r6) ⟨h0,rfl⟩ (fun T G hG=>ydT hgp hG) ?_ ?_ ?_
      · clear h h0 hS hgp;rintro ll rdy busy S O2 pre y ⟨A,l,c⟩ w8 _ ⟨hI,rfl⟩ hPr hpass hS;have h:=hb pre y hI hPr;clear hb hI hPr;replace hS:=hS.addro 3 rfl _ hpass;clear hpass;refine yaf (yhq fun a ra=>⟨rfl,_,_,ra,hS,⟨2,rfl⟩,?_⟩);intro w10 hw;replace hS:=hS.flip 2 rfl busy hw;clear hw ra a;refine yad (yac (yaE (ydD ll) (zo (yg5 (v:=(.bool (false))) H6 rfl rfl ybb (hS.bwr 0 rfl (j:=0) rfl) ?_))));intro w11 e1;replace hS:=hS.bst 0 rfl 0 (.bool (false)) e1;clear e1;refine zb (zo (yg5 (v:=(ii 0)) H7 rfl rfl yhg (hS.bwr 1 rfl (j:=0) rfl) ?_));intro w12 e1;replace hS:=hS.bst 1 rfl 0 (ii 0) e1;clear e1;exact zb (yaa (yfs fun a r=>⟨_,⟨rfl,false,0,rfl,h⟩,(hS.sel [0,1,2])⟩))
      · clear hb h0 hS hgp;rintro D ys w9 _ hRr ⟨hI,rfl⟩ hS;replace h:=h ys hI hRr;clear hI hRr;refine yae (zs (zo (yg5 (v:=(.bool (true))) H6 rfl rfl ybb (hS.bwr 0 rfl (j:=0) rfl) ?_)));intro w13 e1;replace hS:=hS.bst 0 rfl 0 (.bool (true)) e1;clear e1;refine zb (zo (yg5 (v:=(ii 0)) H7 rfl rfl yhg (hS.bwr 1 rfl (j:=0) rfl) ?_));intro w14 e1;replace hS:=hS.bst 1 rfl 0 (ii 0) e1;clear e1;exact zb (yaa (yfs (yil (rs:=[D]) hS 0 1 rfl rfl [2] (yhc 2 rfl) (by decide) (by decide) (by simp) (hS.marked 2 rfl) rfl H6 H7 underlying4 rfl underlying28 rfl (fun w9 hk=>⟨_,_,rfl,(hS.unmark [2] [] (by decide) (by decide) (yhc 2 rfl) hk),h⟩))))
      · clear h hb h0 hS hgp;rintro D2 c ys W9 _ ⟨rfl,r5,r6,rfl,h⟩ hS;exact yil (rs:=[D2]) hS 0 1 rfl rfl [2] (yhc 2 rfl) (by decide) (by decide) (by simp) (hS.marked 2 rfl) rfl H6 H7 underlying4 rfl underlying28 rfl (fun w9 hk=>⟨_,_,rfl,(hS.unmark [2] [] (by decide) (by decide) (yhc 2 rfl) hk),h⟩)
    clear hJ;intro j;refine zr (zM (ii k) (zq zL (zM (.bool (decide (k<1))) ?_)));by_cases hp2:k<1
    · replace h:=h.1 hp2;refine zV rfl rfl (zT hp2) (zV rfl rfl (zT hp2) (zq (yan (v:=(.bool (true))) (zT hp2) rfl) (yaa (yaq rfl (zs (zo (zt (.bool (false)) ybb (hS.bwr 3 rfl (j:=0) rfl) ?_)))))));intro w15 e1;replace hS:=hS.bst 3 rfl 0 (.bool (false)) e1;clear e1;refine zb (zo (zt (ii 2) yhg (hS.bwr 4 rfl (j:=0) rfl) ?_));intro w16 e1;replace hS:=hS.bst 4 rfl 0 (ii 2) e1;clear e1;exact zb (yaa (yfs (yil (rs:=[]) hS 3 4 rfl rfl [] (by simp) (by decide) (by decide) (by simp) (by simp) rfl rfl rfl underlying4 rfl underlying28 rfl (fun w9 hk=>⟨_,_,rfl,(hS.unmark [] [] (by decide) (by decide) (by simp) hk),h⟩))))
    · replace h:=h.2 hp2;refine zW rfl rfl (zF hp2) (zm (ii k)) (zW rfl rfl (zF hp2) zG (zq (yaj (v:=(.bool (decide (1048576<k)))) (zF hp2) rfl) (yaa ?_)));by_cases hp3:1048576<k
      · replace h:=h.1 hp3;refine zc hp3 (zs (zo (zt (.bool (false)) ybb (hS.bwr 3 rfl (j:=0) rfl) ?_)));intro w17 e1;replace hS:=hS.bst 3 rfl 0 (.bool (false)) e1;clear e1;refine zb (zo (zt (ii 2) yhg (hS.bwr 4 rfl (j:=0) rfl) ?_));intro w18 e1;replace hS:=hS.bst 4 rfl 0 (ii 2) e1;clear e1;exact zb (yaa (yfs (yil (rs:=[]) hS 3 4 rfl rfl [] (by simp) (by decide) (by decide) (by simp) (by simp) rfl rfl rfl underlying4 rfl underlying28 rfl (fun w9 hk=>⟨_,_,rfl,(hS.unmark [] [] (by decide) (by decide) (by simp) hk),h⟩))))
      · replace h:=h.2 hp3;exact zd hp3 (yaf (j _ _ _ ⟨h,rfl,rfl,rfl,rfl,rfl,rfl,(hS.sel [1,3,4,5])⟩))
  · replace h:=h.2 hp;refine zf hp (zs (zM (ii r2) (zo (zt (.bool (false)) ybb (hS.bwr 3 rfl (j:=0) rfl) ?_))));intro w19 e1;replace hS:=hS.bst 3 rfl 0 (.bool (false)) e1;clear e1;refine zb (zo (zt (ii r2) yhg (hS.bwr 4 rfl (j:=0) rfl) ?_));intro w20 e1;replace hS:=hS.bst 4 rfl 0 (ii r2) e1;clear e1;exact zb (yaa (yfs (yil (rs:=[]) hS 3 4 rfl rfl [] (by simp) (by decide) (by decide) (by simp) (by simp) rfl rfl rfl underlying4 rfl underlying28 rfl (fun w9 hk=>⟨_,_,rfl,(hS.unmark [] [] (by decide) (by decide) (by simp) hk),h⟩))))
end Go.Proofs.YtencmgolklfmkaaGreat

/- Table, whose rows stay one's own; printed by tab.py. -/
namespace Go.Proofs.YtencmgolklfmkaaGreat
open Go Go.RowKit Go.Shelf Go.Proofs.Tryz
set_option maxRecDepth 100000
end Go.Proofs.YtencmgolklfmkaaGreat

/- Pure forms of functions, made by program (pf.py), each with the proof that the code does so. -/
namespace Go.Proofs.YtencmgolklfmkaaGreat
open Go Go.RowKit Go.Shelf Go.Proofs.Tryz
set_option maxRecDepth 100000
set_option maxHeartbeats 8000000
def yjs(g:Int)(g2:List E3)(R:Int→Prop):Prop :=
ycz g g2 (fun r =>
(In64 (r-g) ∧
yca g g2 (fun r2 =>
(In64 ((r-g)+r2) ∧
R ((r-g)+r2)))))
theorem yjI{O:Nat→Prop}{w:World}{g g2 Ag lg cg}{R:Int→Prop}(h:yjs g g2 R)(hO:∀ k,O k→k<w.heap.size)(hA0:(FP.sl c3 Ag lg cg g2).P O w) :
    Calls Tryz.prog 24 #[(.agg #[(ii g),(.slice Ag lg cg)])] w fun e w'=>∃ r3,e = .returned (ii r3)∧Sep w no O w' (rl [])∧R r3:=by
  unfold yjs at h;have hS:Sep w no O w (rl [Res.ro (FP.sl c3 Ag lg cg g2)]):=Sep.startl hO [(FP.sl c3 Ag lg cg g2)] ⟨hA0,trivial⟩;refine yal (l:=[(.agg #[(ii g),(.slice Ag lg cg)])]) func24 rfl ntmps24 zY (zs (zn (ybm (v:=(.agg #[(ii g),(.slice Ag lg cg)])) rfl ?_)));intro g3 w2 hN;replace hS:Sep w no O w2 (stl _ 1 (Res.box 24 g3 [(ii g),(.slice Ag lg cg)])):=hS.new 1 rfl hN;clear hN;refine zb (zQ (ii 0) (yaa (yac (ybq [0,2,3,5,1,4,6,7,8] (fun i=>match i with | 1=>[2,3,5] | 6=>[2,3,4] | _=>[]) yaC (by kernel_rfl) (by kernel_rfl) ?_))));replace hS:=hS.drew;refine zp (yao (vs:=[(ii g),(.slice Ag lg cg)]) rfl underlying24 rfl yak ⟨Row.cell (hS.bx 1 rfl) (i:=0) rfl,Row.cell (hS.bx 1 rfl) (i:=1) rfl,trivial⟩) (zp (yam rfl underlying24 rfl yag) (zp (zl underlying3 (Row.cell (hS.bx 1 rfl) (i:=0) rfl)) (zp (yao (vs:=[(ii g),(.slice Ag lg cg)]) rfl underlying24 rfl yak ⟨Row.cell (hS.bx 1 rfl) (i:=0) rfl,Row.cell (hS.bx 1 rfl) (i:=1) rfl,trivial⟩) (rp_n rfl rfl rfl rfl (yai rfl (am1 rfl) yhI ((yez h (yaz _) (hS.rdr 0 rfl)).mono ?_))))));rintro _ w3 ⟨r,rfl,hC,h⟩;replace hS:=hS.pur hC.pure;clear hC;refine ⟨_,rfl,?_⟩;refine ⟨⟨fun _=>(yao (vs:=[(ii g),(.slice Ag lg cg)]) rfl underlying24 rfl yak ⟨Row.cell (hS.bx 1 rfl) (i:=0) rfl,Row.cell (hS.bx 1 rfl) (i:=1) rfl,trivial⟩),⟨fun _=>(zl underlying3 (Row.cell (hS.bx 1 rfl) (i:=0) rfl)),⟨fun _=>(yam rfl underlying24 rfl yag),⟨fun hh=>zZ hh,trivial⟩⟩⟩⟩,?_⟩;obtain ⟨hi,h⟩:=h;refine zp (zS hi) (rp_n rfl rfl rfl rfl (yai rfl (am1 rfl) enter_64 ((ygN h (yaz _) (hS.rdr 0 rfl)).mono ?_)));rintro _ w4 ⟨r2,rfl,hC,h⟩;replace hS:=hS.pur hC.pure;clear hC;refine ⟨_,rfl,?_⟩;refine ⟨⟨fun _=>(zS hi),⟨fun hh=>zZ hh,⟨fun _=>(zl underlying3 (Row.cell (hS.bx 1 rfl) (i:=0) rfl)),⟨fun _=>(yam rfl underlying24 rfl yag),⟨fun hh=>zZ hh,trivial⟩⟩⟩⟩⟩,?_⟩;obtain ⟨hi2,h⟩:=h;exact zp (zA hi2) (zp (za (ii ((r-g)+r2))) (ybH (yah rfl rfl ⟨_,rfl,(hS.sel []),h⟩)))
def yd5(a:List Int)(b:List Int)(R:Bool→Prop):Prop :=
(∃ I2:Nat→Int→Prop,(∃ m0,I2 m0 0)∧∀ m2 i,I2 m2 i → 
(∃ J2:Prop,(J2→((0≤i∧i<(a.length:Int)) ∧
((0≤i∧i<(b.length:Int)) ∧
(((gi a i.toNat)=(gi b i.toNat) →
(In64 (i+1) ∧
∃ m3,m3<m2∧I2 m3 (i+1))) ∧
(¬((gi a i.toNat)=(gi b i.toNat)) →
R (decide ((gi a i.toNat)<(gi b i.toNat)))))))) ∧
((i<(a.length:Int) →
((i<(b.length:Int) →
J2) ∧
(¬(i<(b.length:Int)) →
R (decide ((a.length:Int)<(b.length:Int)))))) ∧
(¬(i<(a.length:Int)) →
R (decide ((a.length:Int)<(b.length:Int)))))))
theorem pok_r10_Before{O:Nat→Prop}{w:World}{a b Aa la ca Ab lb cb}{R:Bool→Prop}(h:yd5 a b R)(hO:∀ k,O k→k<w.heap.size)(hA0:(FP.sl cI Aa la ca a).P O w)(hA1:(FP.sl cI Ab lb cb b).P O w) :
    Calls Tryz.prog 115 #[(.slice Aa la ca),(.slice Ab lb cb)] w fun e w'=>∃ r,e = .returned (.bool (r))∧Sep w no O w' (rl [])∧R r:=by
  unfold yd5 at h;have hS:Sep w no O w (rl [Res.ro (FP.sl cI Aa la ca a),Res.ro (FP.sl cI Ab lb cb b)]):=Sep.startl hO [(FP.sl cI Aa la ca a),(FP.sl cI Ab lb cb b)] ⟨hA0,hA1,trivial⟩;refine yal (l:=[(.slice Aa la ca),(.slice Ab lb cb)]) func115 rfl ntmps115 zY (zs (zQ (.bool (false)) (yaa (yac (zs (zQ (ii 0) (yaa (yad ?_))))))));obtain ⟨I2,⟨m0,h0⟩,hr⟩:=h;refine yax (fun m E ds w'=>∃ i,I2 m i∧ds=[]∧E 0=(Value.slice Aa la ca)∧E 1=(Value.slice Ab lb cb)∧E 5=(ii i)∧Sep w no O w' (rl [Res.ro (FP.sl cI Aa la ca a),Res.ro (FP.sl cI Ab lb cb b)])) m0 ⟨_,h0,rfl,rfl,rfl,rfl,(hS.sel [0,1])⟩ ?_;clear h0 hS;rintro m2 E ds w2 ⟨i,h,rfl,H0,H1,H5,hS⟩ ag;replace h:=hr m2 i h;clear hr;refine yac (yac ?_);obtain ⟨J2,hJ,h⟩:=h;refine ycA (fun E ds w'=>J2∧ds=[]∧E 0=(Value.slice Aa la ca)∧E 1=(Value.slice Ab lb cb)∧E 5=(ii i)∧Sep w no O w' (rl [Res.ro (FP.sl cI Aa la ca a),Res.ro (FP.sl cI Ab lb cb b)])) ?_ ?_
  · clear h hS;rintro E ds w3 ⟨h,rfl,H0,H1,H5,hS⟩;replace h:=hJ h;refine yac (yad (yac (ybq [0,1,2,3,4,5,6,7,8] st0 yaC (by kernel_rfl) (by kernel_rfl) ?_)));replace hS:=hS.drew;refine zp (yab H0) (zp (yab H5) ?_);obtain ⟨hx,h⟩:=h;refine zp (zi underlying35 yag (yaB (hS.rdr 0 rfl) hx)) (zp (yar (v:=(ii (gi a i.toNat))) rfl underlying3 rfl (rd_1 (hS.rdr 0 rfl) hx (fun q=>yaF q) rfl)) ?_);refine zp (yab H1) (zp (yab H5) ?_);obtain ⟨hx2,h⟩:=h;refine zp (zi underlying35 yag (yaB (hS.rdr 1 rfl) hx2)) (zp (yar (v:=(ii (gi b i.toNat))) rfl underlying3 rfl (rd_1 (hS.rdr 1 rfl) hx2 (fun q=>yaF q) rfl)) ?_);refine zp zN (ybH ?_);by_cases hp:(gi a i.toNat)=(gi b i.toNat)
    · replace h:=h.1 hp;refine ze hp (yaf (yae (zr (zq (yab H5) ?_))));obtain ⟨hi,h⟩:=h;refine zq (zA hi) (zQ (ii (i+1)) (yaa ?_));obtain ⟨mq,hlt,h⟩:=h;exact ag mq _ _ _ ⟨_,h,rfl,H0,H1,rfl,(hS.sel [0,1])⟩ hlt
    · replace h:=h.2 hp;refine zf hp (yac (ybq [0,1,2,3,4,5,6,7,8,9] st0 yaC (by kernel_rfl) (by kernel_rfl) ?_));replace hS:=hS.drew;refine zp (yab H0) (zp (yab H5) (zp (zi underlying35 yag (yaB (hS.rdr 0 rfl) hx)) (zp (yar (v:=(ii (gi a i.toNat))) rfl underlying3 rfl (rd_1 (hS.rdr 0 rfl) hx (fun q=>yaF q) rfl)) ?_)));refine zp (yab H1) (zp (yab H5) (zp (zi underlying35 yag (yaB (hS.rdr 1 rfl) hx2)) (zp (yar (v:=(ii (gi b i.toNat))) rfl underlying3 rfl (rd_1 (hS.rdr 1 rfl) hx2 (fun q=>yaF q) rfl)) ?_)));exact zp zL (zp (za (.bool (decide ((gi a i.toNat)<(gi b i.toNat))))) (ybH (yah rfl rfl ⟨_,rfl,(hS.sel []),h⟩)))
  clear hJ;intro j;refine zr (zq (yab H5) (zq (yab H0) (zq (yaG (n:=a.length) rfl underlying35 (yaD (hS.rdr 0 rfl))) (zq zL (zM (.bool (decide (i<(a.length:Int)))) ?_)))));by_cases hp2:i<(a.length:Int)
  · replace h:=h.1 hp2;refine zW rfl rfl (zT hp2) (yab H5) (zW rfl rfl (zT hp2) (yab H1) (zW rfl rfl (zT hp2) (yaG (n:=b.length) rfl underlying35 (yaD (hS.rdr 1 rfl))) (zW rfl rfl (zT hp2) zL (zq (yan (v:=(.bool (decide (i<(b.length:Int))))) (zT hp2) rfl) (yaa ?_)))));by_cases hp3:i<(b.length:Int)
    · replace h:=h.1 hp3;exact zc hp3 (yaf (j _ _ _ ⟨h,rfl,H0,H1,H5,(hS.sel [0,1])⟩))
    · replace h:=h.2 hp3;exact zd hp3 (yas rfl (zs (zq (yab H0) (zq (yaG (n:=a.length) rfl underlying35 (yaD (hS.rdr 0 rfl))) (zq (yab H1) (zq (yaG (n:=b.length) rfl underlying35 (yaD (hS.rdr 1 rfl))) (zq zL (zQ (.bool (decide ((a.length:Int)<(b.length:Int)))) (yaa (yah rfl rfl ⟨_,rfl,(hS.sel []),h⟩))))))))))
  · replace h:=h.2 hp2;exact zV rfl rfl (zF hp2) (zV rfl rfl (zF hp2) (zV rfl rfl (zF hp2) (zV rfl rfl (zF hp2) (zq (yaj (v:=(.bool (false))) (zF hp2) rfl) (yaa (yav rfl (yas rfl (zs (zq (yab H0) (zq (yaG (n:=a.length) rfl underlying35 (yaD (hS.rdr 0 rfl))) (zq (yab H1) (zq (yaG (n:=b.length) rfl underlying35 (yaD (hS.rdr 1 rfl))) (zq zL (zQ (.bool (decide ((a.length:Int)<(b.length:Int)))) (yaa (yah rfl rfl ⟨_,rfl,(hS.sel []),h⟩))))))))))))))))
def ydb(g:Int)(g2:List E3)(R:Int→Prop):Prop :=
ybV g g2 (fun r =>
((r=0 →
ybv g g2 (fun r2 =>
((r2=true →
R 0) ∧
(¬(r2=true) →
R 13)))) ∧
(¬(r=0) →
R r)))
theorem ygn{O:Nat→Prop}{w:World}{g g2 Ag lg cg}{R:Int→Prop}(h:ydb g g2 R)(hO:∀ k,O k→k<w.heap.size)(hA0:(FP.sl c3 Ag lg cg g2).P O w) :
    Calls Tryz.prog 33 #[(.agg #[(ii g),(.slice Ag lg cg)])] w fun e w'=>∃ r3,e = .returned (ii r3)∧Sep w no O w' (rl [])∧R r3:=by
  unfold ydb at h;have hS:Sep w no O w (rl [Res.ro (FP.sl c3 Ag lg cg g2)]):=Sep.startl hO [(FP.sl c3 Ag lg cg g2)] ⟨hA0,trivial⟩;refine yal (l:=[(.agg #[(ii g),(.slice Ag lg cg)])]) func33 rfl ntmps33 zY (zs (zn (ybm (v:=(.agg #[(ii g),(.slice Ag lg cg)])) rfl ?_)));intro g3 w2 hN;replace hS:Sep w no O w2 (stl _ 1 (Res.box 24 g3 [(ii g),(.slice Ag lg cg)])):=hS.new 1 rfl hN;clear hN;refine zb (zQ (ii 0) (yaa (yac (zs (zq (yao (vs:=[(ii g),(.slice Ag lg cg)]) rfl underlying24 rfl yak ⟨Row.cell (hS.bx 1 rfl) (i:=0) rfl,Row.cell (hS.bx 1 rfl) (i:=1) rfl,trivial⟩) (zn (yai rfl (am1 rfl) yjd ((yfm h (yaz _) (hS.rdr 0 rfl)).mono ?_))))))));rintro _ w3 ⟨r,rfl,hC,h⟩;replace hS:=hS.pur hC.pure;clear hC;refine ⟨_,rfl,?_⟩;refine zb (zQ (ii r) (yaa (zs (zM (ii r) (zq zN (yaa ?_))))));by_cases hp:r=0
  · replace h:=h.1 hp;refine ze hp (yaf (yac (zs (zq (yao (vs:=[(ii g),(.slice Ag lg cg)]) rfl underlying24 rfl yak ⟨Row.cell (hS.bx 1 rfl) (i:=0) rfl,Row.cell (hS.bx 1 rfl) (i:=1) rfl,trivial⟩) (zn (yai rfl (am1 rfl) yhU ((ycC h (yaz _) (hS.rdr 0 rfl)).mono ?_)))))));rintro _ w4 ⟨r2,rfl,hC,h⟩;replace hS:=hS.pur hC.pure;clear hC;refine ⟨_,rfl,?_⟩;refine zb (zq (yds rfl) (yaa ?_));by_cases hp2:r2=true
    · replace h:=h.1 hp2;exact yav (zC (zB hp2)) (yaf (zs (zQ (ii 0) (yaa (yah rfl rfl ⟨_,rfl,(hS.sel []),h⟩)))))
    · replace h:=h.2 hp2;exact yaq (zC (zB (zI hp2))) (zs (zQ (ii 13) (yaa (yah rfl rfl ⟨_,rfl,(hS.sel []),h⟩))))
  · replace h:=h.2 hp;exact zf hp (zs (zM (ii r) (zQ (ii r) (yaa (yah rfl rfl ⟨_,rfl,(hS.sel []),h⟩)))))
def yjC(ends:Int)(ends2:Int)(v:Int)(R:Int→Prop):Prop :=
((0≤(0:Int)∧(0:Int)<2) ∧
((ends=v →
((0≤(1:Int)∧(1:Int)<2) ∧
R ends2)) ∧
(¬(ends=v) →
R ends)))
theorem pok_r13_other{O:Nat→Prop}{w:World}{ends ends2 v}{R:Int→Prop}(h:yjC ends ends2 v R)(hO:∀ k,O k→k<w.heap.size) :
    Calls Tryz.prog 169 #[(.agg #[(ii ends),(ii ends2)]),(ii v)] w fun e w'=>∃ r,e = .returned (ii r)∧Sep w no O w' (rl [])∧R r:=by
  unfold yjC at h;have hS:Sep w no O w (rl []):=Sep.start w hO;refine yal (l:=[(.agg #[(ii ends),(ii ends2)]),(ii v)]) func169 rfl ntmps169 zY (zs (zn (ybm (v:=(.agg #[(ii ends),(ii ends2)])) rfl ?_)));intro g w2 hN;replace hS:Sep w no O w2 (stl _ 0 (Res.box 96 g [(ii ends),(ii ends2)])):=hS.new 0 rfl hN;clear hN;refine zb (zQ (ii 0) (yaa (yac (zs ?_))));obtain ⟨hx,h⟩:=h;refine zq (ybE rfl rfl underlying96 yag hx) (zq (zl underlying3 (Row.cell (hS.bx 0 rfl) (i:=0) rfl)) (zM (ii v) (zq zE (yaa ?_))));by_cases hp:ends=v
  · replace h:=h.1 hp;refine zc hp (zs ?_);obtain ⟨hx2,h⟩:=h;exact zq (ybE rfl rfl underlying96 yag hx2) (zq (zl underlying3 (Row.cell (hS.bx 0 rfl) (i:=1) rfl)) (zQ (ii ends2) (yaa (yah rfl rfl ⟨_,rfl,(hS.sel []),h⟩))))
  · replace h:=h.2 hp;exact zd hp (yaf (zs (zq (ybE rfl rfl underlying96 yag hx) (zq (zl underlying3 (Row.cell (hS.bx 0 rfl) (i:=0) rfl)) (zQ (ii ends) (yaa (yah rfl rfl ⟨_,rfl,(hS.sel []),h⟩)))))))
def yjp(d:Int)(d2:List E3)(i:List Int)(a:Int)(R:(List Int)→Prop):Prop :=
((0≤d∧d≤1000000) ∧
(∃ I2:Nat→Int→(List Int)→Prop,(∃ m0,I2 m0 0 (List.replicate d.toNat (0:Int)))∧∀ m2 v v2,I2 m2 v v2 → 
((v<d →
((0≤v∧v<(v2.length:Int)) ∧
(In64 (v+1) ∧
∃ m3,m3<m2∧I2 m3 (v+1) (v2.set v.toNat (-2))))) ∧
(¬(v<d) →
((0≤a∧a<(v2.length:Int)) ∧
yci d d2 (fun r =>
(∃ I3:Nat→Int→(List Int)→Prop,(∃ m0,I3 m0 0 (v2.set a.toNat (-1)))∧∀ m4 v3 v4,I3 m4 v3 v4 → 
((v3<d →
(∃ I4:Nat→Int→(List Int)→Prop,(∃ m0,I4 m0 0 v4)∧∀ m5 v5 v6,I4 m5 v5 v6 → 
((v5<(i.length:Int) →
((0≤v5∧v5<(i.length:Int)) ∧
((0≤(gi i v5.toNat)∧(gi i v5.toNat)<(r.length:Int)) ∧
((0≤(0:Int)∧(0:Int)<2) ∧
((0≤(1:Int)∧(1:Int)<2) ∧
(∃ J2:Prop,(J2→((0≤((gx r (gi i v5.toNat).toNat).2)∧((gx r (gi i v5.toNat).toNat).2)<(v6.length:Int)) ∧
(((gi v6 ((gx r (gi i v5.toNat).toNat).2).toNat)=(-2) →
(In64 (v5+1) ∧
∃ m6,m6<m5∧I4 m6 (v5+1) v6)) ∧
(¬((gi v6 ((gx r (gi i v5.toNat).toNat).2).toNat)=(-2)) →
((0≤((gx r (gi i v5.toNat).toNat).1)∧((gx r (gi i v5.toNat).toNat).1)<(v6.length:Int)) ∧
(((gi v6 ((gx r (gi i v5.toNat).toNat).1).toNat)=(-2) →
(In64 (v5+1) ∧
∃ m7,m7<m5∧I4 m7 (v5+1) (v6.set ((gx r (gi i v5.toNat).toNat).1).toNat (gi i v5.toNat)))) ∧
(¬((gi v6 ((gx r (gi i v5.toNat).toNat).1).toNat)=(-2)) →
(In64 (v5+1) ∧
∃ m8,m8<m5∧I4 m8 (v5+1) v6)))))))) ∧
((0≤((gx r (gi i v5.toNat).toNat).1)∧((gx r (gi i v5.toNat).toNat).1)<(v6.length:Int)) ∧
(((gi v6 ((gx r (gi i v5.toNat).toNat).1).toNat)=(-2) →
J2) ∧
(¬((gi v6 ((gx r (gi i v5.toNat).toNat).1).toNat)=(-2)) →
((0≤((gx r (gi i v5.toNat).toNat).2)∧((gx r (gi i v5.toNat).toNat).2)<(v6.length:Int)) ∧
(((gi v6 ((gx r (gi i v5.toNat).toNat).2).toNat)=(-2) →
(In64 (v5+1) ∧
∃ m9,m9<m5∧I4 m9 (v5+1) (v6.set ((gx r (gi i v5.toNat).toNat).2).toNat (gi i v5.toNat)))) ∧
(¬((gi v6 ((gx r (gi i v5.toNat).toNat).2).toNat)=(-2)) →
J2)))))))))))) ∧
(¬(v5<(i.length:Int)) →
(In64 (v3+1) ∧
∃ m10,m10<m4∧I3 m10 (v3+1) v6))))) ∧
(¬(v3<d) →
R v4)))))))))
theorem yjY{O:Nat→Prop}{w:World}{d d2 i a Ad ld cd Ai li ci}{R:(List Int)→Prop}(h:yjp d d2 i a R)(hO:∀ k,O k→k<w.heap.size)(hA0:(FP.sl c3 Ad ld cd d2).P O w)(hA1:(FP.sl cI Ai li ci i).P O w) :
    Calls Tryz.prog 168 #[(.agg #[(ii d),(.slice Ad ld cd)]),(.slice Ai li ci),(ii a)] w fun e w'=>∃ r2 Ar2 lr2 cr2,e = .returned (.slice Ar2 lr2 cr2)∧Sep w no O w' (rl [Res.own cI 3 Ar2 lr2 cr2 r2])∧R r2:=by
  unfold yjp at h;have hS:Sep w no O w (rl [Res.ro (FP.sl c3 Ad ld cd d2),Res.ro (FP.sl cI Ai li ci i)]):=Sep.startl hO [(FP.sl c3 Ad ld cd d2),(FP.sl cI Ai li ci i)] ⟨hA0,hA1,trivial⟩;refine yal (l:=[(.agg #[(ii d),(.slice Ad ld cd)]),(.slice Ai li ci),(ii a)]) func168 rfl ntmps168 zY (zs (zn (ybm (v:=(.agg #[(ii d),(.slice Ad ld cd)])) rfl ?_)));intro g w2 hN;replace hS:Sep w no O w2 (stl _ 2 (Res.box 24 g [(ii d),(.slice Ad ld cd)])):=hS.new 2 rfl hN;clear hN;refine zb (zQ (.slice none 0 0) (yaa (zs (zq (yam rfl underlying24 rfl yag) (zq (zl underlying3 (Row.cell (hS.bx 2 rfl) (i:=0) rfl)) ?_)))));obtain ⟨hx,h⟩:=h;refine zn (yeX rfl rfl underlying35 yag (by decide) rfl hx ?_);intro g2 w3 hN;replace hS:=hS.made 3 rfl cI (ii 0) (0:Int) (fun _ _=>rfl) hN (by omega);clear hN;refine zb (zQ (.slice (some ⟨g2,0,none⟩) d.toNat d.toNat) (yaa (yac (zs (zQ (ii 0) (yaa (yad ?_)))))));obtain ⟨I2,⟨m0,h0⟩,hr⟩:=h;refine yax (fun m E ds w'=>∃ v v2,I2 m v v2∧ds=[]∧E 1=(Value.slice Ai li ci)∧E 2=(ii a)∧E 3=(Value.pointer (some ⟨g,0,none⟩))∧E 7=(Value.slice (some ⟨g2,0,none⟩) d.toNat d.toNat)∧E 8=(ii v)∧Sep w no O w' (rl [Res.ro (FP.sl cI Ai li ci i),Res.box 24 g [(ii d),(.slice Ad ld cd)],Res.ro (FP.sl c3 Ad ld cd d2),Res.own cI 3 (some ⟨g2,0,none⟩) d.toNat d.toNat v2])) m0 ⟨_,_,h0,rfl,rfl,rfl,rfl,rfl,rfl,(hS.sel [1,2,0,3])⟩ ?_;clear h0 hS;rintro m2 E ds w4 ⟨v,v2,h,rfl,H1,H2,H3,H7,H8,hS⟩ ag;replace h:=hr m2 v v2 h;clear hr;refine yac (zs (zq (yab H8) (zq (yam H3 underlying24 rfl yag) (zq (zl underlying3 (Row.cell (hS.bx 1 rfl) (i:=0) rfl)) (zq zL (yaa ?_))))));by_cases hp:v<d
  · replace h:=h.1 hp;refine zc hp (yaf (yac (yad (zr (zq (yab H7) (zq (yab H8) ?_))))));obtain ⟨hx2,h⟩:=h;refine zq (zi underlying35 yag (yaB (hS.rdo 3 rfl) hx2)) (zo (zt (ii (-2)) yag (hS.wr 3 rfl rfl hx2) ?_));intro w5 e1;replace hS:=hS.st 3 rfl rfl hx2 (x := -2) rfl e1;clear e1;refine zb (yaa (yae (zr (zq (yab H8) ?_))));obtain ⟨hi,h⟩:=h;refine zq (zA hi) (zQ (ii (v+1)) (yaa ?_));obtain ⟨mq,hlt,h⟩:=h;exact ag mq _ _ _ ⟨_,_,h,rfl,H1,H2,H3,H7,rfl,(hS.sel [0,1,2,3])⟩ hlt
  · replace h:=h.2 hp;refine zd hp (yas rfl (zs (zq (yab H7) (zq (yab H2) ?_))));obtain ⟨hx3,h⟩:=h;refine zq (zi underlying35 yag (yaB (hS.rdo 3 rfl) hx3)) (zo (zt (ii (-1)) yag (hS.wr 3 rfl rfl hx3) ?_));intro w6 e1;replace hS:=hS.st 3 rfl rfl hx3 (x := -1) rfl e1;clear e1;refine zb (yaa (zs (zq (yao (vs:=[(ii d),(.slice Ad ld cd)]) H3 underlying24 rfl yak ⟨Row.cell (hS.bx 1 rfl) (i:=0) rfl,Row.cell (hS.bx 1 rfl) (i:=1) rfl,trivial⟩) (zn (yai rfl (am1 rfl) yhJ ((yep h (yaz _) (hS.rdr 2 rfl)).mono ?_))))));rintro _ w7 ⟨r,Ar,lr,cr,rfl,hC,h⟩;replace hS:=hS.call1 (hC.widen (ycv (yaP (fP (fI .i64) (fI .i64)) _ _ _ _ _) ycH) hS.blt) 4 0 rfl;clear hC;refine ⟨_,rfl,?_⟩;refine zb (zQ (.slice Ar lr cr) (yaa (yac (zs (zQ (ii 0) (yaa (yad ?_)))))));obtain ⟨I3,⟨m0,h0⟩,hr⟩:=h;refine yax (fun m E ds w'=>∃ v3 v4,I3 m v3 v4∧ds=[]∧E 1=(Value.slice Ai li ci)∧E 3=(Value.pointer (some ⟨g,0,none⟩))∧E 7=(Value.slice (some ⟨g2,0,none⟩) d.toNat d.toNat)∧E 9=(Value.slice Ar lr cr)∧E 10=(ii v3)∧Sep w no O w' (rl [Res.ro (FP.sl cI Ai li ci i),Res.box 24 g [(ii d),(.slice Ad ld cd)],Res.ro (FP.sl c3 Ad ld cd d2),Res.own cI 3 (some ⟨g2,0,none⟩) d.toNat d.toNat v4,Res.own c2 96 Ar lr cr r])) m0 ⟨_,_,h0,rfl,H1,H3,H7,rfl,rfl,(hS.sel [0,1,2,3,4])⟩ ?_;clear h0 hS;rintro m4 E ds w8 ⟨v3,v4,h,rfl,H1,H3,H7,H9,H10,hS⟩ again2;replace h:=hr m4 v3 v4 h;clear hr;refine yac (zs (zq (yab H10) (zq (yam H3 underlying24 rfl yag) (zq (zl underlying3 (Row.cell (hS.bx 1 rfl) (i:=0) rfl)) (zq zL (yaa ?_))))));by_cases hp2:v3<d
    · replace h:=h.1 hp2;refine zc hp2 (yaf (yac (yad (zs (zQ (ii 0) (yaa (yad ?_)))))));obtain ⟨I4,⟨m0,h0⟩,hr⟩:=h;refine yax (fun m E ds w'=>∃ v5 v6,I4 m v5 v6∧ds=[]∧E 1=(Value.slice Ai li ci)∧E 3=(Value.pointer (some ⟨g,0,none⟩))∧E 7=(Value.slice (some ⟨g2,0,none⟩) d.toNat d.toNat)∧E 9=(Value.slice Ar lr cr)∧E 10=(ii v3)∧E 11=(ii v5)∧Sep w no O w' (rl [Res.ro (FP.sl cI Ai li ci i),Res.box 24 g [(ii d),(.slice Ad ld cd)],Res.ro (FP.sl c3 Ad ld cd d2),Res.own cI 3 (some ⟨g2,0,none⟩) d.toNat d.toNat v6,Res.own c2 96 Ar lr cr r])) m0 ⟨_,_,h0,rfl,H1,H3,H7,H9,H10,rfl,(hS.sel [0,1,2,3,4])⟩ ?_;clear h0 hS;rintro m5 E ds w9 ⟨v5,v6,h,rfl,H1,H3,H7,H9,H10,H11,hS⟩ again3;replace h:=hr m5 v5 v6 h;clear hr;refine yac (zs (zq (yab H11) (zq (yab H1) (zq (yaG (n:=i.length) rfl underlying35 (yaD (hS.rdr 0 rfl))) (zq zL (yaa ?_))))));by_cases hp3:v5<(i.length:Int)
      · replace h:=h.1 hp3;refine zc hp3 (yaf (yac (yad (yac (ybq [0,1,2,3,4,5,6,7,8,9,10,11,12,13,14,15,16,17] st0 yaC (by kernel_rfl) (by kernel_rfl) ?_)))));replace hS:=hS.drew;refine zp (yab H9) (zp (yab H1) (zp (yab H11) ?_));obtain ⟨hx4,h⟩:=h;refine zp (zi underlying35 yag (yaB (hS.rdr 0 rfl) hx4)) (zp (yar (v:=(ii (gi i v5.toNat))) rfl underlying3 rfl (rd_1 (hS.rdr 0 rfl) hx4 (fun q=>yaF q) rfl)) ?_);obtain ⟨hx5,h⟩:=h;refine zp (zi underlying62 ybk (yaB (hS.rdo 4 rfl) hx5)) ?_;obtain ⟨hx6,h⟩:=h;refine zp (ybE rfl rfl underlying96 yag hx6) (zp (yar (v:=(ii ((gx r (gi i v5.toNat).toNat).1))) rfl underlying3 rfl (rd_f (hS.rdo 4 rfl) hx5 (fun q=>ycO q) 0 rfl)) ?_);refine zp (yab H9) (zp (yab H1) (zp (yab H11) (zp (zi underlying35 yag (yaB (hS.rdr 0 rfl) hx4)) (zp (yar (v:=(ii (gi i v5.toNat))) rfl underlying3 rfl (rd_1 (hS.rdr 0 rfl) hx4 (fun q=>yaF q) rfl)) ?_))));refine zp (zi underlying62 ybk (yaB (hS.rdo 4 rfl) hx5)) ?_;obtain ⟨hx7,h⟩:=h;refine zp (ybE rfl rfl underlying96 yag hx7) (zp (yar (v:=(ii ((gx r (gi i v5.toNat).toNat).2))) rfl underlying3 rfl (rd_f (hS.rdo 4 rfl) hx5 (fun q=>ycO q) 1 rfl)) ?_);refine zp (za (ii ((gx r (gi i v5.toNat).toNat).1))) (zp (za (ii ((gx r (gi i v5.toNat).toNat).2))) (ybH (yac ?_)));obtain ⟨J2,hJ,h⟩:=h;refine wt_cutB1 (fun E ds w'=>J2∧ds=[]∧E 1=(Value.slice Ai li ci)∧E 3=(Value.pointer (some ⟨g,0,none⟩))∧E 7=(Value.slice (some ⟨g2,0,none⟩) d.toNat d.toNat)∧E 9=(Value.slice Ar lr cr)∧E 10=(ii v3)∧E 11=(ii v5)∧E 12=(ii ((gx r (gi i v5.toNat).toNat).1))∧E 13=(ii ((gx r (gi i v5.toNat).toNat).2))∧Sep w no O w' (rl [Res.ro (FP.sl cI Ai li ci i),Res.box 24 g [(ii d),(.slice Ad ld cd)],Res.ro (FP.sl c3 Ad ld cd d2),Res.own cI 3 (some ⟨g2,0,none⟩) d.toNat d.toNat v6,Res.own c2 96 Ar lr cr r])) ?_ ?_
        · clear h hS;rintro E ds w10 ⟨h,rfl,H1,H3,H7,H9,H10,H11,H12,H13,hS⟩;replace h:=hJ h;refine zs (zq (yab H7) (zq (yab (v:=(ii ((gx r (gi i v5.toNat).toNat).2))) H13) ?_));obtain ⟨hx8,h⟩:=h;refine zq (zi underlying35 yag (yaB (hS.rdo 3 rfl) hx8)) (zq (yar (v:=(ii (gi v6 ((gx r (gi i v5.toNat).toNat).2).toNat))) rfl underlying3 rfl (rd_1 (hS.rdo 3 rfl) hx8 (fun q=>yaF q) rfl)) ?_);refine zq zN (zM (.bool (!(decide ((gi v6 ((gx r (gi i v5.toNat).toNat).2).toNat)=(-2))))) ?_);by_cases hp4:(gi v6 ((gx r (gi i v5.toNat).toNat).2).toNat)=(-2)
          · replace h:=h.1 hp4;refine zV rfl rfl (zC (zB (decide_eq_true hp4))) (zV rfl rfl (zC (zB (decide_eq_true hp4))) (zV rfl rfl (zC (zB (decide_eq_true hp4))) (zV rfl rfl (zC (zB (decide_eq_true hp4))) (zV rfl rfl (zC (zB (decide_eq_true hp4))) (zq (yaj (v:=(.bool (false))) (zC (zB (decide_eq_true hp4))) rfl) (yaa (yav rfl (yaf (yae (zr (zq (yab H11) ?_)))))))))));obtain ⟨hi2,h⟩:=h;refine zq (zA hi2) (zQ (ii (v5+1)) (yaa ?_));obtain ⟨mq,hlt,h⟩:=h;exact again3 mq _ _ _ ⟨_,_,h,rfl,H1,H3,H7,H9,H10,rfl,(hS.sel [0,1,2,3,4])⟩ hlt
          · replace h:=h.2 hp4;refine zW rfl rfl (zC (zB (decide_eq_false hp4))) (yab H7) (zW rfl rfl (zC (zB (decide_eq_false hp4))) (yab (v:=(ii ((gx r (gi i v5.toNat).toNat).1))) H12) ?_);obtain ⟨hx9,h⟩:=h;refine zW rfl rfl (zC (zB (decide_eq_false hp4))) (zi underlying35 yag (yaB (hS.rdo 3 rfl) hx9)) (zW rfl rfl (zC (zB (decide_eq_false hp4))) (yar (v:=(ii (gi v6 ((gx r (gi i v5.toNat).toNat).1).toNat))) rfl underlying3 rfl (rd_1 (hS.rdo 3 rfl) hx9 (fun q=>yaF q) rfl)) ?_);refine zW rfl rfl (zC (zB (decide_eq_false hp4))) zE (zq (yan (v:=(.bool (decide ((gi v6 ((gx r (gi i v5.toNat).toNat).1).toNat)=(-2))))) (zC (zB (decide_eq_false hp4))) rfl) (yaa ?_));by_cases hp5:(gi v6 ((gx r (gi i v5.toNat).toNat).1).toNat)=(-2)
            · replace h:=h.1 hp5;refine zc hp5 (zr (zq (yab H7) (zq (yab (v:=(ii ((gx r (gi i v5.toNat).toNat).1))) H12) (zq (yab H1) (zq (yab H11) (zq (zi underlying35 yag (yaB (hS.rdr 0 rfl) hx4)) (zq (yar (v:=(ii (gi i v5.toNat))) rfl underlying3 rfl (rd_1 (hS.rdr 0 rfl) hx4 (fun q=>yaF q) rfl)) ?_)))))));refine zq (zi underlying35 yag (yaB (hS.rdo 3 rfl) hx9)) (zo (zt (ii (gi i v5.toNat)) yag (hS.wr 3 rfl rfl hx9) ?_));intro w11 e1;replace hS:=hS.st 3 rfl rfl hx9 (x:=gi i v5.toNat) rfl e1;clear e1;refine zb (yaa (yae (zr (zq (yab H11) ?_))));obtain ⟨hi3,h⟩:=h;refine zq (zA hi3) (zQ (ii (v5+1)) (yaa ?_));obtain ⟨mq,hlt,h⟩:=h;exact again3 mq _ _ _ ⟨_,_,h,rfl,H1,H3,H7,H9,H10,rfl,(hS.sel [0,1,2,3,4])⟩ hlt
            · replace h:=h.2 hp5;refine zd hp5 (yaf (yae (zr (zq (yab H11) ?_))));obtain ⟨hi4,h⟩:=h;refine zq (zA hi4) (zQ (ii (v5+1)) (yaa ?_));obtain ⟨mq,hlt,h⟩:=h;exact again3 mq _ _ _ ⟨_,_,h,rfl,H1,H3,H7,H9,H10,rfl,(hS.sel [0,1,2,3,4])⟩ hlt
        clear hJ;intro j;refine zr (zq (yab H7) (zM (ii ((gx r (gi i v5.toNat).toNat).1)) ?_));obtain ⟨hx10,h⟩:=h;refine zq (zi underlying35 yag (yaB (hS.rdo 3 rfl) hx10)) (zq (yar (v:=(ii (gi v6 ((gx r (gi i v5.toNat).toNat).1).toNat))) rfl underlying3 rfl (rd_1 (hS.rdo 3 rfl) hx10 (fun q=>yaF q) rfl)) ?_);refine zq zN (zM (.bool (!(decide ((gi v6 ((gx r (gi i v5.toNat).toNat).1).toNat)=(-2))))) ?_);by_cases hp6:(gi v6 ((gx r (gi i v5.toNat).toNat).1).toNat)=(-2)
        · replace h:=h.1 hp6;exact zV rfl rfl (zC (zB (decide_eq_true hp6))) (zV rfl rfl (zC (zB (decide_eq_true hp6))) (zV rfl rfl (zC (zB (decide_eq_true hp6))) (zV rfl rfl (zC (zB (decide_eq_true hp6))) (zV rfl rfl (zC (zB (decide_eq_true hp6))) (zq (yaj (v:=(.bool (false))) (zC (zB (decide_eq_true hp6))) rfl) (yaa (yav rfl (j _ _ _ ⟨h,rfl,H1,H3,H7,H9,H10,H11,rfl,rfl,(hS.sel [0,1,2,3,4])⟩))))))))
        · replace h:=h.2 hp6;refine zW rfl rfl (zC (zB (decide_eq_false hp6))) (yab H7) (zW rfl rfl (zC (zB (decide_eq_false hp6))) (zm (ii ((gx r (gi i v5.toNat).toNat).2))) ?_);obtain ⟨hx11,h⟩:=h;refine zW rfl rfl (zC (zB (decide_eq_false hp6))) (zi underlying35 yag (yaB (hS.rdo 3 rfl) hx11)) (zW rfl rfl (zC (zB (decide_eq_false hp6))) (yar (v:=(ii (gi v6 ((gx r (gi i v5.toNat).toNat).2).toNat))) rfl underlying3 rfl (rd_1 (hS.rdo 3 rfl) hx11 (fun q=>yaF q) rfl)) ?_);refine zW rfl rfl (zC (zB (decide_eq_false hp6))) zE (zq (yan (v:=(.bool (decide ((gi v6 ((gx r (gi i v5.toNat).toNat).2).toNat)=(-2))))) (zC (zB (decide_eq_false hp6))) rfl) (yaa ?_));by_cases hp7:(gi v6 ((gx r (gi i v5.toNat).toNat).2).toNat)=(-2)
          · replace h:=h.1 hp7;refine zc hp7 (zr (zq (yab H7) (zM (ii ((gx r (gi i v5.toNat).toNat).2)) (zq (yab H1) (zq (yab H11) (zq (zi underlying35 yag (yaB (hS.rdr 0 rfl) hx4)) (zq (yar (v:=(ii (gi i v5.toNat))) rfl underlying3 rfl (rd_1 (hS.rdr 0 rfl) hx4 (fun q=>yaF q) rfl)) ?_)))))));refine zq (zi underlying35 yag (yaB (hS.rdo 3 rfl) hx11)) (zo (zt (ii (gi i v5.toNat)) yag (hS.wr 3 rfl rfl hx11) ?_));intro w12 e1;replace hS:=hS.st 3 rfl rfl hx11 (x:=gi i v5.toNat) rfl e1;clear e1;refine zb (yaa (yae (zr (zq (yab H11) ?_))));obtain ⟨hi5,h⟩:=h;refine zq (zA hi5) (zQ (ii (v5+1)) (yaa ?_));obtain ⟨mq,hlt,h⟩:=h;exact again3 mq _ _ _ ⟨_,_,h,rfl,H1,H3,H7,H9,H10,rfl,(hS.sel [0,1,2,3,4])⟩ hlt
          · replace h:=h.2 hp7;exact zd hp7 (j _ _ _ ⟨h,rfl,H1,H3,H7,H9,H10,H11,rfl,rfl,(hS.sel [0,1,2,3,4])⟩)
      · replace h:=h.2 hp3;refine zd hp3 (yas rfl (yae (zr (zq (yab H10) ?_))));obtain ⟨hi6,h⟩:=h;refine zq (zA hi6) (zQ (ii (v3+1)) (yaa ?_));obtain ⟨mq,hlt,h⟩:=h;exact again2 mq _ _ _ ⟨_,_,h,rfl,H1,H3,H7,H9,rfl,(hS.sel [0,1,2,3,4])⟩ hlt
    · replace h:=h.2 hp2;exact zd hp2 (yas rfl (zs (zq (yab H7) (zQ (.slice (some ⟨g2,0,none⟩) d.toNat d.toNat) (yaa (yah rfl rfl ⟨_,_,_,_,rfl,(hS.sel [3]),h⟩))))))
def yjz(g:Int)(g2:List E3)(t:List Int)(a:Int)(b:Int)(R:(List Int)→Prop):Prop :=
yjp g g2 t b (fun r =>
yci g g2 (fun r2 =>
(∃ I2:Nat→Int→(List Int)→Int→Prop,(∃ m0,I2 m0 a ([]) 0)∧∀ m2 a2 out step,I2 m2 a2 out step → 
(∃ J2:Prop,(J2→((0≤a2∧a2<(r.length:Int)) ∧
(out.length+1≤1000000000 ∧
((0≤(gi r a2.toNat)∧(gi r a2.toNat)<(r2.length:Int)) ∧
yjC ((gx r2 (gi r a2.toNat).toNat).1) ((gx r2 (gi r a2.toNat).toNat).2) a2 (fun r3 =>
(In64 (step+1) ∧
∃ m3,m3<m2∧I2 m3 r3 (out++[gi r a2.toNat]) (step+1))))))) ∧
((step<g →
((a2=b →
R out) ∧
(¬(a2=b) →
J2))) ∧
(¬(step<g) →
R out))))))
theorem pok_r13_Path{O:Nat→Prop}{w:World}{g g2 t a b Ag lg cg At lt ct}{R:(List Int)→Prop}(h:yjz g g2 t a b R)(hO:∀ k,O k→k<w.heap.size)(hA0:(FP.sl c3 Ag lg cg g2).P O w)(hA1:(FP.sl cI At lt ct t).P O w) :
    Calls Tryz.prog 167 #[(.agg #[(ii g),(.slice Ag lg cg)]),(.slice At lt ct),(ii a),(ii b)] w fun e w'=>∃ r4 Ar3 lr3 cr3,e = .returned (.slice Ar3 lr3 cr3)∧Sep w no O w' (rl [Res.own cI 3 Ar3 lr3 cr3 r4])∧R r4:=by
  unfold yjz at h;have hS:Sep w no O w (rl [Res.ro (FP.sl c3 Ag lg cg g2),Res.ro (FP.sl cI At lt ct t)]):=Sep.startl hO [(FP.sl c3 Ag lg cg g2),(FP.sl cI At lt ct t)] ⟨hA0,hA1,trivial⟩;refine yal (l:=[(.agg #[(ii g),(.slice Ag lg cg)]),(.slice At lt ct),(ii a),(ii b)]) func167 rfl ntmps167 zY (zs (zn (ybm (v:=(.agg #[(ii g),(.slice Ag lg cg)])) rfl ?_)));intro g3 w2 hN;replace hS:Sep w no O w2 (stl _ 2 (Res.box 24 g3 [(ii g),(.slice Ag lg cg)])):=hS.new 2 rfl hN;clear hN;refine zb (zQ (.slice none 0 0) (yaa (yac (ybq [0,1,2,4,3,5,6,7] (fun i=>match i with | 3=>[4] | _=>[]) yaC (by kernel_rfl) (by kernel_rfl) ?_))));replace hS:=hS.drew;refine zp (yao (vs:=[(ii g),(.slice Ag lg cg)]) rfl underlying24 rfl yak ⟨Row.cell (hS.bx 2 rfl) (i:=0) rfl,Row.cell (hS.bx 2 rfl) (i:=1) rfl,trivial⟩) (zp (zm (.slice At lt ct)) (zp (zm (ii b)) (zp (yao (vs:=[(ii g),(.slice Ag lg cg)]) rfl underlying24 rfl yak ⟨Row.cell (hS.bx 2 rfl) (i:=0) rfl,Row.cell (hS.bx 2 rfl) (i:=1) rfl,trivial⟩) (rp_n rfl rfl rfl rfl (yai rfl (am3 rfl rfl rfl) enter_168 ((yjY h (yaz _) (hS.rdr 0 rfl) (hS.rdr 1 rfl)).mono ?_))))));rintro _ w3 ⟨r,Ar,lr,cr,rfl,hC,h⟩;replace hS:=hS.call1 (hC.widen (ycv (yaP (fI .i64) _ _ _ _ _) ycH) hS.blt) 3 0 rfl;clear hC;refine ⟨_,rfl,?_⟩;refine ⟨⟨fun _=>(yao (vs:=[(ii g),(.slice Ag lg cg)]) rfl underlying24 rfl yak ⟨Row.cell (hS.bx 2 rfl) (i:=0) rfl,Row.cell (hS.bx 2 rfl) (i:=1) rfl,trivial⟩),⟨fun hh=>zZ hh,⟨fun hh=>zZ hh,⟨fun hh=>zZ hh,trivial⟩⟩⟩⟩,?_⟩;refine rp_n rfl rfl rfl rfl (yai rfl (am1 rfl) yhJ ((yep h (yaz _) (hS.rdr 0 rfl)).mono ?_));rintro _ w4 ⟨r2,Ar2,lr2,cr2,rfl,hC,h⟩;replace hS:=hS.call1 (hC.widen (ycv (yaP (fP (fI .i64) (fI .i64)) _ _ _ _ _) ycH) hS.blt) 4 0 rfl;clear hC;refine ⟨_,rfl,?_⟩;refine zb (zp (za (.slice Ar lr cr)) (zp (za (.slice Ar2 lr2 cr2)) (ybH (zs (zQ (.slice none 0 0) (yaa (yac (zs (zQ (ii 0) (yaa (yad ?_)))))))))));replace hS:=hS.nil 5 rfl cI 3;obtain ⟨I2,⟨m0,h0⟩,hr⟩:=h;refine yax (fun m E ds w'=>∃ a2 out step Aa Ab Ac,I2 m a2 out step∧ds=[]∧E 2=(ii a2)∧E 3=(ii b)∧E 4=(Value.pointer (some ⟨g3,0,none⟩))∧E 9=(Value.slice Ar lr cr)∧E 10=(Value.slice Ar2 lr2 cr2)∧E 11=(Value.slice Aa Ab Ac)∧E 12=(ii step)∧Sep w no O w' (rl [Res.own cI 3 Aa Ab Ac out,Res.box 24 g3 [(ii g),(.slice Ag lg cg)],Res.ro (FP.sl c3 Ag lg cg g2),Res.own cI 3 Ar lr cr r,Res.own c2 96 Ar2 lr2 cr2 r2])) m0 ⟨_,_,_,_,_,_,h0,rfl,rfl,rfl,rfl,rfl,rfl,rfl,rfl,(hS.sel [5,2,0,3,4])⟩ ?_;clear h0 hS;rintro m2 E ds w5 ⟨a2,out,step,Aa,Ab,Ac,h,rfl,H2,H3,H4,H9,H10,H11,H12,hS⟩ ag;replace h:=hr m2 a2 out step h;clear hr;refine yac (yac ?_);obtain ⟨J2,hJ,h⟩:=h;refine ycA (fun E ds w'=>J2∧ds=[]∧E 2=(ii a2)∧E 3=(ii b)∧E 4=(Value.pointer (some ⟨g3,0,none⟩))∧E 9=(Value.slice Ar lr cr)∧E 10=(Value.slice Ar2 lr2 cr2)∧E 11=(Value.slice Aa Ab Ac)∧E 12=(ii step)∧Sep w no O w' (rl [Res.box 24 g3 [(ii g),(.slice Ag lg cg)],Res.ro (FP.sl c3 Ag lg cg g2),Res.own cI 3 Ar lr cr r,Res.own c2 96 Ar2 lr2 cr2 r2,Res.own cI 3 Aa Ab Ac out])) ?_ ?_
  · clear h hS;rintro E ds w6 ⟨h,rfl,H2,H3,H4,H9,H10,H11,H12,hS⟩;replace h:=hJ h;refine yac (yad (zs (zq (yab H9) (zq (yab H2) ?_))));obtain ⟨hx,h⟩:=h;refine zq (zi underlying35 yag (yaB (hS.rdo 2 rfl) hx)) (zq (yar (v:=(ii (gi r a2.toNat))) rfl underlying3 rfl (rd_1 (hS.rdo 2 rfl) hx (fun q=>yaF q) rfl)) ?_);refine zQ (ii (gi r a2.toNat)) (yaa (zs (zq (yab H11) (zM (ii (gi r a2.toNat)) (zn (yaK (l:=[(0,(ii (gi r a2.toNat)))]) (cells:=[(ii (gi r a2.toNat))]) (bp1 rfl) underlying35 yag rfl rfl ?_))))));intro g4 w7 hN;replace hS:=hS.litf (n:=1) 5 rfl (fI .i64) hN ([gi r a2.toNat]:List Int) rfl (by decide) rfl;clear hN;refine zb ?_;obtain ⟨hx2,h⟩:=h;refine zn (yfv (c:=cI) rfl rfl underlying35 underlying35 yag rfl rfl (by decide) hS 4 rfl (hS.yo 5 rfl) hx2 ?_);clear hS;intro A c w8 hS;refine zb (zQ (.slice A (Ab+1) c) (yaa (zr (zq (yab H10) (zM (ii (gi r a2.toNat)) ?_)))));obtain ⟨hx3,h⟩:=h;refine zq (zi underlying62 ybk (yaB (hS.rdo 3 rfl) hx3)) (zq (yao (vs:=[(ii ((gx r2 (gi r a2.toNat).toNat).1)),(ii ((gx r2 (gi r a2.toNat).toNat).2))]) rfl underlying96 rfl ybk (yhX (hS.rdo 3 rfl) hx3 (fun q=>ycO q))) ?_);refine zq (yab H2) (zn (yai rfl (am2 rfl rfl) enter_169 ((pok_r13_other h (yaz _)).mono ?_)));rintro _ w9 ⟨r3,rfl,hC,h⟩;replace hS:=hS.pur hC.pure;clear hC;refine ⟨_,rfl,?_⟩;refine zb (zQ (ii r3) (yaa (yae (zr (zq (yab H12) ?_)))));obtain ⟨hi,h⟩:=h;refine zq (zA hi) (zQ (ii (step+1)) (yaa ?_));obtain ⟨mq,hlt,h⟩:=h;exact ag mq _ _ _ ⟨_,_,_,_,_,_,h,rfl,rfl,H3,H4,H9,H10,rfl,rfl,(hS.sel [4,0,1,2,3])⟩ hlt
  clear hJ;intro j;refine zr (zq (yab H12) (zq (yam H4 underlying24 rfl yag) (zq (zl underlying3 (Row.cell (hS.bx 1 rfl) (i:=0) rfl)) (zq zL (zM (.bool (decide (step<g))) ?_)))));by_cases hp:step<g
  · replace h:=h.1 hp;refine zW rfl rfl (zT hp) (yab H2) (zW rfl rfl (zT hp) (yab H3) (zW rfl rfl (zT hp) zN (zq (yan (v:=(.bool (!(decide (a2=b))))) (zT hp) rfl) (yaa ?_))));by_cases hp2:a2=b
    · replace h:=h.1 hp2;exact ze hp2 (yas rfl (zs (zq (yab H11) (zQ (.slice Aa Ab Ac) (yaa (yah rfl rfl ⟨_,_,_,_,rfl,(hS.sel [0]),h⟩))))))
    · replace h:=h.2 hp2;exact zf hp2 (yaf (j _ _ _ ⟨h,rfl,H2,H3,H4,H9,H10,H11,H12,(hS.sel [1,2,3,4,0])⟩))
  · replace h:=h.2 hp;exact zV rfl rfl (zF hp) (zV rfl rfl (zF hp) (zV rfl rfl (zF hp) (zq (yaj (v:=(.bool (false))) (zF hp) rfl) (yaa (yav rfl (yas rfl (zs (zq (yab H11) (zQ (.slice Aa Ab Ac) (yaa (yah rfl rfl ⟨_,_,_,_,rfl,(hS.sel [0]),h⟩)))))))))))
def yje(k:Int)(R:Bool→Prop):Prop :=
(((-1048576)≤k →
R (decide (k≤1048576))) ∧
(¬((-1048576)≤k) →
R false))
theorem pok_r16_in{O:Nat→Prop}{w:World}{k}{R:Bool→Prop}(h:yje k R)(hO:∀ k,O k→k<w.heap.size) :
    Calls Tryz.prog 160 #[(ii k)] w fun e w'=>∃ r,e = .returned (.bool (r))∧Sep w no O w' (rl [])∧R r:=by
  unfold yje at h;have hS:Sep w no O w (rl []):=Sep.start w hO;refine yal (l:=[(ii k)]) func160 rfl ntmps160 zY (zs (zQ (.bool (false)) (yaa (zs (zM (ii k) (zq (yiq rfl rfl) (zM (.bool (decide ((-1048576)≤k))) ?_)))))));by_cases hp:(-1048576)≤k
  · replace h:=h.1 hp;exact zW rfl rfl (zT hp) (zm (ii k)) (zW rfl rfl (zT hp) (v_leq rfl rfl) (zq (yan (v:=(.bool (decide (k≤1048576)))) (zT hp) rfl) (zQ (.bool (decide (k≤1048576))) (yaa (yah rfl rfl ⟨_,rfl,(hS.sel []),h⟩)))))
  · replace h:=h.2 hp;exact zV rfl rfl (zF hp) (zV rfl rfl (zF hp) (zq (yaj (v:=(.bool (false))) (zF hp) rfl) (zQ (.bool (false)) (yaa (yah rfl rfl ⟨_,rfl,(hS.sel []),h⟩)))))
def yiY(x:List Int)(n:Int)(R:Int→Prop):Prop :=
(((x.length:Int)=n →
(∃ I2:Nat→Int→Prop,(∃ m0,I2 m0 0)∧∀ m2 i,I2 m2 i → 
((i<n →
((0≤i∧i<(x.length:Int)) ∧
yje (gi x i.toNat) (fun r =>
((r=true →
(In64 (i+1) ∧
∃ m3,m3<m2∧I2 m3 (i+1))) ∧
(¬(r=true) →
R 2))))) ∧
(¬(i<n) →
R 0)))) ∧
(¬((x.length:Int)=n) →
R 8))
theorem yjb{O:Nat→Prop}{w:World}{x n Ax lx cx}{R:Int→Prop}(h:yiY x n R)(hO:∀ k,O k→k<w.heap.size)(hA0:(FP.sl cI Ax lx cx x).P O w) :
    Calls Tryz.prog 139 #[(.slice Ax lx cx),(ii n)] w fun e w'=>∃ r2,e = .returned (ii r2)∧Sep w no O w' (rl [])∧R r2:=by
  unfold yiY at h;have hS:Sep w no O w (rl [Res.ro (FP.sl cI Ax lx cx x)]):=Sep.startl hO [(FP.sl cI Ax lx cx x)] ⟨hA0,trivial⟩;refine yal (l:=[(.slice Ax lx cx),(ii n)]) func139 rfl ntmps139 zY (zs (zQ (ii 0) (yaa (yac (zs (zM (.slice Ax lx cx) (zq (yaG (n:=x.length) rfl underlying35 (yaD (hS.rdr 0 rfl))) (zM (ii n) (zq zN (yaa ?_))))))))));by_cases hp:(x.length:Int)=n
  · replace h:=h.1 hp;refine ze hp (yaf (yac (zs (zQ (ii 0) (yaa (yad ?_))))));obtain ⟨I2,⟨m0,h0⟩,hr⟩:=h;refine yax (fun m E ds w'=>∃ i,I2 m i∧ds=[]∧E 0=(Value.slice Ax lx cx)∧E 1=(ii n)∧E 5=(ii i)∧Sep w no O w' (rl [Res.ro (FP.sl cI Ax lx cx x)])) m0 ⟨_,h0,rfl,rfl,rfl,rfl,(hS.sel [0])⟩ ?_;clear h0 hS;rintro m2 E ds w2 ⟨i,h,rfl,H0,H1,H5,hS⟩ ag;replace h:=hr m2 i h;clear hr;refine yac (zs (zq (yab H5) (zq (yab H1) (zq zL (yaa ?_)))));by_cases hp2:i<n
    · replace h:=h.1 hp2;refine zc hp2 (yaf (yac (yad (zs (zq (yab H0) (zq (yab H5) ?_))))));obtain ⟨hx,h⟩:=h;refine zq (zi underlying35 yag (yaB (hS.rdr 0 rfl) hx)) (zq (yar (v:=(ii (gi x i.toNat))) rfl underlying3 rfl (rd_1 (hS.rdr 0 rfl) hx (fun q=>yaF q) rfl)) ?_);refine zn (yai rfl (am1 rfl) enter_160 ((pok_r16_in h (yaz _)).mono ?_));rintro _ w3 ⟨r,rfl,hC,h⟩;replace hS:=hS.pur hC.pure;clear hC;refine ⟨_,rfl,?_⟩;refine zb (zq (yds rfl) (yaa ?_));by_cases hp3:r=true
      · replace h:=h.1 hp3;refine yav (zC (zB hp3)) (yaf (yae (zr (zq (yab H5) ?_))));obtain ⟨hi,h⟩:=h;refine zq (zA hi) (zQ (ii (i+1)) (yaa ?_));obtain ⟨mq,hlt,h⟩:=h;exact ag mq _ _ _ ⟨_,h,rfl,H0,H1,rfl,(hS.sel [0])⟩ hlt
      · replace h:=h.2 hp3;exact yaq (zC (zB (zI hp3))) (zs (zQ (ii 2) (yaa (yah rfl rfl ⟨_,rfl,(hS.sel []),h⟩))))
    · replace h:=h.2 hp2;exact zd hp2 (yas rfl (zs (zQ (ii 0) (yaa (yah rfl rfl ⟨_,rfl,(hS.sel []),h⟩)))))
  · replace h:=h.2 hp;exact zf hp (zs (zQ (ii 8) (yaa (yah rfl rfl ⟨_,rfl,(hS.sel []),h⟩))))
def yi3(x:List Int)(R:Int→Prop):Prop :=
yiY x (x.length:Int) (fun r =>
((r=0 →
R 0) ∧
(¬(r=0) →
R 11)))
theorem pok_r16_large{O:Nat→Prop}{w:World}{x Ax lx cx}{R:Int→Prop}(h:yi3 x R)(hO:∀ k,O k→k<w.heap.size)(hA0:(FP.sl cI Ax lx cx x).P O w) :
    Calls Tryz.prog 141 #[(.slice Ax lx cx)] w fun e w'=>∃ r2,e = .returned (ii r2)∧Sep w no O w' (rl [])∧R r2:=by
  unfold yi3 at h;have hS:Sep w no O w (rl [Res.ro (FP.sl cI Ax lx cx x)]):=Sep.startl hO [(FP.sl cI Ax lx cx x)] ⟨hA0,trivial⟩;refine yal (l:=[(.slice Ax lx cx)]) func141 rfl ntmps141 zY (zs (zQ (ii 0) (yaa (yac (zs (zM (.slice Ax lx cx) (zM (.slice Ax lx cx) (zq (yaG (n:=x.length) rfl underlying35 (yaD (hS.rdr 0 rfl))) (zn (yai rfl (am2 rfl rfl) enter_139 ((yjb h (yaz _) (hS.rdr 0 rfl)).mono ?_)))))))))));rintro _ w2 ⟨r,rfl,hC,h⟩;replace hS:=hS.pur hC.pure;clear hC;refine ⟨_,rfl,?_⟩;refine zb (zq zN (yaa ?_));by_cases hp:r=0
  · replace h:=h.1 hp;exact ze hp (yaf (zs (zQ (ii 0) (yaa (yah rfl rfl ⟨_,rfl,(hS.sel []),h⟩)))))
  · replace h:=h.2 hp;exact zf hp (zs (zQ (ii 11) (yaa (yah rfl rfl ⟨_,rfl,(hS.sel []),h⟩))))
def yi7(g:Int)(g2:List E3)(x:List Int)(R:(List Int)→Prop):Prop :=
((0≤g∧g≤1000000) ∧
yci g g2 (fun r =>
(∃ I2:Nat→Int→(List Int)→Prop,(∃ m0,I2 m0 0 (List.replicate g.toNat (0:Int)))∧∀ m2 e2 out,I2 m2 e2 out → 
((e2<(r.length:Int) →
((0≤e2∧e2<(r.length:Int)) ∧
((0≤(0:Int)∧(0:Int)<2) ∧
((0≤(1:Int)∧(1:Int)<2) ∧
((0≤((gx r e2.toNat).2)∧((gx r e2.toNat).2)<(out.length:Int)) ∧
((0≤e2∧e2<(x.length:Int)) ∧
(In64 ((gi out ((gx r e2.toNat).2).toNat)+(gi x e2.toNat)) ∧
((0≤((gx r e2.toNat).1)∧((gx r e2.toNat).1)<(((out.set ((gx r e2.toNat).2).toNat ((gi out ((gx r e2.toNat).2).toNat)+(gi x e2.toNat))).length:Nat):Int)) ∧
(In64 ((gi (out.set ((gx r e2.toNat).2).toNat ((gi out ((gx r e2.toNat).2).toNat)+(gi x e2.toNat))) ((gx r e2.toNat).1).toNat)-(gi x e2.toNat)) ∧
(In64 (e2+1) ∧
∃ m3,m3<m2∧I2 m3 (e2+1) ((out.set ((gx r e2.toNat).2).toNat ((gi out ((gx r e2.toNat).2).toNat)+(gi x e2.toNat))).set ((gx r e2.toNat).1).toNat ((gi (out.set ((gx r e2.toNat).2).toNat ((gi out ((gx r e2.toNat).2).toNat)+(gi x e2.toNat))) ((gx r e2.toNat).1).toNat)-(gi x e2.toNat))))))))))))) ∧
(¬(e2<(r.length:Int)) →
R out)))))
theorem pok_r16_Flow{O:Nat→Prop}{w:World}{g g2 x Ag lg cg Ax lx cx}{R:(List Int)→Prop}(h:yi7 g g2 x R)(hO:∀ k,O k→k<w.heap.size)(hA0:(FP.sl c3 Ag lg cg g2).P O w)(hA1:(FP.sl cI Ax lx cx x).P O w) :
    Calls Tryz.prog 140 #[(.agg #[(ii g),(.slice Ag lg cg)]),(.slice Ax lx cx)] w fun e w'=>∃ r2 Ar2 lr2 cr2,e = .returned (.slice Ar2 lr2 cr2)∧Sep w no O w' (rl [Res.own cI 3 Ar2 lr2 cr2 r2])∧R r2:=by
  unfold yi7 at h;have hS:Sep w no O w (rl [Res.ro (FP.sl c3 Ag lg cg g2),Res.ro (FP.sl cI Ax lx cx x)]):=Sep.startl hO [(FP.sl c3 Ag lg cg g2),(FP.sl cI Ax lx cx x)] ⟨hA0,hA1,trivial⟩;refine yal (l:=[(.agg #[(ii g),(.slice Ag lg cg)]),(.slice Ax lx cx)]) func140 rfl ntmps140 zY (zs (zn (ybm (v:=(.agg #[(ii g),(.slice Ag lg cg)])) rfl ?_)));intro g3 w2 hN;replace hS:Sep w no O w2 (stl _ 2 (Res.box 24 g3 [(ii g),(.slice Ag lg cg)])):=hS.new 2 rfl hN;clear hN;refine zb (zQ (.slice none 0 0) (yaa (zs (zq (yam rfl underlying24 rfl yag) (zq (zl underlying3 (Row.cell (hS.bx 2 rfl) (i:=0) rfl)) ?_)))));obtain ⟨hx,h⟩:=h;refine zn (yeX rfl rfl underlying117 yag (by decide) rfl hx ?_);intro g4 w3 hN;replace hS:=hS.made 3 rfl cI (ii 0) (0:Int) (fun _ _=>rfl) hN (by omega);clear hN;refine zb (zQ (.slice (some ⟨g4,0,none⟩) g.toNat g.toNat) (yaa (zs (zq (yao (vs:=[(ii g),(.slice Ag lg cg)]) rfl underlying24 rfl yak ⟨Row.cell (hS.bx 2 rfl) (i:=0) rfl,Row.cell (hS.bx 2 rfl) (i:=1) rfl,trivial⟩) (zn (yai rfl (am1 rfl) yhJ ((yep h (yaz _) (hS.rdr 0 rfl)).mono ?_)))))));rintro _ w4 ⟨r,Ar,lr,cr,rfl,hC,h⟩;replace hS:=hS.call1 (hC.widen (ycv (yaP (fP (fI .i64) (fI .i64)) _ _ _ _ _) ycH) hS.blt) 4 0 rfl;clear hC;refine ⟨_,rfl,?_⟩;refine zb (zQ (.slice Ar lr cr) (yaa (yac (zs (zQ (ii 0) (yaa (yad ?_)))))));obtain ⟨I2,⟨m0,h0⟩,hr⟩:=h;refine yax (fun m E ds w'=>∃ e2 out,I2 m e2 out∧ds=[]∧E 1=(Value.slice Ax lx cx)∧E 5=(Value.slice (some ⟨g4,0,none⟩) g.toNat g.toNat)∧E 6=(Value.slice Ar lr cr)∧E 7=(ii e2)∧Sep w no O w' (rl [Res.ro (FP.sl cI Ax lx cx x),Res.own cI 3 (some ⟨g4,0,none⟩) g.toNat g.toNat out,Res.own c2 96 Ar lr cr r])) m0 ⟨_,_,h0,rfl,rfl,rfl,rfl,rfl,(hS.sel [1,3,4])⟩ ?_;clear h0 hS;rintro m2 E ds w5 ⟨e2,out,h,rfl,H1,H5,H6,H7,hS⟩ ag;replace h:=hr m2 e2 out h;clear hr;refine yac (zs (zq (yab H7) (zq (yab H6) (zq (yaG (n:=r.length) rfl underlying62 (yaD (hS.rdo 2 rfl))) (zq zL (yaa ?_))))));by_cases hp:e2<(r.length:Int)
  · replace h:=h.1 hp;refine zc hp (yaf (yac (yad (yac (ybq [0,1,2,3,4,5,6,7,8,9,10,11] st0 yaC (by kernel_rfl) (by kernel_rfl) ?_)))));replace hS:=hS.drew;refine zp (yab H6) (zp (yab H7) ?_);obtain ⟨hx2,h⟩:=h;refine zp (zi underlying62 ybk (yaB (hS.rdo 2 rfl) hx2)) ?_;obtain ⟨hx3,h⟩:=h;refine zp (ybE rfl rfl underlying96 yag hx3) (zp (yar (v:=(ii ((gx r e2.toNat).1))) rfl underlying3 rfl (rd_f (hS.rdo 2 rfl) hx2 (fun q=>ycO q) 0 rfl)) ?_);refine zp (yab H6) (zp (yab H7) (zp (zi underlying62 ybk (yaB (hS.rdo 2 rfl) hx2)) ?_));obtain ⟨hx4,h⟩:=h;refine zp (ybE rfl rfl underlying96 yag hx4) (zp (yar (v:=(ii ((gx r e2.toNat).2))) rfl underlying3 rfl (rd_f (hS.rdo 2 rfl) hx2 (fun q=>ycO q) 1 rfl)) ?_);refine zp (za (ii ((gx r e2.toNat).1))) (zp (za (ii ((gx r e2.toNat).2))) (ybH (yac (ybq [0,1,2,3,4,5,6,7,8,9,10,11,12] st0 yaC (by kernel_rfl) (by kernel_rfl) ?_))));replace hS:=hS.drew;refine zp (yab H5) (zp (zm (ii ((gx r e2.toNat).2))) (zp (yab H5) (zp (zm (ii ((gx r e2.toNat).2))) ?_)));obtain ⟨hx5,h⟩:=h;refine zp (zi underlying117 yag (yaB (hS.rdo 1 rfl) hx5)) (zp (yar (v:=(ii (gi out ((gx r e2.toNat).2).toNat))) rfl underlying3 rfl (rd_1 (hS.rdo 1 rfl) hx5 (fun q=>yaF q) rfl)) ?_);refine zp (yab H1) (zp (yab H7) ?_);obtain ⟨hx6,h⟩:=h;refine zp (zi underlying35 yag (yaB (hS.rdr 0 rfl) hx6)) (zp (yar (v:=(ii (gi x e2.toNat))) rfl underlying3 rfl (rd_1 (hS.rdr 0 rfl) hx6 (fun q=>yaF q) rfl)) ?_);obtain ⟨hi,h⟩:=h;refine zp (zA hi) (zp (zi underlying117 yag (yaB (hS.rdo 1 rfl) hx5)) (rp_n0 rfl rfl rfl (zt (ii ((gi out ((gx r e2.toNat).2).toNat)+(gi x e2.toNat))) yag (hS.wr 1 rfl rfl hx5) ?_)));intro w6 e1;replace hS:=hS.st 1 rfl rfl hx5 (x:=(gi out ((gx r e2.toNat).2).toNat)+(gi x e2.toNat)) rfl e1;clear e1;refine zb (ybH (ybq [0,1,2,3,4,5,6,7,8,9,10,11,12] st0 yaC (by kernel_rfl) (by kernel_rfl) ?_));replace hS:=hS.drew;refine zp (yab H5) (zp (zm (ii ((gx r e2.toNat).1))) (zp (yab H5) (zp (zm (ii ((gx r e2.toNat).1))) ?_)));obtain ⟨hx7,h⟩:=h;refine zp (zi underlying117 yag (yaB (hS.rdo 1 rfl) hx7)) (zp (yar (v:=(ii (gi (out.set ((gx r e2.toNat).2).toNat ((gi out ((gx r e2.toNat).2).toNat)+(gi x e2.toNat))) ((gx r e2.toNat).1).toNat))) rfl underlying3 rfl (rd_1 (hS.rdo 1 rfl) hx7 (fun q=>yaF q) rfl)) ?_);refine zp (yab H1) (zp (yab H7) (zp (zi underlying35 yag (yaB (hS.rdr 0 rfl) hx6)) (zp (yar (v:=(ii (gi x e2.toNat))) rfl underlying3 rfl (rd_1 (hS.rdr 0 rfl) hx6 (fun q=>yaF q) rfl)) ?_)));obtain ⟨hi2,h⟩:=h;refine zp (zS hi2) (zp (zi underlying117 yag (yaB (hS.rdo 1 rfl) hx7)) (rp_n0 rfl rfl rfl (zt (ii ((gi (out.set ((gx r e2.toNat).2).toNat ((gi out ((gx r e2.toNat).2).toNat)+(gi x e2.toNat))) ((gx r e2.toNat).1).toNat)-(gi x e2.toNat))) yag (hS.wr 1 rfl rfl hx7) ?_)));intro w7 e1;replace hS:=hS.st 1 rfl rfl hx7 (x:=(gi (out.set ((gx r e2.toNat).2).toNat ((gi out ((gx r e2.toNat).2).toNat)+(gi x e2.toNat))) ((gx r e2.toNat).1).toNat)-(gi x e2.toNat)) rfl e1;clear e1;refine zb (ybH (yae (zr (zq (yab H7) ?_))));obtain ⟨hi3,h⟩:=h;refine zq (zA hi3) (zQ (ii (e2+1)) (yaa ?_));obtain ⟨mq,hlt,h⟩:=h;exact ag mq _ _ _ ⟨_,_,h,rfl,H1,H5,H6,rfl,(hS.sel [0,1,2])⟩ hlt
  · replace h:=h.2 hp;exact zd hp (yas rfl (zs (zq (yab H5) (zQ (.slice (some ⟨g4,0,none⟩) g.toNat g.toNat) (yaa (yah rfl rfl ⟨_,_,_,_,rfl,(hS.sel [1]),h⟩))))))
def yjr(d:Int)(d2:List E3)(R:(List Int)→Prop):Prop :=
(∃ I2:Nat→(List Int)→Int→Prop,(∃ m0,I2 m0 ([]) 0)∧∀ m2 v v2,I2 m2 v v2 → 
((v2<d →
(v.length+1≤1000000000 ∧
(In64 (v2+1) ∧
∃ m3,m3<m2∧I2 m3 (v++[v2]) (v2+1)))) ∧
(¬(v2<d) →
yci d d2 (fun r =>
(∃ I3:Nat→(List Int)→Int→(List Int)→Prop,(∃ m0,I3 m0 ([]) 0 v)∧∀ m4 v3 v4 v5,I3 m4 v3 v4 v5 → 
((v4<(r.length:Int) →
((0≤v4∧v4<(r.length:Int)) ∧
((0≤(0:Int)∧(0:Int)<2) ∧
((0≤((gx r v4.toNat).1)∧((gx r v4.toNat).1)<(v5.length:Int)) ∧
((0≤(1:Int)∧(1:Int)<2) ∧
((0≤((gx r v4.toNat).2)∧((gx r v4.toNat).2)<(v5.length:Int)) ∧
(((gi v5 ((gx r v4.toNat).1).toNat)=(gi v5 ((gx r v4.toNat).2).toNat) →
(In64 (v4+1) ∧
∃ m5,m5<m4∧I3 m5 v3 (v4+1) v5)) ∧
(¬((gi v5 ((gx r v4.toNat).1).toNat)=(gi v5 ((gx r v4.toNat).2).toNat)) →
(v3.length+1≤1000000000 ∧
(∃ I4:Nat→Int→(List Int)→Prop,(∃ m0,I4 m0 0 v5)∧∀ m6 v6 v7,I4 m6 v6 v7 → 
((v6<d →
((0≤v6∧v6<(v7.length:Int)) ∧
(((gi v7 v6.toNat)=(gi v5 ((gx r v4.toNat).2).toNat) →
(In64 (v6+1) ∧
∃ m7,m7<m6∧I4 m7 (v6+1) (v7.set v6.toNat (gi v5 ((gx r v4.toNat).1).toNat)))) ∧
(¬((gi v7 v6.toNat)=(gi v5 ((gx r v4.toNat).2).toNat)) →
(In64 (v6+1) ∧
∃ m8,m8<m6∧I4 m8 (v6+1) v7))))) ∧
(¬(v6<d) →
(In64 (v4+1) ∧
∃ m9,m9<m4∧I3 m9 (v3++[v4]) (v4+1) v7))))))))))))) ∧
(¬(v4<(r.length:Int)) →
R v3)))))))
theorem yjH{O:Nat→Prop}{w:World}{d d2 Ad ld cd}{R:(List Int)→Prop}(h:yjr d d2 R)(hO:∀ k,O k→k<w.heap.size)(hA0:(FP.sl c3 Ad ld cd d2).P O w) :
    Calls Tryz.prog 143 #[(.agg #[(ii d),(.slice Ad ld cd)])] w fun e w'=>∃ r2 Ar2 lr2 cr2,e = .returned (.slice Ar2 lr2 cr2)∧Sep w no O w' (rl [Res.own cI 3 Ar2 lr2 cr2 r2])∧R r2:=by
  unfold yjr at h;have hS:Sep w no O w (rl [Res.ro (FP.sl c3 Ad ld cd d2)]):=Sep.startl hO [(FP.sl c3 Ad ld cd d2)] ⟨hA0,trivial⟩;refine yal (l:=[(.agg #[(ii d),(.slice Ad ld cd)])]) func143 rfl ntmps143 zY (zs (zn (ybm (v:=(.agg #[(ii d),(.slice Ad ld cd)])) rfl ?_)));intro g w2 hN;replace hS:Sep w no O w2 (stl _ 1 (Res.box 24 g [(ii d),(.slice Ad ld cd)])):=hS.new 1 rfl hN;clear hN;refine zb (zQ (.slice none 0 0) (yaa (zs (zQ (.slice none 0 0) (yaa (yac (zs (zQ (ii 0) (yaa (yad ?_))))))))));replace hS:=hS.nil 2 rfl cI 3;obtain ⟨I2,⟨m0,h0⟩,hr⟩:=h;refine yax (fun m E ds w'=>∃ v v2 Av lv cv,I2 m v v2∧ds=[]∧E 1=(Value.pointer (some ⟨g,0,none⟩))∧E 3=(Value.slice Av lv cv)∧E 4=(ii v2)∧Sep w no O w' (rl [Res.own cI 3 Av lv cv v,Res.box 24 g [(ii d),(.slice Ad ld cd)],Res.ro (FP.sl c3 Ad ld cd d2)])) m0 ⟨_,_,_,_,_,h0,rfl,rfl,rfl,rfl,(hS.sel [2,1,0])⟩ ?_;clear h0 hS;rintro m2 E ds w3 ⟨v,v2,Av,lv,cv,h,rfl,H1,H3,H4,hS⟩ ag;replace h:=hr m2 v v2 h;clear hr;refine yac (zs (zq (yab H4) (zq (yam H1 underlying24 rfl yag) (zq (zl underlying3 (Row.cell (hS.bx 1 rfl) (i:=0) rfl)) (zq zL (yaa ?_))))));by_cases hp:v2<d
  · replace h:=h.1 hp;refine zc hp (yaf (yac (yad (zr (zq (yab H3) (zq (yab H4) (zn (yaK (l:=[(0,(ii v2))]) (cells:=[(ii v2)]) (bp1 rfl) underlying35 yag rfl rfl ?_))))))));intro g2 w4 hN;replace hS:=hS.litf (n:=1) 3 rfl (fI .i64) hN ([v2]:List Int) rfl (by decide) rfl;clear hN;refine zb ?_;obtain ⟨hx,h⟩:=h;refine zn (yfv (c:=cI) rfl rfl underlying35 underlying35 yag rfl rfl (by decide) hS 0 rfl (hS.yo 3 rfl) hx ?_);clear hS;intro A c w5 hS;refine zb (zQ (.slice A (lv+1) c) (yaa (yae (zr (zq (yab H4) ?_)))));obtain ⟨hi,h⟩:=h;refine zq (zA hi) (zQ (ii (v2+1)) (yaa ?_));obtain ⟨mq,hlt,h⟩:=h;exact ag mq _ _ _ ⟨_,_,_,_,_,h,rfl,H1,rfl,rfl,(hS.sel [0,1,2])⟩ hlt
  · replace h:=h.2 hp;refine zd hp (yas rfl (zs (zQ (.slice none 0 0) (yaa (zs (zq (yao (vs:=[(ii d),(.slice Ad ld cd)]) H1 underlying24 rfl yak ⟨Row.cell (hS.bx 1 rfl) (i:=0) rfl,Row.cell (hS.bx 1 rfl) (i:=1) rfl,trivial⟩) (zn (yai rfl (am1 rfl) yhJ ((yep h (yaz _) (hS.rdr 2 rfl)).mono ?_)))))))));rintro _ w6 ⟨r,Ar,lr,cr,rfl,hC,h⟩;replace hS:=hS.call1 (hC.widen (ycv (yaP (fP (fI .i64) (fI .i64)) _ _ _ _ _) ycH) hS.blt) 3 0 rfl;clear hC;refine ⟨_,rfl,?_⟩;refine zb (zQ (.slice Ar lr cr) (yaa (yac (zs (zQ (ii 0) (yaa (yad ?_)))))));replace hS:=hS.nil 4 rfl cI 3;obtain ⟨I3,⟨m0,h0⟩,hr⟩:=h;refine yax (fun m E ds w'=>∃ v3 v4 v5 Av2 lv2 cv2,I3 m v3 v4 v5∧ds=[]∧E 1=(Value.pointer (some ⟨g,0,none⟩))∧E 3=(Value.slice Av lv cv)∧E 5=(Value.slice Av2 lv2 cv2)∧E 6=(Value.slice Ar lr cr)∧E 7=(ii v4)∧Sep w no O w' (rl [Res.own cI 3 Av2 lv2 cv2 v3,Res.box 24 g [(ii d),(.slice Ad ld cd)],Res.ro (FP.sl c3 Ad ld cd d2),Res.own cI 3 Av lv cv v5,Res.own c2 96 Ar lr cr r])) m0 ⟨_,_,_,_,_,_,h0,rfl,H1,H3,rfl,rfl,rfl,(hS.sel [4,1,2,0,3])⟩ ?_;clear h0 hS;rintro m4 E ds w7 ⟨v3,v4,v5,Av2,lv2,cv2,h,rfl,H1,H3,H5,H6,H7,hS⟩ again2;replace h:=hr m4 v3 v4 v5 h;clear hr;refine yac (zs (zq (yab H7) (zq (yab H6) (zq (yaG (n:=r.length) rfl underlying62 (yaD (hS.rdo 4 rfl))) (zq zL (yaa ?_))))));by_cases hp2:v4<(r.length:Int)
    · replace h:=h.1 hp2;refine zc hp2 (yaf (yac (yad (yac (ybq [0,1,2,3,4,5,6,7,8,9,10,11,12,13,14,15,16,17] st0 yaC (by kernel_rfl) (by kernel_rfl) ?_)))));replace hS:=hS.drew;refine zp (yab H3) (zp (yab H6) (zp (yab H7) ?_));obtain ⟨hx2,h⟩:=h;refine zp (zi underlying62 ybk (yaB (hS.rdo 4 rfl) hx2)) ?_;obtain ⟨hx3,h⟩:=h;refine zp (ybE rfl rfl underlying96 yag hx3) (zp (yar (v:=(ii ((gx r v4.toNat).1))) rfl underlying3 rfl (rd_f (hS.rdo 4 rfl) hx2 (fun q=>ycO q) 0 rfl)) ?_);obtain ⟨hx4,h⟩:=h;refine zp (zi underlying35 yag (yaB (hS.rdo 3 rfl) hx4)) (zp (yar (v:=(ii (gi v5 ((gx r v4.toNat).1).toNat))) rfl underlying3 rfl (rd_1 (hS.rdo 3 rfl) hx4 (fun q=>yaF q) rfl)) ?_);refine zp (yab H3) (zp (yab H6) (zp (yab H7) (zp (zi underlying62 ybk (yaB (hS.rdo 4 rfl) hx2)) ?_)));obtain ⟨hx5,h⟩:=h;refine zp (ybE rfl rfl underlying96 yag hx5) (zp (yar (v:=(ii ((gx r v4.toNat).2))) rfl underlying3 rfl (rd_f (hS.rdo 4 rfl) hx2 (fun q=>ycO q) 1 rfl)) ?_);obtain ⟨hx6,h⟩:=h;refine zp (zi underlying35 yag (yaB (hS.rdo 3 rfl) hx6)) (zp (yar (v:=(ii (gi v5 ((gx r v4.toNat).2).toNat))) rfl underlying3 rfl (rd_1 (hS.rdo 3 rfl) hx6 (fun q=>yaF q) rfl)) ?_);refine zp (za (ii (gi v5 ((gx r v4.toNat).1).toNat))) (zp (za (ii (gi v5 ((gx r v4.toNat).2).toNat))) (ybH (yac (zs (zM (ii (gi v5 ((gx r v4.toNat).1).toNat)) (zM (ii (gi v5 ((gx r v4.toNat).2).toNat)) (zq zE (yaa ?_))))))));by_cases hp3:(gi v5 ((gx r v4.toNat).1).toNat)=(gi v5 ((gx r v4.toNat).2).toNat)
      · replace h:=h.1 hp3;refine zc hp3 (yas rfl (zr (zq (yab H7) ?_)));obtain ⟨hi2,h⟩:=h;refine zq (zA hi2) (zQ (ii (v4+1)) (yaa ?_));obtain ⟨mq,hlt,h⟩:=h;exact again2 mq _ _ _ ⟨_,_,_,_,_,_,h,rfl,H1,H3,H5,H6,rfl,(hS.sel [0,1,2,3,4])⟩ hlt
      · replace h:=h.2 hp3;refine zd hp3 (yaf (zs (zq (yab H5) (zq (yab H7) (zn (yaK (l:=[(0,(ii v4))]) (cells:=[(ii v4)]) (bp1 rfl) underlying35 yag rfl rfl ?_))))));intro g3 w8 hN;replace hS:=hS.litf (n:=1) 5 rfl (fI .i64) hN ([v4]:List Int) rfl (by decide) rfl;clear hN;refine zb ?_;obtain ⟨hx7,h⟩:=h;refine zn (yfv (c:=cI) rfl rfl underlying35 underlying35 yag rfl rfl (by decide) hS 0 rfl (hS.yo 5 rfl) hx7 ?_);clear hS;intro A2 c4 w9 hS;refine zb (zQ (.slice A2 (lv2+1) c4) (yaa (zs (zQ (ii 0) (yaa (yad ?_))))));obtain ⟨I4,⟨m0,h0⟩,hr⟩:=h;refine yax (fun m E ds w'=>∃ v6 v7,I4 m v6 v7∧ds=[]∧E 1=(Value.pointer (some ⟨g,0,none⟩))∧E 3=(Value.slice Av lv cv)∧E 5=(Value.slice A2 (lv2+1) c4)∧E 6=(Value.slice Ar lr cr)∧E 7=(ii v4)∧E 8=(ii (gi v5 ((gx r v4.toNat).1).toNat))∧E 9=(ii (gi v5 ((gx r v4.toNat).2).toNat))∧E 10=(ii v6)∧Sep w no O w' (rl [Res.box 24 g [(ii d),(.slice Ad ld cd)],Res.ro (FP.sl c3 Ad ld cd d2),Res.own cI 3 Av lv cv v7,Res.own cI 3 A2 (lv2+1) c4 (v3++[v4]),Res.own c2 96 Ar lr cr r])) m0 ⟨_,_,h0,rfl,H1,H3,rfl,H6,H7,rfl,rfl,rfl,(hS.sel [1,2,3,0,4])⟩ ?_;clear h0 hS;rintro m6 E ds w10 ⟨v6,v7,h,rfl,H1,H3,H5,H6,H7,H8,H9,H10,hS⟩ again3;replace h:=hr m6 v6 v7 h;clear hr;refine yac (zs (zq (yab H10) (zq (yam H1 underlying24 rfl yag) (zq (zl underlying3 (Row.cell (hS.bx 0 rfl) (i:=0) rfl)) (zq zL (yaa ?_))))));by_cases hp4:v6<d
        · replace h:=h.1 hp4;refine zc hp4 (yaf (yac (yad (zs (zq (yab H3) (zq (yab H10) ?_))))));obtain ⟨hx8,h⟩:=h;refine zq (zi underlying35 yag (yaB (hS.rdo 2 rfl) hx8)) (zq (yar (v:=(ii (gi v7 v6.toNat))) rfl underlying3 rfl (rd_1 (hS.rdo 2 rfl) hx8 (fun q=>yaF q) rfl)) ?_);refine zq (yab (v:=(ii (gi v5 ((gx r v4.toNat).2).toNat))) H9) (zq zE (yaa ?_));by_cases hp5:(gi v7 v6.toNat)=(gi v5 ((gx r v4.toNat).2).toNat)
          · replace h:=h.1 hp5;refine zc hp5 (zr (zq (yab H3) (zq (yab H10) (zq (yab (v:=(ii (gi v5 ((gx r v4.toNat).1).toNat))) H8) (zq (zi underlying35 yag (yaB (hS.rdo 2 rfl) hx8)) (zo (zt (ii (gi v5 ((gx r v4.toNat).1).toNat)) yag (hS.wr 2 rfl rfl hx8) ?_)))))));intro w11 e1;replace hS:=hS.st 2 rfl rfl hx8 (x:=gi v5 ((gx r v4.toNat).1).toNat) rfl e1;clear e1;refine zb (yaa (yae (zr (zq (yab H10) ?_))));obtain ⟨hi3,h⟩:=h;refine zq (zA hi3) (zQ (ii (v6+1)) (yaa ?_));obtain ⟨mq,hlt,h⟩:=h;exact again3 mq _ _ _ ⟨_,_,h,rfl,H1,H3,H5,H6,H7,H8,H9,rfl,(hS.sel [0,1,2,3,4])⟩ hlt
          · replace h:=h.2 hp5;refine zd hp5 (yaf (yae (zr (zq (yab H10) ?_))));obtain ⟨hi4,h⟩:=h;refine zq (zA hi4) (zQ (ii (v6+1)) (yaa ?_));obtain ⟨mq,hlt,h⟩:=h;exact again3 mq _ _ _ ⟨_,_,h,rfl,H1,H3,H5,H6,H7,H8,H9,rfl,(hS.sel [0,1,2,3,4])⟩ hlt
        · replace h:=h.2 hp4;refine zd hp4 (yas rfl (yae (zr (zq (yab H7) ?_))));obtain ⟨hi5,h⟩:=h;refine zq (zA hi5) (zQ (ii (v4+1)) (yaa ?_));obtain ⟨mq,hlt,h⟩:=h;exact again2 mq _ _ _ ⟨_,_,_,_,_,_,h,rfl,H1,H3,H5,H6,rfl,(hS.sel [3,0,1,2,4])⟩ hlt
    · replace h:=h.2 hp2;exact zd hp2 (yas rfl (zs (zq (yab H5) (zQ (.slice Av2 lv2 cv2) (yaa (yah rfl rfl ⟨_,_,_,_,rfl,(hS.sel [0]),h⟩))))))
def yjx(d:Int)(d2:List E3)(i:List Int)(a:Int)(R:(List Int)→Prop):Prop :=
yci d d2 (fun r =>
((0≤(r.length:Int)∧(r.length:Int)≤1000000) ∧
((0≤a∧a<(((List.replicate (r.length:Int).toNat (0:Int)).length:Nat):Int)) ∧
((0≤a∧a<(r.length:Int)) ∧
((0≤(1:Int)∧(1:Int)<2) ∧
((0≤(0:Int)∧(0:Int)<2) ∧
yjz d d2 i ((gx r a.toNat).2) ((gx r a.toNat).1) (fun r2 =>
(∃ I2:Nat→Int→Int→(List Int)→Prop,(∃ m0,I2 m0 ((gx r a.toNat).2) 0 ((List.replicate (r.length:Int).toNat (0:Int)).set a.toNat 1))∧∀ m2 v v2 v3,I2 m2 v v2 v3 → 
((v2<(r2.length:Int) →
((0≤v2∧v2<(r2.length:Int)) ∧
((0≤(gi r2 v2.toNat)∧(gi r2 v2.toNat)<(r.length:Int)) ∧
((((gx r (gi r2 v2.toNat).toNat).1)=v →
((0≤(gi r2 v2.toNat)∧(gi r2 v2.toNat)<(v3.length:Int)) ∧
(In64 (v2+1) ∧
∃ m3,m3<m2∧I2 m3 ((gx r (gi r2 v2.toNat).toNat).2) (v2+1) (v3.set (gi r2 v2.toNat).toNat 1)))) ∧
(¬(((gx r (gi r2 v2.toNat).toNat).1)=v) →
((0≤(gi r2 v2.toNat)∧(gi r2 v2.toNat)<(v3.length:Int)) ∧
(In64 (v2+1) ∧
∃ m4,m4<m2∧I2 m4 ((gx r (gi r2 v2.toNat).toNat).1) (v2+1) (v3.set (gi r2 v2.toNat).toNat (-1))))))))) ∧
(¬(v2<(r2.length:Int)) →
R v3))))))))))
theorem pok_r16_Loop{O:Nat→Prop}{w:World}{d d2 i a Ad ld cd Ai li ci}{R:(List Int)→Prop}(h:yjx d d2 i a R)(hO:∀ k,O k→k<w.heap.size)(hA0:(FP.sl c3 Ad ld cd d2).P O w)(hA1:(FP.sl cI Ai li ci i).P O w) :
    Calls Tryz.prog 161 #[(.agg #[(ii d),(.slice Ad ld cd)]),(.slice Ai li ci),(ii a)] w fun e w'=>∃ r3 Ar3 lr3 cr3,e = .returned (.slice Ar3 lr3 cr3)∧Sep w no O w' (rl [Res.own cI 3 Ar3 lr3 cr3 r3])∧R r3:=by
  unfold yjx at h;have hS:Sep w no O w (rl [Res.ro (FP.sl c3 Ad ld cd d2),Res.ro (FP.sl cI Ai li ci i)]):=Sep.startl hO [(FP.sl c3 Ad ld cd d2),(FP.sl cI Ai li ci i)] ⟨hA0,hA1,trivial⟩;refine yal (l:=[(.agg #[(ii d),(.slice Ad ld cd)]),(.slice Ai li ci),(ii a)]) func161 rfl ntmps161 zY (zs (zn (ybm (v:=(.agg #[(ii d),(.slice Ad ld cd)])) rfl ?_)));intro g w2 hN;replace hS:Sep w no O w2 (stl _ 2 (Res.box 24 g [(ii d),(.slice Ad ld cd)])):=hS.new 2 rfl hN;clear hN;refine zb (zQ (.slice none 0 0) (yaa (zs (zq (yao (vs:=[(ii d),(.slice Ad ld cd)]) rfl underlying24 rfl yak ⟨Row.cell (hS.bx 2 rfl) (i:=0) rfl,Row.cell (hS.bx 2 rfl) (i:=1) rfl,trivial⟩) (zn (yai rfl (am1 rfl) yhJ ((yep h (yaz _) (hS.rdr 0 rfl)).mono ?_)))))));rintro _ w3 ⟨r,Ar,lr,cr,rfl,hC,h⟩;replace hS:=hS.call1 (hC.widen (ycv (yaP (fP (fI .i64) (fI .i64)) _ _ _ _ _) ycH) hS.blt) 3 0 rfl;clear hC;refine ⟨_,rfl,?_⟩;refine zb (zQ (.slice Ar lr cr) (yaa (zs (zM (.slice Ar lr cr) (zq (yaG (n:=r.length) rfl underlying62 (yaD (hS.rdo 3 rfl))) ?_)))));obtain ⟨hx,h⟩:=h;refine zn (yeX rfl rfl underlying35 yag (by decide) rfl hx ?_);intro g2 w4 hN;replace hS:=hS.made 4 rfl cI (ii 0) (0:Int) (fun _ _=>rfl) hN (by omega);clear hN;refine zb (zQ (.slice (some ⟨g2,0,none⟩) ((r.length:Int).toNat) ((r.length:Int).toNat)) (yaa (zs (zM (.slice (some ⟨g2,0,none⟩) ((r.length:Int).toNat) ((r.length:Int).toNat)) (zM (ii a) ?_)))));obtain ⟨hx2,h⟩:=h;refine zq (zi underlying35 yag (yaB (hS.rdo 4 rfl) hx2)) (zo (zt (ii 1) yag (hS.wr 4 rfl rfl hx2) ?_));intro w5 e1;replace hS:=hS.st 4 rfl rfl hx2 (x:=1) rfl e1;clear e1;refine zb (yaa (zs (zM (.slice Ar lr cr) (zM (ii a) ?_))));obtain ⟨hx3,h⟩:=h;refine zq (zi underlying62 ybk (yaB (hS.rdo 3 rfl) hx3)) ?_;obtain ⟨hx4,h⟩:=h;refine zq (ybE rfl rfl underlying96 yag hx4) (zq (yar (v:=(ii ((gx r a.toNat).2))) rfl underlying3 rfl (rd_f (hS.rdo 3 rfl) hx3 (fun q=>ycO q) 1 rfl)) ?_);refine zQ (ii ((gx r a.toNat).2)) (yaa (yac (ybq [0,1,2,3,4,5,6,7,8,9] st0 yaC (by kernel_rfl) (by kernel_rfl) ?_)));replace hS:=hS.drew;refine zp (yao (vs:=[(ii d),(.slice Ad ld cd)]) rfl underlying24 rfl yak ⟨Row.cell (hS.bx 2 rfl) (i:=0) rfl,Row.cell (hS.bx 2 rfl) (i:=1) rfl,trivial⟩) (zp (zm (.slice Ai li ci)) (zp (zm (ii ((gx r a.toNat).2))) (zp (zm (.slice Ar lr cr)) (zp (zm (ii a)) (zp (zi underlying62 ybk (yaB (hS.rdo 3 rfl) hx3)) ?_)))));obtain ⟨hx5,h⟩:=h;refine zp (ybE rfl rfl underlying96 yag hx5) (zp (yar (v:=(ii ((gx r a.toNat).1))) rfl underlying3 rfl (rd_f (hS.rdo 3 rfl) hx3 (fun q=>ycO q) 0 rfl)) ?_);refine rp_n rfl rfl rfl rfl (yai rfl (am4 rfl rfl rfl rfl) enter_167 ((pok_r13_Path h (yaz _) (hS.rdr 0 rfl) (hS.rdr 1 rfl)).mono ?_));rintro _ w6 ⟨r2,Ar2,lr2,cr2,rfl,hC,h⟩;replace hS:=hS.call1 (hC.widen (ycv (yaP (fI .i64) _ _ _ _ _) ycH) hS.blt) 5 0 rfl;clear hC;refine ⟨_,rfl,?_⟩;refine zb (zp (za (.slice Ar2 lr2 cr2)) (ybH (yac (zs (zQ (ii 0) (yaa (yad ?_)))))));obtain ⟨I2,⟨m0,h0⟩,hr⟩:=h;refine yax (fun m E ds w'=>∃ v v2 v3,I2 m v v2 v3∧ds=[]∧E 7=(Value.slice Ar lr cr)∧E 8=(Value.slice (some ⟨g2,0,none⟩) ((r.length:Int).toNat) ((r.length:Int).toNat))∧E 9=(ii v)∧E 10=(Value.slice Ar2 lr2 cr2)∧E 11=(ii v2)∧Sep w no O w' (rl [Res.own c2 96 Ar lr cr r,Res.own cI 3 (some ⟨g2,0,none⟩) ((r.length:Int).toNat) ((r.length:Int).toNat) v3,Res.own cI 3 Ar2 lr2 cr2 r2])) m0 ⟨_,_,_,h0,rfl,rfl,rfl,rfl,rfl,rfl,(hS.sel [3,4,5])⟩ ?_;clear h0 hS;rintro m2 E ds w7 ⟨v,v2,v3,h,rfl,H7,H8,H9,H10,H11,hS⟩ ag;replace h:=hr m2 v v2 v3 h;clear hr;refine yac (zs (zq (yab H11) (zq (yab H10) (zq (yaG (n:=r2.length) rfl underlying35 (yaD (hS.rdo 2 rfl))) (zq zL (yaa ?_))))));by_cases hp:v2<(r2.length:Int)
  · replace h:=h.1 hp;refine zc hp (yaf (yac (yad (zs (zq (yab H7) (zq (yab H10) (zq (yab H11) ?_)))))));obtain ⟨hx6,h⟩:=h;refine zq (zi underlying35 yag (yaB (hS.rdo 2 rfl) hx6)) (zq (yar (v:=(ii (gi r2 v2.toNat))) rfl underlying3 rfl (rd_1 (hS.rdo 2 rfl) hx6 (fun q=>yaF q) rfl)) ?_);obtain ⟨hx7,h⟩:=h;refine zq (zi underlying62 ybk (yaB (hS.rdo 0 rfl) hx7)) (zq (yao (vs:=[(ii ((gx r (gi r2 v2.toNat).toNat).1)),(ii ((gx r (gi r2 v2.toNat).toNat).2))]) rfl underlying96 rfl ybk (yhX (hS.rdo 0 rfl) hx7 (fun q=>ycO q))) ?_);refine zn (yaS ybk ?_);intro g3 w8 hN;replace hS:Sep w no O w8 (stl _ 3 (Res.box 96 g3 [(ii 0),(ii 0)])):=hS.new 3 rfl hN;clear hN;refine zb (zo (yaQ (b:=g3) (o:=0) (cells:=#[(ii ((gx r (gi r2 v2.toNat).toNat).1)),(ii ((gx r (gi r2 v2.toNat).toNat).2))]) rfl rfl ybk rfl rfl (yaL (hS.bx 3 rfl) zY) ?_));intro w9 e1;replace hS:=hS.bstn 3 rfl 0 [(ii ((gx r (gi r2 v2.toNat).toNat).1)),(ii ((gx r (gi r2 v2.toNat).toNat).2))] e1;clear e1;refine zb (yaa (zs (zq (ybE rfl rfl underlying96 yag hx5) (zq (zl underlying3 (Row.cell (hS.bx 3 rfl) (i:=0) rfl)) (zq (yab H9) (zq zE (yaa ?_)))))));by_cases hp2:((gx r (gi r2 v2.toNat).toNat).1)=v
    · replace h:=h.1 hp2;refine zc hp2 (ybq [0,1,2,3,4,5,6,7,8,9] (fun i=>match i with | 8=>[5,6] | _=>[]) yaC (by kernel_rfl) (by kernel_rfl) ?_);replace hS:=hS.drew;refine zp (yab (v:=(.slice (some ⟨g2,0,none⟩) ((r.length:Int).toNat) ((r.length:Int).toNat))) H8) (zp (yab H10) (zp (yab H11) (zp (zi underlying35 yag (yaB (hS.rdo 2 rfl) hx6)) (zp (yar (v:=(ii (gi r2 v2.toNat))) rfl underlying3 rfl (rd_1 (hS.rdo 2 rfl) hx6 (fun q=>yaF q) rfl)) ?_))));refine zp (ybE rfl rfl underlying96 yag hx4) (zp (zl underlying3 (Row.cell (hS.bx 3 rfl) (i:=1) rfl)) ?_);obtain ⟨hx8,h⟩:=h;refine zp (zi underlying35 yag (yaB (hS.rdo 1 rfl) hx8)) (rp_n0 rfl rfl rfl (zt (ii 1) yag (hS.wr 1 rfl rfl hx8) ?_));intro w10 e1;replace hS:=hS.st 1 rfl rfl hx8 (x:=1) rfl e1;clear e1;refine ⟨⟨fun hh=>zZ hh,⟨fun _=>(zl underlying3 (Row.cell (hS.bx 3 rfl) (i:=1) rfl)),⟨fun _=>(ybE rfl rfl underlying96 yag hx4),⟨fun hh=>zZ hh,⟨fun hh=>zZ hh,⟨fun hh=>zZ hh,⟨fun hh=>zZ hh,⟨fun hh=>zZ hh,trivial⟩⟩⟩⟩⟩⟩⟩⟩,?_⟩;refine zp (za (ii ((gx r (gi r2 v2.toNat).toNat).2))) (ybH (yae (zr (zq (yab H11) ?_))));obtain ⟨hi,h⟩:=h;refine zq (zA hi) (zQ (ii (v2+1)) (yaa ?_));obtain ⟨mq,hlt,h⟩:=h;exact ag mq _ _ _ ⟨_,_,_,h,rfl,H7,H8,rfl,H10,rfl,(hS.sel [0,1,2])⟩ hlt
    · replace h:=h.2 hp2;refine zd hp2 (ybq [0,1,2,3,4,5,6,7,8,9] (fun i=>match i with | 8=>[5,6] | _=>[]) yaC (by kernel_rfl) (by kernel_rfl) ?_);replace hS:=hS.drew;refine zp (yab (v:=(.slice (some ⟨g2,0,none⟩) ((r.length:Int).toNat) ((r.length:Int).toNat))) H8) (zp (yab H10) (zp (yab H11) (zp (zi underlying35 yag (yaB (hS.rdo 2 rfl) hx6)) (zp (yar (v:=(ii (gi r2 v2.toNat))) rfl underlying3 rfl (rd_1 (hS.rdo 2 rfl) hx6 (fun q=>yaF q) rfl)) ?_))));refine zp (ybE rfl rfl underlying96 yag hx5) (zp (zl underlying3 (Row.cell (hS.bx 3 rfl) (i:=0) rfl)) ?_);obtain ⟨hx9,h⟩:=h;refine zp (zi underlying35 yag (yaB (hS.rdo 1 rfl) hx9)) (rp_n0 rfl rfl rfl (zt (ii (-1)) yag (hS.wr 1 rfl rfl hx9) ?_));intro w11 e1;replace hS:=hS.st 1 rfl rfl hx9 (x := -1) rfl e1;clear e1;refine ⟨⟨fun hh=>zZ hh,⟨fun _=>(zl underlying3 (Row.cell (hS.bx 3 rfl) (i:=0) rfl)),⟨fun _=>(ybE rfl rfl underlying96 yag hx5),⟨fun hh=>zZ hh,⟨fun hh=>zZ hh,⟨fun hh=>zZ hh,⟨fun hh=>zZ hh,⟨fun hh=>zZ hh,trivial⟩⟩⟩⟩⟩⟩⟩⟩,?_⟩;refine zp (za (ii ((gx r (gi r2 v2.toNat).toNat).1))) (ybH (yae (zr (zq (yab H11) ?_))));obtain ⟨hi2,h⟩:=h;refine zq (zA hi2) (zQ (ii (v2+1)) (yaa ?_));obtain ⟨mq,hlt,h⟩:=h;exact ag mq _ _ _ ⟨_,_,_,h,rfl,H7,H8,rfl,H10,rfl,(hS.sel [0,1,2])⟩ hlt
  · replace h:=h.2 hp;exact zd hp (yas rfl (zs (zq (yab (v:=(.slice (some ⟨g2,0,none⟩) ((r.length:Int).toNat) ((r.length:Int).toNat))) H8) (zQ (.slice (some ⟨g2,0,none⟩) ((r.length:Int).toNat) ((r.length:Int).toNat)) (yaa (yah rfl rfl ⟨_,_,_,_,rfl,(hS.sel [1]),h⟩))))))
def yjn(g:Int)(g2:List E3)(R:(List (List Int))→Prop):Prop :=
yjr g g2 (fun r =>
(∃ I2:Nat→(List (List Int))→Int→Prop,(∃ m0,I2 m0 ([]) 0)∧∀ m2 out e2,I2 m2 out e2 → 
ycz g g2 (fun r2 =>
((e2<r2 →
yev r e2 (fun r3 =>
((r3=true →
(In64 (e2+1) ∧
∃ m3,m3<m2∧I2 m3 out (e2+1))) ∧
(¬(r3=true) →
yjx g g2 r e2 (fun r4 =>
(out.length+1≤1000000000 ∧
(In64 (e2+1) ∧
∃ m4,m4<m2∧I2 m4 (out++[r4]) (e2+1)))))))) ∧
(¬(e2<r2) →
R out)))))
theorem yjG{O:Nat→Prop}{w:World}{g g2 Ag lg cg}{R:(List (List Int))→Prop}(h:yjn g g2 R)(hO:∀ k,O k→k<w.heap.size)(hA0:(FP.sl c3 Ag lg cg g2).P O w) :
    Calls Tryz.prog 144 #[(.agg #[(ii g),(.slice Ag lg cg)])] w fun e w'=>∃ r5 Ar3 lr3 cr3,e = .returned (.slice Ar3 lr3 cr3)∧Sep w no O w' (rl [Res.own (cL cI) 35 Ar3 lr3 cr3 r5])∧R r5:=by
  unfold yjn at h;have hS:Sep w no O w (rl [Res.ro (FP.sl c3 Ag lg cg g2)]):=Sep.startl hO [(FP.sl c3 Ag lg cg g2)] ⟨hA0,trivial⟩;refine yal (l:=[(.agg #[(ii g),(.slice Ag lg cg)])]) func144 rfl ntmps144 zY (zs (zn (ybm (v:=(.agg #[(ii g),(.slice Ag lg cg)])) rfl ?_)));intro g3 w2 hN;replace hS:Sep w no O w2 (stl _ 1 (Res.box 24 g3 [(ii g),(.slice Ag lg cg)])):=hS.new 1 rfl hN;clear hN;refine zb (zQ (.slice none 0 0) (yaa (zs (zq (yao (vs:=[(ii g),(.slice Ag lg cg)]) rfl underlying24 rfl yak ⟨Row.cell (hS.bx 1 rfl) (i:=0) rfl,Row.cell (hS.bx 1 rfl) (i:=1) rfl,trivial⟩) (zn (yai rfl (am1 rfl) enter_143 ((yjH h (yaz _) (hS.rdr 0 rfl)).mono ?_)))))));rintro _ w3 ⟨r,Ar,lr,cr,rfl,hC,h⟩;replace hS:=hS.call1 (hC.widen (ycv (yaP (fI .i64) _ _ _ _ _) ycH) hS.blt) 2 0 rfl;clear hC;refine ⟨_,rfl,?_⟩;refine zb (zQ (.slice Ar lr cr) (yaa (zs (zQ (.slice none 0 0) (yaa (yac (zs (zQ (ii 0) (yaa (yad ?_))))))))));replace hS:=hS.nil 3 rfl (cL cI) 35;obtain ⟨I2,⟨m0,h0⟩,hr⟩:=h;refine yax (fun m E ds w'=>∃ out e2 Aa Ab Ac,I2 m out e2∧ds=[]∧E 1=(Value.pointer (some ⟨g3,0,none⟩))∧E 3=(Value.slice Ar lr cr)∧E 4=(Value.slice Aa Ab Ac)∧E 5=(ii e2)∧Sep w no O w' (rl [Res.own (cL cI) 35 Aa Ab Ac out,Res.box 24 g3 [(ii g),(.slice Ag lg cg)],Res.ro (FP.sl c3 Ag lg cg g2),Res.own cI 3 Ar lr cr r])) m0 ⟨_,_,_,_,_,h0,rfl,rfl,rfl,rfl,rfl,(hS.sel [3,1,0,2])⟩ ?_;clear h0 hS;rintro m2 E ds w4 ⟨out,e2,Aa,Ab,Ac,h,rfl,H1,H3,H4,H5,hS⟩ ag;replace h:=hr m2 out e2 h;clear hr;refine yac (zs (zq (yab H5) (zq (yao (vs:=[(ii g),(.slice Ag lg cg)]) H1 underlying24 rfl yak ⟨Row.cell (hS.bx 1 rfl) (i:=0) rfl,Row.cell (hS.bx 1 rfl) (i:=1) rfl,trivial⟩) (zn (yai rfl (am1 rfl) yhI ((yez h (yaz _) (hS.rdr 2 rfl)).mono ?_))))));rintro _ w5 ⟨r2,rfl,hC,h⟩;replace hS:=hS.pur hC.pure;clear hC;refine ⟨_,rfl,?_⟩;refine zb (zq zL (yaa ?_));by_cases hp:e2<r2
  · replace h:=h.1 hp;refine zc hp (yaf (yac (yad (zs (zq (yab H3) (zq (yab H5) (zn (yai rfl (am2 rfl rfl) enter_145 ((yjE h (yaz _) (hS.rdo 3 rfl)).mono ?_)))))))));rintro _ w6 ⟨r3,rfl,hC,h⟩;replace hS:=hS.pur hC.pure;clear hC;refine ⟨_,rfl,?_⟩;refine zb (zq (yds rfl) (yaa ?_));by_cases hp2:r3=true
    · replace h:=h.1 hp2;refine yav (zC (zB hp2)) (yaf (yae (zr (zq (yab H5) ?_))));obtain ⟨hi,h⟩:=h;refine zq (zA hi) (zQ (ii (e2+1)) (yaa ?_));obtain ⟨mq,hlt,h⟩:=h;exact ag mq _ _ _ ⟨_,_,_,_,_,h,rfl,H1,H3,H4,rfl,(hS.sel [0,1,2,3])⟩ hlt
    · replace h:=h.2 hp2;refine yaq (zC (zB (zI hp2))) (zr (zq (yab H4) (zq (yao (vs:=[(ii g),(.slice Ag lg cg)]) H1 underlying24 rfl yak ⟨Row.cell (hS.bx 1 rfl) (i:=0) rfl,Row.cell (hS.bx 1 rfl) (i:=1) rfl,trivial⟩) (zq (yab H3) (zq (yab H5) (zn (yai rfl (am3 rfl rfl rfl) enter_161 ((pok_r16_Loop h (yaz _) (hS.rdr 2 rfl) (hS.rdo 3 rfl)).mono ?_))))))));rintro _ w7 ⟨r4,Ar2,lr2,cr2,rfl,hC,h⟩;replace hS:=hS.call1 (hC.widen (ycv (yaP (fI .i64) _ _ _ _ _) ycH) hS.blt) 4 0 rfl;clear hC;refine ⟨_,rfl,?_⟩;refine zb ?_;replace hS:=hS.frz 4 rfl;refine zn (yaK (l:=[(0,(.slice Ar2 lr2 cr2))]) (cells:=[(.slice Ar2 lr2 cr2)]) (bp1 rfl) underlying27 yaJ rfl rfl ?_);intro g4 w8 hN;replace hS:=hS.lit (n:=1) (c:=(cL cI)) 5 rfl hN ([r4]:List (List Int)) rfl (by decide) ⟨[(.slice Ar2 lr2 cr2)],_,rfl,(ro_R (hS.ro 4 rfl)),rfl⟩;clear hN;refine zb ?_;obtain ⟨hx,h⟩:=h;refine zn (yfv (c:=(cL cI)) rfl rfl underlying27 underlying27 yaJ rfl rfl (by decide) hS 0 rfl (hS.yo 5 rfl) hx ?_);clear hS;intro A c w9 hS;refine zb (zQ (.slice A (Ab+1) c) (yaa (yae (zr (zq (yab H5) ?_)))));obtain ⟨hi2,h⟩:=h;refine zq (zA hi2) (zQ (ii (e2+1)) (yaa ?_));obtain ⟨mq,hlt,h⟩:=h;exact ag mq _ _ _ ⟨_,_,_,_,_,h,rfl,H1,H3,rfl,rfl,(hS.sel [0,1,2,3])⟩ hlt
  · replace h:=h.2 hp;exact zd hp (yas rfl (zs (zq (yab H4) (zQ (.slice Aa Ab Ac) (yaa (yah rfl rfl ⟨_,_,_,_,rfl,(hS.sel [0]),h⟩))))))
def yiU(g:Int)(g2:List E3)(x:List Int)(R:(List Int)→Int→Prop):Prop :=
ybV g g2 (fun r =>
((r=0 →
ycz g g2 (fun r2 =>
yiY x r2 (fun r3 =>
((r3=0 →
yi7 g g2 x (fun r4 =>
yi3 r4 (fun r5 =>
((r5=0 →
R r4 0) ∧
(¬(r5=0) →
R ([]) r5))))) ∧
(¬(r3=0) →
R ([]) r3))))) ∧
(¬(r=0) →
R ([]) r)))
theorem yjc{O:Nat→Prop}{w:World}{g g2 x Ag lg cg Ax lx cx}{R:(List Int)→Int→Prop}(h:yiU g g2 x R)(hO:∀ k,O k→k<w.heap.size)(hA0:(FP.sl c3 Ag lg cg g2).P O w)(hA1:(FP.sl cI Ax lx cx x).P O w) :
    Calls Tryz.prog 101 #[(.agg #[(ii g),(.slice Ag lg cg)]),(.slice Ax lx cx)] w fun e w'=>∃ r6 r7 Ar2 lr2 cr2,e = .returned (.tuple #[(.slice Ar2 lr2 cr2),(ii r7)])∧Sep w no O w' (rl [Res.own cI 3 Ar2 lr2 cr2 r6])∧R r6 r7:=by
  unfold yiU at h;have hS:Sep w no O w (rl [Res.ro (FP.sl c3 Ag lg cg g2),Res.ro (FP.sl cI Ax lx cx x)]):=Sep.startl hO [(FP.sl c3 Ag lg cg g2),(FP.sl cI Ax lx cx x)] ⟨hA0,hA1,trivial⟩;refine yal (l:=[(.agg #[(ii g),(.slice Ag lg cg)]),(.slice Ax lx cx)]) func101 rfl ntmps101 zY (zs (zn (ybm (v:=(.agg #[(ii g),(.slice Ag lg cg)])) rfl ?_)));intro g3 w2 hN;replace hS:Sep w no O w2 (stl _ 2 (Res.box 24 g3 [(ii g),(.slice Ag lg cg)])):=hS.new 2 rfl hN;clear hN;refine zb (zQ (.slice none 0 0) (zQ (ii 0) (yaa (yac (zs (zq (yao (vs:=[(ii g),(.slice Ag lg cg)]) rfl underlying24 rfl yak ⟨Row.cell (hS.bx 2 rfl) (i:=0) rfl,Row.cell (hS.bx 2 rfl) (i:=1) rfl,trivial⟩) (zn (yai rfl (am1 rfl) yjd ((yfm h (yaz _) (hS.rdr 0 rfl)).mono ?_)))))))));rintro _ w3 ⟨r,rfl,hC,h⟩;replace hS:=hS.pur hC.pure;clear hC;refine ⟨_,rfl,?_⟩;refine zb (zQ (ii r) (yaa (zs (zM (ii r) (zq zN (yaa ?_))))));by_cases hp:r=0
  · replace h:=h.1 hp;refine ze hp (yaf (yac (zs (zM (.slice Ax lx cx) (zq (yao (vs:=[(ii g),(.slice Ag lg cg)]) rfl underlying24 rfl yak ⟨Row.cell (hS.bx 2 rfl) (i:=0) rfl,Row.cell (hS.bx 2 rfl) (i:=1) rfl,trivial⟩) (zn (yai rfl (am1 rfl) yhI ((yez h (yaz _) (hS.rdr 0 rfl)).mono ?_))))))));rintro _ w4 ⟨r2,rfl,hC,h⟩;replace hS:=hS.pur hC.pure;clear hC;refine ⟨_,rfl,?_⟩;refine zb (zn (yai rfl (am2 rfl rfl) enter_139 ((yjb h (yaz _) (hS.rdr 1 rfl)).mono ?_)));rintro _ w5 ⟨r3,rfl,hC,h⟩;replace hS:=hS.pur hC.pure;clear hC;refine ⟨_,rfl,?_⟩;refine zb (zQ (ii r3) (yaa (zs (zM (ii r3) (zq zN (yaa ?_))))));by_cases hp2:r3=0
    · replace h:=h.1 hp2;refine ze hp2 (yaf (zs (zq (yao (vs:=[(ii g),(.slice Ag lg cg)]) rfl underlying24 rfl yak ⟨Row.cell (hS.bx 2 rfl) (i:=0) rfl,Row.cell (hS.bx 2 rfl) (i:=1) rfl,trivial⟩) (zM (.slice Ax lx cx) (zn (yai rfl (am2 rfl rfl) enter_140 ((pok_r16_Flow h (yaz _) (hS.rdr 0 rfl) (hS.rdr 1 rfl)).mono ?_)))))));rintro _ w6 ⟨r4,Ar,lr,cr,rfl,hC,h⟩;replace hS:=hS.call1 (hC.widen (ycv (yaP (fI .i64) _ _ _ _ _) ycH) hS.blt) 3 0 rfl;clear hC;refine ⟨_,rfl,?_⟩;refine zb (zQ (.slice Ar lr cr) (yaa (yac (zs (zM (.slice Ar lr cr) (zn (yai rfl (am1 rfl) enter_141 ((pok_r16_large h (yaz _) (hS.rdo 3 rfl)).mono ?_))))))));rintro _ w7 ⟨r5,rfl,hC,h⟩;replace hS:=hS.pur hC.pure;clear hC;refine ⟨_,rfl,?_⟩;refine zb (zQ (ii r5) (yaa (zs (zM (ii r5) (zq zN (yaa ?_))))));by_cases hp3:r5=0
      · replace h:=h.1 hp3;exact ze hp3 (yaf (zs (zM (.slice Ar lr cr) (zQ (.slice Ar lr cr) (zQ (ii 0) (yaa (ya7 rfl rfl rfl ⟨_,_,_,_,_,rfl,(hS.sel [3]),h⟩)))))))
      · replace h:=h.2 hp3;refine zf hp3 (zs (zM (ii r5) (zQ (.slice none 0 0) (zQ (ii r5) (yaa ?_)))));replace hS:=hS.nil 4 rfl cI 3;exact ya7 rfl rfl rfl ⟨_,_,_,_,_,rfl,(hS.sel [4]),h⟩
    · replace h:=h.2 hp2;refine zf hp2 (zs (zM (ii r3) (zQ (.slice none 0 0) (zQ (ii r3) (yaa ?_)))));replace hS:=hS.nil 3 rfl cI 3;exact ya7 rfl rfl rfl ⟨_,_,_,_,_,rfl,(hS.sel [3]),h⟩
  · replace h:=h.2 hp;refine zf hp (zs (zM (ii r) (zQ (.slice none 0 0) (zQ (ii r) (yaa ?_)))));replace hS:=hS.nil 3 rfl cI 3;exact ya7 rfl rfl rfl ⟨_,_,_,_,_,rfl,(hS.sel [3]),h⟩
def yi1(x:List Int)(y:List Int)(R:Int→Prop):Prop :=
(∃ I2:Nat→Int→Int→Prop,(∃ m0,I2 m0 0 0)∧∀ m2 sum i,I2 m2 sum i → 
((i<(x.length:Int) →
((0≤i∧i<(x.length:Int)) ∧
((0≤i∧i<(y.length:Int)) ∧
∃ m3,m3<m2∧I2 m3 (IntKind.i64.wrap (sum+(IntKind.i64.wrap ((gi x i.toNat)*(gi y i.toNat))))) (IntKind.i64.wrap (i+1))))) ∧
(¬(i<(x.length:Int)) →
R sum)))
theorem yjk{O:Nat→Prop}{w:World}{x y Ax lx cx Ay ly cy}{R:Int→Prop}(h:yi1 x y R)(hO:∀ k,O k→k<w.heap.size)(hA0:(FP.sl cI Ax lx cx x).P O w)(hA1:(FP.sl cI Ay ly cy y).P O w) :
    Calls Tryz.prog 27 #[(.slice Ax lx cx),(.slice Ay ly cy)] w fun e w'=>∃ r,e = .returned (ii r)∧Sep w no O w' (rl [])∧R r:=by
  unfold yi1 at h;have hS:Sep w no O w (rl [Res.ro (FP.sl cI Ax lx cx x),Res.ro (FP.sl cI Ay ly cy y)]):=Sep.startl hO [(FP.sl cI Ax lx cx x),(FP.sl cI Ay ly cy y)] ⟨hA0,hA1,trivial⟩;refine yal (l:=[(.slice Ax lx cx),(.slice Ay ly cy)]) func27 rfl ntmps27 zY (zs (zQ (ii 0) (yaa (zs (zQ (ii 0) (yaa (yac (zs (zQ (ii 0) (yaa (yad ?_)))))))))));obtain ⟨I2,⟨m0,h0⟩,hr⟩:=h;refine yax (fun m E ds w'=>∃ sum i,I2 m sum i∧ds=[]∧E 0=(Value.slice Ax lx cx)∧E 1=(Value.slice Ay ly cy)∧E 5=(ii sum)∧E 6=(ii i)∧Sep w no O w' (rl [Res.ro (FP.sl cI Ax lx cx x),Res.ro (FP.sl cI Ay ly cy y)])) m0 ⟨_,_,h0,rfl,rfl,rfl,rfl,rfl,(hS.sel [0,1])⟩ ?_;clear h0 hS;rintro m2 E ds w2 ⟨sum,i,h,rfl,H0,H1,H5,H6,hS⟩ ag;replace h:=hr m2 sum i h;clear hr;refine yac (zs (zq (yab H6) (zq (yab H0) (zq (yaG (n:=x.length) rfl underlying35 (yaD (hS.rdr 0 rfl))) (zq zL (yaa ?_))))));by_cases hp:i<(x.length:Int)
  · replace h:=h.1 hp;refine zc hp (yaf (yac (yad (ybq [0,1,2,3,4,5,6,7,8,9,10,11] st0 yaC (by kernel_rfl) (by kernel_rfl) ?_))));replace hS:=hS.drew;refine zp (yab H5) (zp (yab H0) (zp (yab H6) ?_));obtain ⟨hx,h⟩:=h;refine zp (zi underlying35 yag (yaB (hS.rdr 0 rfl) hx)) (zp (yar (v:=(ii (gi x i.toNat))) rfl underlying3 rfl (rd_1 (hS.rdr 0 rfl) hx (fun q=>yaF q) rfl)) ?_);refine zp (yab H1) (zp (yab H6) ?_);obtain ⟨hx2,h⟩:=h;refine zp (zi underlying35 yag (yaB (hS.rdr 1 rfl) hx2)) (zp (yar (v:=(ii (gi y i.toNat))) rfl underlying3 rfl (rd_1 (hS.rdr 1 rfl) hx2 (fun q=>yaF q) rfl)) ?_);refine zp (v_mulw rfl rfl) (zp (v_addw rfl rfl) (zp (za (ii (IntKind.i64.wrap (sum+(IntKind.i64.wrap ((gi x i.toNat)*(gi y i.toNat))))))) (ybH (yae (zr (zq (yab H6) (zq (v_addw rfl rfl) (zQ (ii (IntKind.i64.wrap (i+1))) (yaa ?_)))))))));obtain ⟨mq,hlt,h⟩:=h;exact ag mq _ _ _ ⟨_,_,h,rfl,H0,H1,rfl,rfl,(hS.sel [0,1])⟩ hlt
  · replace h:=h.2 hp;exact zd hp (yas rfl (zs (zq (yab H5) (zQ (ii sum) (yaa (yah rfl rfl ⟨_,rfl,(hS.sel []),h⟩))))))
def ye6(a:List Int)(b:List Int)(R:Bool→Prop):Prop :=
ydk a b (fun r =>
R r)
theorem yi9{O:Nat→Prop}{w:World}{a b Aa la ca Ab lb cb}{R:Bool→Prop}(h:ye6 a b R)(hO:∀ k,O k→k<w.heap.size)(hA0:(FP.sl cI Aa la ca a).P O w)(hA1:(FP.sl cI Ab lb cb b).P O w) :
    Calls Tryz.prog 19 #[(.slice Aa la ca),(.slice Ab lb cb)] w fun e w'=>∃ r2,e = .returned (.bool (r2))∧Sep w no O w' (rl [])∧R r2:=by
  unfold ye6 at h;have hS:Sep w no O w (rl [Res.ro (FP.sl cI Aa la ca a),Res.ro (FP.sl cI Ab lb cb b)]):=Sep.startl hO [(FP.sl cI Aa la ca a),(FP.sl cI Ab lb cb b)] ⟨hA0,hA1,trivial⟩;refine yal (l:=[(.slice Aa la ca),(.slice Ab lb cb)]) func19 rfl ntmps19 zY (zs (zQ (.bool (false)) (yaa (zs (zM (.slice Aa la ca) (zM (.slice Ab lb cb) (zn (yai rfl (am2 rfl rfl) enter_55 ((yhx h (yaz _) (hS.rdr 0 rfl) (hS.rdr 1 rfl)).mono ?_)))))))));rintro _ w2 ⟨r,rfl,hC,h⟩;replace hS:=hS.pur hC.pure;clear hC;refine ⟨_,rfl,?_⟩;exact zb (zQ (.bool (r)) (yaa (yah rfl rfl ⟨_,rfl,(hS.sel []),h⟩)))
def ya0(a:List (List Int))(b:List (List Int))(R:Bool→Prop):Prop :=
(((a.length:Int)=(b.length:Int) →
(∃ I2:Nat→Int→Prop,(∃ m0,I2 m0 0)∧∀ m2 i,I2 m2 i → 
((i<(a.length:Int) →
((0≤i∧i<(a.length:Int)) ∧
((0≤i∧i<(b.length:Int)) ∧
ye6 (gx a i.toNat) (gx b i.toNat) (fun r =>
((r=true →
(In64 (i+1) ∧
∃ m3,m3<m2∧I2 m3 (i+1))) ∧
(¬(r=true) →
R false)))))) ∧
(¬(i<(a.length:Int)) →
R true)))) ∧
(¬((a.length:Int)=(b.length:Int)) →
R false))
theorem yb2{O:Nat→Prop}{w:World}{a b Aa la ca Ab lb cb}{R:Bool→Prop}(h:ya0 a b R)(hO:∀ k,O k→k<w.heap.size)(hA0:(FP.sl (cL cI) Aa la ca a).P O w)(hA1:(FP.sl (cL cI) Ab lb cb b).P O w) :
    Calls Tryz.prog 14 #[(.slice Aa la ca),(.slice Ab lb cb)] w fun e w'=>∃ r2,e = .returned (.bool (r2))∧Sep w no O w' (rl [])∧R r2:=by
  unfold ya0 at h;have hS:Sep w no O w (rl [Res.ro (FP.sl (cL cI) Aa la ca a),Res.ro (FP.sl (cL cI) Ab lb cb b)]):=Sep.startl hO [(FP.sl (cL cI) Aa la ca a),(FP.sl (cL cI) Ab lb cb b)] ⟨hA0,hA1,trivial⟩;refine yal (l:=[(.slice Aa la ca),(.slice Ab lb cb)]) func14 rfl ntmps14 zY (zs (zQ (.bool (false)) (yaa (yac (zs (zM (.slice Aa la ca) (zq (yaG (n:=a.length) rfl underlying27 (yaD (hS.rdr 0 rfl))) (zM (.slice Ab lb cb) (zq (yaG (n:=b.length) rfl underlying27 (yaD (hS.rdr 1 rfl))) (zq zN (yaa ?_)))))))))));by_cases hp:(a.length:Int)=(b.length:Int)
  · replace h:=h.1 hp;refine ze hp (yaf (yac (zs (zQ (ii 0) (yaa (yad ?_))))));obtain ⟨I2,⟨m0,h0⟩,hr⟩:=h;refine yax (fun m E ds w'=>∃ i,I2 m i∧ds=[]∧E 0=(Value.slice Aa la ca)∧E 1=(Value.slice Ab lb cb)∧E 5=(ii i)∧Sep w no O w' (rl [Res.ro (FP.sl (cL cI) Aa la ca a),Res.ro (FP.sl (cL cI) Ab lb cb b)])) m0 ⟨_,h0,rfl,rfl,rfl,rfl,(hS.sel [0,1])⟩ ?_;clear h0 hS;rintro m2 E ds w2 ⟨i,h,rfl,H0,H1,H5,hS⟩ ag;replace h:=hr m2 i h;clear hr;refine yac (zs (zq (yab H5) (zq (yab H0) (zq (yaG (n:=a.length) rfl underlying27 (yaD (hS.rdr 0 rfl))) (zq zL (yaa ?_))))));by_cases hp2:i<(a.length:Int)
    · replace h:=h.1 hp2;refine zc hp2 (yaf (yac (yad (yac (ybq [0,1,2,3,4,5,6,7,8,9] st0 yaC (by kernel_rfl) (by kernel_rfl) ?_)))));replace hS:=hS.drew;refine zp (yab H0) (zp (yab H5) ?_);obtain ⟨hx,h⟩:=h;refine zp (zi underlying27 yaJ (yaB (hS.rdr 0 rfl) hx)) ?_;obtain ⟨A,l,c,hc,hq⟩:=hS.el 0 rfl hx 2 3 rfl rfl (by decide);replace hS:=hq;clear hq;refine zp (yar (v:=(.slice A l c)) rfl underlying35 rfl (hS.clr 3 rfl)) (zp (yab H1) (zp (yab H5) ?_));obtain ⟨hx2,h⟩:=h;refine zp (zi underlying27 yaJ (yaB (hS.rdr 1 rfl) hx2)) ?_;obtain ⟨A2,l2,c4,hc2,hq⟩:=hS.el 1 rfl hx2 4 5 rfl rfl (by decide);replace hS:=hq;clear hq;refine zp (yar (v:=(.slice A2 l2 c4)) rfl underlying35 rfl (hS.clr 5 rfl)) (rp_n rfl rfl rfl rfl (yai rfl (am2 rfl rfl) enter_19 ((yi9 h (yaz _) (hS.rdr 2 rfl) (hS.rdr 4 rfl)).mono ?_)));rintro _ w3 ⟨r,rfl,hC,h⟩;replace hS:=hS.pur hC.pure;clear hC;refine ⟨_,rfl,?_⟩;refine zb (zp (yds rfl) (ybH ?_));by_cases hp3:r=true
      · replace h:=h.1 hp3;refine yav (zC (zB hp3)) (yaf (yae (zr (zq (yab H5) ?_))));obtain ⟨hi,h⟩:=h;refine zq (zA hi) (zQ (ii (i+1)) (yaa ?_));obtain ⟨mq,hlt,h⟩:=h;exact ag mq _ _ _ ⟨_,h,rfl,H0,H1,rfl,(hS.sel [0,1])⟩ hlt
      · replace h:=h.2 hp3;exact yaq (zC (zB (zI hp3))) (zs (zQ (.bool (false)) (yaa (yah rfl rfl ⟨_,rfl,(hS.sel []),h⟩))))
    · replace h:=h.2 hp2;exact zd hp2 (yas rfl (zs (zQ (.bool (true)) (yaa (yah rfl rfl ⟨_,rfl,(hS.sel []),h⟩)))))
  · replace h:=h.2 hp;exact zf hp (zs (zQ (.bool (false)) (yaa (yah rfl rfl ⟨_,rfl,(hS.sel []),h⟩))))
def yeq(g:Int)(g2:List E3)(R:Int→Prop):Prop :=
ydb g g2 (fun r =>
((r=0 →
ycz g g2 (fun r2 =>
((14<r2 →
R 12) ∧
(¬(14<r2) →
R 0)))) ∧
(¬(r=0) →
R r)))
theorem pok_r49_given{O:Nat→Prop}{w:World}{g g2 Ag lg cg}{R:Int→Prop}(h:yeq g g2 R)(hO:∀ k,O k→k<w.heap.size)(hA0:(FP.sl c3 Ag lg cg g2).P O w) :
    Calls Tryz.prog 41 #[(.agg #[(ii g),(.slice Ag lg cg)])] w fun e w'=>∃ r3,e = .returned (ii r3)∧Sep w no O w' (rl [])∧R r3:=by
  unfold yeq at h;have hS:Sep w no O w (rl [Res.ro (FP.sl c3 Ag lg cg g2)]):=Sep.startl hO [(FP.sl c3 Ag lg cg g2)] ⟨hA0,trivial⟩;refine yal (l:=[(.agg #[(ii g),(.slice Ag lg cg)])]) func41 rfl ntmps41 zY (zs (zn (ybm (v:=(.agg #[(ii g),(.slice Ag lg cg)])) rfl ?_)));intro g3 w2 hN;replace hS:Sep w no O w2 (stl _ 1 (Res.box 24 g3 [(ii g),(.slice Ag lg cg)])):=hS.new 1 rfl hN;clear hN;refine zb (zQ (ii 0) (yaa (yac (zs (zq (yao (vs:=[(ii g),(.slice Ag lg cg)]) rfl underlying24 rfl yak ⟨Row.cell (hS.bx 1 rfl) (i:=0) rfl,Row.cell (hS.bx 1 rfl) (i:=1) rfl,trivial⟩) (zn (yai rfl (am1 rfl) enter_33 ((ygn h (yaz _) (hS.rdr 0 rfl)).mono ?_))))))));rintro _ w3 ⟨r,rfl,hC,h⟩;replace hS:=hS.pur hC.pure;clear hC;refine ⟨_,rfl,?_⟩;refine zb (zQ (ii r) (yaa (zs (zM (ii r) (zq zN (yaa ?_))))));by_cases hp:r=0
  · replace h:=h.1 hp;refine ze hp (yaf (yac (zs (zq (yao (vs:=[(ii g),(.slice Ag lg cg)]) rfl underlying24 rfl yak ⟨Row.cell (hS.bx 1 rfl) (i:=0) rfl,Row.cell (hS.bx 1 rfl) (i:=1) rfl,trivial⟩) (zn (yai rfl (am1 rfl) yhI ((yez h (yaz _) (hS.rdr 0 rfl)).mono ?_)))))));rintro _ w4 ⟨r2,rfl,hC,h⟩;replace hS:=hS.pur hC.pure;clear hC;refine ⟨_,rfl,?_⟩;refine zb (zq zG (yaa ?_));by_cases hp2:14<r2
    · replace h:=h.1 hp2;exact zc hp2 (zs (zQ (ii 12) (yaa (yah rfl rfl ⟨_,rfl,(hS.sel []),h⟩))))
    · replace h:=h.2 hp2;exact zd hp2 (yaf (zs (zQ (ii 0) (yaa (yah rfl rfl ⟨_,rfl,(hS.sel []),h⟩)))))
  · replace h:=h.2 hp;exact zf hp (zs (zM (ii r) (zQ (ii r) (yaa (yah rfl rfl ⟨_,rfl,(hS.sel []),h⟩)))))
def ycR(l:List (List Int))(R:(List (List Int))→Prop):Prop :=
(0+l.length≤1000000000 ∧
(∃ I2:Nat→Int→(List (List Int))→Prop,(∃ m0,I2 m0 0 ([]++l))∧∀ m2 i out,I2 m2 i out → 
((i<(out.length:Int) →
(In64 (i+1) ∧
(∃ I3:Nat→Int→(List (List Int))→Prop,(∃ m0,I3 m0 (i+1) out)∧∀ m3 k out2,I3 m3 k out2 → 
((k<(out2.length:Int) →
((0≤k∧k<(out2.length:Int)) ∧
((0≤i∧i<(out2.length:Int)) ∧
yd5 (gx out2 k.toNat) (gx out2 i.toNat) (fun r =>
((r=true →
((0≤k∧k<(((out2.set i.toNat (gx out2 k.toNat)).length:Nat):Int)) ∧
(In64 (k+1) ∧
∃ m4,m4<m3∧I3 m4 (k+1) ((out2.set i.toNat (gx out2 k.toNat)).set k.toNat (gx out2 i.toNat))))) ∧
(¬(r=true) →
(In64 (k+1) ∧
∃ m5,m5<m3∧I3 m5 (k+1) out2))))))) ∧
(¬(k<(out2.length:Int)) →
∃ m6,m6<m2∧I2 m6 (i+1) out2))))) ∧
(¬(i<(out.length:Int)) →
R out))))
theorem yfF{O:Nat→Prop}{w:World}{l Al ll cl}{R:(List (List Int))→Prop}(h:ycR l R)(hO:∀ k,O k→k<w.heap.size)(hA0:(FP.sl (cL cI) Al ll cl l).P O w) :
    Calls Tryz.prog 83 #[(.slice Al ll cl)] w fun e w'=>∃ r2 Ar lr cr,e = .returned (.slice Ar lr cr)∧Sep w no O w' (rl [Res.own (cL cI) 35 Ar lr cr r2])∧R r2:=by
  unfold ycR at h;have hS:Sep w no O w (rl [Res.ro (FP.sl (cL cI) Al ll cl l)]):=Sep.startl hO [(FP.sl (cL cI) Al ll cl l)] ⟨hA0,trivial⟩;refine yal (l:=[(.slice Al ll cl)]) func83 rfl ntmps83 zY (zs (zQ (.slice none 0 0) (yaa (zs (zn (yaK (l:=[]) (cells:=[]) (bp0) underlying27 yaJ rfl rfl ?_))))));intro g w2 hN;replace hS:=hS.lit (n:=0) (c:=(cL cI)) 1 rfl hN ([]:List (List Int)) rfl (by decide) rfl;clear hN;refine zb (zM (.slice Al ll cl) ?_);obtain ⟨hx,h⟩:=h;refine zn (yfv (c:=(cL cI)) rfl rfl underlying27 underlying27 yaJ rfl rfl (by decide) hS 1 rfl (hS.yr 0 rfl) hx ?_);clear hS;intro A c w3 hS;refine zb (zQ (.slice A (0+ll) c) (yaa (yac (zs (zQ (ii 0) (yaa (yad ?_)))))));obtain ⟨I2,⟨m0,h0⟩,hr⟩:=h;refine yax (fun m E ds w'=>∃ i out,I2 m i out∧ds=[]∧E 3=(Value.slice A (0+ll) c)∧E 4=(ii i)∧Sep w no O w' (rl [Res.own (cL cI) 35 A (0+ll) c out])) m0 ⟨_,_,h0,rfl,rfl,rfl,(hS.sel [1])⟩ ?_;clear h0 hS;rintro m2 E ds w4 ⟨i,out,h,rfl,H3,H4,hS⟩ ag;replace h:=hr m2 i out h;clear hr;refine yac (zs (zq (yab H4) (zq (yab H3) (zq (yaG (n:=out.length) rfl underlying27 (yaD (hS.rdo 0 rfl))) (zq zL (yaa ?_))))));by_cases hp:i<(out.length:Int)
  · replace h:=h.1 hp;refine zc hp (yaf (yac (yad (zs (zq (yab H4) ?_)))));obtain ⟨hi,h⟩:=h;refine zq (zA hi) (zQ (ii (i+1)) (yaa (yad ?_)));obtain ⟨I3,⟨m0,h0⟩,hr⟩:=h;refine yax (fun m E ds w'=>∃ k out2,I3 m k out2∧ds=[]∧E 3=(Value.slice A (0+ll) c)∧E 4=(ii i)∧E 5=(ii k)∧Sep w no O w' (rl [Res.own (cL cI) 35 A (0+ll) c out2])) m0 ⟨_,_,h0,rfl,H3,H4,rfl,(hS.sel [0])⟩ ?_;clear h0 hS;rintro m3 E ds w5 ⟨k,out2,h,rfl,H3,H4,H5,hS⟩ again2;replace h:=hr m3 k out2 h;clear hr;refine yac (zs (zq (yab H5) (zq (yab H3) (zq (yaG (n:=out2.length) rfl underlying27 (yaD (hS.rdo 0 rfl))) (zq zL (yaa ?_))))));by_cases hp2:k<(out2.length:Int)
    · replace h:=h.1 hp2;refine zc hp2 (yaf (yac (yad (yac (ybq [0,1,2,3,4,5,6,7,8] st0 yaC (by kernel_rfl) (by kernel_rfl) ?_)))));replace hS:=hS.drew;refine zp (yab H3) (zp (yab H5) ?_);obtain ⟨hx2,h⟩:=h;refine zp (zi underlying27 yaJ (yaB (hS.rdo 0 rfl) hx2)) ?_;obtain ⟨A2,l2,c4,hc,hq⟩:=hS.elo 0 rfl hx2 1 rfl;replace hS:=hq;clear hq;refine zp (yar (v:=(.slice A2 l2 c4)) rfl underlying35 rfl hc) (zp (yab H3) (zp (yab H4) ?_));obtain ⟨hx3,h⟩:=h;refine zp (zi underlying27 yaJ (yaB (hS.rdo 0 rfl) hx3)) ?_;obtain ⟨A3,l3,c5,hc2,hq⟩:=hS.elo 0 rfl hx3 2 rfl;replace hS:=hq;clear hq;refine zp (yar (v:=(.slice A3 l3 c5)) rfl underlying35 rfl hc2) (rp_n rfl rfl rfl rfl (yai rfl (am2 rfl rfl) enter_115 ((pok_r10_Before h (yaz _) (hS.rdr 1 rfl) (hS.rdr 2 rfl)).mono ?_)));rintro _ w6 ⟨r,rfl,hC,h⟩;replace hS:=hS.pur hC.pure;clear hC;refine ⟨_,rfl,?_⟩;refine zb (ybH ?_);by_cases hp3:r=true
      · replace h:=h.1 hp3;refine yaq (zC hp3) (ybq [0,1,2,3,4,5,6,7,8,9,10,11,12,13,14,15] (fun i=>match i with | 13=>[2,3] | _=>[]) yaC (by kernel_rfl) (by kernel_rfl) ?_);replace hS:=hS.drew;refine zp (yab H3) (zp (yab H4) (zp (yab H3) (zp (yab H5) (zp (yab H3) (zp (yab H5) (zp (zi underlying27 yaJ (yaB (hS.rdo 0 rfl) hx2)) ?_))))));obtain ⟨A4,l4,c6,hc3,hq⟩:=hS.elo 0 rfl hx2 3 rfl;replace hS:=hq;clear hq;refine zp (yar (v:=(.slice A4 l4 c6)) rfl underlying35 rfl hc3) (zp (yab H3) (zp (yab H4) (zp (zi underlying27 yaJ (yaB (hS.rdo 0 rfl) hx3)) ?_)));obtain ⟨A5,l5,c7,hc4,hq⟩:=hS.elo 0 rfl hx3 4 rfl;replace hS:=hq;clear hq;refine zp (yar (v:=(.slice A5 l5 c7)) rfl underlying35 rfl hc4) (zp (zi underlying27 yaJ (yaB (hS.rdo 0 rfl) hx3)) (rp_n0 rfl rfl rfl (zt (.slice A4 l4 c6) yaJ (hS.wr 0 rfl rfl hx3) ?_)));intro w7 e1;replace hS:=hS.st 0 rfl rfl hx3 (x:=(gx out2 k.toNat)) (ro_R (hS.ro 3 rfl)) e1;clear e1;refine ⟨⟨fun hh=>zZ hh,⟨fun hh=>zZ hh,⟨fun hh=>zZ hh,⟨fun hh=>zZ hh,⟨fun hh=>zZ hh,⟨fun hh=>zZ hh,⟨fun hh=>zZ hh,⟨fun hh=>zZ hh,⟨fun hh=>zZ hh,⟨fun _=>(yab H5),⟨fun _=>(yab H3),⟨fun hh=>zZ hh,⟨fun hh=>zZ hh,trivial⟩⟩⟩⟩⟩⟩⟩⟩⟩⟩⟩⟩⟩,?_⟩;obtain ⟨hx4,h⟩:=h;refine zp (zi underlying27 yaJ (yaB (hS.rdo 0 rfl) hx4)) (rp_n0 rfl rfl rfl (zt (.slice A5 l5 c7) yaJ (hS.wr 0 rfl rfl hx4) ?_));intro w8 e1;replace hS:=hS.st 0 rfl rfl hx4 (x:=(gx out2 i.toNat)) (ro_R (hS.ro 4 rfl)) e1;clear e1;refine zb (ybH (yae (zr (zq (yab H5) ?_))));obtain ⟨hi2,h⟩:=h;refine zq (zA hi2) (zQ (ii (k+1)) (yaa ?_));obtain ⟨mq,hlt,h⟩:=h;exact again2 mq _ _ _ ⟨_,_,h,rfl,H3,H4,rfl,(hS.sel [0])⟩ hlt
      · replace h:=h.2 hp3;refine yav (zC (zI hp3)) (yaf (yae (zr (zq (yab H5) ?_))));obtain ⟨hi3,h⟩:=h;refine zq (zA hi3) (zQ (ii (k+1)) (yaa ?_));obtain ⟨mq,hlt,h⟩:=h;exact again2 mq _ _ _ ⟨_,_,h,rfl,H3,H4,rfl,(hS.sel [0])⟩ hlt
    · replace h:=h.2 hp2;refine zd hp2 (yas rfl (yae (zr (zq (yab H4) (zq (zA hi) (zQ (ii (i+1)) (yaa ?_)))))));obtain ⟨mq,hlt,h⟩:=h;exact ag mq _ _ _ ⟨_,_,h,rfl,H3,rfl,(hS.sel [0])⟩ hlt
  · replace h:=h.2 hp;exact zd hp (yas rfl (zs (zq (yab H3) (zQ (.slice A (0+ll) c) (yaa (yah rfl rfl ⟨_,_,_,_,rfl,(hS.sel [0]),h⟩))))))
def yiZ(m2:Int)(R:(List E3)→Prop):Prop :=
((m2=0 →
R ([])) ∧
(¬(m2=0) →
R ([(0,0,m2)])))
theorem pok_r49_loops{O:Nat→Prop}{w:World}{m2}{R:(List E3)→Prop}(h:yiZ m2 R)(hO:∀ k,O k→k<w.heap.size) :
    Calls Tryz.prog 102 #[(ii m2)] w fun e w'=>∃ r Ar lr cr,e = .returned (.slice Ar lr cr)∧Sep w no O w' (rl [Res.own c3 93 Ar lr cr r])∧R r:=by
  unfold yiZ at h;have hS:Sep w no O w (rl []):=Sep.start w hO;refine yal (l:=[(ii m2)]) func102 rfl ntmps102 zY (zs (zQ (.slice none 0 0) (yaa (yac (zs (zM (ii m2) (zq zE (yaa ?_))))))));by_cases hp:m2=0
  · replace h:=h.1 hp;refine zc hp (zs (zQ (.slice none 0 0) (yaa ?_)));replace hS:=hS.nil 0 rfl c3 93;exact yah rfl rfl ⟨_,_,_,_,rfl,(hS.sel [0]),h⟩
  · replace h:=h.2 hp;refine zd hp (yaf (zs (zM (ii m2) (zn (ycw (l:=[(2,(ii m2))]) (cells:=[(ii 0),(ii 0),(ii m2)]) (places:=[(0,1),(1,1),(2,1)]) (bp1 rfl) underlying93 yaT (by kernel_rfl) rfl ?_)))));refine zb (zn (yaK (l:=[(0,(.agg #[(ii 0),(ii 0),(ii m2)]))]) (cells:=[(ii 0),(ii 0),(ii m2)]) (bp1 rfl) underlying22 yaT rfl rfl ?_));intro g w2 hN;replace hS:=hS.litf (n:=1) 0 rfl (fP (fI .i64) (fP (fI .i64) (fI .i64))) hN ([(0,0,m2)]:List E3) rfl (by decide) rfl;clear hN;exact zb (zQ (.slice (some ⟨g,0,none⟩) 1 1) (yaa (yah rfl rfl ⟨_,_,_,_,rfl,(hS.sel [0]),h⟩)))
def yiV(g:Int)(g2:List E3)(x:List Int)(R:Int→Prop):Prop :=
yeq g g2 (fun r =>
((r=0 →
ycz g g2 (fun r2 =>
yiZ r2 (fun r3 =>
yiU 1 r3 x (fun r4 r5 =>
R r5)))) ∧
(¬(r=0) →
R r)))
theorem yi6{O:Nat→Prop}{w:World}{g g2 x Ag lg cg Ax lx cx}{R:Int→Prop}(h:yiV g g2 x R)(hO:∀ k,O k→k<w.heap.size)(hA0:(FP.sl c3 Ag lg cg g2).P O w)(hA1:(FP.sl cI Ax lx cx x).P O w) :
    Calls Tryz.prog 51 #[(.agg #[(ii g),(.slice Ag lg cg)]),(.slice Ax lx cx)] w fun e w'=>∃ r6,e = .returned (ii r6)∧Sep w no O w' (rl [])∧R r6:=by
  unfold yiV at h;have hS:Sep w no O w (rl [Res.ro (FP.sl c3 Ag lg cg g2),Res.ro (FP.sl cI Ax lx cx x)]):=Sep.startl hO [(FP.sl c3 Ag lg cg g2),(FP.sl cI Ax lx cx x)] ⟨hA0,hA1,trivial⟩;refine yal (l:=[(.agg #[(ii g),(.slice Ag lg cg)]),(.slice Ax lx cx)]) func51 rfl ntmps51 zY (zs (zn (ybm (v:=(.agg #[(ii g),(.slice Ag lg cg)])) rfl ?_)));intro g3 w2 hN;replace hS:Sep w no O w2 (stl _ 2 (Res.box 24 g3 [(ii g),(.slice Ag lg cg)])):=hS.new 2 rfl hN;clear hN;refine zb (zQ (ii 0) (yaa (yac (zs (zq (yao (vs:=[(ii g),(.slice Ag lg cg)]) rfl underlying24 rfl yak ⟨Row.cell (hS.bx 2 rfl) (i:=0) rfl,Row.cell (hS.bx 2 rfl) (i:=1) rfl,trivial⟩) (zn (yai rfl (am1 rfl) enter_41 ((pok_r49_given h (yaz _) (hS.rdr 0 rfl)).mono ?_))))))));rintro _ w3 ⟨r,rfl,hC,h⟩;replace hS:=hS.pur hC.pure;clear hC;refine ⟨_,rfl,?_⟩;refine zb (zQ (ii r) (yaa (zs (zM (ii r) (zq zN (yaa ?_))))));by_cases hp:r=0
  · replace h:=h.1 hp;refine ze hp (yaf (zs (zq (yao (vs:=[(ii g),(.slice Ag lg cg)]) rfl underlying24 rfl yak ⟨Row.cell (hS.bx 2 rfl) (i:=0) rfl,Row.cell (hS.bx 2 rfl) (i:=1) rfl,trivial⟩) (zn (yai rfl (am1 rfl) yhI ((yez h (yaz _) (hS.rdr 0 rfl)).mono ?_))))));rintro _ w4 ⟨r2,rfl,hC,h⟩;replace hS:=hS.pur hC.pure;clear hC;refine ⟨_,rfl,?_⟩;refine zb (zn (yai rfl (am1 rfl) enter_102 ((pok_r49_loops h (yaz _)).mono ?_)));rintro _ w5 ⟨r3,Ar,lr,cr,rfl,hC,h⟩;replace hS:=hS.call1 (hC.widen (ycv (yaP (fP (fI .i64) (fP (fI .i64) (fI .i64))) _ _ _ _ _) ycH) hS.blt) 3 0 rfl;clear hC;refine ⟨_,rfl,?_⟩;refine zb (zn (ycw (l:=[(0,(ii 1)),(1,(.slice Ar lr cr))]) (cells:=[(ii 1),(.slice Ar lr cr)]) (places:=[(0,1),(1,1)]) (bp2 rfl rfl) underlying24 yak (by kernel_rfl) rfl ?_));refine zb (zM (.slice Ax lx cx) (zn (yai rfl (am2 rfl rfl) enter_101 ((yjc h (yaz _) (hS.rdo 3 rfl) (hS.rdr 1 rfl)).mono ?_))));rintro _ w6 ⟨r4,r5,Ar2,lr2,cr2,rfl,hC,h⟩;replace hS:=hS.call1 (hC.widen (ycv (yaP (fI .i64) _ _ _ _ _) ycH) hS.blt) 4 0 rfl;clear hC;refine ⟨_,rfl,?_⟩;exact zb (zM (.tuple #[(.slice Ar2 lr2 cr2),(ii r5)]) (zq (zx (.slice Ar2 lr2 cr2)) (zq (zx (ii r5)) (zQ (.slice Ar2 lr2 cr2) (zQ (ii r5) (yaa (zs (zM (ii r5) (zQ (ii r5) (yaa (yah rfl rfl ⟨_,rfl,(hS.sel []),h⟩)))))))))))
  · replace h:=h.2 hp;exact zf hp (zs (zM (ii r) (zQ (ii r) (yaa (yah rfl rfl ⟨_,rfl,(hS.sel []),h⟩)))))
def yiX(x:List Int)(y:List Int)(R:(List Int)→Prop):Prop :=
(∃ I2:Nat→(List Int)→Int→Prop,(∃ m0,I2 m0 ([]) 0)∧∀ m2 out e2,I2 m2 out e2 → 
((e2<(x.length:Int) →
((0≤e2∧e2<(x.length:Int)) ∧
((0≤e2∧e2<(y.length:Int)) ∧
(In64 ((gi x e2.toNat)-(gi y e2.toNat)) ∧
(out.length+1≤1000000000 ∧
(In64 (e2+1) ∧
∃ m3,m3<m2∧I2 m3 (out++[(gi x e2.toNat)-(gi y e2.toNat)]) (e2+1))))))) ∧
(¬(e2<(x.length:Int)) →
R out)))
theorem pok_r49_Less{O:Nat→Prop}{w:World}{x y Ax lx cx Ay ly cy}{R:(List Int)→Prop}(h:yiX x y R)(hO:∀ k,O k→k<w.heap.size)(hA0:(FP.sl cI Ax lx cx x).P O w)(hA1:(FP.sl cI Ay ly cy y).P O w) :
    Calls Tryz.prog 28 #[(.slice Ax lx cx),(.slice Ay ly cy)] w fun e w'=>∃ r Ar lr cr,e = .returned (.slice Ar lr cr)∧Sep w no O w' (rl [Res.own cI 3 Ar lr cr r])∧R r:=by
  unfold yiX at h;have hS:Sep w no O w (rl [Res.ro (FP.sl cI Ax lx cx x),Res.ro (FP.sl cI Ay ly cy y)]):=Sep.startl hO [(FP.sl cI Ax lx cx x),(FP.sl cI Ay ly cy y)] ⟨hA0,hA1,trivial⟩;refine yal (l:=[(.slice Ax lx cx),(.slice Ay ly cy)]) func28 rfl ntmps28 zY (zs (zQ (.slice none 0 0) (yaa (zs (zQ (.slice none 0 0) (yaa (yac (zs (zQ (ii 0) (yaa (yad ?_)))))))))));replace hS:=hS.nil 2 rfl cI 3;obtain ⟨I2,⟨m0,h0⟩,hr⟩:=h;refine yax (fun m E ds w'=>∃ out e2 Aa Ab Ac,I2 m out e2∧ds=[]∧E 0=(Value.slice Ax lx cx)∧E 1=(Value.slice Ay ly cy)∧E 5=(Value.slice Aa Ab Ac)∧E 6=(ii e2)∧Sep w no O w' (rl [Res.own cI 3 Aa Ab Ac out,Res.ro (FP.sl cI Ax lx cx x),Res.ro (FP.sl cI Ay ly cy y)])) m0 ⟨_,_,_,_,_,h0,rfl,rfl,rfl,rfl,rfl,(hS.sel [2,0,1])⟩ ?_;clear h0 hS;rintro m2 E ds w2 ⟨out,e2,Aa,Ab,Ac,h,rfl,H0,H1,H5,H6,hS⟩ ag;replace h:=hr m2 out e2 h;clear hr;refine yac (zs (zq (yab H6) (zq (yab H0) (zq (yaG (n:=x.length) rfl underlying35 (yaD (hS.rdr 1 rfl))) (zq zL (yaa ?_))))));by_cases hp:e2<(x.length:Int)
  · replace h:=h.1 hp;refine zc hp (yaf (yac (yad (ybq [0,1,2,3,4,5,6,7,8,9,10,11,12] (fun i=>match i with | 10=>[0] | _=>[]) yaC (by kernel_rfl) (by kernel_rfl) ?_))));replace hS:=hS.drew;refine zp (yab H5) (zp (yab H0) (zp (yab H6) ?_));obtain ⟨hx,h⟩:=h;refine zp (zi underlying35 yag (yaB (hS.rdr 1 rfl) hx)) (zp (yar (v:=(ii (gi x e2.toNat))) rfl underlying3 rfl (rd_1 (hS.rdr 1 rfl) hx (fun q=>yaF q) rfl)) ?_);refine zp (yab H1) (zp (yab H6) ?_);obtain ⟨hx2,h⟩:=h;refine zp (zi underlying35 yag (yaB (hS.rdr 2 rfl) hx2)) (zp (yar (v:=(ii (gi y e2.toNat))) rfl underlying3 rfl (rd_1 (hS.rdr 2 rfl) hx2 (fun q=>yaF q) rfl)) ?_);obtain ⟨hi,h⟩:=h;refine zp (zS hi) (rp_n rfl rfl rfl rfl (yaK (l:=[(0,(ii ((gi x e2.toNat)-(gi y e2.toNat))))]) (cells:=[(ii ((gi x e2.toNat)-(gi y e2.toNat)))]) (bp1 rfl) underlying35 yag rfl rfl ?_));intro g w3 hN;replace hS:=hS.litf (n:=1) 3 rfl (fI .i64) hN ([(gi x e2.toNat)-(gi y e2.toNat)]:List Int) rfl (by decide) rfl;clear hN;refine ⟨⟨fun hh=>zZ hh,⟨fun hh=>zZ hh,⟨fun hh=>zZ hh,⟨fun hh=>zZ hh,⟨fun hh=>zZ hh,⟨fun hh=>zZ hh,⟨fun hh=>zZ hh,⟨fun hh=>zZ hh,⟨fun hh=>zZ hh,⟨fun _=>(yab H5),trivial⟩⟩⟩⟩⟩⟩⟩⟩⟩⟩,?_⟩;obtain ⟨hx3,h⟩:=h;refine rp_n rfl rfl rfl rfl (yfv (c:=cI) rfl rfl underlying35 underlying35 yag rfl rfl (by decide) hS 0 rfl (hS.yo 3 rfl) hx3 ?_);clear hS;intro A c w4 hS;refine zb (zp (za (.slice A (Ab+1) c)) (ybH (yae (zr (zq (yab H6) ?_)))));obtain ⟨hi2,h⟩:=h;refine zq (zA hi2) (zQ (ii (e2+1)) (yaa ?_));obtain ⟨mq,hlt,h⟩:=h;exact ag mq _ _ _ ⟨_,_,_,_,_,h,rfl,H0,H1,rfl,rfl,(hS.sel [0,1,2])⟩ hlt
  · replace h:=h.2 hp;exact zd hp (yas rfl (zs (zq (yab H5) (zQ (.slice Aa Ab Ac) (yaa (yah rfl rfl ⟨_,_,_,_,rfl,(hS.sel [0]),h⟩))))))
def yju(n:Int)(R:Int→Prop):Prop :=
(∃ I2:Nat→Int→Prop,(∃ m0,I2 m0 0)∧∀ m2 k,I2 m2 k → 
(In64 (k+1) ∧
(In64 ((k+1)*(k+1)) ∧
((((k+1)*(k+1))≤n →
∃ m3,m3<m2∧I2 m3 (k+1)) ∧
(¬(((k+1)*(k+1))≤n) →
R k)))))
theorem yjP{O:Nat→Prop}{w:World}{n}{R:Int→Prop}(h:yju n R)(hO:∀ k,O k→k<w.heap.size) :
    Calls Tryz.prog 56 #[(ii n)] w fun e w'=>∃ r,e = .returned (ii r)∧Sep w no O w' (rl [])∧R r:=by
  unfold yju at h;have hS:Sep w no O w (rl []):=Sep.start w hO;refine yal (l:=[(ii n)]) func56 rfl ntmps56 zY (zs (zQ (ii 0) (yaa (zs (zQ (ii 0) (yaa (yac (yad ?_))))))));obtain ⟨I2,⟨m0,h0⟩,hr⟩:=h;refine yax (fun m E ds w'=>∃ k,I2 m k∧ds=[]∧E 0=(ii n)∧E 3=(ii k)∧Sep w no O w' (rl [])) m0 ⟨_,h0,rfl,rfl,rfl,(hS.sel [])⟩ ?_;clear h0 hS;rintro m2 E ds w2 ⟨k,h,rfl,H0,H3,hS⟩ ag;replace h:=hr m2 k h;clear hr;refine yac (zs (zq (yab H3) ?_));obtain ⟨hi,h⟩:=h;refine zq (zA hi) (zq (yab H3) (zq (zA hi) ?_));obtain ⟨hi3,h⟩:=h;refine zq (v_mul rfl rfl hi3) (zq (yab H0) (zq (v_leq rfl rfl) (yaa ?_)));by_cases hp:((k+1)*(k+1))≤n
  · replace h:=h.1 hp;refine zc hp (yaf (yad (zr (zq (yab H3) (zq (zA hi) (zQ (ii (k+1)) (yaa (yae ?_))))))));obtain ⟨mq,hlt,h⟩:=h;exact ag mq _ _ _ ⟨_,h,rfl,H0,rfl,(hS.sel [])⟩ hlt
  · replace h:=h.2 hp;exact zd hp (yas rfl (zs (zq (yab H3) (zQ (ii k) (yaa (yah rfl rfl ⟨_,rfl,(hS.sel []),h⟩))))))
def yjt(d:Int)(d2:List E3)(i:List Int)(a:Int)(R:(List (List Int))→Prop):Prop :=
yjr d d2 (fun r =>
yjn d d2 (fun r2 =>
(∃ I2:Nat→(List Int)→Int→Prop,(∃ m0,I2 m0 ([]) 0)∧∀ m2 v v2,I2 m2 v v2 → 
((v2<(i.length:Int) →
yev r v2 (fun r3 =>
((r3=true →
(In64 (v2+1) ∧
∃ m3,m3<m2∧I2 m3 v (v2+1))) ∧
(¬(r3=true) →
(v.length+1≤1000000000 ∧
(In64 (v2+1) ∧
∃ m4,m4<m2∧I2 m4 (v++[v2]) (v2+1))))))) ∧
(¬(v2<(i.length:Int)) →
((0≤(i.length:Int)∧(i.length:Int)≤1000000) ∧
(∃ I3:Nat→(List (List Int))→Int→Prop,(∃ m0,I3 m0 ([(List.replicate (i.length:Int).toNat (0:Int))]) 0)∧∀ m5 v3 v4,I3 m5 v3 v4 → 
((v4<(r2.length:Int) →
(∃ I4:Nat→(List (List Int))→Int→Prop,(∃ m0,I4 m0 ([]) 0)∧∀ m6 v5 v6,I4 m6 v5 v6 → 
((v6<(v3.length:Int) →
((0≤v4∧v4<(v.length:Int)) ∧
((0≤(gi v v4.toNat)∧(gi v v4.toNat)<(i.length:Int)) ∧
(In64 ((gi i (gi v v4.toNat).toNat)-a) ∧
(∃ I5:Nat→(List (List Int))→Int→Prop,(∃ m0,I5 m0 v5 ((gi i (gi v v4.toNat).toNat)-a))∧∀ m7 v7 v8,I5 m7 v7 v8 → 
(In64 ((gi i (gi v v4.toNat).toNat)+a) ∧
((v8≤((gi i (gi v v4.toNat).toNat)+a) →
((0≤v6∧v6<(v3.length:Int)) ∧
(0+(gx v3 v6.toNat).length≤1000000000 ∧
(∃ I6:Nat→Int→(List Int)→Prop,(∃ m0,I6 m0 0 ([]++(gx v3 v6.toNat)))∧∀ m8 v9 v10,I6 m8 v9 v10 → 
((v9<(v10.length:Int) →
((0≤v9∧v9<(v10.length:Int)) ∧
((0≤v4∧v4<(r2.length:Int)) ∧
((0≤v9∧v9<((gx r2 v4.toNat).length:Int)) ∧
(In64 (v8*(gi (gx r2 v4.toNat) v9.toNat)) ∧
(In64 ((gi v10 v9.toNat)+(v8*(gi (gx r2 v4.toNat) v9.toNat))) ∧
(In64 (v9+1) ∧
∃ m9,m9<m8∧I6 m9 (v9+1) (v10.set v9.toNat ((gi v10 v9.toNat)+(v8*(gi (gx r2 v4.toNat) v9.toNat))))))))))) ∧
(¬(v9<(v10.length:Int)) →
(v7.length+1≤1000000000 ∧
(In64 (v8+1) ∧
∃ m10,m10<m7∧I5 m10 (v7++[v10]) (v8+1))))))))) ∧
(¬(v8≤((gi i (gi v v4.toNat).toNat)+a)) →
(In64 (v6+1) ∧
∃ m11,m11<m6∧I4 m11 v7 (v6+1)))))))))) ∧
(¬(v6<(v3.length:Int)) →
(In64 (v4+1) ∧
∃ m12,m12<m5∧I3 m12 v5 (v4+1)))))) ∧
(¬(v4<(r2.length:Int)) →
R v3)))))))))
theorem pok_r49_Around{O:Nat→Prop}{w:World}{d d2 i a Ad ld cd Ai li ci}{R:(List (List Int))→Prop}(h:yjt d d2 i a R)(hO:∀ k,O k→k<w.heap.size)(hA0:(FP.sl c3 Ad ld cd d2).P O w)(hA1:(FP.sl cI Ai li ci i).P O w) :
    Calls Tryz.prog 106 #[(.agg #[(ii d),(.slice Ad ld cd)]),(.slice Ai li ci),(ii a)] w fun e w'=>∃ r4 Ar3 lr3 cr3,e = .returned (.slice Ar3 lr3 cr3)∧Sep w no O w' (rl [Res.own (cL cI) 35 Ar3 lr3 cr3 r4])∧R r4:=by
  unfold yjt at h;have hS:Sep w no O w (rl [Res.ro (FP.sl c3 Ad ld cd d2),Res.ro (FP.sl cI Ai li ci i)]):=Sep.startl hO [(FP.sl c3 Ad ld cd d2),(FP.sl cI Ai li ci i)] ⟨hA0,hA1,trivial⟩;refine yal (l:=[(.agg #[(ii d),(.slice Ad ld cd)]),(.slice Ai li ci),(ii a)]) func106 rfl ntmps106 zY (zs (zn (ybm (v:=(.agg #[(ii d),(.slice Ad ld cd)])) rfl ?_)));intro g w2 hN;replace hS:Sep w no O w2 (stl _ 2 (Res.box 24 g [(ii d),(.slice Ad ld cd)])):=hS.new 2 rfl hN;clear hN;refine zb (zQ (.slice none 0 0) (yaa (yac (ybq [0,2,1,3,4,5] (fun i=>match i with | 1=>[2] | _=>[]) yaC (by kernel_rfl) (by kernel_rfl) ?_))));replace hS:=hS.drew;refine zp (yao (vs:=[(ii d),(.slice Ad ld cd)]) rfl underlying24 rfl yak ⟨Row.cell (hS.bx 2 rfl) (i:=0) rfl,Row.cell (hS.bx 2 rfl) (i:=1) rfl,trivial⟩) (zp (yao (vs:=[(ii d),(.slice Ad ld cd)]) rfl underlying24 rfl yak ⟨Row.cell (hS.bx 2 rfl) (i:=0) rfl,Row.cell (hS.bx 2 rfl) (i:=1) rfl,trivial⟩) (rp_n rfl rfl rfl rfl (yai rfl (am1 rfl) enter_143 ((yjH h (yaz _) (hS.rdr 0 rfl)).mono ?_))));rintro _ w3 ⟨r,Ar,lr,cr,rfl,hC,h⟩;replace hS:=hS.call1 (hC.widen (ycv (yaP (fI .i64) _ _ _ _ _) ycH) hS.blt) 3 0 rfl;clear hC;refine ⟨_,rfl,?_⟩;refine ⟨⟨fun _=>(yao (vs:=[(ii d),(.slice Ad ld cd)]) rfl underlying24 rfl yak ⟨Row.cell (hS.bx 2 rfl) (i:=0) rfl,Row.cell (hS.bx 2 rfl) (i:=1) rfl,trivial⟩),⟨fun hh=>zZ hh,trivial⟩⟩,?_⟩;refine rp_n rfl rfl rfl rfl (yai rfl (am1 rfl) enter_144 ((yjG h hS.blt (hS.ro 0 rfl)).mono ?_));rintro _ w4 ⟨r2,Ar2,lr2,cr2,rfl,hC,h⟩;replace hS:=hS.call1 hC 4 0 rfl;clear hC;refine ⟨_,rfl,?_⟩;refine zb (zp (za (.slice Ar lr cr)) (zp (za (.slice Ar2 lr2 cr2)) (ybH (zs (zQ (.slice none 0 0) (yaa (yac (zs (zQ (ii 0) (yaa (yad ?_)))))))))));replace hS:=hS.nil 5 rfl cI 3;obtain ⟨I2,⟨m0,h0⟩,hr⟩:=h;refine yax (fun m E ds w'=>∃ v v2 Av lv cv,I2 m v v2∧ds=[]∧E 1=(Value.slice Ai li ci)∧E 2=(ii a)∧E 7=(Value.slice Ar lr cr)∧E 8=(Value.slice Ar2 lr2 cr2)∧E 9=(Value.slice Av lv cv)∧E 10=(ii v2)∧Sep w no O w' (rl [Res.own cI 3 Av lv cv v,Res.ro (FP.sl cI Ai li ci i),Res.own cI 3 Ar lr cr r,Res.own (cL cI) 35 Ar2 lr2 cr2 r2])) m0 ⟨_,_,_,_,_,h0,rfl,rfl,rfl,rfl,rfl,rfl,rfl,(hS.sel [5,1,3,4])⟩ ?_;clear h0 hS;rintro m2 E ds w5 ⟨v,v2,Av,lv,cv,h,rfl,H1,H2,H7,H8,H9,H10,hS⟩ ag;replace h:=hr m2 v v2 h;clear hr;refine yac (zs (zq (yab H10) (zq (yab H1) (zq (yaG (n:=i.length) rfl underlying35 (yaD (hS.rdr 1 rfl))) (zq zL (yaa ?_))))));by_cases hp:v2<(i.length:Int)
  · replace h:=h.1 hp;refine zc hp (yaf (yac (yad (zs (zq (yab H7) (zq (yab H10) (zn (yai rfl (am2 rfl rfl) enter_145 ((yjE h (yaz _) (hS.rdo 2 rfl)).mono ?_)))))))));rintro _ w6 ⟨r3,rfl,hC,h⟩;replace hS:=hS.pur hC.pure;clear hC;refine ⟨_,rfl,?_⟩;refine zb (zq (yds rfl) (yaa ?_));by_cases hp2:r3=true
    · replace h:=h.1 hp2;refine yav (zC (zB hp2)) (yaf (yae (zr (zq (yab H10) ?_))));obtain ⟨hi,h⟩:=h;refine zq (zA hi) (zQ (ii (v2+1)) (yaa ?_));obtain ⟨mq,hlt,h⟩:=h;exact ag mq _ _ _ ⟨_,_,_,_,_,h,rfl,H1,H2,H7,H8,H9,rfl,(hS.sel [0,1,2,3])⟩ hlt
    · replace h:=h.2 hp2;refine yaq (zC (zB (zI hp2))) (zr (zq (yab H9) (zq (yab H10) (zn (yaK (l:=[(0,(ii v2))]) (cells:=[(ii v2)]) (bp1 rfl) underlying35 yag rfl rfl ?_)))));intro g2 w7 hN;replace hS:=hS.litf (n:=1) 4 rfl (fI .i64) hN ([v2]:List Int) rfl (by decide) rfl;clear hN;refine zb ?_;obtain ⟨hx,h⟩:=h;refine zn (yfv (c:=cI) rfl rfl underlying35 underlying35 yag rfl rfl (by decide) hS 0 rfl (hS.yo 4 rfl) hx ?_);clear hS;intro A c w8 hS;refine zb (zQ (.slice A (lv+1) c) (yaa (yae (zr (zq (yab H10) ?_)))));obtain ⟨hi2,h⟩:=h;refine zq (zA hi2) (zQ (ii (v2+1)) (yaa ?_));obtain ⟨mq,hlt,h⟩:=h;exact ag mq _ _ _ ⟨_,_,_,_,_,h,rfl,H1,H2,H7,H8,rfl,rfl,(hS.sel [0,1,2,3])⟩ hlt
  · replace h:=h.2 hp;refine zd hp (yas rfl (zs (zq (yab H1) (zq (yaG (n:=i.length) rfl underlying35 (yaD (hS.rdr 1 rfl))) ?_))));obtain ⟨hx2,h⟩:=h;refine zn (yeX rfl rfl underlying35 yag (by decide) rfl hx2 ?_);intro g3 w9 hN;replace hS:=hS.made 4 rfl cI (ii 0) (0:Int) (fun _ _=>rfl) hN (by omega);clear hN;refine zb ?_;replace hS:=hS.frz 4 rfl;refine zn (yaK (l:=[(0,(.slice (some ⟨g3,0,none⟩) ((i.length:Int).toNat) ((i.length:Int).toNat)))]) (cells:=[(.slice (some ⟨g3,0,none⟩) ((i.length:Int).toNat) ((i.length:Int).toNat))]) (bp1 rfl) underlying27 yaJ rfl rfl ?_);intro g4 w10 hN;replace hS:=hS.lit (n:=1) (c:=(cL cI)) 5 rfl hN ([(List.replicate (i.length:Int).toNat (0:Int))]:List (List Int)) rfl (by decide) ⟨[(.slice (some ⟨g3,0,none⟩) ((i.length:Int).toNat) ((i.length:Int).toNat))],_,rfl,(ro_R (hS.ro 4 rfl)),rfl⟩;clear hN;refine zb (zQ (.slice (some ⟨g4,0,none⟩) 1 1) (yaa (yac (zs (zQ (ii 0) (yaa (yad ?_)))))));obtain ⟨I3,⟨m0,h0⟩,hr⟩:=h;refine yax (fun m E ds w'=>∃ v3 v4 Av2 lv2 cv2,I3 m v3 v4∧ds=[]∧E 1=(Value.slice Ai li ci)∧E 2=(ii a)∧E 8=(Value.slice Ar2 lr2 cr2)∧E 9=(Value.slice Av lv cv)∧E 11=(Value.slice Av2 lv2 cv2)∧E 12=(ii v4)∧Sep w no O w' (rl [Res.own (cL cI) 35 Av2 lv2 cv2 v3,Res.ro (FP.sl cI Ai li ci i),Res.own (cL cI) 35 Ar2 lr2 cr2 r2,Res.own cI 3 Av lv cv v])) m0 ⟨_,_,_,_,_,h0,rfl,H1,H2,H8,H9,rfl,rfl,(hS.sel [5,1,3,0])⟩ ?_;clear h0 hS;rintro m5 E ds w11 ⟨v3,v4,Av2,lv2,cv2,h,rfl,H1,H2,H8,H9,H11,H12,hS⟩ again2;replace h:=hr m5 v3 v4 h;clear hr;refine yac (zs (zq (yab H12) (zq (yab H8) (zq (yaG (n:=r2.length) rfl underlying27 (yaD (hS.rdo 2 rfl))) (zq zL (yaa ?_))))));by_cases hp3:v4<(r2.length:Int)
    · replace h:=h.1 hp3;refine zc hp3 (yaf (yac (yad (zs (zQ (.slice none 0 0) (yaa (yac (zs (zQ (ii 0) (yaa (yad ?_)))))))))));replace hS:=hS.nil 4 rfl (cL cI) 35;obtain ⟨I4,⟨m0,h0⟩,hr⟩:=h;refine yax (fun m E ds w'=>∃ v5 v6 Av3 lv3 cv3,I4 m v5 v6∧ds=[]∧E 1=(Value.slice Ai li ci)∧E 2=(ii a)∧E 8=(Value.slice Ar2 lr2 cr2)∧E 9=(Value.slice Av lv cv)∧E 11=(Value.slice Av2 lv2 cv2)∧E 12=(ii v4)∧E 13=(Value.slice Av3 lv3 cv3)∧E 14=(ii v6)∧Sep w no O w' (rl [Res.own (cL cI) 35 Av3 lv3 cv3 v5,Res.ro (FP.sl cI Ai li ci i),Res.own (cL cI) 35 Ar2 lr2 cr2 r2,Res.own cI 3 Av lv cv v,Res.own (cL cI) 35 Av2 lv2 cv2 v3])) m0 ⟨_,_,_,_,_,h0,rfl,H1,H2,H8,H9,H11,H12,rfl,rfl,(hS.sel [4,1,2,3,0])⟩ ?_;clear h0 hS;rintro m6 E ds w12 ⟨v5,v6,Av3,lv3,cv3,h,rfl,H1,H2,H8,H9,H11,H12,H13,H14,hS⟩ again3;replace h:=hr m6 v5 v6 h;clear hr;refine yac (zs (zq (yab H14) (zq (yab H11) (zq (yaG (n:=v3.length) rfl underlying27 (yaD (hS.rdo 4 rfl))) (zq zL (yaa ?_))))));by_cases hp4:v6<(v3.length:Int)
      · replace h:=h.1 hp4;refine zc hp4 (yaf (yac (yad (zs (zq (yab H1) (zq (yab H9) (zq (yab H12) ?_)))))));obtain ⟨hx3,h⟩:=h;refine zq (zi underlying35 yag (yaB (hS.rdo 3 rfl) hx3)) (zq (yar (v:=(ii (gi v v4.toNat))) rfl underlying3 rfl (rd_1 (hS.rdo 3 rfl) hx3 (fun q=>yaF q) rfl)) ?_);obtain ⟨hx4,h⟩:=h;refine zq (zi underlying35 yag (yaB (hS.rdr 1 rfl) hx4)) (zq (yar (v:=(ii (gi i (gi v v4.toNat).toNat))) rfl underlying3 rfl (rd_1 (hS.rdr 1 rfl) hx4 (fun q=>yaF q) rfl)) ?_);refine zq (yab H2) ?_;obtain ⟨hi3,h⟩:=h;refine zq (zS hi3) (zQ (ii ((gi i (gi v v4.toNat).toNat)-a)) (yaa (yad ?_)));obtain ⟨I5,⟨m0,h0⟩,hr⟩:=h;refine yax (fun m E ds w'=>∃ v7 v8 Av4 lv4 cv4,I5 m v7 v8∧ds=[]∧E 1=(Value.slice Ai li ci)∧E 2=(ii a)∧E 8=(Value.slice Ar2 lr2 cr2)∧E 9=(Value.slice Av lv cv)∧E 11=(Value.slice Av2 lv2 cv2)∧E 12=(ii v4)∧E 13=(Value.slice Av4 lv4 cv4)∧E 14=(ii v6)∧E 15=(ii v8)∧Sep w no O w' (rl [Res.own (cL cI) 35 Av4 lv4 cv4 v7,Res.ro (FP.sl cI Ai li ci i),Res.own (cL cI) 35 Ar2 lr2 cr2 r2,Res.own cI 3 Av lv cv v,Res.own (cL cI) 35 Av2 lv2 cv2 v3])) m0 ⟨_,_,_,_,_,h0,rfl,H1,H2,H8,H9,H11,H12,H13,H14,rfl,(hS.sel [0,1,2,3,4])⟩ ?_;clear h0 hS;rintro m7 E ds w13 ⟨v7,v8,Av4,lv4,cv4,h,rfl,H1,H2,H8,H9,H11,H12,H13,H14,H15,hS⟩ again4;replace h:=hr m7 v7 v8 h;clear hr;refine yac (zs (zq (yab H15) (zq (yab H1) (zq (yab H9) (zq (yab H12) (zq (zi underlying35 yag (yaB (hS.rdo 3 rfl) hx3)) (zq (yar (v:=(ii (gi v v4.toNat))) rfl underlying3 rfl (rd_1 (hS.rdo 3 rfl) hx3 (fun q=>yaF q) rfl)) ?_)))))));refine zq (zi underlying35 yag (yaB (hS.rdr 1 rfl) hx4)) (zq (yar (v:=(ii (gi i (gi v v4.toNat).toNat))) rfl underlying3 rfl (rd_1 (hS.rdr 1 rfl) hx4 (fun q=>yaF q) rfl)) ?_);refine zq (yab H2) ?_;obtain ⟨hi4,h⟩:=h;refine zq (zA hi4) (zq (v_leq rfl rfl) (yaa ?_));by_cases hp5:v8≤((gi i (gi v v4.toNat).toNat)+a)
        · replace h:=h.1 hp5;refine zc hp5 (yaf (yac (yad (zs (zn (yaK (l:=[]) (cells:=[]) (bp0) underlying35 yag rfl rfl ?_))))));intro g5 w14 hN;replace hS:=hS.litf (n:=0) 5 rfl (fI .i64) hN ([]:List Int) rfl (by decide) rfl;clear hN;refine zb (zq (yab H11) (zq (yab H14) ?_));obtain ⟨hx5,h⟩:=h;refine zq (zi underlying27 yaJ (yaB (hS.rdo 4 rfl) hx5)) ?_;obtain ⟨A2,l,c4,hc,hq⟩:=hS.elo 4 rfl hx5 6 rfl;replace hS:=hq;clear hq;refine zq (yar (v:=(.slice A2 l c4)) rfl underlying35 rfl hc) ?_;obtain ⟨hx6,h⟩:=h;refine zn (yfv (c:=cI) rfl rfl underlying35 underlying35 yag rfl rfl (by decide) hS 5 rfl (hS.yr 6 rfl) hx6 ?_);clear hS;intro A3 c5 w15 hS;refine zb (zQ (.slice A3 (0+l) c5) (yaa (yac (zs (zQ (ii 0) (yaa (yad ?_)))))));obtain ⟨I6,⟨m0,h0⟩,hr⟩:=h;refine yax (fun m E ds w'=>∃ v9 v10,I6 m v9 v10∧ds=[]∧E 1=(Value.slice Ai li ci)∧E 2=(ii a)∧E 8=(Value.slice Ar2 lr2 cr2)∧E 9=(Value.slice Av lv cv)∧E 11=(Value.slice Av2 lv2 cv2)∧E 12=(ii v4)∧E 13=(Value.slice Av4 lv4 cv4)∧E 14=(ii v6)∧E 15=(ii v8)∧E 16=(Value.slice A3 (0+l) c5)∧E 17=(ii v9)∧Sep w no O w' (rl [Res.ro (FP.sl cI Ai li ci i),Res.own (cL cI) 35 Ar2 lr2 cr2 r2,Res.own cI 3 Av lv cv v,Res.own (cL cI) 35 Av2 lv2 cv2 v3,Res.own (cL cI) 35 Av4 lv4 cv4 v7,Res.own cI 3 A3 (0+l) c5 v10])) m0 ⟨_,_,h0,rfl,H1,H2,H8,H9,H11,H12,H13,H14,H15,rfl,rfl,(hS.sel [1,2,3,4,0,5])⟩ ?_;clear h0 hS;rintro m8 E ds w16 ⟨v9,v10,h,rfl,H1,H2,H8,H9,H11,H12,H13,H14,H15,H16,H17,hS⟩ again5;replace h:=hr m8 v9 v10 h;clear hr;refine yac (zs (zq (yab H17) (zq (yab H16) (zq (yaG (n:=v10.length) rfl underlying35 (yaD (hS.rdo 5 rfl))) (zq zL (yaa ?_))))));by_cases hp6:v9<(v10.length:Int)
          · replace h:=h.1 hp6;refine zc hp6 (yaf (yac (yad (ybq [0,1,2,3,4,5,6,7,8,9,10,11,12,13,14,15,16,17] st0 yaC (by kernel_rfl) (by kernel_rfl) ?_))));replace hS:=hS.drew;refine zp (yab H16) (zp (yab H17) (zp (yab H16) (zp (yab H17) ?_)));obtain ⟨hx7,h⟩:=h;refine zp (zi underlying35 yag (yaB (hS.rdo 5 rfl) hx7)) (zp (yar (v:=(ii (gi v10 v9.toNat))) rfl underlying3 rfl (rd_1 (hS.rdo 5 rfl) hx7 (fun q=>yaF q) rfl)) ?_);refine zp (yab H15) (zp (yab H8) (zp (yab H12) ?_));obtain ⟨hx8,h⟩:=h;refine zp (zi underlying27 yaJ (yaB (hS.rdo 1 rfl) hx8)) ?_;obtain ⟨A4,l2,c6,hc2,hq⟩:=hS.elo 1 rfl hx8 6 rfl;replace hS:=hq;clear hq;refine zp (yar (v:=(.slice A4 l2 c6)) rfl underlying35 rfl hc2) (zp (yab H17) ?_);obtain ⟨hx9,h⟩:=h;refine zp (zi underlying35 yag (yaB (hS.rdr 6 rfl) hx9)) (zp (yar (v:=(ii (gi (gx r2 v4.toNat) v9.toNat))) rfl underlying3 rfl (rd_1 (hS.rdr 6 rfl) hx9 (fun q=>yaF q) rfl)) ?_);obtain ⟨hi5,h⟩:=h;refine zp (v_mul rfl rfl hi5) ?_;obtain ⟨hi6,h⟩:=h;refine zp (zA hi6) (zp (zi underlying35 yag (yaB (hS.rdo 5 rfl) hx7)) (rp_n0 rfl rfl rfl (zt (ii ((gi v10 v9.toNat)+(v8*(gi (gx r2 v4.toNat) v9.toNat)))) yag (hS.wr 5 rfl rfl hx7) ?_)));intro w17 e1;replace hS:=hS.st 5 rfl rfl hx7 (x:=(gi v10 v9.toNat)+(v8*(gi (gx r2 v4.toNat) v9.toNat))) rfl e1;clear e1;refine zb (ybH (yae (zr (zq (yab H17) ?_))));obtain ⟨hi7,h⟩:=h;refine zq (zA hi7) (zQ (ii (v9+1)) (yaa ?_));obtain ⟨mq,hlt,h⟩:=h;exact again5 mq _ _ _ ⟨_,_,h,rfl,H1,H2,H8,H9,H11,H12,H13,H14,H15,H16,rfl,(hS.sel [0,1,2,3,4,5])⟩ hlt
          · replace h:=h.2 hp6;refine zd hp6 (yas rfl (zr (zq (yab H13) (zq (yab H16) ?_))));replace hS:=hS.frz 5 rfl;refine zn (yaK (l:=[(0,(.slice A3 (0+l) c5))]) (cells:=[(.slice A3 (0+l) c5)]) (bp1 rfl) underlying27 yaJ rfl rfl ?_);intro g6 w18 hN;replace hS:=hS.lit (n:=1) (c:=(cL cI)) 6 rfl hN ([v10]:List (List Int)) rfl (by decide) ⟨[(.slice A3 (0+l) c5)],_,rfl,(ro_R (hS.ro 5 rfl)),rfl⟩;clear hN;refine zb ?_;obtain ⟨hx10,h⟩:=h;refine zn (yfv (c:=(cL cI)) rfl rfl underlying27 underlying27 yaJ rfl rfl (by decide) hS 4 rfl (hS.yo 6 rfl) hx10 ?_);clear hS;intro A5 c7 w19 hS;refine zb (zQ (.slice A5 (lv4+1) c7) (yaa (yae (zr (zq (yab H15) ?_)))));obtain ⟨hi8,h⟩:=h;refine zq (zA hi8) (zQ (ii (v8+1)) (yaa ?_));obtain ⟨mq,hlt,h⟩:=h;exact again4 mq _ _ _ ⟨_,_,_,_,_,h,rfl,H1,H2,H8,H9,H11,H12,rfl,H14,rfl,(hS.sel [4,0,1,2,3])⟩ hlt
        · replace h:=h.2 hp5;refine zd hp5 (yas rfl (yae (zr (zq (yab H14) ?_))));obtain ⟨hi9,h⟩:=h;refine zq (zA hi9) (zQ (ii (v6+1)) (yaa ?_));obtain ⟨mq,hlt,h⟩:=h;exact again3 mq _ _ _ ⟨_,_,_,_,_,h,rfl,H1,H2,H8,H9,H11,H12,H13,rfl,(hS.sel [0,1,2,3,4])⟩ hlt
      · replace h:=h.2 hp4;refine zd hp4 (yas rfl (zr (zq (yab H13) (zQ (.slice Av3 lv3 cv3) (yaa (yae (zr (zq (yab H12) ?_))))))));obtain ⟨hi10,h⟩:=h;refine zq (zA hi10) (zQ (ii (v4+1)) (yaa ?_));obtain ⟨mq,hlt,h⟩:=h;exact again2 mq _ _ _ ⟨_,_,_,_,_,h,rfl,H1,H2,H8,H9,rfl,rfl,(hS.sel [0,1,2,3])⟩ hlt
    · replace h:=h.2 hp3;exact zd hp3 (yas rfl (zs (zq (yab H11) (zQ (.slice Av2 lv2 cv2) (yaa (yah rfl rfl ⟨_,_,_,_,rfl,(hS.sel [0]),h⟩))))))
def yjo(g:Int)(g2:List E3)(x:List Int)(R:(List (List Int))→Int→Prop):Prop :=
yi1 x x (fun r =>
yju r (fun r2 =>
yjt g g2 x r2 (fun r3 =>
(∃ I2:Nat→Int→(List (List Int))→Int→Prop,(∃ m0,I2 m0 r ([]) 0)∧∀ m2 best out i,I2 m2 best out i → 
((i<(r3.length:Int) →
((0≤i∧i<(r3.length:Int)) ∧
yiX x (gx r3 i.toNat) (fun r4 =>
yi1 r4 r4 (fun r5 =>
(∃ J2:Int→(List (List Int))→Prop,(∀ (best2:Int) (out2:List (List Int)),J2 best2 out2→((r5=best2 →
(out2.length+1≤1000000000 ∧
(In64 (i+1) ∧
∃ m3,m3<m2∧I2 m3 best2 (out2++[(gx r3 i.toNat)]) (i+1)))) ∧
(¬(r5=best2) →
(In64 (i+1) ∧
∃ m4,m4<m2∧I2 m4 best2 out2 (i+1))))) ∧
((r5<best →
J2 r5 ([])) ∧
(¬(r5<best) →
J2 best out))))))) ∧
(¬(i<(r3.length:Int)) →
ycR out (fun r6 =>
R r6 best)))))))
theorem yjT{O:Nat→Prop}{w:World}{g g2 x Ag lg cg Ax lx cx}{R:(List (List Int))→Int→Prop}(h:yjo g g2 x R)(hO:∀ k,O k→k<w.heap.size)(hA0:(FP.sl c3 Ag lg cg g2).P O w)(hA1:(FP.sl cI Ax lx cx x).P O w) :
    Calls Tryz.prog 62 #[(.agg #[(ii g),(.slice Ag lg cg)]),(.slice Ax lx cx)] w fun e w'=>∃ r7 r8 Ar4 lr4 cr4,e = .returned (.tuple #[(.slice Ar4 lr4 cr4),(ii r8)])∧Sep w no O w' (rl [Res.own (cL cI) 35 Ar4 lr4 cr4 r7])∧R r7 r8:=by
  unfold yjo at h;have hS:Sep w no O w (rl [Res.ro (FP.sl c3 Ag lg cg g2),Res.ro (FP.sl cI Ax lx cx x)]):=Sep.startl hO [(FP.sl c3 Ag lg cg g2),(FP.sl cI Ax lx cx x)] ⟨hA0,hA1,trivial⟩;refine yal (l:=[(.agg #[(ii g),(.slice Ag lg cg)]),(.slice Ax lx cx)]) func62 rfl ntmps62 zY (zs (zn (ybm (v:=(.agg #[(ii g),(.slice Ag lg cg)])) rfl ?_)));intro g3 w2 hN;replace hS:Sep w no O w2 (stl _ 2 (Res.box 24 g3 [(ii g),(.slice Ag lg cg)])):=hS.new 2 rfl hN;clear hN;refine zb (zQ (.slice none 0 0) (zQ (ii 0) (yaa (zs (zM (.slice Ax lx cx) (zM (.slice Ax lx cx) (zn (yai rfl (am2 rfl rfl) enter_27 ((yjk h (yaz _) (hS.rdr 1 rfl) (hS.rdr 1 rfl)).mono ?_)))))))));rintro _ w3 ⟨r,rfl,hC,h⟩;replace hS:=hS.pur hC.pure;clear hC;refine ⟨_,rfl,?_⟩;refine zb (zQ (ii r) (yaa (yac (ybq [0,1,2,3,4,5] (fun i=>match i with | 3=>[0,1] | _=>[]) yaC (by kernel_rfl) (by kernel_rfl) ?_))));replace hS:=hS.drew;refine zp (yao (vs:=[(ii g),(.slice Ag lg cg)]) rfl underlying24 rfl yak ⟨Row.cell (hS.bx 2 rfl) (i:=0) rfl,Row.cell (hS.bx 2 rfl) (i:=1) rfl,trivial⟩) (zp (zm (.slice Ax lx cx)) (zp (zm (ii r)) (rp_n rfl rfl rfl rfl (yai rfl (am1 rfl) enter_56 ((yjP h (yaz _)).mono ?_)))));rintro _ w4 ⟨r2,rfl,hC,h⟩;replace hS:=hS.pur hC.pure;clear hC;refine ⟨_,rfl,?_⟩;refine ⟨⟨fun hh=>zZ hh,⟨fun _=>(zm (.slice Ax lx cx)),⟨fun _=>(yao (vs:=[(ii g),(.slice Ag lg cg)]) rfl underlying24 rfl yak ⟨Row.cell (hS.bx 2 rfl) (i:=0) rfl,Row.cell (hS.bx 2 rfl) (i:=1) rfl,trivial⟩),trivial⟩⟩⟩,?_⟩;refine rp_n rfl rfl rfl rfl (yai rfl (am3 rfl rfl rfl) enter_106 ((pok_r49_Around h hS.blt (hS.ro 0 rfl) (hS.ro 1 rfl)).mono ?_));rintro _ w5 ⟨r3,Ar,lr,cr,rfl,hC,h⟩;replace hS:=hS.call1 hC 3 0 rfl;clear hC;refine ⟨_,rfl,?_⟩;refine zb (zp (za (.slice Ar lr cr)) (ybH (zs (zQ (.slice none 0 0) (yaa (yac (zs (zQ (ii 0) (yaa (yad ?_))))))))));replace hS:=hS.nil 4 rfl (cL cI) 35;obtain ⟨I2,⟨m0,h0⟩,hr⟩:=h;refine yax (fun m E ds w'=>∃ best out i Aa Ab Ac,I2 m best out i∧ds=[]∧E 1=(Value.slice Ax lx cx)∧E 6=(ii best)∧E 7=(Value.slice Ar lr cr)∧E 8=(Value.slice Aa Ab Ac)∧E 9=(ii i)∧Sep w no O w' (rl [Res.own (cL cI) 35 Aa Ab Ac out,Res.ro (FP.sl cI Ax lx cx x),Res.own (cL cI) 35 Ar lr cr r3])) m0 ⟨_,_,_,_,_,_,h0,rfl,rfl,rfl,rfl,rfl,rfl,(hS.sel [4,1,3])⟩ ?_;clear h0 hS;rintro m2 E ds w6 ⟨best,out,i,Aa,Ab,Ac,h,rfl,H1,H6,H7,H8,H9,hS⟩ ag;replace h:=hr m2 best out i h;clear hr;refine yac (zs (zq (yab H9) (zq (yab H7) (zq (yaG (n:=r3.length) rfl underlying27 (yaD (hS.rdo 2 rfl))) (zq zL (yaa ?_))))));by_cases hp:i<(r3.length:Int)
  · replace h:=h.1 hp;refine zc hp (yaf (yac (yad (zs (zq (yab H1) (zq (yab H7) (zq (yab H9) ?_)))))));obtain ⟨hx,h⟩:=h;refine zq (zi underlying27 yaJ (yaB (hS.rdo 2 rfl) hx)) ?_;obtain ⟨A,l,c,hc,hq⟩:=hS.elo 2 rfl hx 3 rfl;replace hS:=hq;clear hq;refine zq (yar (v:=(.slice A l c)) rfl underlying35 rfl hc) (zn (yai rfl (am2 rfl rfl) enter_28 ((pok_r49_Less h (yaz _) (hS.rdr 1 rfl) (hS.rdr 3 rfl)).mono ?_)));rintro _ w7 ⟨r4,Ar2,lr2,cr2,rfl,hC,h⟩;replace hS:=hS.call1 (hC.widen (ycv (yaP (fI .i64) _ _ _ _ _) ycH) hS.blt) 4 0 rfl;clear hC;refine ⟨_,rfl,?_⟩;refine zb (zQ (.slice Ar2 lr2 cr2) (yaa (zs (zM (.slice Ar2 lr2 cr2) (zM (.slice Ar2 lr2 cr2) (zn (yai rfl (am2 rfl rfl) enter_27 ((yjk h (yaz _) (hS.rdo 4 rfl) (hS.rdo 4 rfl)).mono ?_))))))));rintro _ w8 ⟨r5,rfl,hC,h⟩;replace hS:=hS.pur hC.pure;clear hC;refine ⟨_,rfl,?_⟩;refine zb (zQ (ii r5) (yaa (yac (zs (zM (ii r5) (zq (yab H6) (zq zL (yaa ?_))))))));obtain ⟨J2,hJ,h⟩:=h;refine wt_cutT0 (fun E ds w'=>∃ best2 out2 Ad Ae Af,J2 best2 out2∧ds=[]∧E 1=(Value.slice Ax lx cx)∧E 6=(ii best2)∧E 7=(Value.slice Ar lr cr)∧E 8=(Value.slice Ad Ae Af)∧E 9=(ii i)∧E 11=(ii r5)∧Sep w no O w' (rl [Res.own (cL cI) 35 Ad Ae Af out2,Res.ro (FP.sl cI Ax lx cx x),Res.own (cL cI) 35 Ar lr cr r3])) ?_ ?_
    · clear h hS;rintro E ds w9 ⟨best2,out2,Ad,Ae,Af,h,rfl,H1,H6,H7,H8,H9,H11,hS⟩;replace h:=hJ best2 out2 h;refine zs (zq (yab H11) (zq (yab H6) (zq zE (yaa ?_))));by_cases hp2:r5=best2
      · replace h:=h.1 hp2;refine zc hp2 (zr (zq (yab H8) (zq (yab H7) (zq (yab H9) (zq (zi underlying27 yaJ (yaB (hS.rdo 2 rfl) hx)) ?_)))));obtain ⟨A2,l2,c4,hc2,hq⟩:=hS.elo 2 rfl hx 3 rfl;replace hS:=hq;clear hq;refine zq (yar (v:=(.slice A2 l2 c4)) rfl underlying35 rfl hc2) (zn (yaK (l:=[(0,(.slice A2 l2 c4))]) (cells:=[(.slice A2 l2 c4)]) (bp1 rfl) underlying27 yaJ rfl rfl ?_));intro g4 w10 hN;replace hS:=hS.lit (n:=1) (c:=(cL cI)) 4 rfl hN ([(gx r3 i.toNat)]:List (List Int)) rfl (by decide) ⟨[(.slice A2 l2 c4)],_,rfl,(ro_R (hS.ro 3 rfl)),rfl⟩;clear hN;refine zb ?_;obtain ⟨hx2,h⟩:=h;refine zn (yfv (c:=(cL cI)) rfl rfl underlying27 underlying27 yaJ rfl rfl (by decide) hS 0 rfl (hS.yo 4 rfl) hx2 ?_);clear hS;intro A3 c5 w11 hS;refine zb (zQ (.slice A3 (Ae+1) c5) (yaa (yae (zr (zq (yab H9) ?_)))));obtain ⟨hi,h⟩:=h;refine zq (zA hi) (zQ (ii (i+1)) (yaa ?_));obtain ⟨mq,hlt,h⟩:=h;exact ag mq _ _ _ ⟨_,_,_,_,_,_,h,rfl,H1,H6,H7,rfl,rfl,(hS.sel [0,1,2])⟩ hlt
      · replace h:=h.2 hp2;refine zd hp2 (yaf (yae (zr (zq (yab H9) ?_))));obtain ⟨hi2,h⟩:=h;refine zq (zA hi2) (zQ (ii (i+1)) (yaa ?_));obtain ⟨mq,hlt,h⟩:=h;exact ag mq _ _ _ ⟨_,_,_,_,_,_,h,rfl,H1,H6,H7,H8,rfl,(hS.sel [0,1,2])⟩ hlt
    clear hJ;intro j;by_cases hp3:r5<best
    · replace h:=h.1 hp3;refine zc hp3 (zr (zM (ii r5) (zQ (ii r5) (zQ (.slice none 0 0) (yaa ?_)))));replace hS:=hS.nil 5 rfl (cL cI) 35;exact j _ _ _ ⟨_,_,_,_,_,h,rfl,H1,rfl,H7,rfl,H9,rfl,(hS.sel [5,1,2])⟩
    · replace h:=h.2 hp3;exact zd hp3 (yaf (j _ _ _ ⟨_,_,_,_,_,h,rfl,H1,H6,H7,H8,H9,rfl,(hS.sel [0,1,2])⟩))
  · replace h:=h.2 hp;refine zd hp (yas rfl (zs (zq (yab H8) ?_)));replace hS:=hS.frz 0 rfl;refine zn (yai rfl (am1 rfl) enter_83 ((yfF h hS.blt (hS.ro 0 rfl)).mono ?_));rintro _ w12 ⟨r6,Ar3,lr3,cr3,rfl,hC,h⟩;replace hS:=hS.call1 hC 3 0 rfl;clear hC;refine ⟨_,rfl,?_⟩;exact zb (zq (yab H6) (zQ (.slice Ar3 lr3 cr3) (zQ (ii best) (yaa (ya7 rfl rfl rfl ⟨_,_,_,_,_,rfl,(hS.sel [3]),h⟩)))))
def yjq(g:Int)(g2:List E3)(x:List Int)(R:(List (List Int))→Int→Int→Prop):Prop :=
yiV g g2 x (fun r =>
((r=0 →
yjs g g2 (fun r2 =>
((4<r2 →
R ([]) 0 12) ∧
(¬(4<r2) →
(∃ I2:Nat→Int→Prop,(∃ m0,I2 m0 0)∧∀ m2 e2,I2 m2 e2 → 
((e2<(x.length:Int) →
((0≤e2∧e2<(x.length:Int)) ∧
(((gi x e2.toNat)<(-9) →
R ([]) 0 12) ∧
(¬((gi x e2.toNat)<(-9)) →
((9<(gi x e2.toNat) →
R ([]) 0 12) ∧
(¬(9<(gi x e2.toNat)) →
(In64 (e2+1) ∧
∃ m3,m3<m2∧I2 m3 (e2+1)))))))) ∧
(¬(e2<(x.length:Int)) →
yjo g g2 x (fun r3 r4 =>
R r3 r4 0)))))))) ∧
(¬(r=0) →
R ([]) 0 r)))
theorem yjV{O:Nat→Prop}{w:World}{g g2 x Ag lg cg Ax lx cx}{R:(List (List Int))→Int→Int→Prop}(h:yjq g g2 x R)(hO:∀ k,O k→k<w.heap.size)(hA0:(FP.sl c3 Ag lg cg g2).P O w)(hA1:(FP.sl cI Ax lx cx x).P O w) :
    Calls Tryz.prog 22 #[(.agg #[(ii g),(.slice Ag lg cg)]),(.slice Ax lx cx)] w fun e w'=>∃ r5 r6 r7 Ar2 lr2 cr2,e = .returned (.tuple #[(.slice Ar2 lr2 cr2),(ii r6),(ii r7)])∧Sep w no O w' (rl [Res.own (cL cI) 35 Ar2 lr2 cr2 r5])∧R r5 r6 r7:=by
  unfold yjq at h;have hS:Sep w no O w (rl [Res.ro (FP.sl c3 Ag lg cg g2),Res.ro (FP.sl cI Ax lx cx x)]):=Sep.startl hO [(FP.sl c3 Ag lg cg g2),(FP.sl cI Ax lx cx x)] ⟨hA0,hA1,trivial⟩;refine yal (l:=[(.agg #[(ii g),(.slice Ag lg cg)]),(.slice Ax lx cx)]) func22 rfl ntmps22 zY (zs (zn (ybm (v:=(.agg #[(ii g),(.slice Ag lg cg)])) rfl ?_)));intro g3 w2 hN;replace hS:Sep w no O w2 (stl _ 2 (Res.box 24 g3 [(ii g),(.slice Ag lg cg)])):=hS.new 2 rfl hN;clear hN;refine zb (zQ (.slice none 0 0) (zQ (ii 0) (zQ (ii 0) (yaa (yac (zs (zq (yao (vs:=[(ii g),(.slice Ag lg cg)]) rfl underlying24 rfl yak ⟨Row.cell (hS.bx 2 rfl) (i:=0) rfl,Row.cell (hS.bx 2 rfl) (i:=1) rfl,trivial⟩) (zM (.slice Ax lx cx) (zn (yai rfl (am2 rfl rfl) enter_51 ((yi6 h (yaz _) (hS.rdr 0 rfl) (hS.rdr 1 rfl)).mono ?_)))))))))));rintro _ w3 ⟨r,rfl,hC,h⟩;replace hS:=hS.pur hC.pure;clear hC;refine ⟨_,rfl,?_⟩;refine zb (zQ (ii r) (yaa (zs (zM (ii r) (zq zN (yaa ?_))))));by_cases hp:r=0
  · replace h:=h.1 hp;refine ze hp (yaf (yac (zs (zq (yao (vs:=[(ii g),(.slice Ag lg cg)]) rfl underlying24 rfl yak ⟨Row.cell (hS.bx 2 rfl) (i:=0) rfl,Row.cell (hS.bx 2 rfl) (i:=1) rfl,trivial⟩) (zn (yai rfl (am1 rfl) enter_24 ((yjI h (yaz _) (hS.rdr 0 rfl)).mono ?_)))))));rintro _ w4 ⟨r2,rfl,hC,h⟩;replace hS:=hS.pur hC.pure;clear hC;refine ⟨_,rfl,?_⟩;refine zb (zq zG (yaa ?_));by_cases hp2:4<r2
    · replace h:=h.1 hp2;refine zc hp2 (zs (zQ (.slice none 0 0) (zQ (ii 0) (zQ (ii 12) (yaa ?_)))));replace hS:=hS.nil 3 rfl (cL cI) 35;exact yfh rfl rfl rfl rfl ⟨_,_,_,_,_,_,rfl,(hS.sel [3]),h⟩
    · replace h:=h.2 hp2;refine zd hp2 (yaf (yac (zs (zQ (ii 0) (yaa (yad ?_))))));obtain ⟨I2,⟨m0,h0⟩,hr⟩:=h;refine yax (fun m E ds w'=>∃ e2,I2 m e2∧ds=[]∧E 1=(Value.slice Ax lx cx)∧E 2=(Value.pointer (some ⟨g3,0,none⟩))∧E 8=(ii e2)∧Sep w no O w' (rl [Res.ro (FP.sl cI Ax lx cx x),Res.box 24 g3 [(ii g),(.slice Ag lg cg)],Res.ro (FP.sl c3 Ag lg cg g2)])) m0 ⟨_,h0,rfl,rfl,rfl,rfl,(hS.sel [1,2,0])⟩ ?_;clear h0 hS;rintro m2 E ds w5 ⟨e2,h,rfl,H1,H2,H8,hS⟩ ag;replace h:=hr m2 e2 h;clear hr;refine yac (zs (zq (yab H8) (zq (yab H1) (zq (yaG (n:=x.length) rfl underlying35 (yaD (hS.rdr 0 rfl))) (zq zL (yaa ?_))))));by_cases hp3:e2<(x.length:Int)
      · replace h:=h.1 hp3;refine zc hp3 (yaf (yac (yad (zs (zq (yab H1) (zq (yab H8) ?_))))));obtain ⟨hx,h⟩:=h;refine zq (zi underlying35 yag (yaB (hS.rdr 0 rfl) hx)) (zq (yar (v:=(ii (gi x e2.toNat))) rfl underlying3 rfl (rd_1 (hS.rdr 0 rfl) hx (fun q=>yaF q) rfl)) ?_);refine zq zL (zM (.bool (decide ((gi x e2.toNat)<(-9)))) ?_);by_cases hp4:(gi x e2.toNat)<(-9)
        · replace h:=h.1 hp4;refine zV rfl rfl (zT hp4) (zV rfl rfl (zT hp4) (zV rfl rfl (zT hp4) (zV rfl rfl (zT hp4) (zV rfl rfl (zT hp4) (zq (yan (v:=(.bool (true))) (zT hp4) rfl) (yaa (yaq rfl (zs (zQ (.slice none 0 0) (zQ (ii 0) (zQ (ii 12) (yaa ?_))))))))))));replace hS:=hS.nil 3 rfl (cL cI) 35;exact yfh rfl rfl rfl rfl ⟨_,_,_,_,_,_,rfl,(hS.sel [3]),h⟩
        · replace h:=h.2 hp4;refine zW rfl rfl (zF hp4) (yab H1) (zW rfl rfl (zF hp4) (yab H8) (zW rfl rfl (zF hp4) (zi underlying35 yag (yaB (hS.rdr 0 rfl) hx)) (zW rfl rfl (zF hp4) (yar (v:=(ii (gi x e2.toNat))) rfl underlying3 rfl (rd_1 (hS.rdr 0 rfl) hx (fun q=>yaF q) rfl)) ?_)));refine zW rfl rfl (zF hp4) zG (zq (yaj (v:=(.bool (decide (9<(gi x e2.toNat))))) (zF hp4) rfl) (yaa ?_));by_cases hp5:9<(gi x e2.toNat)
          · replace h:=h.1 hp5;refine zc hp5 (zs (zQ (.slice none 0 0) (zQ (ii 0) (zQ (ii 12) (yaa ?_)))));replace hS:=hS.nil 3 rfl (cL cI) 35;exact yfh rfl rfl rfl rfl ⟨_,_,_,_,_,_,rfl,(hS.sel [3]),h⟩
          · replace h:=h.2 hp5;refine zd hp5 (yaf (yae (zr (zq (yab H8) ?_))));obtain ⟨hi,h⟩:=h;refine zq (zA hi) (zQ (ii (e2+1)) (yaa ?_));obtain ⟨mq,hlt,h⟩:=h;exact ag mq _ _ _ ⟨_,h,rfl,H1,H2,rfl,(hS.sel [0,1,2])⟩ hlt
      · replace h:=h.2 hp3;refine zd hp3 (yas rfl (zs (zq (yao (vs:=[(ii g),(.slice Ag lg cg)]) H2 underlying24 rfl yak ⟨Row.cell (hS.bx 1 rfl) (i:=0) rfl,Row.cell (hS.bx 1 rfl) (i:=1) rfl,trivial⟩) (zq (yab H1) (zn (yai rfl (am2 rfl rfl) enter_62 ((yjT h hS.blt (hS.ro 2 rfl) (hS.ro 0 rfl)).mono ?_)))))));rintro _ w6 ⟨r3,r4,Ar,lr,cr,rfl,hC,h⟩;replace hS:=hS.call1 hC 3 0 rfl;clear hC;refine ⟨_,rfl,?_⟩;exact zb (zM (.tuple #[(.slice Ar lr cr),(ii r4)]) (zq (zx (.slice Ar lr cr)) (zq (zx (ii r4)) (zQ (.slice Ar lr cr) (zQ (ii r4) (yaa (zs (zM (.slice Ar lr cr) (zM (ii r4) (zQ (.slice Ar lr cr) (zQ (ii r4) (zQ (ii 0) (yaa (yfh rfl rfl rfl rfl ⟨_,_,_,_,_,_,rfl,(hS.sel [3]),h⟩))))))))))))))
  · replace h:=h.2 hp;refine zf hp (zs (zM (ii r) (zQ (.slice none 0 0) (zQ (ii 0) (zQ (ii r) (yaa ?_))))));replace hS:=hS.nil 3 rfl (cL cI) 35;exact yfh rfl rfl rfl rfl ⟨_,_,_,_,_,_,rfl,(hS.sel [3]),h⟩
def yf4(g:Int)(g2:List E3)(x:List Int)(R:Bool→Prop):Prop :=
(∃ J2:Prop,(J2→(∃ I2:Nat→Int→Prop,(∃ m0,I2 m0 0)∧∀ m2 e2,I2 m2 e2 → 
((e2<(x.length:Int) →
((0≤e2∧e2<(x.length:Int)) ∧
((400<(gi x e2.toNat) →
(((gi x e2.toNat)≤1048576 →
(((-1048576)≤(gi x e2.toNat) →
R false) ∧
(¬((-1048576)≤(gi x e2.toNat)) →
(In64 (e2+1) ∧
∃ m3,m3<m2∧I2 m3 (e2+1))))) ∧
(¬((gi x e2.toNat)≤1048576) →
(In64 (e2+1) ∧
∃ m4,m4<m2∧I2 m4 (e2+1))))) ∧
(¬(400<(gi x e2.toNat)) →
(((gi x e2.toNat)<(-400) →
(((gi x e2.toNat)≤1048576 →
(((-1048576)≤(gi x e2.toNat) →
R false) ∧
(¬((-1048576)≤(gi x e2.toNat)) →
(In64 (e2+1) ∧
∃ m5,m5<m2∧I2 m5 (e2+1))))) ∧
(¬((gi x e2.toNat)≤1048576) →
(In64 (e2+1) ∧
∃ m6,m6<m2∧I2 m6 (e2+1))))) ∧
(¬((gi x e2.toNat)<(-400)) →
(In64 (e2+1) ∧
∃ m7,m7<m2∧I2 m7 (e2+1)))))))) ∧
(¬(e2<(x.length:Int)) →
R true)))) ∧
ydh g g2 (fun r =>
((r=true →
((60<(x.length:Int) →
R false) ∧
(¬(60<(x.length:Int)) →
J2))) ∧
(¬(r=true) →
ybV g g2 (fun r2 =>
((r2=0 →
(((g2.length:Int)<20 →
ycz g g2 (fun r3 =>
((14<r3 →
((60<(x.length:Int) →
R false) ∧
(¬(60<(x.length:Int)) →
J2))) ∧
(¬(14<r3) →
R false)))) ∧
(¬((g2.length:Int)<20) →
R false))) ∧
(¬(r2=0) →
R false)))))))
theorem pok_r49_Few{O:Nat→Prop}{w:World}{g g2 x Ag lg cg Ax lx cx}{R:Bool→Prop}(h:yf4 g g2 x R)(hO:∀ k,O k→k<w.heap.size)(hA0:(FP.sl c3 Ag lg cg g2).P O w)(hA1:(FP.sl cI Ax lx cx x).P O w) :
    Calls Tryz.prog 8 #[(.agg #[(ii g),(.slice Ag lg cg)]),(.slice Ax lx cx)] w fun e w'=>∃ r4,e = .returned (.bool (r4))∧Sep w no O w' (rl [])∧R r4:=by
  unfold yf4 at h;have hS:Sep w no O w (rl [Res.ro (FP.sl c3 Ag lg cg g2),Res.ro (FP.sl cI Ax lx cx x)]):=Sep.startl hO [(FP.sl c3 Ag lg cg g2),(FP.sl cI Ax lx cx x)] ⟨hA0,hA1,trivial⟩;refine yal (l:=[(.agg #[(ii g),(.slice Ag lg cg)]),(.slice Ax lx cx)]) func8 rfl ntmps8 zY (zs (zn (ybm (v:=(.agg #[(ii g),(.slice Ag lg cg)])) rfl ?_)));intro g3 w2 hN;replace hS:Sep w no O w2 (stl _ 2 (Res.box 24 g3 [(ii g),(.slice Ag lg cg)])):=hS.new 2 rfl hN;clear hN;refine zb (zQ (.bool (false)) (yaa (yac (yac ?_))));obtain ⟨J2,hJ,h⟩:=h;refine ycA (fun E ds w'=>J2∧ds=[]∧E 1=(Value.slice Ax lx cx)∧Sep w no O w' (rl [Res.ro (FP.sl cI Ax lx cx x)])) ?_ ?_
  · clear h hS;rintro E ds w3 ⟨h,rfl,H1,hS⟩;replace h:=hJ h;refine yac (zs (zQ (ii 0) (yaa (yad ?_))));obtain ⟨I2,⟨m0,h0⟩,hr⟩:=h;refine yax (fun m E ds w'=>∃ e2,I2 m e2∧ds=[]∧E 1=(Value.slice Ax lx cx)∧E 5=(ii e2)∧Sep w no O w' (rl [Res.ro (FP.sl cI Ax lx cx x)])) m0 ⟨_,h0,rfl,H1,rfl,(hS.sel [0])⟩ ?_;clear h0 hS;rintro m2 E ds w4 ⟨e2,h,rfl,H1,H5,hS⟩ ag;replace h:=hr m2 e2 h;clear hr;refine yac (zs (zq (yab H5) (zq (yab H1) (zq (yaG (n:=x.length) rfl underlying35 (yaD (hS.rdr 0 rfl))) (zq zL (yaa ?_))))));by_cases hp:e2<(x.length:Int)
    · replace h:=h.1 hp;refine zc hp (yaf (yac (yad (zs (zq (yab H1) (zq (yab H5) ?_))))));obtain ⟨hx,h⟩:=h;refine zq (zi underlying35 yag (yaB (hS.rdr 0 rfl) hx)) (zq (yar (v:=(ii (gi x e2.toNat))) rfl underlying3 rfl (rd_1 (hS.rdr 0 rfl) hx (fun q=>yaF q) rfl)) ?_);refine zq zG (zM (.bool (decide (400<(gi x e2.toNat)))) ?_);by_cases hp2:400<(gi x e2.toNat)
      · replace h:=h.1 hp2;refine zV rfl rfl (zT hp2) (zV rfl rfl (zT hp2) (zV rfl rfl (zT hp2) (zV rfl rfl (zT hp2) (zV rfl rfl (zT hp2) (zq (yan (v:=(.bool (true))) (zT hp2) rfl) (zM (.bool (true)) (zW rfl rfl rfl (yab H1) (zW rfl rfl rfl (yab H5) (zW rfl rfl rfl (zi underlying35 yag (yaB (hS.rdr 0 rfl) hx)) (zW rfl rfl rfl (yar (v:=(ii (gi x e2.toNat))) rfl underlying3 rfl (rd_1 (hS.rdr 0 rfl) hx (fun q=>yaF q) rfl)) ?_))))))))));refine zW rfl rfl rfl (v_leq rfl rfl) (zq (yan (v:=(.bool (decide ((gi x e2.toNat)≤1048576)))) rfl rfl) (zM (.bool (decide ((gi x e2.toNat)≤1048576))) ?_));by_cases hp3:(gi x e2.toNat)≤1048576
        · replace h:=h.1 hp3;refine zW rfl rfl (zT hp3) (yab H1) (zW rfl rfl (zT hp3) (yab H5) (zW rfl rfl (zT hp3) (zi underlying35 yag (yaB (hS.rdr 0 rfl) hx)) (zW rfl rfl (zT hp3) (yar (v:=(ii (gi x e2.toNat))) rfl underlying3 rfl (rd_1 (hS.rdr 0 rfl) hx (fun q=>yaF q) rfl)) ?_)));refine zW rfl rfl (zT hp3) (yiq rfl rfl) (zq (yan (v:=(.bool (decide ((-1048576)≤(gi x e2.toNat))))) (zT hp3) rfl) (yaa ?_));by_cases hp4:(-1048576)≤(gi x e2.toNat)
          · replace h:=h.1 hp4;exact zc hp4 (zs (zQ (.bool (false)) (yaa (yah rfl rfl ⟨_,rfl,(hS.sel []),h⟩))))
          · replace h:=h.2 hp4;refine zd hp4 (yaf (yae (zr (zq (yab H5) ?_))));obtain ⟨hi,h⟩:=h;refine zq (zA hi) (zQ (ii (e2+1)) (yaa ?_));obtain ⟨mq,hlt,h⟩:=h;exact ag mq _ _ _ ⟨_,h,rfl,H1,rfl,(hS.sel [0])⟩ hlt
        · replace h:=h.2 hp3;refine zV rfl rfl (zF hp3) (zV rfl rfl (zF hp3) (zV rfl rfl (zF hp3) (zV rfl rfl (zF hp3) (zV rfl rfl (zF hp3) (zq (yaj (v:=(.bool (false))) (zF hp3) rfl) (yaa (yav rfl (yaf (yae (zr (zq (yab H5) ?_)))))))))));obtain ⟨hi2,h⟩:=h;refine zq (zA hi2) (zQ (ii (e2+1)) (yaa ?_));obtain ⟨mq,hlt,h⟩:=h;exact ag mq _ _ _ ⟨_,h,rfl,H1,rfl,(hS.sel [0])⟩ hlt
      · replace h:=h.2 hp2;refine zW rfl rfl (zF hp2) (yab H1) (zW rfl rfl (zF hp2) (yab H5) (zW rfl rfl (zF hp2) (zi underlying35 yag (yaB (hS.rdr 0 rfl) hx)) (zW rfl rfl (zF hp2) (yar (v:=(ii (gi x e2.toNat))) rfl underlying3 rfl (rd_1 (hS.rdr 0 rfl) hx (fun q=>yaF q) rfl)) ?_)));refine zW rfl rfl (zF hp2) zL (zq (yaj (v:=(.bool (decide ((gi x e2.toNat)<(-400))))) (zF hp2) rfl) (zM (.bool (decide ((gi x e2.toNat)<(-400)))) ?_));by_cases hp5:(gi x e2.toNat)<(-400)
        · replace h:=h.1 hp5;refine zW rfl rfl (zT hp5) (yab H1) (zW rfl rfl (zT hp5) (yab H5) (zW rfl rfl (zT hp5) (zi underlying35 yag (yaB (hS.rdr 0 rfl) hx)) (zW rfl rfl (zT hp5) (yar (v:=(ii (gi x e2.toNat))) rfl underlying3 rfl (rd_1 (hS.rdr 0 rfl) hx (fun q=>yaF q) rfl)) ?_)));refine zW rfl rfl (zT hp5) (v_leq rfl rfl) (zq (yan (v:=(.bool (decide ((gi x e2.toNat)≤1048576)))) (zT hp5) rfl) (zM (.bool (decide ((gi x e2.toNat)≤1048576))) ?_));by_cases hp6:(gi x e2.toNat)≤1048576
          · replace h:=h.1 hp6;refine zW rfl rfl (zT hp6) (yab H1) (zW rfl rfl (zT hp6) (yab H5) (zW rfl rfl (zT hp6) (zi underlying35 yag (yaB (hS.rdr 0 rfl) hx)) (zW rfl rfl (zT hp6) (yar (v:=(ii (gi x e2.toNat))) rfl underlying3 rfl (rd_1 (hS.rdr 0 rfl) hx (fun q=>yaF q) rfl)) ?_)));refine zW rfl rfl (zT hp6) (yiq rfl rfl) (zq (yan (v:=(.bool (decide ((-1048576)≤(gi x e2.toNat))))) (zT hp6) rfl) (yaa ?_));by_cases hp7:(-1048576)≤(gi x e2.toNat)
            · replace h:=h.1 hp7;exact zc hp7 (zs (zQ (.bool (false)) (yaa (yah rfl rfl ⟨_,rfl,(hS.sel []),h⟩))))
            · replace h:=h.2 hp7;refine zd hp7 (yaf (yae (zr (zq (yab H5) ?_))));obtain ⟨hi3,h⟩:=h;refine zq (zA hi3) (zQ (ii (e2+1)) (yaa ?_));obtain ⟨mq,hlt,h⟩:=h;exact ag mq _ _ _ ⟨_,h,rfl,H1,rfl,(hS.sel [0])⟩ hlt
          · replace h:=h.2 hp6;refine zV rfl rfl (zF hp6) (zV rfl rfl (zF hp6) (zV rfl rfl (zF hp6) (zV rfl rfl (zF hp6) (zV rfl rfl (zF hp6) (zq (yaj (v:=(.bool (false))) (zF hp6) rfl) (yaa (yav rfl (yaf (yae (zr (zq (yab H5) ?_)))))))))));obtain ⟨hi4,h⟩:=h;refine zq (zA hi4) (zQ (ii (e2+1)) (yaa ?_));obtain ⟨mq,hlt,h⟩:=h;exact ag mq _ _ _ ⟨_,h,rfl,H1,rfl,(hS.sel [0])⟩ hlt
        · replace h:=h.2 hp5;refine zV rfl rfl (zF hp5) (zV rfl rfl (zF hp5) (zV rfl rfl (zF hp5) (zV rfl rfl (zF hp5) (zV rfl rfl (zF hp5) (zq (yaj (v:=(.bool (false))) (zF hp5) rfl) (zM (.bool (false)) (zU (zU (zU (zU (zU (zq (yaj (v:=(.bool (false))) rfl rfl) (yaa (yav rfl (yaf (yae (zr (zq (yab H5) ?_))))))))))))))))));obtain ⟨hi5,h⟩:=h;refine zq (zA hi5) (zQ (ii (e2+1)) (yaa ?_));obtain ⟨mq,hlt,h⟩:=h;exact ag mq _ _ _ ⟨_,h,rfl,H1,rfl,(hS.sel [0])⟩ hlt
    · replace h:=h.2 hp;exact zd hp (yas rfl (zs (zQ (.bool (true)) (yaa (yah rfl rfl ⟨_,rfl,(hS.sel []),h⟩)))))
  clear hJ;intro j;refine zr (zq (yao (vs:=[(ii g),(.slice Ag lg cg)]) rfl underlying24 rfl yak ⟨Row.cell (hS.bx 2 rfl) (i:=0) rfl,Row.cell (hS.bx 2 rfl) (i:=1) rfl,trivial⟩) (zn (yai rfl (am1 rfl) enter_32 ((yht h (yaz _) (hS.rdr 0 rfl)).mono ?_))));rintro _ w5 ⟨r,rfl,hC,h⟩;replace hS:=hS.pur hC.pure;clear hC;refine ⟨_,rfl,?_⟩;refine zb (zq (yds rfl) (zM (.bool (!(r))) ?_));by_cases hp8:r=true
  · replace h:=h.1 hp8;refine zV rfl rfl (zC (zB hp8)) (zV rfl rfl (zC (zB hp8)) (zV rfl rfl (zC (zB hp8)) (zV rfl rfl (zC (zB hp8)) (zX (zX (zX (zX (zV rfl rfl (zC (zB hp8)) (zV rfl rfl (zC (zB hp8)) (zX (zX (zX (zV rfl rfl (zC (zB hp8)) (zV rfl rfl (zC (zB hp8)) (zq (yaj (v:=(.bool (false))) (zC (zB hp8)) rfl) (zM (.bool (false)) (zW rfl rfl rfl (zm (.slice Ax lx cx)) (zW rfl rfl rfl (yaG (n:=x.length) rfl underlying35 (yaD (hS.rdr 1 rfl))) (zW rfl rfl rfl zG (zq (yaj (v:=(.bool (decide (60<(x.length:Int))))) rfl rfl) (yaa ?_)))))))))))))))))))));by_cases hp9:60<(x.length:Int)
    · replace h:=h.1 hp9;exact zc hp9 (zs (zQ (.bool (false)) (yaa (yah rfl rfl ⟨_,rfl,(hS.sel []),h⟩))))
    · replace h:=h.2 hp9;exact zd hp9 (yaf (j _ _ _ ⟨h,rfl,rfl,(hS.sel [1])⟩))
  · replace h:=h.2 hp8;refine zW rfl rfl (zC (zB (zI hp8))) (yao (vs:=[(ii g),(.slice Ag lg cg)]) rfl underlying24 rfl yak ⟨Row.cell (hS.bx 2 rfl) (i:=0) rfl,Row.cell (hS.bx 2 rfl) (i:=1) rfl,trivial⟩) (rl_n (yaA rfl (ybc rfl (zC (zB (zI hp8))))) rfl rfl rfl (yai rfl (am1 rfl) yjd ((yfm h (yaz _) (hS.rdr 0 rfl)).mono ?_)));rintro _ w6 ⟨r2,rfl,hC,h⟩;replace hS:=hS.pur hC.pure;clear hC;refine ⟨_,rfl,?_⟩;refine zb (zW rfl rfl (zC (zB (zI hp8))) zE (zW rfl rfl (zC (zB (zI hp8))) (zm (.bool (decide (r2=0)))) ?_));by_cases hp10:r2=0
    · replace h:=h.1 hp10;refine zW rfl rfl (zT hp10) (yam rfl underlying24 rfl ybZ) (zW rfl rfl (zT hp10) (zl underlying22 (Row.cell (hS.bx 2 rfl) (i:=1) rfl)) (zW rfl rfl (zT hp10) (yaG (n:=g2.length) rfl underlying22 (yaD (hS.rdr 0 rfl))) (zW rfl rfl (zT hp10) zL (zW rfl rfl (zC (zB (zI hp8))) (yan (v:=(.bool (decide ((g2.length:Int)<20)))) (zT hp10) rfl) (zW rfl rfl (zC (zB (zI hp8))) (zm (.bool (decide ((g2.length:Int)<20)))) ?_)))));by_cases hp11:(g2.length:Int)<20
      · replace h:=h.1 hp11;refine zW rfl rfl (zT hp11) (yao (vs:=[(ii g),(.slice Ag lg cg)]) rfl underlying24 rfl yak ⟨Row.cell (hS.bx 2 rfl) (i:=0) rfl,Row.cell (hS.bx 2 rfl) (i:=1) rfl,trivial⟩) (rl_n (yaA rfl (ybc rfl (zT hp11))) rfl rfl rfl (yai rfl (am1 rfl) yhI ((yez h (yaz _) (hS.rdr 0 rfl)).mono ?_)));rintro _ w7 ⟨r3,rfl,hC,h⟩;replace hS:=hS.pur hC.pure;clear hC;refine ⟨_,rfl,?_⟩;refine zb (zW rfl rfl (zT hp11) zG (zW rfl rfl (zC (zB (zI hp8))) (yan (v:=(.bool (decide (14<r3)))) (zT hp11) rfl) (zW rfl rfl (zC (zB (zI hp8))) (yds rfl) (zq (yan (v:=(.bool (!(decide (14<r3))))) (zC (zB (zI hp8))) rfl) (zM (.bool (!(decide (14<r3)))) ?_)))));by_cases hp12:14<r3
        · replace h:=h.1 hp12;refine zW rfl rfl (zC (zB (decide_eq_true hp12))) (zm (.slice Ax lx cx)) (zW rfl rfl (zC (zB (decide_eq_true hp12))) (yaG (n:=x.length) rfl underlying35 (yaD (hS.rdr 1 rfl))) (zW rfl rfl (zC (zB (decide_eq_true hp12))) zG (zq (yaj (v:=(.bool (decide (60<(x.length:Int))))) (zC (zB (decide_eq_true hp12))) rfl) (yaa ?_))));by_cases hp13:60<(x.length:Int)
          · replace h:=h.1 hp13;exact zc hp13 (zs (zQ (.bool (false)) (yaa (yah rfl rfl ⟨_,rfl,(hS.sel []),h⟩))))
          · replace h:=h.2 hp13;exact zd hp13 (yaf (j _ _ _ ⟨h,rfl,rfl,(hS.sel [1])⟩))
        · replace h:=h.2 hp12;exact zV rfl rfl (zC (zB (decide_eq_false hp12))) (zV rfl rfl (zC (zB (decide_eq_false hp12))) (zV rfl rfl (zC (zB (decide_eq_false hp12))) (zq (yan (v:=(.bool (true))) (zC (zB (decide_eq_false hp12))) rfl) (yaa (yaq rfl (zs (zQ (.bool (false)) (yaa (yah rfl rfl ⟨_,rfl,(hS.sel []),h⟩)))))))))
      · replace h:=h.2 hp11;exact zV rfl rfl (zF hp11) (zV rfl rfl (zF hp11) (zV rfl rfl (zF hp11) (zW rfl rfl (zC (zB (zI hp8))) (yaj (v:=(.bool (false))) (zF hp11) rfl) (zW rfl rfl (zC (zB (zI hp8))) (yds rfl) (zq (yan (v:=(.bool (!(false)))) (zC (zB (zI hp8))) rfl) (zM (.bool (!(false))) (zV rfl rfl (zC (zB rfl)) (zV rfl rfl (zC (zB rfl)) (zV rfl rfl (zC (zB rfl)) (zq (yan (v:=(.bool (true))) (zC (zB rfl)) rfl) (yaa (yaq rfl (zs (zQ (.bool (false)) (yaa (yah rfl rfl ⟨_,rfl,(hS.sel []),h⟩))))))))))))))))
    · replace h:=h.2 hp10;exact zV rfl rfl (zF hp10) (zV rfl rfl (zF hp10) (zV rfl rfl (zF hp10) (zV rfl rfl (zF hp10) (zW rfl rfl (zC (zB (zI hp8))) (yaj (v:=(.bool (false))) (zF hp10) rfl) (zW rfl rfl (zC (zB (zI hp8))) (zm (.bool (false))) (zU (zU (zU (zW rfl rfl (zC (zB (zI hp8))) (yaj (v:=(.bool (false))) rfl rfl) (zW rfl rfl (zC (zB (zI hp8))) (yds rfl) (zq (yan (v:=(.bool (!(false)))) (zC (zB (zI hp8))) rfl) (zM (.bool (!(false))) (zV rfl rfl (zC (zB rfl)) (zV rfl rfl (zC (zB rfl)) (zV rfl rfl (zC (zB rfl)) (zq (yan (v:=(.bool (true))) (zC (zB rfl)) rfl) (yaa (yaq rfl (zs (zQ (.bool (false)) (yaa (yah rfl rfl ⟨_,rfl,(hS.sel []),h⟩))))))))))))))))))))))
def yjw(g:Int)(g2:List E3)(x:List Int)(R:Bool→Prop):Prop :=
(∃ J2:Prop,(J2→(∃ I2:Nat→Int→Int→Prop,(∃ m0,I2 m0 1 0)∧∀ m2 n i,I2 m2 n i → 
(∃ J3:Prop,(J3→yi1 x x (fun r =>
yju (mnF r 10000) (fun r2 =>
(In64 (2*r2) ∧
(In64 ((2*r2)+1) ∧
(In64 (n*((2*r2)+1)) ∧
(In64 (i+1) ∧
∃ m3,m3<m2∧I2 m3 (n*((2*r2)+1)) (i+1)))))))) ∧
yjs g g2 (fun r3 =>
((i<r3 →
((n<100000 →
J3) ∧
(¬(n<100000) →
R (decide (n<6000))))) ∧
(¬(i<r3) →
R (decide (n<6000)))))))) ∧
ydb g g2 (fun r4 =>
((r4=0 →
ycz g g2 (fun r5 =>
((r5=(x.length:Int) →
J2) ∧
(¬(r5=(x.length:Int)) →
R true)))) ∧
(¬(r4=0) →
R true))))
theorem pok_r49_Near{O:Nat→Prop}{w:World}{g g2 x Ag lg cg Ax lx cx}{R:Bool→Prop}(h:yjw g g2 x R)(hO:∀ k,O k→k<w.heap.size)(hA0:(FP.sl c3 Ag lg cg g2).P O w)(hA1:(FP.sl cI Ax lx cx x).P O w) :
    Calls Tryz.prog 20 #[(.agg #[(ii g),(.slice Ag lg cg)]),(.slice Ax lx cx)] w fun e w'=>∃ r6,e = .returned (.bool (r6))∧Sep w no O w' (rl [])∧R r6:=by
  unfold yjw at h;have hS:Sep w no O w (rl [Res.ro (FP.sl c3 Ag lg cg g2),Res.ro (FP.sl cI Ax lx cx x)]):=Sep.startl hO [(FP.sl c3 Ag lg cg g2),(FP.sl cI Ax lx cx x)] ⟨hA0,hA1,trivial⟩;refine yal (l:=[(.agg #[(ii g),(.slice Ag lg cg)]),(.slice Ax lx cx)]) func20 rfl ntmps20 zY (zs (zn (ybm (v:=(.agg #[(ii g),(.slice Ag lg cg)])) rfl ?_)));intro g3 w2 hN;replace hS:Sep w no O w2 (stl _ 2 (Res.box 24 g3 [(ii g),(.slice Ag lg cg)])):=hS.new 2 rfl hN;clear hN;refine zb (zQ (.bool (false)) (yaa (yac (yac ?_))));obtain ⟨J2,hJ,h⟩:=h;refine ycA (fun E ds w'=>J2∧ds=[]∧E 1=(Value.slice Ax lx cx)∧E 2=(Value.pointer (some ⟨g3,0,none⟩))∧Sep w no O w' (rl [Res.ro (FP.sl cI Ax lx cx x),Res.box 24 g3 [(ii g),(.slice Ag lg cg)],Res.ro (FP.sl c3 Ag lg cg g2)])) ?_ ?_
  · clear h hS;rintro E ds w3 ⟨h,rfl,H1,H2,hS⟩;replace h:=hJ h;refine zs (zQ (ii 1) (yaa (yac (zs (zQ (ii 0) (yaa (yad ?_)))))));obtain ⟨I2,⟨m0,h0⟩,hr⟩:=h;refine yax (fun m E ds w'=>∃ n i,I2 m n i∧ds=[]∧E 1=(Value.slice Ax lx cx)∧E 2=(Value.pointer (some ⟨g3,0,none⟩))∧E 5=(ii n)∧E 6=(ii i)∧Sep w no O w' (rl [Res.ro (FP.sl cI Ax lx cx x),Res.box 24 g3 [(ii g),(.slice Ag lg cg)],Res.ro (FP.sl c3 Ag lg cg g2)])) m0 ⟨_,_,h0,rfl,H1,H2,rfl,rfl,(hS.sel [0,1,2])⟩ ?_;clear h0 hS;rintro m2 E ds w4 ⟨n,i,h,rfl,H1,H2,H5,H6,hS⟩ ag;replace h:=hr m2 n i h;clear hr;refine yac (yac ?_);obtain ⟨J3,hJ,h⟩:=h;refine ycA (fun E ds w'=>J3∧ds=[]∧E 1=(Value.slice Ax lx cx)∧E 2=(Value.pointer (some ⟨g3,0,none⟩))∧E 5=(ii n)∧E 6=(ii i)∧Sep w no O w' (rl [Res.ro (FP.sl cI Ax lx cx x),Res.box 24 g3 [(ii g),(.slice Ag lg cg)],Res.ro (FP.sl c3 Ag lg cg g2)])) ?_ ?_
    · clear h hS;rintro E ds w5 ⟨h,rfl,H1,H2,H5,H6,hS⟩;replace h:=hJ h;refine yac (yad (zr (zq (yab H5) (zq (yab H1) (zq (yab H1) (zn (yai rfl (am2 rfl rfl) enter_27 ((yjk h (yaz _) (hS.rdr 0 rfl) (hS.rdr 0 rfl)).mono ?_))))))));rintro _ w6 ⟨r,rfl,hC,h⟩;replace hS:=hS.pur hC.pure;clear hC;refine ⟨_,rfl,?_⟩;refine zb (zq (v_min2 rfl rfl) (zn (yai rfl (am1 rfl) enter_56 ((yjP h (yaz _)).mono ?_))));rintro _ w7 ⟨r2,rfl,hC,h⟩;replace hS:=hS.pur hC.pure;clear hC;refine ⟨_,rfl,?_⟩;refine zb ?_;obtain ⟨hi,h⟩:=h;refine zq (v_mul rfl rfl hi) ?_;obtain ⟨hi2,h⟩:=h;refine zq (zA hi2) ?_;obtain ⟨hi3,h⟩:=h;refine zq (v_mul rfl rfl hi3) (zQ (ii (n*((2*r2)+1))) (yaa (yae (zr (zq (yab H6) ?_)))));obtain ⟨hi4,h⟩:=h;refine zq (zA hi4) (zQ (ii (i+1)) (yaa ?_));obtain ⟨mq,hlt,h⟩:=h;exact ag mq _ _ _ ⟨_,_,h,rfl,H1,H2,rfl,rfl,(hS.sel [0,1,2])⟩ hlt
    clear hJ;intro j2;refine zr (zq (yab H6) (zq (yao (vs:=[(ii g),(.slice Ag lg cg)]) H2 underlying24 rfl yak ⟨Row.cell (hS.bx 1 rfl) (i:=0) rfl,Row.cell (hS.bx 1 rfl) (i:=1) rfl,trivial⟩) (zn (yai rfl (am1 rfl) enter_24 ((yjI h (yaz _) (hS.rdr 2 rfl)).mono ?_)))));rintro _ w8 ⟨r3,rfl,hC,h⟩;replace hS:=hS.pur hC.pure;clear hC;refine ⟨_,rfl,?_⟩;refine zb (zq zL (zM (.bool (decide (i<r3))) ?_));by_cases hp:i<r3
    · replace h:=h.1 hp;refine zW rfl rfl (zT hp) (yab H5) (zW rfl rfl (zT hp) zL (zq (yan (v:=(.bool (decide (n<100000)))) (zT hp) rfl) (yaa ?_)));by_cases hp2:n<100000
      · replace h:=h.1 hp2;exact zc hp2 (yaf (j2 _ _ _ ⟨h,rfl,H1,H2,H5,H6,(hS.sel [0,1,2])⟩))
      · replace h:=h.2 hp2;exact zd hp2 (yas rfl (zs (zq (yab H5) (zq zL (zQ (.bool (decide (n<6000))) (yaa (yah rfl rfl ⟨_,rfl,(hS.sel []),h⟩)))))))
    · replace h:=h.2 hp;exact zV rfl rfl (zF hp) (zV rfl rfl (zF hp) (zq (yaj (v:=(.bool (false))) (zF hp) rfl) (yaa (yav rfl (yas rfl (zs (zq (yab H5) (zq zL (zQ (.bool (decide (n<6000))) (yaa (yah rfl rfl ⟨_,rfl,(hS.sel []),h⟩)))))))))))
  clear hJ;intro j;refine zr (zq (yao (vs:=[(ii g),(.slice Ag lg cg)]) rfl underlying24 rfl yak ⟨Row.cell (hS.bx 2 rfl) (i:=0) rfl,Row.cell (hS.bx 2 rfl) (i:=1) rfl,trivial⟩) (zn (yai rfl (am1 rfl) enter_33 ((ygn h (yaz _) (hS.rdr 0 rfl)).mono ?_))));rintro _ w9 ⟨r4,rfl,hC,h⟩;replace hS:=hS.pur hC.pure;clear hC;refine ⟨_,rfl,?_⟩;refine zb (zq zN (zM (.bool (!(decide (r4=0)))) ?_));by_cases hp3:r4=0
  · replace h:=h.1 hp3;refine zW rfl rfl (zC (zB (decide_eq_true hp3))) (yao (vs:=[(ii g),(.slice Ag lg cg)]) rfl underlying24 rfl yak ⟨Row.cell (hS.bx 2 rfl) (i:=0) rfl,Row.cell (hS.bx 2 rfl) (i:=1) rfl,trivial⟩) (rl_n (yaA rfl (ybc rfl (zC (zB (decide_eq_true hp3))))) rfl rfl rfl (yai rfl (am1 rfl) yhI ((yez h (yaz _) (hS.rdr 0 rfl)).mono ?_)));rintro _ w10 ⟨r5,rfl,hC,h⟩;replace hS:=hS.pur hC.pure;clear hC;refine ⟨_,rfl,?_⟩;refine zb (zW rfl rfl (zC (zB (decide_eq_true hp3))) (zm (.slice Ax lx cx)) (zW rfl rfl (zC (zB (decide_eq_true hp3))) (yaG (n:=x.length) rfl underlying35 (yaD (hS.rdr 1 rfl))) (zW rfl rfl (zC (zB (decide_eq_true hp3))) zN (zq (yaj (v:=(.bool (!(decide (r5=(x.length:Int)))))) (zC (zB (decide_eq_true hp3))) rfl) (yaa ?_)))));by_cases hp4:r5=(x.length:Int)
    · replace h:=h.1 hp4;exact ze hp4 (yaf (j _ _ _ ⟨h,rfl,rfl,rfl,(hS.sel [1,2,0])⟩))
    · replace h:=h.2 hp4;exact zf hp4 (zs (zQ (.bool (true)) (yaa (yah rfl rfl ⟨_,rfl,(hS.sel []),h⟩))))
  · replace h:=h.2 hp3;exact zV rfl rfl (zC (zB (decide_eq_false hp3))) (zV rfl rfl (zC (zB (decide_eq_false hp3))) (zV rfl rfl (zC (zB (decide_eq_false hp3))) (zV rfl rfl (zC (zB (decide_eq_false hp3))) (zV rfl rfl (zC (zB (decide_eq_false hp3))) (zq (yan (v:=(.bool (true))) (zC (zB (decide_eq_false hp3))) rfl) (yaa (yaq rfl (zs (zQ (.bool (true)) (yaa (yah rfl rfl ⟨_,rfl,(hS.sel []),h⟩)))))))))))
end Go.Proofs.YtencmgolklfmkaaGreat

/- The forms. -/

/- The graph with some single edges: the reference and the program. -/
namespace Go.Proofs.YtencmgolklfmkaaGreat
open Go Go.RowKit Go.Shelf Go.Proofs.Tryz
def cellJ(T:List (List Int))(k j:Nat):Option E3:=if 0<gi (gx T k) (k+j) then some ((k:Int),((k+j:Nat):Int),gi (gx T k) (k+j)) else none
def rowJ(d:Nat)(T:List (List Int))(k:Nat):List E3:=(List.range (d-k)).filterMap (cellJ T k)
def yiR(d:Nat)(T:List (List Int)):List E3:=(List.range d).flatMap (rowJ d T)
def isE(a b:Int)(e:Int×Int):Bool:=decide (mnF e.1 e.2=a∧mxF e.1 e.2=b)
def cntE(l:List (Int×Int))(a b:Int):Int:=(l.countP (isE a b):Int)
def rowT(d:Nat)(l:List (Int×Int))(a:Nat):List Int:=(List.range d).map fun (b:Nat)=>cntE l (a:Int) (b:Int)
def tabE(d:Nat)(l:List (Int×Int)):List (List Int):=(List.range d).map (rowT d l)
theorem yf9(d:Nat)(l:List (Int×Int))(a:Nat):(rowT d l a).length=d:=by simp [rowT]
theorem ygb(d:Nat)(l:List (Int×Int)):(tabE d l).length=d:=by simp [tabE]
theorem yfG{d:Nat}{l:List (Int×Int)}{a:Nat}(h:a<d):gx (tabE d l) a=rowT d l a:=by
  rw [yaM (by rw [ygb];exact h)];simp [tabE]
theorem yg4{d:Nat}{l:List (Int×Int)}{a b:Nat}(h:b<d):gi (rowT d l a) b=cntE l a b:=by
  rw [ybe (by rw [yf9];exact h)];simp [rowT]
theorem ydF(l:List (Int×Int))(e:Int×Int)(a b:Int):cntE (l++[e]) a b=cntE l a b+if mnF e.1 e.2=a∧mxF e.1 e.2=b then 1 else 0:=by
  unfold cntE
  rw [List.countP_append]
  by_cases h:mnF e.1 e.2=a∧mxF e.1 e.2=b
  · simp [List.countP_cons,isE,h]
  · simp [List.countP_cons,isE,h]
theorem yic(l:List (Int×Int))(a b:Int):0≤cntE l a b:=Int.natCast_nonneg _
structure BagOk(d:Nat)(l:List (Int×Int))(M:List (List Int×Int)):Prop where
  key:KOk 2 M
  at_:∀ p∈M,∃ a b:Nat,a≤b∧b<d∧p.1=[(a:Int),(b:Int)]∧p.2=cntE l a b∧0<p.2
  get:∀ a b:Int,(mget M [a,b]).getD 0=cntE l a b
  len:M.length≤l.length
theorem BagOk.nil(d:Nat):BagOk d [] []:=⟨KOk.nil 2,fun p h=>by simp at h,fun a b=>by simp [mget,cntE],Nat.le_refl _⟩
theorem keyOk2{d a b:Nat}(hd:d≤12)(h1:a≤b)(h2:b<d):KeyOk 2 [(a:Int),(b:Int)]:=by
  refine ⟨rfl,fun x hx=>?_⟩
  simp only [List.mem_cons,List.not_mem_nil,or_false] at hx
  rcases hx with rfl | rfl <;> exact ⟨by omega,by omega⟩
theorem BagOk.put{d:Nat}{l:List (Int×Int)}{M:List (List Int×Int)}(h:BagOk d l M)(hd:d≤12){e:Int×Int}{a b:Nat}(h1:a≤b)(h2:b<d)(ha:mnF e.1 e.2=a)(hb:mxF e.1 e.2=b):BagOk d (l++[e]) (mput M [(a:Int),(b:Int)] (cntE l a b+1)):=by
  have hk:=h.key.put (keyOk2 hd h1 h2) (cntE l a b+1)
  refine ⟨hk,fun p hp=>?_,fun x y=>?_,by have:=h.len;rw [mput_length,List.length_append,List.length_singleton];split <;> omega⟩
  · obtain ⟨j,hj⟩:=List.getElem?_of_mem hp
    have hg:=mget_at hk.1 (k:=p.1) (v:=p.2) hj
    rw [mget_put] at hg
    by_cases q:[(a:Int),(b:Int)]=p.1
    · rw [if_pos q] at hg
      refine ⟨a,b,h1,h2,q.symm,?_,?_⟩
      · rw [ydF,if_pos ⟨ha,hb⟩];exact (Option.some.inj hg).symm
      · rw [←Option.some.inj hg];have:=yic l a b;omega
    · rw [if_neg q] at hg
      obtain ⟨x,y,h3,h4,h5,h6,h7⟩:=h.at_ _ (mget_mem hg)
      refine ⟨x,y,h3,h4,h5,?_,h7⟩
      rw [ydF,if_neg,Int.add_zero]
      · exact h6
      · rintro ⟨q1,q2⟩
        rw [ha] at q1;rw [hb] at q2
        have h5:p.1=[(x:Int),(y:Int)]:=h5
        exact q (by rw [h5,q1,q2])
  · rw [mget_put,ydF,ha,hb,←h.get x y]
    by_cases q:(a:Int)=x∧(b:Int)=y
    · rw [if_pos (by rw [q.1,q.2]),if_pos q,h.get x y,←q.1,←q.2];rfl
    · rw [if_neg (fun z=>q (by simpa using z)),if_neg q,Int.add_zero]
def eM(p:List Int×Int):E3:=(gi p.1 0,gi p.1 1,p.2)
theorem nodupN_le:∀ {l K:List Nat},l.Nodup→(∀ x∈l,x∈K)→l.length≤K.length
  | [],K,_,_=>Nat.zero_le _
  | a::t,K,hn,hs=>by
    rw [List.nodup_cons] at hn
    have ha:a∈K:=hs a (by simp)
    have h2:=nodupN_le (l:=t) (K:=K.erase a) hn.2 fun x hx=>(List.mem_erase_of_ne (by rintro rfl;exact hn.1 hx)).2 (hs x (by simp [hx]))
    rw [List.length_erase_of_mem ha] at h2
    have:0<K.length:=List.length_pos_of_mem ha
    rw [List.length_cons];omega
theorem ydp{d:Nat}{l:List (Int×Int)}{x:E3} : x∈yiR d (tabE d l)↔∃ a b:Nat,a≤b∧b<d∧0<cntE l a b∧x=((a:Int),(b:Int),cntE l a b):=by
  unfold yiR
  simp only [List.mem_flatMap,List.mem_range,rowJ,List.mem_filterMap]
  constructor
  · rintro ⟨a,ha,j,hj,hx⟩
    unfold cellJ at hx
    rw [yfG ha,yg4 (by omega)] at hx
    split at hx
    · rename_i hp
      exact ⟨a,a+j,by omega,by omega,hp,(Option.some.inj hx).symm⟩
    · cases hx
  · rintro ⟨a,b,h1,h2,h3,rfl⟩
    refine ⟨a,by omega,b-a,by omega,?_⟩
    unfold cellJ
    rw [yfG (by omega),yg4 (by omega),show a+(b-a)=b by omega,if_pos h3]
def ltE(x y:E3):Prop:=x.1<y.1∨x.1=y.1∧x.2.1<y.2.1
theorem BagOk.mem{d:Nat}{l:List (Int×Int)}{M:List (List Int×Int)}(h:BagOk d l M)(x:E3):x∈M.map eM↔x∈yiR d (tabE d l):=by
  rw [ydp,List.mem_map]
  constructor
  · rintro ⟨p,hp,rfl⟩
    obtain ⟨a,b,h1,h2,h3,h4,h5⟩:=h.at_ p hp
    exact ⟨a,b,h1,h2,by rw [←h4];exact h5,by unfold eM;rw [h3,h4];rfl⟩
  · rintro ⟨a,b,h1,h2,h3,rfl⟩
    have hg:=h.get a b
    cases hq:mget M [(a:Int),(b:Int)] with
    | none=>rw [hq] at hg;simp at hg;omega
    | some v =>
      rw [hq] at hg
      have hg:v=cntE l a b:=hg
      exact ⟨_,mget_mem hq,by unfold eM;rw [hg];rfl⟩
theorem BagOk.nodup{d:Nat}{l:List (Int×Int)}{M:List (List Int×Int)}(h:BagOk d l M):(M.map eM).Nodup:=by
  unfold List.Nodup
  rw [List.pairwise_map]
  refine h.key.1.imp_of_mem ?_
  intro p q hp hq hne he
  obtain ⟨a,b,_,_,h3,_,_⟩:=h.at_ p hp
  obtain ⟨a',b',_,_,h3',_,_⟩:=h.at_ q hq
  apply hne
  unfold eM at he
  rw [h3,h3'] at he ⊢
  have e1:(a:Int)=a':=congrArg Prod.fst he
  have e2:(b:Int)=b':=congrArg (fun z:E3=>z.2.1) he
  rw [e1,e2]
end Go.Proofs.YtencmgolklfmkaaGreat

/- The facts of a graph that is made of ends: in normal form, its size, its genus, its degrees. -/
namespace Go.Proofs.YtencmgolklfmkaaGreat
open Go Go.RowKit Go.Shelf Go.Proofs.Tryz
def sF:List E3→List E3
  | []=>[]
  | x::t=>List.replicate x.2.2.toNat (x.1,x.2.1,1)++sF t
theorem yhZ:∀ (a b:List E3),sF (a++b)=sF a++sF b
  | [],b=>rfl
  | x::t,b=>by rw [List.cons_append,sF,sF,yhZ t b,List.append_assoc]
theorem sF_take{es:List E3}{k:Nat}(hk:k<es.length):sF (es.take (k+1))=sF (es.take k)++List.replicate (ge es k).2.2.toNat ((ge es k).1,(ge es k).2.1,1):=by
  rw [List.take_add_one,List.getElem?_eq_getElem hk,←ydg hk,yhZ]
  simp [sF]
theorem sF_pre{es:List E3}{k:Nat}(hk:k<es.length){j:Nat}(hj:j≤(ge es k).2.2.toNat):sF (es.take k)++List.replicate j ((ge es k).1,(ge es k).2.1,1) <+: sF es:=by
  have h1:es=es.take (k+1)++es.drop (k+1):=(List.take_append_drop _ _).symm
  have h2:sF es=sF (es.take k)++List.replicate (ge es k).2.2.toNat ((ge es k).1,(ge es k).2.1,1)++sF (es.drop (k+1)):=by
    conv=>lhs;rw [h1]
    rw [yhZ,sF_take hk]
  obtain ⟨i,hi⟩:∃ i,(ge es k).2.2.toNat=j+i:=⟨(ge es k).2.2.toNat-j,by omega⟩
  rw [h2,hi,←List.replicate_append_replicate]
  exact ⟨List.replicate i ((ge es k).1,(ge es k).2.1,1)++sF (es.drop (k+1)),by simp only [List.append_assoc]⟩
theorem sF_ok{n:Nat} : ∀ {es:List E3},EOk n es→EOk n (sF es)
  | [],_=>fun x hx=>by simp [sF] at hx
  | y::t,h=>fun x hx=>by
    rw [sF,List.mem_append] at hx
    rcases hx with q | q
    · have:=h y (by simp)
      have e:=(List.mem_replicate.1 q).2
      subst e
      simp only
      omega
    · exact sF_ok (fun z hz=>h z (by simp [hz])) x q
theorem W_rep(a b:Int)(l:List E3)(v u:Nat):∀ k:Nat,W (List.replicate k (a,b,1)++l) v u=(k:Int)*w1 (a,b,1) v u+W l v u
  | 0=>by simp
  | k+1=>by
    rw [List.replicate_succ,List.cons_append,ygV,W_rep a b l v u k,Int.natCast_add,Int.add_mul]
    omega
theorem W_sF{n:Nat}(v u:Nat):∀ {es:List E3},EOk n es→W (sF es) v u=W es v u
  | [],_=>rfl
  | x::t,h=>by
    have hx:=h x (by simp)
    rw [sF,W_rep,ygV,W_sF v u (fun z hz=>h z (by simp [hz]))]
    have:((x.2.2.toNat:Nat):Int)*w1 (x.1,x.2.1,1) v u=w1 x v u:=by
      unfold w1
      simp only
      split
      · omega
      · omega
    omega
theorem sF_len{n:Nat} : ∀ {es:List E3},EOk n es→((sF es).length:Int)=(es.map (·.2.2)).sum
  | [],_=>rfl
  | x::t,h=>by
    have hx:=h x (by simp)
    have:=sF_len (es:=t) fun z hz=>h z (by simp [hz])
    rw [sF,List.length_append,List.length_replicate,List.map_cons,List.sum_cons,←this]
    omega
theorem sF_few{n:Nat} : ∀ {es:List E3},EOk n es→(sF es).length≤50*es.length
  | [],_=>Nat.le_refl _
  | x::t,h=>by
    have hx:=h x (by simp)
    have:=sF_few (es:=t) fun z hz=>h z (by simp [hz])
    rw [sF,List.length_append,List.length_replicate,List.length_cons]
    omega
def gmap(y:Int×Int×Int):E3:=(y.2.1,y.2.2,1)
theorem yeV{n:Nat}{es:List E3}(hE:EOk n es)(hl:es.length≤1000):ybt (n:Int) es (fun l=>l.map gmap <+: sF es) (fun l=>l.map gmap=sF es):=by
  unfold ybt
  refine ⟨fun m pre e2 v=>Cnt es.length (fun k=>pre.map gmap=sF (es.take k)∧0≤e2∧e2≤50*k) m v,Cnt.start ⟨rfl,by omega,by omega⟩,?_⟩
  rintro m pre e2 _ ⟨k,rfl,rfl,hk,hpre,he0,he1⟩
  simp only [Int.toNat_natCast]
  refine ⟨fun hlt=>⟨by omega,?_⟩,fun hge=>?_⟩
  · have hkl:k<es.length:=by omega
    have hx:=hE _ (List.mem_of_getElem? (ydz hkl))
    refine ⟨fun m pre e3 v=>Cnt (ge es k).2.2.toNat (fun j=>pre.map gmap=sF (es.take k)++List.replicate j ((ge es k).1,(ge es k).2.1,1)∧0≤e3∧e3≤50*k+j) m v,Cnt.start ⟨by simpa using hpre,he0,by omega⟩,?_⟩
    rintro m3 pre3 e3 _ ⟨j,rfl,rfl,hj,hp3,h30,h31⟩
    have hstep:∀ e:Int,(pre3++[(e,(ge es k).1,(ge es k).2.1)]).map gmap=sF (es.take k)++List.replicate (j+1) ((ge es k).1,(ge es k).2.1,1):=fun e=>by
      rw [List.map_append,hp3,List.replicate_succ',List.append_assoc];rfl
    refine ⟨fun h1=>⟨?_,⟨i64 (by omega),Cnt.next (by omega) (by omega) ⟨hstep e3,by omega,by omega⟩⟩,trivial⟩,fun h1=>Cnt.next (by omega) (by omega) ⟨?_,by omega,by omega⟩⟩
    · show (pre3++[(e3,(ge es k).1,(ge es k).2.1)]).map gmap <+: sF es
      rw [hstep];exact sF_pre hkl (by omega)
    · have e:j=(ge es k).2.2.toNat:=by omega
      rw [sF_take hkl,hp3,e]
  · have e:k=es.length:=by omega
    rw [e,List.take_length] at hpre
    exact hpre
def yeG(F:List Nat):List Int:=F.map fun v:Nat=>(v:Int)
theorem yhS{F:List Nat}{v:Nat}(hv:v<F.length):gi (yeG F) v=(gn F v:Int):=by
  unfold yeG
  rw [ybe (by simpa using hv),yfl hv];simp
theorem ygI{F:List Nat}(hF:ycb F){v:Nat}(hv:v<12){R:Int→Prop}(h:R (root F v)):ybh (yeG F) (v:Int) R:=by
  unfold ybh
  refine ⟨fun m x=>∃ u:Nat,x=u∧m=u∧u<12∧root F u=root F v,⟨v,v,rfl,rfl,hv,rfl⟩,?_⟩
  rintro m _ ⟨u,rfl,hm,hu,hr⟩
  have hg:gi (yeG F) u=(gn F u:Int):=yhS (by rw [hF.1];exact hu)
  have hle:=hF.2 u hu
  simp only [Int.toNat_natCast,hg]
  refine ⟨by omega,fun e=>?_,fun e=>⟨gn F u,by omega,gn F u,rfl,rfl,by omega,?_⟩⟩
  · rw [ycm (F:=F) (v:=u) (by omega)] at hr
    rw [hr];exact h
  · rw [←yed hF hu (by omega)];exact hr
theorem yid{F:List Nat}(hF:ycb F){a b:Nat}(ha:a<12)(hb:b<12)(hne:root F a≠root F b):∀ k,k≤12→yay (ycu F a b) k+(if max (root F a) (root F b)<k then 1 else 0)=yay F k
  | 0,_=>by simp [yay]
  | k+1,hk=>by
    have ih:=yid hF ha hb hne k (by omega)
    have hj:=yga hF ha hb k (by omega)
    have ra:=yd6 hF ha
    have rb:=yd6 hF hb
    rw [yay,yay]
    have hM:root F (max (root F a) (root F b))=max (root F a) (root F b):=by
      rcases Nat.le_total (root F a) (root F b) with q | q
      · rw [Nat.max_eq_right q];exact rb
      · rw [Nat.max_eq_left q];exact ra
    have hm:root F (min (root F a) (root F b))=min (root F a) (root F b):=by
      rcases Nat.le_total (root F a) (root F b) with q | q
      · rw [Nat.min_eq_left q];exact ra
      · rw [Nat.min_eq_right q];exact rb
    by_cases e1:k=max (root F a) (root F b)
    · have h1:root F k=k:=by rw [e1];exact hM
      rw [if_pos (h1.trans e1)] at hj
      rw [if_neg (by omega:¬root (ycu F a b) k=k),if_pos h1,if_pos (by omega)]
      rw [if_neg (by omega)] at ih
      omega
    · have h2:root (ycu F a b) k=k↔root F k=k:=by
        rw [hj]
        split
        · rename_i e2
          constructor
          · intro e3;rw [←e3] at e2;rw [hm] at e2;omega
          · intro e3;omega
        · exact Iff.rfl
      by_cases e3:root F k=k
      · rw [if_pos (h2.2 e3),if_pos e3]
        by_cases e4:max (root F a) (root F b)<k
        · rw [if_pos e4] at ih;rw [if_pos (by omega)];omega
        · rw [if_neg e4] at ih;rw [if_neg (by omega)];omega
      · rw [if_neg (fun q=>e3 (h2.1 q)),if_neg e3]
        by_cases e4:max (root F a) (root F b)<k
        · rw [if_pos e4] at ih;rw [if_pos (by omega)];omega
        · rw [if_neg e4] at ih;rw [if_neg (by omega)];omega
theorem yiJ{F:List Nat}(hF:ycb F){a b:Nat}(ha:a<12)(hb:b<12)(he:root F a=root F b):∀ k,k≤12→yay (ycu F a b) k=yay F k
  | 0,_=>rfl
  | k+1,hk=>by
    have ih:=yiJ hF ha hb he k (by omega)
    have hj:=yga hF ha hb k (by omega)
    rw [yay,yay,ih,hj,he]
    simp only [Nat.max_self,Nat.min_self]
    congr 2
    split
    · rename_i e;rw [e]
    · rfl
theorem yhk:∀ k,k≤12→yay ycr k=k
  | 0,_=>rfl
  | k+1,hk=>by
    rw [yay,yhk k (by omega),if_pos]
    exact ycm (by rw [yfl (by simpa [ycr] using (by omega:k<12))];simp [ycr])
theorem yfW(l:List E3)(x:E3):yap (l++[x])=ycu (yap l) x.1.toNat x.2.1.toNat:=by
  unfold yap;rw [List.foldl_append];rfl
theorem castF_join{F:List Nat}{a b:Nat} : (yeG F).set (mxF (root F a) (root F b)).toNat (mnF (root F a) (root F b))=yeG (ycu F a b):=by
  unfold yeG ycu
  rw [List.map_set,mxF_eq,mnF_eq]
  congr 1
  · omega
  · omega
theorem p_graph_Genus{n:Nat}{es:List E3}{R:Int→Int→Prop}(hl:es.length≤1000)(hg:yat n es=0)(hc:∀ q,q<n→Conn n es q)(h:R ((es.map (·.2.2)).sum+1-n) 0):ycp n es R:=by
  obtain ⟨hE,hn1,hn12⟩:=ybr hg
  unfold ycp
  refine yc9 (by omega) ⟨fun _=>?_,fun q=>absurd hg q⟩
  refine ⟨fun m v f=>Cnt 12 (fun k=>f.length=12∧∀ i,i<k→gi f i=(i:Int)) m v,Cnt.start ⟨by simp,fun i hi=>absurd hi (by omega)⟩,?_⟩
  rintro m _ f ⟨k,rfl,rfl,hk,hfl,hf⟩
  simp only [Int.toNat_natCast]
  refine ⟨fun hlt=>⟨by omega,Cnt.next (by omega) (by omega) ⟨by simpa using hfl,fun i hi=>?_⟩⟩,fun hge=>?_⟩
  · rw [ycM (by omega)]
    split
    · omega
    · exact hf i (by omega)
  have e12:k=12:=by omega
  subst e12
  have hf0:f=yeG ycr:=ygj (by rw [hfl];rfl) fun i hi=>by
    rw [hf i (by omega),yhS (by show i<(List.range 12).length;simpa using (by omega:i<12)),yfl (by simpa [ycr] using (by omega:i<12))]
    simp [ycr]
  show ∃ Pr Rr:List (Int×Int×Int)→Prop,_
  refine ⟨_,_,yeV hE hl,fun pre f2 genus=>pre.map gmap <+: sF es∧f2=yeG (yap (pre.map gmap))∧genus+n-(yay (yap (pre.map gmap)) n:Int)=pre.length∧0≤genus∧genus≤pre.length,⟨List.nil_prefix,hf0,?_,by omega,by simp⟩,?_,?_⟩
  · show (0:Int)+n-(yay ycr n:Int)=0
    rw [yhk n hn12];omega
  · rintro pre e a b f2 genus ⟨hp,rfl,hcount,h0,h1⟩ hPr
    have hPr:(pre++[(e,a,b)]).map gmap <+: sF es:=hPr
    have hE2:=sF_ok hE
    have hmem:(a,b,1)∈sF es:=hPr.subset (by simp [gmap])
    have hx:=hE2 _ hmem
    simp only at hx
    obtain ⟨a,rfl⟩:∃ k:Nat,a=(k:Int):=⟨a.toNat,by omega⟩
    obtain ⟨b,rfl⟩:∃ k:Nat,b=(k:Int):=⟨b.toNat,by omega⟩
    have hF:ycb (yap (pre.map gmap)):=yaU _ fun x hx=>by
      have:=hE2 x (hp.subset hx)
      omega
    have hplen:pre.length≤50*es.length:=by
      have h2:=hp.length_le
      have h3:=sF_few hE
      rw [List.length_map] at h2
      omega
    have hsn:(pre++[(e,(a:Int),(b:Int))]).map gmap=pre.map gmap++[((a:Int),(b:Int),1)]:=by rw [List.map_append];rfl
    have hjs:yap ((pre++[(e,(a:Int),(b:Int))]).map gmap)=ycu (yap (pre.map gmap)) a b:=by rw [hsn,yfW];simp
    have ra:=ycj hF a (by omega)
    have rb:=ycj hF b (by omega)
    have hrl:∀ v,v<n→root (yap (pre.map gmap)) v<n:=fun v hv=>by have:=(ycj hF v (by omega)).1;omega
    have hra:=hrl a (by omega)
    have hrb:=hrl b (by omega)
    refine ygI hF (by omega) (ygI hF (by omega) ?_)
    have hmx:0≤mxF (root (yap (pre.map gmap)) a:Int) (root (yap (pre.map gmap)) b)∧mxF (root (yap (pre.map gmap)) a:Int) (root (yap (pre.map gmap)) b)<12:=by rw [mxF_eq];omega
    refine ⟨fun g2=>g2=genus+if root (yap (pre.map gmap)) a=root (yap (pre.map gmap)) b then 1 else 0,fun g2 hg2=>⟨hmx,hPr,by rw [hjs];exact castF_join,?_,?_,?_⟩,fun q=>⟨i64 (by omega),by rw [if_pos (by omega)]⟩,fun q=>by rw [if_neg (by omega)];omega⟩
    · rw [hjs,hg2,List.length_append,List.length_singleton]
      by_cases q:root (yap (pre.map gmap)) a=root (yap (pre.map gmap)) b
      · rw [if_pos q,yiJ hF (by omega) (by omega) q n hn12];omega
      · have:=yid hF (by omega) (by omega) q n hn12
        rw [if_pos (by omega)] at this
        rw [if_neg q];omega
    · rw [hg2];split <;> omega
    · rw [hg2,List.length_append,List.length_singleton];split <;> omega
  · rintro ys f2 genus ⟨hp,rfl,hcount,h0,h1⟩ hR
    have hR:ys.map gmap=sF es:=hR
    have hE2:=sF_ok hE
    have hc2:yd0 n (sF es)=true:=(yhM hE2 hn1 hn12 (q:=0) (by omega)).2 fun S h0 h1=>by
      obtain ⟨v,u,a,b,c,d,e⟩:=hc 0 (by omega) S h0 h1
      exact ⟨v,u,a,b,c,d,by rw [W_sF v u hE];exact e⟩
    unfold yd0 at hc2
    rw [beq_iff_eq,Int.toNat_natCast] at hc2
    rw [hR,hc2] at hcount
    have hlen:=sF_len hE
    rw [←hR,List.length_map] at hlen
    have e:genus=(es.map (·.2.2)).sum+1-n:=by omega
    rw [e];exact h
def ya6(d:Nat)(l:List (Int×Int)):Prop:=∀ e∈l,(0≤e.1∧e.1<d)∧0≤e.2∧e.2<d
def Joins(l:List (Int×Int))(v u:Nat):Prop:=((v:Int),(u:Int))∈l∨((u:Int),(v:Int))∈l
end Go.Proofs.YtencmgolklfmkaaGreat

/- Directed cycles, plainly: closed walks yiM single edges, circulations, what is nearest. No program in sight. -/
namespace Go.Proofs.YtencmgolklfmkaaGreat
open Go Go.Proofs.Tryz
abbrev Dart:=Nat×Bool
def dfr_ (E:List (Int×Int))(d:Dart):Int:=if d.2=true then (gx E d.1).1 else (gx E d.1).2
def dto(E:List (Int×Int))(d:Dart):Int:=if d.2=true then (gx E d.1).2 else (gx E d.1).1
def sg(b:Bool):Int:=if b=true then 1 else -1
theorem ycJ(b:Bool):sg b=1∨sg b = -1:=by cases b <;> simp [sg]
def bdy(m:Nat)(E:List (Int×Int))(x:Nat→Int)(v:Int):Int:=sm m fun i=>x i*((if (gx E i).2=v then 1 else 0)-if (gx E i).1=v then 1 else 0)
def Circ(m:Nat)(E:List (Int×Int))(x:Nat→Int):Prop:=∀ v,bdy m E x v=0
def Ch(E:List (Int×Int)):Int→List Dart→Int→Prop
  | u,[],v=>u=v
  | u,d::p,v=>dfr_ E d=u∧Ch E (dto E d) p v
def vec:List Dart→Nat→Int
  | [],_=>0
  | d::p,i=>(if d.1=i then sg d.2 else 0)+vec p i
section
variable {m : Nat} {E : List (Int × Int)}
theorem bdy_add(x y:Nat→Int)(v:Int):bdy m E (fun i=>x i+y i) v=bdy m E x v+bdy m E y v:=by
  unfold bdy
  rw [←ydu]
  exact yaw fun i _=>by rw [Int.add_mul]
theorem bdy_sub(x y:Nat→Int)(v:Int):bdy m E (fun i=>x i-y i) v=bdy m E x v-bdy m E y v:=by
  unfold bdy
  rw [←ygl]
  exact yaw fun i _=>by rw [Int.sub_mul]
theorem yib{x y:Nat→Int}(h:∀ i,i<m→x i=y i)(v:Int):bdy m E x v=bdy m E y v:=yaw fun i hi=>by rw [h i hi]
theorem Circ.sub{x y:Nat→Int}(hx:Circ m E x)(hy:Circ m E y):Circ m E (fun i=>x i-y i):=fun v=>by rw [bdy_sub,hx v,hy v];rfl
theorem Circ.congr{x y:Nat→Int}(hx:Circ m E x)(h:∀ i,i<m→x i=y i):Circ m E y:=fun v=>by rw [←yib h];exact hx v
theorem sm_at{n a:Nat}(ha:a<n){f:Nat→Int}(h:∀ k,k<n→k≠a→f k=0):sm n f=f a:=by
  have q:=ygg (f a) ha
  rw [←q]
  exact yaw fun i hi=>by
    by_cases e:i=a
    · rw [if_pos e,e]
    · rw [if_neg e,h i hi e]
theorem bdy_one{d:Dart}(hd:d.1<m)(v:Int):bdy m E (fun i=>if d.1=i then sg d.2 else 0) v=(if dto E d=v then 1 else 0)-if dfr_ E d=v then 1 else 0:=by
  unfold bdy
  rw [sm_at hd fun k _ hk=>by show (if d.1=k then sg d.2 else 0)*_=0;rw [if_neg (fun q=>hk q.symm),Int.zero_mul]]
  show (if d.1=d.1 then sg d.2 else 0)*_=_
  rw [if_pos rfl]
  obtain ⟨i,b⟩:=d
  cases b
  · simp only [sg,dto,dfr_,Bool.false_eq_true,if_false];omega
  · simp only [sg,dto,dfr_,if_true];omega
theorem bdy_vec:∀ {p:List Dart} {u v:Int},Ch E u p v→(∀ d∈p,d.1<m)→∀ w,bdy m E (vec p) w=(if v=w then 1 else 0)-if u=w then 1 else 0
  | [],u,v,h,_,w=>by
    have h:u=v:=h
    subst h
    show bdy m E (fun _=>0) w=_
    unfold bdy
    rw [yaw (g:=fun _=>0) fun i _=>Int.zero_mul _,ybY];omega
  | d::p,u,v,h,hm,w=>by
    obtain ⟨h1,h2⟩:=h
    have e:bdy m E (vec (d::p)) w=bdy m E (fun i=>(if d.1=i then sg d.2 else 0)+vec p i) w:=rfl
    rw [e,bdy_add,bdy_one (hm d (by simp)),bdy_vec h2 (fun x hx=>hm x (by simp [hx])),h1]
    omega
theorem Ch.append:∀ {p q:List Dart} {u v w:Int},Ch E u p v→Ch E v q w→Ch E u (p++q) w
  | [],q,u,v,w,h1,h2=>by have h1:u=v:=h1;subst h1;exact h2
  | d::p,q,u,v,w,h1,h2=>⟨h1.1,h1.2.append h2⟩
theorem Ch.split:∀ {p q:List Dart} {u w:Int},Ch E u (p++q) w→∃ v,Ch E u p v∧Ch E v q w
  | [],q,u,w,h=>⟨u,rfl,h⟩
  | d::p,q,u,w,h=>by
    obtain ⟨v,h1,h2⟩:=Ch.split (p:=p) h.2
    exact ⟨v,⟨h.1,h1⟩,h2⟩
theorem Ch.head{d:Dart}{p:List Dart}{u v:Int}(h:Ch E u (d::p) v):u=dfr_ E d:=h.1.symm
structure DCyc(m:Nat)(E:List (Int×Int))(s:Int)(p:List Dart):Prop where
  ne:p≠[]
  ch:Ch E s p s
  fr:(p.map (dfr_ E)).Nodup
  ed:(p.map Prod.fst).Nodup
  lt:∀ d∈p,d.1<m
  le:∀ d∈p,s≤dfr_ E d
theorem yjJ:∀ {p:List Dart} {i:Nat},(∀ d∈p,d.1≠i)→vec p i=0
  | [],_,_=>rfl
  | d::p,i,h=>by
    show (if d.1=i then sg d.2 else 0)+vec p i=0
    rw [if_neg (h d (by simp)),yjJ fun x hx=>h x (by simp [hx])];rfl
theorem yho:∀ {p:List Dart},(p.map Prod.fst).Nodup→∀ {d:Dart},d∈p→vec p d.1=sg d.2
  | [],_,d,h=>by cases h
  | c::p,hn,d,h=>by
    rw [List.map_cons,List.nodup_cons] at hn
    show (if c.1=d.1 then sg c.2 else 0)+vec p d.1=sg d.2
    rcases List.mem_cons.1 h with rfl | h
    · rw [if_pos rfl,yjJ fun x hx e=>hn.1 (by rw [←e];exact List.mem_map_of_mem hx)];omega
    · rw [if_neg (fun e=>hn.1 (by rw [e];exact List.mem_map_of_mem h)),yho hn.2 h];omega
theorem yip{p:List Dart}(hn:(p.map Prod.fst).Nodup){i:Nat}(h:vec p i≠0):∃ d∈p,d.1=i∧vec p i=sg d.2:=by
  by_cases q:∃ d∈p,d.1=i
  · obtain ⟨d,hd,rfl⟩:=q
    exact ⟨d,hd,rfl,yho hn hd⟩
  · exact absurd (yjJ fun d hd e=>q ⟨d,hd,e⟩) h
theorem ygL{p:List Dart}(hn:(p.map Prod.fst).Nodup)(i:Nat):vec p i=0∨vec p i=1∨vec p i = -1:=by
  by_cases h:vec p i=0
  · exact .inl h
  · obtain ⟨d,_,_,e⟩:=yip hn h
    rw [e];exact .inr (ycJ _)
theorem DCyc.circ{s:Int}{p:List Dart}(h:DCyc m E s p):Circ m E (vec p):=fun w=>by rw [bdy_vec h.ch h.lt];omega
def Pos(m:Nat)(z:Nat→Int)(d:Dart):Prop:=d.1<m∧0<z d.1*sg d.2
theorem exists_neg{f:Nat→Int} : ∀ {n:Nat},sm n f=0→(∃ i,i<n∧0<f i)→∃ i,i<n∧f i<0:=by
  intro n h ⟨i,hi,hp⟩
  refine Classical.byContradiction fun q=>?_
  have h0:∀ j,j<n→0≤f j:=fun j hj=>Int.not_lt.1 fun hn=>q ⟨j,hj,hn⟩
  have:=ygu h0 i hi
  omega
theorem pos_next{z:Nat→Int}(hz:Circ m E z){d:Dart}(hd:Pos m z d):∃ d',Pos m z d'∧dfr_ E d'=dto E d:=by
  by_cases hl:dfr_ E d=dto E d
  · exact ⟨d,hd,hl⟩
  · have hv:=hz (dto E d)
    obtain ⟨i,hi,hn⟩:=exists_neg hv ⟨d.1,hd.1,by
      have h2:=hd.2
      obtain ⟨i,b⟩:=d
      cases b
      · simp only [dfr_,dto,Bool.false_eq_true,if_false,sg] at *
        rw [if_neg hl,if_pos trivial];omega
      · simp only [dfr_,dto,if_true,sg] at *
        rw [if_neg hl];omega⟩
    have hn:z i*((if (gx E i).2=dto E d then 1 else 0)-if (gx E i).1=dto E d then 1 else 0)<0:=hn
    by_cases h2:(gx E i).2=dto E d
    · by_cases h1:(gx E i).1=dto E d
      · rw [if_pos h2,if_pos h1] at hn;omega
      · rw [if_pos h2,if_neg h1] at hn
        exact ⟨(i,false),⟨hi,by show 0<z i*(-1);omega⟩,h2⟩
    · by_cases h1:(gx E i).1=dto E d
      · rw [if_neg h2,if_pos h1] at hn
        exact ⟨(i,true),⟨hi,by show 0<z i*1;omega⟩,h1⟩
      · rw [if_neg h2,if_neg h1] at hn;omega
theorem yhY{n:Nat}{l:List Int}(hn:l.Nodup)(h:∀ x∈l,0≤x∧x<n):l.length≤n:=by
  have h2:(l.map Int.toNat).Nodup:=by
    rw [List.Nodup,List.pairwise_map]
    exact List.Pairwise.imp_of_mem (fun {a b} ha hb hne e=>hne (by have:=h a ha;have:=h b hb;omega)) hn
  have:=nodupN_le h2 (K:=List.range n) fun x hx=>by
    obtain ⟨y,hy,rfl⟩:=List.mem_map.1 hx
    have:=h y hy
    rw [List.mem_range];omega
  simpa using this
theorem ya6.fr{n:Nat}(hE:ya6 n E){d:Dart}(hd:d.1<E.length):(0≤dfr_ E d∧dfr_ E d<n)∧0≤dto E d∧dto E d<n:=by
  have:=hE (gx E d.1) (by rw [yaM hd];exact List.getElem_mem hd)
  obtain ⟨i,b⟩:=d
  cases b
  · exact ⟨this.2,this.1⟩
  · exact this
theorem close_walk{n:Nat}(hE:ya6 n E){z:Nat→Int}(hz:Circ E.length E z):∀ (k:Nat) (p:List Dart) (u v:Int),n≤p.length+k→Ch E u p v→(p.map (dfr_ E)).Nodup→v∉p.map (dfr_ E)→(∀ d∈p,Pos E.length z d)→(∃ d,Pos E.length z d∧dfr_ E d=v) →
    ∃ (s:Int) (c:List Dart),c≠[]∧Ch E s c s∧(c.map (dfr_ E)).Nodup∧∀ d∈c,Pos E.length z d:=by
  intro k
  induction k with
  | zero =>
    intro p u v hk hc hn hv hp ⟨d,hd,hdv⟩
    have hn2:(v::p.map (dfr_ E)).Nodup:=List.nodup_cons.2 ⟨hv,hn⟩
    have:=yhY (n:=n) hn2 fun x hx=>by
      rcases List.mem_cons.1 hx with rfl | hx
      · rw [←hdv];exact (hE.fr hd.1).1
      · obtain ⟨y,hy,rfl⟩:=List.mem_map.1 hx
        exact (hE.fr (hp y hy).1).1
    simp at this
    omega
  | succ k ih =>
    intro p u v hk hc hn hv hp ⟨d,hd,hdv⟩
    have hc2:Ch E u (p++[d]) (dto E d):=hc.append ⟨hdv,rfl⟩
    have hn2:((p++[d]).map (dfr_ E)).Nodup:=by
      rw [List.map_append,List.nodup_append]
      refine ⟨hn,by simp,fun a ha b hb e=>?_⟩
      simp at hb
      subst e
      rw [hb,hdv] at ha
      exact hv ha
    have hp2:∀ x∈p++[d],Pos E.length z x:=fun x hx=>by
      rcases List.mem_append.1 hx with q | q
      · exact hp x q
      · rw [List.mem_singleton.1 q];exact hd
    by_cases hin:dto E d∈(p++[d]).map (dfr_ E)
    · obtain ⟨d0,hd0,e0⟩:=List.mem_map.1 hin
      obtain ⟨p1,p2,e⟩:=List.append_of_mem hd0
      rw [e] at hc2 hn2 hp2
      obtain ⟨w,h1,h2⟩:=hc2.split
      have hw:=h2.head
      rw [hw,e0] at h2
      refine ⟨dto E d,d0::p2,by simp,h2,?_,fun x hx=>hp2 x (List.mem_append_right _ hx)⟩
      rw [List.map_append,List.nodup_append] at hn2
      exact hn2.2.1
    · exact ih (p++[d]) u _ (by simp;omega) hc2 hn2 hin hp2 (pos_next hz hd)
theorem exists_min{α:Type}(f:α→Int):∀ {l:List α},l≠[]→∃ a∈l,∀ b∈l,f a≤f b
  | [],h=>absurd rfl h
  | [a],_=>⟨a,by simp,fun b hb=>by rw [List.mem_singleton.1 hb];exact Int.le_refl _⟩
  | a::b::t,_=>by
    obtain ⟨c,hc,hm⟩:=exists_min f (l:=b::t) (by simp)
    by_cases h:f a≤f c
    · refine ⟨a,by simp,fun x hx=>?_⟩
      rcases List.mem_cons.1 hx with rfl | hx
      · exact Int.le_refl _
      · exact Int.le_trans h (hm x hx)
    · refine ⟨c,List.mem_cons_of_mem _ hc,fun x hx=>?_⟩
      rcases List.mem_cons.1 hx with rfl | hx
      · omega
      · exact hm x hx
theorem turned_walk{s:Int}{c:List Dart}(hne:c≠[])(hc:Ch E s c s)(hn:(c.map (dfr_ E)).Nodup)(hed:(c.map Prod.fst).Nodup)(hlt:∀ d∈c,d.1<m):∃ t p,DCyc m E t p∧p.Perm c:=by
  obtain ⟨d,hd,hmin⟩:=exists_min (dfr_ E) hne
  obtain ⟨c1,c2,rfl⟩:=List.append_of_mem hd
  obtain ⟨w,h1,h2⟩:=hc.split
  have hw:=h2.head
  subst hw
  have hp:(d::c2++c1).Perm (c1++d::c2):=List.perm_append_comm
  refine ⟨dfr_ E d,d::c2++c1,⟨by simp,h2.append h1,((hp.map _).nodup_iff).2 hn,((hp.map _).nodup_iff).2 hed,fun x hx=>hlt x (hp.mem_iff.1 hx),fun x hx=>hmin x (hp.mem_iff.1 hx)⟩,hp⟩
theorem pos_nodup{z:Nat→Int}{c:List Dart}(hn:(c.map (dfr_ E)).Nodup)(hp:∀ d∈c,Pos m z d):(c.map Prod.fst).Nodup:=by
  rw [List.Nodup,List.pairwise_map] at *
  refine List.Pairwise.imp_of_mem (fun {a b} ha hb hne e=>hne ?_) hn
  have h1:=(hp a ha).2
  have h2:=(hp b hb).2
  obtain ⟨i,x⟩:=a
  obtain ⟨j,y⟩:=b
  have e:i=j:=e
  subst e
  cases x <;> cases y <;> simp only [sg,Bool.false_eq_true,if_false,if_true] at h1 h2 <;> first | rfl | omega
theorem yiM{n:Nat}(hE:ya6 n E){z:Nat→Int}(hz:Circ E.length E z)(h0:∃ i,i<E.length∧z i≠0):∃ s p,DCyc E.length E s p∧∀ d∈p,Pos E.length z d:=by
  obtain ⟨i,hi,hne⟩:=h0
  obtain ⟨d,hd⟩:∃ d,Pos E.length z d:=by
    by_cases h:0<z i
    · exact ⟨(i,true),hi,by show 0<z i*1;omega⟩
    · exact ⟨(i,false),hi,by show 0<z i*(-1);omega⟩
  obtain ⟨s,c,h1,h2,h3,h4⟩:=close_walk hE hz n [] (dfr_ E d) (dfr_ E d) (by simp) rfl (by simp) (by simp) (by simp) ⟨d,hd,rfl⟩
  obtain ⟨t,p,hp,hpm⟩:=turned_walk h1 h2 h3 (pos_nodup h3 h4) fun d hd=>(h4 d hd).1
  exact ⟨t,p,hp,fun d hd=>h4 d (hpm.mem_iff.1 hd)⟩
end
end Go.Proofs.YtencmgolklfmkaaGreat

/- Products of vectors, what is nearest, plainly. No program in sight. -/
namespace Go.Proofs.YtencmgolklfmkaaGreat
open Go Go.Proofs.Tryz
def dot_ (m:Nat)(x y:Nat→Int):Int:=sm m fun i=>x i*y i
section
variable {m : Nat} {E : List (Int × Int)}
theorem ydX(x y:Nat→Int):dot_ m x y=dot_ m y x:=yaw fun i _=>Int.mul_comm _ _
theorem ygv(x y z:Nat→Int):dot_ m x (fun i=>y i+z i)=dot_ m x y+dot_ m x z:=by
  unfold dot_;rw [←ydu];exact yaw fun i _=>Int.mul_add _ _ _
theorem dot_sub(x y z:Nat→Int):dot_ m x (fun i=>y i-z i)=dot_ m x y-dot_ m x z:=by
  unfold dot_;rw [←ygl];exact yaw fun i _=>Int.mul_sub _ _ _
theorem ybA{x x' y y':Nat→Int}(hx:∀ i,i<m→x i=x' i)(hy:∀ i,i<m→y i=y' i):dot_ m x y=dot_ m x' y':=yaw fun i hi=>by rw [hx i hi,hy i hi]
theorem dot_nn{x y:Nat→Int}(h:∀ i,i<m→0≤x i*y i):0≤dot_ m x y:=ybo h
theorem sq_nn(a:Int):0≤a*a:=by
  rcases Int.le_total 0 a with h | h
  · exact Int.mul_nonneg h h
  · have:=Int.mul_nonneg (Int.neg_nonneg.2 h) (Int.neg_nonneg.2 h);rwa [Int.neg_mul_neg] at this
theorem yjD(x:Nat→Int):0≤dot_ m x x:=dot_nn fun i _=>sq_nn _
theorem dot_sum(x y:Nat→Int):dot_ m (fun i=>x i+y i) (fun i=>x i+y i)=dot_ m x x+2*dot_ m x y+dot_ m y y:=by
  rw [ygv,ydX _ x,ydX _ y,ygv,ygv,ydX y x];omega
theorem ygA(x y:Nat→Int):dot_ m (fun i=>x i-y i) (fun i=>x i-y i)=dot_ m x x-2*dot_ m x y+dot_ m y y:=by
  rw [dot_sub,ydX _ x,ydX _ y,dot_sub,dot_sub,ydX y x];omega
theorem sq_le_dot{x:Nat→Int}{i:Nat}(hi:i<m):x i*x i≤dot_ m x x:=ygu (fun j _=>sq_nn (x j)) i hi
theorem dot_zero{x:Nat→Int}(h:∀ i,i<m→x i=0):dot_ m x x=0:=by
  unfold dot_;rw [yaw (g:=fun _=>0) fun i hi=>by rw [h i hi,Int.zero_mul],ybY]
def siz(m:Nat)(z:Nat→Int):Nat:=(sm m fun i=>((z i).natAbs:Int)).toNat
theorem siz_lt{z z':Nat→Int}(h:∀ i,i<m→(z' i).natAbs≤(z i).natAbs){j:Nat}(hj:j<m)(h2:(z' j).natAbs<(z j).natAbs):siz m z'<siz m z:=by
  have h1:sm m (fun i=>((z i).natAbs:Int)-((z' i).natAbs:Int))=sm m (fun i=>((z i).natAbs:Int))-sm m (fun i=>((z' i).natAbs:Int)):=ygl _ _ _
  have h3:((z j).natAbs:Int)-((z' j).natAbs:Int)≤sm m (fun i=>((z i).natAbs:Int)-((z' i).natAbs:Int)):=ygu (f:=fun i=>((z i).natAbs:Int)-((z' i).natAbs:Int)) (fun i hi=>by have:=h i hi;show 0≤((z i).natAbs:Int)-((z' i).natAbs:Int);omega) j hj
  have h4:0≤sm m (fun i=>((z' i).natAbs:Int)):=ybo fun i _=>Int.natCast_nonneg _
  unfold siz
  omega
theorem part_of{n:Nat}(hE:ya6 n E){z:Nat→Int}(hz:Circ E.length E z)(h0:∃ i,i<E.length∧z i≠0) :
    ∃ s p,DCyc E.length E s p∧Circ E.length E (fun i=>z i-vec p i)∧siz E.length (fun i=>z i-vec p i)<siz E.length z∧0≤dot_ E.length (vec p) (fun i=>z i-vec p i):=by
  obtain ⟨s,p,hp,ha⟩:=yiM hE hz h0
  have key:∀ i,i<E.length→(z i-vec p i).natAbs≤(z i).natAbs∧0≤vec p i*(z i-vec p i)∧(vec p i≠0→(z i-vec p i).natAbs<(z i).natAbs):=by
    intro i hi
    by_cases q:vec p i=0
    · rw [q];simp
    · obtain ⟨d,hd,rfl,e⟩:=yip hp.ed q
      have h2:=(ha d hd).2
      rw [e]
      rcases ycJ d.2 with e1 | e1 <;> rw [e1] at h2 ⊢ <;> refine ⟨by omega,by omega,fun _=>by omega⟩
  obtain ⟨d,hd⟩:=List.exists_mem_of_ne_nil _ hp.ne
  refine ⟨s,p,hp,hz.sub hp.circ,siz_lt (fun i hi=>(key i hi).1) (hp.lt d hd) ((key d.1 (hp.lt d hd)).2.2 ?_),dot_nn fun i hi=>(key i hi).2.1⟩
  rw [yho hp.ed hd]
  rcases ycJ d.2 with e1 | e1 <;> rw [e1] <;> decide
theorem yhd(m:Nat)(z:Nat→Int):(∀ i,i<m→z i=0)∨∃ i,i<m∧z i≠0:=by
  by_cases h:∃ i,i<m∧z i≠0
  · exact .inr h
  · exact .inl fun i hi=>Classical.byContradiction fun q=>h ⟨i,hi,q⟩
theorem half_all{n:Nat}(hE:ya6 n E){y:Nat→Int}(h:∀ s p,DCyc E.length E s p→2*dot_ E.length y (vec p)≤dot_ E.length (vec p) (vec p)) :
    ∀ (k:Nat) (z:Nat→Int),siz E.length z≤k→Circ E.length E z→2*dot_ E.length y z≤dot_ E.length z z:=by
  intro k
  induction k with
  | zero =>
    intro z hk hz
    rcases yhd E.length z with h0 | h0
    · rw [dot_zero h0,show dot_ E.length y z=0 by unfold dot_;rw [yaw (g:=fun _=>0) fun i hi=>by rw [h0 i hi,Int.mul_zero],ybY]]
      decide
    · obtain ⟨s,p,_,_,h3,_⟩:=part_of hE hz h0
      omega
  | succ k ih =>
    intro z hk hz
    rcases yhd E.length z with h0 | h0
    · rw [dot_zero h0,show dot_ E.length y z=0 by unfold dot_;rw [yaw (g:=fun _=>0) fun i hi=>by rw [h0 i hi,Int.mul_zero],ybY]]
      decide
    · obtain ⟨s,p,hp,hz',h3,h4⟩:=part_of hE hz h0
      have h5:=ih _ (by omega) hz'
      have h6:=h s p hp
      have e:dot_ E.length z z=dot_ E.length (vec p) (vec p)+2*dot_ E.length (vec p) (fun i=>z i-vec p i)+dot_ E.length (fun i=>z i-vec p i) (fun i=>z i-vec p i):=by
        rw [←dot_sum];exact ybA (fun i _=>by omega) (fun i _=>by omega)
      have e2:dot_ E.length y z=dot_ E.length y (vec p)+dot_ E.length y (fun i=>z i-vec p i):=by
        rw [←ygv];exact ybA (fun i _=>rfl) (fun i _=>by omega)
      omega
def yfz(m:Nat)(E:List (Int×Int))(y:Nat→Int):Prop:=∀ z,Circ m E z→2*dot_ m y z≤dot_ m z z
theorem yfz.dist{y:Nat→Int}(h:yfz m E y){z:Nat→Int}(hz:Circ m E z):dot_ m y y≤dot_ m (fun i=>y i-z i) (fun i=>y i-z i):=by
  rw [ygA];have:=h z hz;omega
theorem least_of{n:Nat}(hE:ya6 n E){y:Nat→Int}(h:∀ s p,DCyc E.length E s p→2*dot_ E.length y (vec p)≤dot_ E.length (vec p) (vec p)):yfz E.length E y:=fun z hz=>half_all hE h _ z (Nat.le_refl _) hz
theorem near_step{n:Nat}(hE:ya6 n E){y z:Nat→Int}(hy:yfz E.length E y)(hz:Circ E.length E z)(he:dot_ E.length (fun i=>y i-z i) (fun i=>y i-z i)=dot_ E.length y y)(h0:∃ i,i<E.length∧z i≠0) :
    ∃ s p,DCyc E.length E s p∧Circ E.length E (fun i=>z i-vec p i)∧siz E.length (fun i=>z i-vec p i)<siz E.length z∧dot_ E.length (fun i=>y i-vec p i) (fun i=>y i-vec p i)=dot_ E.length y y:=by
  obtain ⟨s,p,hp,hz',h3,h4⟩:=part_of hE hz h0
  refine ⟨s,p,hp,hz',h3,?_⟩
  have h5:=hy _ hz'
  have h6:=hy _ hp.circ
  have e:dot_ E.length z z=dot_ E.length (vec p) (vec p)+2*dot_ E.length (vec p) (fun i=>z i-vec p i)+dot_ E.length (fun i=>z i-vec p i) (fun i=>z i-vec p i):=by
    rw [←dot_sum];exact ybA (fun i _=>by omega) (fun i _=>by omega)
  have e2:dot_ E.length y z=dot_ E.length y (vec p)+dot_ E.length y (fun i=>z i-vec p i):=by
    rw [←ygv];exact ybA (fun i _=>rfl) (fun i _=>by omega)
  rw [ygA] at he ⊢
  omega
theorem yfz.move{y z:Nat→Int}(hy:yfz m E y)(hz:Circ m E z)(he:dot_ m (fun i=>y i-z i) (fun i=>y i-z i)=dot_ m y y):yfz m E (fun i=>y i-z i):=fun u hu=>by
  have h1:=hy (fun i=>z i+u i) fun v=>by rw [bdy_add,hz v,hu v];rfl
  rw [dot_sum,ygv] at h1
  rw [ygA] at he
  rw [ydX,dot_sub,ydX u y,ydX u z]
  omega
end
end Go.Proofs.YtencmgolklfmkaaGreat
