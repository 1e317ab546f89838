/- Texts laid together: PVa_2, TabT, PVb, PFe, Mk, Gn. -/
import Derived.Test.YtencmgolklfmkaaGreatK5
set_option linter.unusedVariables false
set_option linter.unusedSimpArgs false
set_option linter.unusedSectionVars false
/- Pure forms of functions, made by program (pf.py), each with the proof that the code does so. -/
namespace Go.Proofs.YtencmgolklfmkaaGreat
open Go Go.RowKit Go.Shelf Go.Proofs.Tryz
set_option maxRecDepth 100000
set_option maxHeartbeats 8000000
def yb4(l:List (List Int))(x:List Int)(R:(List Int)→Int→Bool→Prop):Prop :=
ya1 x (fun r =>
(∃ I2:Nat→(List Int)→Int→Prop,(∃ m0,I2 m0 r 0)∧∀ m2 x2 n,I2 m2 x2 n → 
ycG l x2 1 ((∃ Pr Rr:List (List Int)→Prop,ybI l x2 1 Pr Rr ∧
(∃ K:List (List Int)→(List Int)→Prop,∃ I3:List (List Int)→Prop,I3 [] ∧
(∀ pre y,I3 pre→Pr (pre++[y]) →
K (pre++[y]) y) ∧
(∀ ys,I3 ys→Rr ys →
R x2 n true) ∧
(∀ (ys2:List (List Int)) (first:List Int),K ys2 first → 
(∀ nil:Bool,(nil=true→first=[]) →
((nil=true →
R x2 n true) ∧
(¬(nil=true) →
((n=4096 →
R ([]) 0 false) ∧
(¬(n=4096) →
ybg x2 first (fun r2 =>
(In64 (n+1) ∧
∃ m3,m3<m2∧I2 m3 r2 (n+1))))))))))))))
theorem yek{O:Nat→Prop}{w:World}{l x Al ll cl Ax lx cx}{R:(List Int)→Int→Bool→Prop}(h:yb4 l x R)(hO:∀ k,O k→k<w.heap.size)(hA0:(FP.sl (cL cI) Al ll cl l).P O w)(hA1:(FP.sl cI Ax lx cx x).P O w) :
    Calls Tryz.prog 50 #[(.slice Al ll cl),(.slice Ax lx cx)] w fun e w'=>∃ r3 r4 r5 Ar3 lr3 cr3,e = .returned (.tuple #[(.slice Ar3 lr3 cr3),(ii r4),(.bool (r5))])∧Sep w no O w' (rl [Res.ro (FP.sl cI Ar3 lr3 cr3 r3)])∧R r3 r4 r5:=by
  unfold yb4 at h;have hS:Sep w no O w (rl [Res.ro (FP.sl (cL cI) Al ll cl l),Res.ro (FP.sl cI Ax lx cx x)]):=Sep.startl hO [(FP.sl (cL cI) Al ll cl l),(FP.sl cI Ax lx cx x)] ⟨hA0,hA1,trivial⟩;refine yfE (l:=[(.slice Al ll cl),(.slice Ax lx cx)]) func50 rfl ntmps50 zY (zs (zQ (.slice none 0 0) (zQ (ii 0) (zQ (.bool (false)) (yaa (zs (zM (.slice Ax lx cx) (zn (yai rfl (am1 rfl) enter_79 ((ycx h (yaz _) (hS.rdr 1 rfl)).mono ?_))))))))));rintro _ w2 ⟨r,Ar,lr,cr,rfl,hC,h⟩;replace hS:=hS.call1 (hC.widen (ycv (yaP (fI .i64) _ _ _ _ _) ycH) hS.blt) 2 0 rfl;clear hC;refine ⟨_,rfl,?_⟩;refine zb (zQ (.slice Ar lr cr) (yaa (zs (zQ (ii 0) (yaa (yad ?_))))));replace hS:=hS.dfs0 3 rfl;obtain ⟨I2,⟨m0,h0⟩,hr⟩:=h;refine yax (fun m E ds w'=>∃ x2 n Ax2 lx2 cx2 Gd,I2 m x2 n∧ds=(List.map mark Gd)∧E 0=(Value.slice Al ll cl)∧E 1=(Value.slice Ax2 lx2 cx2)∧E 7=(ii n)∧Sep w no O w' (rl [Res.own cI 3 Ax2 lx2 cx2 x2,Res.ro (FP.sl (cL cI) Al ll cl l),dfrs Gd])) m0 ⟨_,_,_,_,_,[],h0,rfl,rfl,rfl,rfl,(hS.sel [2,0,3])⟩ ?_;clear h0 hS;rintro m2 E ds w3 ⟨x2,n,Ax2,lx2,cx2,Gd,h,rfl,H0,H1,H7,hS⟩ ag;replace h:=hr m2 x2 n h;clear hr;refine yac (yad (zs (zn (yaS yaJ ?_))));intro g w4 hN;replace hS:Sep w no O w4 (stl _ 3 (Res.box 35 g [(.slice none 0 0)])):=hS.new 3 rfl hN;clear hN;refine zb (yaa (yac (zs (zq (yab H0) (zq (yab H1) (zn (yai rfl (am3 rfl rfl rfl) enter_53 ((yeB h (yaz _) (hS.rdr 1 rfl) (hS.rdo 0 rfl)).mono ?_))))))));rintro _ w5 ⟨gc,gc2,gc3,rfl,hC,h⟩;replace hS:=hS.call3 (hC.widen (ycv (flat_box _ _ _) (ycv (flat_box _ _ _) (ycv (flat_box _ _ _) ycH))) hS.blt) 4 5 6 rfl rfl rfl (by decide) (by decide) (by decide);clear hC;refine ⟨_,rfl,?_⟩;refine zb (yaa (yad ?_));replace hS:=hS.frz 0 rfl;replace hS:=hS.addro 7 rfl _ (yeK cI _ _);obtain ⟨Pr,Rr,hgp,K,I3,h0,hb,h,hx⟩:=h;refine wt_iterSP hS [2,1,0,3] [4,1,5,0,6] (by decide) (by decide) ⟨.inl (by decide), .inr rfl, .inl (by decide), .inr rfl, .inl (by decide),trivial⟩ rfl enter_103 (val:=(fun (x:List Int) (b:(Option Addr×Nat×Nat))=>#[(.slice b.1 b.2.1 b.2.2)])) (pass:=(fun (x:List Int) (b:(Option Addr×Nat×Nat))=>(FP.sl cI b.1 b.2.1 b.2.2 x))) (Pr:=Pr) (R:=Rr) (fun _ _=>rfl) rfl (fun pr LL=>I3 pr∧LL=[dfrs Gd,Res.ro (FP.sl (cL cI) Al ll cl l),Res.ro (FP.sl cI Ax2 lx2 cx2 x2),Res.box 35 g [(.slice none 0 0)]]) (fun c ys LL=>c=some 2∧∃ first Aa Ab,∃ Ac:Nat,K ys first∧LL=[dfrs Gd,Res.ro (FP.sl (cL cI) Al ll cl l),Res.ro (FP.sl cI Ax2 lx2 cx2 x2),Res.box 35 g [(.slice Aa Ab Ac)],Res.ro (FP.sl cI Aa Ab Ac first)]) ⟨h0,rfl⟩ (fun T G hG=>ydT hgp hG) ?_ ?_ ?_
  · clear h h0 hS hgp;rintro ll rdy busy S O2 pre y ⟨A,l2,c⟩ w6 _ ⟨hI,rfl⟩ hPr hpass hS;have h:=hb pre y hI hPr;clear hb hI hPr;replace hS:=hS.addro 5 rfl _ hpass;clear hpass;refine yaE (ydD ll) (zQ (.slice A l2 c) (yaa (yhq fun a ra=>⟨rfl,_,_,ra,hS,⟨4,rfl⟩,?_⟩)));intro w8 hw;replace hS:=hS.flip 4 rfl busy hw;clear hw ra a;refine yad (yac (yaE (ydD ll) (zM (.slice A l2 c) (zo (zt (.slice A l2 c) yaJ (hS.bwr 3 rfl (j:=0) rfl) ?_)))));intro w9 e1;replace hS:=hS.bst 3 rfl 0 (.slice A l2 c) e1;clear e1;exact zb (yaa (wt_leave rfl fun a r=>⟨_,⟨rfl,_,_,_,_,h,rfl⟩,(hS.sel [0,1,2,3,5,4])⟩))
  · clear hb h0 hS hgp;rintro D ys w7 _ hRr ⟨hI,rfl⟩ hS;replace h:=h ys hI hRr;clear hI hRr;refine yae (yac (yad (zs (zq (zl underlying35 (Row.cell (hS.bx 3 rfl) (i:=0) rfl)) (zq (v_seql rfl rfl underlying35) (zQ (.bool (true)) (yaa (yaq rfl (zs (zq (yab H1) (zq (yab H7) (zQ (.slice Ax2 lx2 cx2) (zQ (ii n) (zQ (.bool (true)) (yaa ?_)))))))))))))));replace hS:=hS.dfspush 4 0 rfl rfl rfl;exact wt_retk3 (rs:=(D::Gd)) (hS.dfsn 0 rfl) (hS.dfsm 0 rfl) rfl rfl rfl rfl (fun w9 hk=>⟨_,_,_,_,_,_,rfl,(hS.unmark [0] [2] (by decide) (by decide) (undfs 0 rfl) hk),h⟩)
  · clear h hb h0 hS hgp;rintro D2 c ys2 w10 _ ⟨rfl,first,Aa,Ab,Ac,hK,rfl⟩ hS;have h:=hx ys2 first hK;clear hx hK;refine jump_to rfl (yac (yad (zs (zq (zl underlying35 (Row.cell (hS.bx 3 rfl) (i:=0) rfl)) ?_))));obtain ⟨nil,hn⟩:∃ b,Option.isNone Aa=b:=⟨_,rfl⟩;replace h:=h nil (by rw [←hn];exact rd_nil (hS.rdr 4 rfl));refine zq (v_seqlx rfl rfl underlying35 hn) (zQ (.bool (nil)) (yaa ?_));by_cases hp:nil=true
    · replace h:=h.1 hp;refine yaq (zC hp) (zs (zq (yab H1) (zq (yab H7) (zQ (.slice Ax2 lx2 cx2) (zQ (ii n) (zQ (.bool (true)) (yaa ?_)))))));replace hS:=hS.dfspush 5 0 rfl rfl rfl;exact wt_retk3 (rs:=(D2::Gd)) (hS.dfsn 0 rfl) (hS.dfsm 0 rfl) rfl rfl rfl rfl (fun w9 hk=>⟨_,_,_,_,_,_,rfl,(hS.unmark [0] [2] (by decide) (by decide) (undfs 0 rfl) hk),h⟩)
    · replace h:=h.2 hp;refine yav (zC (zI hp)) (zs (zq (yab H7) (zq zE (zQ (.bool (decide (n=4096))) (yaa ?_)))));by_cases hp2:n=4096
      · replace h:=h.1 hp2;refine zc hp2 (zs (zQ (.slice none 0 0) (zQ (ii 0) (zQ (.bool (false)) (yaa ?_)))));replace hS:=hS.addro 6 rfl _ (yeK cI _ _);replace hS:=hS.dfspush 5 0 rfl rfl rfl;exact wt_retk3 (rs:=(D2::Gd)) (hS.dfsn 0 rfl) (hS.dfsm 0 rfl) rfl rfl rfl rfl (fun w9 hk=>⟨_,_,_,_,_,_,rfl,(hS.unmark [0] [6] (by decide) (by decide) (undfs 0 rfl) hk),h⟩)
      · replace h:=h.2 hp2;refine zd hp2 (yaf (yae (zr (zq (yab H1) (zq (zl underlying35 (Row.cell (hS.bx 3 rfl) (i:=0) rfl)) (zn (yai rfl (am2 rfl rfl) yhF ((yc2 h (yaz _) (hS.rdr 2 rfl) (hS.rdr 4 rfl)).mono ?_))))))));rintro _ w11 ⟨r2,Ar2,lr2,cr2,rfl,hC,h⟩;replace hS:=hS.call1 (hC.widen (ycv (yaP (fI .i64) _ _ _ _ _) ycH) hS.blt) 6 0 rfl;clear hC;refine ⟨_,rfl,?_⟩;refine zb (zQ (.slice Ar2 lr2 cr2) (yaa (yae (zr (zq (yab H7) ?_)))));obtain ⟨hi,h⟩:=h;refine zq (zA hi) (zQ (ii (n+1)) (yaa ?_));replace hS:=hS.dfspush 5 0 rfl rfl rfl;obtain ⟨mq,hlt,h⟩:=h;exact ag mq _ _ _ ⟨_,_,_,_,_,(D2::Gd),h,rfl,H0,rfl,rfl,(hS.sel [6,1,0])⟩ hlt
def yc3(g:Int)(g2:List E3)(x:List Int)(R:(List Int)→Int→Int→Prop):Prop :=
yby g g2 x (fun r r2 =>
((r2=0 →
yb4 r x (fun r3 r4 r5 =>
((r5=true →
R r3 r4 0) ∧
(¬(r5=true) →
R ([]) 0 12)))) ∧
(¬(r2=0) →
R ([]) 0 r2)))
theorem yg8{O:Nat→Prop}{w:World}{g g2 x Ag lg cg Ax lx cx}{R:(List Int)→Int→Int→Prop}(h:yc3 g g2 x R)(hO:∀ k,O k→k<w.heap.size)(hA0:(FP.sl c3 Ag lg cg g2).P O w)(hA1:(FP.sl cI Ax lx cx x).P O w) :
    Calls Tryz.prog 15 #[(.agg #[(ii g),(.slice Ag lg cg)]),(.slice Ax lx cx)] w fun e w'=>∃ r6 r7 r8 Ar3 lr3 cr3,e = .returned (.tuple #[(.slice Ar3 lr3 cr3),(ii r7),(ii r8)])∧Sep w no O w' (rl [Res.ro (FP.sl cI Ar3 lr3 cr3 r6)])∧R r6 r7 r8:=by
  unfold yc3 at h;have hS:Sep w no O w (rl [Res.ro (FP.sl c3 Ag lg cg g2),Res.ro (FP.sl cI Ax lx cx x)]):=Sep.startl hO [(FP.sl c3 Ag lg cg g2),(FP.sl cI Ax lx cx x)] ⟨hA0,hA1,trivial⟩;refine yal (l:=[(.agg #[(ii g),(.slice Ag lg cg)]),(.slice Ax lx cx)]) func15 rfl ntmps15 zY (zs (zn (ybm (v:=(.agg #[(ii g),(.slice Ag lg cg)])) rfl ?_)));intro g3 w2 hN;replace hS:Sep w no O w2 (stl _ 2 (Res.box 24 g3 [(ii g),(.slice Ag lg cg)])):=hS.new 2 rfl hN;clear hN;refine zb (zQ (.slice none 0 0) (zQ (ii 0) (zQ (ii 0) (yaa (zs (zq (yao (vs:=[(ii g),(.slice Ag lg cg)]) rfl underlying24 rfl yak ⟨Row.cell (hS.bx 2 rfl) (i:=0) rfl,Row.cell (hS.bx 2 rfl) (i:=1) rfl,trivial⟩) (zM (.slice Ax lx cx) (zn (yai rfl (am2 rfl rfl) enter_49 ((ydy h hS.blt (hS.ro 0 rfl) (hS.ro 1 rfl)).mono ?_))))))))));rintro _ w3 ⟨r,r2,Ar,lr,cr,rfl,hC,h⟩;replace hS:=hS.call1 hC 3 0 rfl;clear hC;refine ⟨_,rfl,?_⟩;refine zb (zM (.tuple #[(.slice Ar lr cr),(ii r2)]) (zq (zx (.slice Ar lr cr)) (zq (zx (ii r2)) (zQ (.slice Ar lr cr) (zQ (ii r2) (yaa (yac (zs (zM (ii r2) (zq zN (yaa ?_)))))))))));by_cases hp:r2=0
  · replace h:=h.1 hp;refine ze hp (yaf (zs (zM (.slice Ar lr cr) (zM (.slice Ax lx cx) (zn (yai rfl (am2 rfl rfl) enter_50 ((yek h hS.blt (hS.ro 3 rfl) (hS.ro 1 rfl)).mono ?_)))))));rintro _ w4 ⟨r3,r4,r5,Ar2,lr2,cr2,rfl,hC,h⟩;replace hS:=hS.call1 hC 4 0 rfl;clear hC;refine ⟨_,rfl,?_⟩;refine zb (zM (.tuple #[(.slice Ar2 lr2 cr2),(ii r4),(.bool (r5))]) (zq (zx (.slice Ar2 lr2 cr2)) (zq (zx (ii r4)) (zq (zx (.bool (r5))) (zQ (.slice Ar2 lr2 cr2) (zQ (ii r4) (zQ (.bool (r5)) (yaa (yac (zs (zM (.bool (r5)) (zq (yds rfl) (yaa ?_)))))))))))));by_cases hp2:r5=true
    · replace h:=h.1 hp2;exact yav (zC (zB hp2)) (yaf (zs (zM (.slice Ar2 lr2 cr2) (zM (ii r4) (zQ (.slice Ar2 lr2 cr2) (zQ (ii r4) (zQ (ii 0) (yaa (yfh rfl rfl rfl rfl ⟨_,_,_,_,_,_,rfl,(hS.sel [4]),h⟩)))))))))
    · replace h:=h.2 hp2;refine yaq (zC (zB (zI hp2))) (zs (zQ (.slice none 0 0) (zQ (ii 0) (zQ (ii 12) (yaa ?_)))));replace hS:=hS.addro 5 rfl _ (yeK cI _ _);exact yfh rfl rfl rfl rfl ⟨_,_,_,_,_,_,rfl,(hS.sel [5]),h⟩
  · replace h:=h.2 hp;refine zf hp (zs (zM (ii r2) (zQ (.slice none 0 0) (zQ (ii 0) (zQ (ii r2) (yaa ?_))))));replace hS:=hS.addro 4 rfl _ (yeK cI _ _);exact yfh rfl rfl rfl rfl ⟨_,_,_,_,_,_,rfl,(hS.sel [4]),h⟩
def ybh(f:List Int)(v:Int)(R:Int→Prop):Prop :=
(∃ I2:Nat→Int→Prop,(∃ m0,I2 m0 v)∧∀ m2 v2,I2 m2 v2 → 
((0≤v2∧v2<12) ∧
(((gi f v2.toNat)=v2 →
R v2) ∧
(¬((gi f v2.toNat)=v2) →
∃ m3,m3<m2∧I2 m3 (gi f v2.toNat)))))
theorem ydJ{S O:Nat→Prop}{w:World}{f v gc}{R:Int→Prop}(h:ybh f v R)(hS:Sep w S O w (rl [Res.own cI 121 (some ⟨gc,0,none⟩) 12 12 f])) :
    Calls Tryz.prog 105 #[(.pointer (some ⟨gc,0,none⟩)),(ii v)] w fun e w'=>∃ r,e = .returned (ii r)∧Sep w S O w' (rl [Res.own cI 121 (some ⟨gc,0,none⟩) 12 12 f])∧R r:=by
  unfold ybh at h;refine yal (l:=[(.pointer (some ⟨gc,0,none⟩)),(ii v)]) func105 rfl ntmps105 zY (zs (zQ (ii 0) (yaa (yac (yad ?_)))));obtain ⟨I2,⟨m0,h0⟩,hr⟩:=h;refine yax (fun m E ds w'=>∃ v2,I2 m v2∧ds=[]∧E 0=(Value.pointer (some ⟨gc,0,none⟩))∧E 1=(ii v2)∧Sep w S O w' (rl [Res.own cI 121 (some ⟨gc,0,none⟩) 12 12 f])) m0 ⟨_,h0,rfl,rfl,rfl,(hS.sel [0])⟩ ?_;clear h0 hS;rintro m2 E ds w2 ⟨v2,h,rfl,H0,H1,hS⟩ ag;replace h:=hr m2 v2 h;clear hr;refine yac (zs (zq (yab (v:=(.pointer (some ⟨gc,0,none⟩))) H0) (zq (yab H1) (zq (v_nil rfl) ?_))));obtain ⟨hx,h⟩:=h;have hy:=yhj (hS.rdo 0 rfl) hx;refine zq (yew rfl rfl underlying121 yag hx) (zq (yar (v:=(ii (gi f v2.toNat))) rfl underlying3 rfl (rd_1 (hS.rdo 0 rfl) hy (fun q=>yaF q) rfl)) ?_);refine zq (yab H1) (zq zN (yaa ?_));by_cases hp:(gi f v2.toNat)=v2
  · replace h:=h.1 hp;exact ze hp (yas rfl (zs (zq (yab H1) (zQ (ii v2) (yaa (yah rfl rfl ⟨_,rfl,(hS.sel [0]),h⟩))))))
  · replace h:=h.2 hp;refine zf hp (yaf (yad (zr (zq (yab (v:=(.pointer (some ⟨gc,0,none⟩))) H0) (zq (yab H1) (zq (v_nil rfl) ?_))))));have hy2:=yhj (hS.rdo 0 rfl) hx;refine zq (yew rfl rfl underlying121 yag hx) (zq (yar (v:=(ii (gi f v2.toNat))) rfl underlying3 rfl (rd_1 (hS.rdo 0 rfl) hy2 (fun q=>yaF q) rfl)) ?_);refine zQ (ii (gi f v2.toNat)) (yaa (yae ?_));obtain ⟨mq,hlt,h⟩:=h;exact ag mq _ _ _ ⟨_,h,rfl,H0,rfl,(hS.sel [0])⟩ hlt
def ycp(g:Int)(g2:List E3)(R:Int→Int→Prop):Prop :=
ybF g g2 (fun r =>
((r=0 →
(∃ I2:Nat→Int→(List Int)→Prop,(∃ m0,I2 m0 0 (List.replicate 12 (0:Int)))∧∀ m2 v f,I2 m2 v f → 
((v<12 →
((0≤v∧v<12) ∧
(In64 (v+1) ∧
∃ m3,m3<m2∧I2 m3 (v+1) (f.set v.toNat v)))) ∧
(¬(v<12) →
yc0 g g2 ((∃ Pr Rr:List E3→Prop,ybt g g2 Pr Rr ∧
(∃ I3:List E3→(List Int)→Int→Prop,I3 [] f 0 ∧
(∀ pre y y2 y3 f2 genus,I3 pre f2 genus→Pr (pre++[(y,y2,y3)]) →
ybh f2 y2 (fun r2 =>
ybh f2 y3 (fun r3 =>
(∃ J2:Int→Prop,(∀ (genus2:Int),J2 genus2→((0≤(mxF r2 r3)∧(mxF r2 r3)<12) ∧
I3 (pre++[(y,y2,y3)]) (f2.set (mxF r2 r3).toNat (mnF r2 r3)) genus2)) ∧
((r2=r3 →
(In64 (genus+1) ∧
J2 (genus+1))) ∧
(¬(r2=r3) →
J2 genus)))))) ∧
(∀ ys f2 genus,I3 ys f2 genus→Rr ys →
R genus 0)))))))) ∧
(¬(r=0) →
R 0 r)))
theorem yir{O:Nat→Prop}{w:World}{g g2 Ag lg cg}{R:Int→Int→Prop}(h:ycp g g2 R)(hO:∀ k,O k→k<w.heap.size)(hA0:(FP.sl c3 Ag lg cg g2).P O w) :
    Calls Tryz.prog 57 #[(.agg #[(ii g),(.slice Ag lg cg)])] w fun e w'=>∃ r4 r5,e = .returned (.tuple #[(ii r4),(ii r5)])∧Sep w no O w' (rl [])∧R r4 r5:=by
  unfold ycp at h;have hS:Sep w no O w (rl [Res.ro (FP.sl c3 Ag lg cg g2)]):=Sep.startl hO [(FP.sl c3 Ag lg cg g2)] ⟨hA0,trivial⟩;refine yfE (l:=[(.agg #[(ii g),(.slice Ag lg cg)])]) func57 rfl ntmps57 zY (zs (zn (ybm (v:=(.agg #[(ii g),(.slice Ag lg cg)])) rfl ?_)));intro g3 w2 hN;replace hS:Sep w no O w2 (stl _ 1 (Res.box 24 g3 [(ii g),(.slice Ag lg cg)])):=hS.new 1 rfl hN;clear hN;refine zb (zQ (ii 0) (zQ (ii 0) (yaa (yac (zs (zq (yao (vs:=[(ii g),(.slice Ag lg cg)]) rfl underlying24 rfl yak ⟨Row.cell (hS.bx 1 rfl) (i:=0) rfl,Row.cell (hS.bx 1 rfl) (i:=1) rfl,trivial⟩) (zn (yai rfl (am1 rfl) yhE ((ydq h (yaz _) (hS.rdr 0 rfl)).mono ?_)))))))));rintro _ w3 ⟨r,rfl,hC,h⟩;replace hS:=hS.pur hC.pure;clear hC;refine ⟨_,rfl,?_⟩;refine zb (zQ (ii r) (yaa (zs (zM (ii r) (zq zN (yaa ?_))))));by_cases hp:r=0
  · replace h:=h.1 hp;refine ze hp (yaf (zs (zn (yaS info_121 ?_))));intro g4 w4 hN;replace hS:=hS.made (n:=12) 2 rfl cI (ii 0) (0:Int) (fun _ _=>rfl) (hN:New _ _ _ (Array.replicate 12 (ii 0)) 121) (by decide);clear hN;refine zb (yaa (yac (zs (zM (ii 0) (yaa (yad ?_))))));obtain ⟨I2,⟨m0,h0⟩,hr⟩:=h;refine yax (fun m E ds w'=>∃ v f,I2 m v f∧ds=[]∧E 1=(Value.pointer (some ⟨g3,0,none⟩))∧E 5=(Value.pointer (some ⟨g4,0,none⟩))∧E 17=(ii v)∧Sep w no O w' (rl [Res.box 24 g3 [(ii g),(.slice Ag lg cg)],Res.ro (FP.sl c3 Ag lg cg g2),Res.own cI 121 (some ⟨g4,0,none⟩) 12 12 f])) m0 ⟨_,_,h0,rfl,rfl,rfl,rfl,(hS.sel [1,0,2])⟩ ?_;clear h0 hS;rintro m2 E ds w5 ⟨v,f,h,rfl,H1,H5,H17,hS⟩ ag;replace h:=hr m2 v f h;clear hr;refine zs (zq (ydm H17 rfl) (yaa (yac ?_)));by_cases hp2:v<12
    · replace h:=h.1 hp2;refine zc hp2 (yaf (yac (yad (zs (zq (yab H17) (zQ (ii v) (yaa (zr (zM (ii v) (zM (ii v) ?_))))))))));obtain ⟨hx,h⟩:=h;have hy:=yhj (hS.rdo 2 rfl) hx;refine zq (yew H5 rfl underlying121 yag hx) (zo (zt (ii v) yag (hS.wr 2 rfl rfl hy) ?_));intro w6 e1;replace hS:=hS.st 2 rfl rfl hy (x:=v) rfl e1;clear e1;refine zb (yaa (yae (zr ?_)));obtain ⟨hi,h⟩:=h;refine zq (yb3 H17 rfl hi) (zM (ii (v+1)) (yaa ?_));obtain ⟨mq,hlt,h⟩:=h;exact ag mq _ _ _ ⟨_,_,h,rfl,H1,H5,rfl,(hS.sel [0,1,2])⟩ hlt
    · replace h:=h.2 hp2;refine zd hp2 (yas rfl (zs (zn (yaS yag ?_))));intro g5 w7 hN;replace hS:Sep w no O w7 (stl _ 3 (Res.box 3 g5 [(ii 0)])):=hS.new 3 rfl hN;clear hN;refine zb (zo (zt (ii 0) yag (hS.bwr 3 rfl (j:=0) rfl) ?_));intro w8 e1;replace hS:=hS.bst 3 rfl 0 (ii 0) e1;clear e1;refine zb (yaa (yac (zs (zq (yao (vs:=[(ii g),(.slice Ag lg cg)]) H1 underlying24 rfl yak ⟨Row.cell (hS.bx 0 rfl) (i:=0) rfl,Row.cell (hS.bx 0 rfl) (i:=1) rfl,trivial⟩) (zn (yai rfl (am1 rfl) enter_104 ((yeM h hS.blt (hS.ro 1 rfl)).mono ?_)))))));rintro _ w9 ⟨gc,rfl,hC,h⟩;replace hS:=hS.call1 hC 4 0 rfl;clear hC;refine ⟨_,rfl,?_⟩;refine zb (yaa (yad ?_));obtain ⟨Pr,Rr,hgp,I3,h0,hb,h⟩:=h;refine wt_iterS hS [2,3] [4,1] (by decide) (by decide) ⟨.inl (by decide), .inr rfl,trivial⟩ rfl enter_142 (val:=(fun (x:E3)=>#[(ii x.1),(.agg #[(ii x.2.1),(ii x.2.2)])])) (pass:=(fun _=>FP.tt)) (Pr:=Pr) (R:=Rr) (fun _=>rfl) rfl (fun pr LL=>∃ f2 genus,I3 pr f2 genus∧LL=[Res.own cI 121 (some ⟨g4,0,none⟩) 12 12 f2,Res.box 3 g5 [(ii genus)]]) (fun _ _ _=>False) ⟨_,_,h0,rfl⟩ (fun T G hG=>yee hgp hG) ?_ ?_ (fun _ _ _ _ _ hx=>hx.elim)
      · clear h h0 hS hgp;rintro ll rdy busy S O2 pre ⟨y,y2,y3⟩ w10 _ ⟨f2,genus,hI,rfl⟩ hPr hpass hS;have h:=hb pre y y2 y3 f2 genus hI hPr;clear hb hI hPr;clear hpass;refine yaE (ydD ll) (zn (yaS ycd ?_));intro g6 w12 hN;replace hS:Sep w10 S O2 w12 (stl _ 3 (Res.box 126 g6 [(ii 0),(ii 0)])):=hS.new 3 rfl hN;clear hN;refine zb (zo (yaQ (b:=g6) (o:=0) (cells:=#[(ii y2),(ii y3)]) rfl rfl ycd rfl rfl (yaL (hS.bx 3 rfl) zY) ?_));intro w13 e1;replace hS:=hS.bstn 3 rfl 0 [(ii y2),(ii y3)] e1;clear e1;refine zb (yaa (yhq fun a ra=>⟨rfl,_,_,ra,hS,⟨2,rfl⟩,?_⟩));intro w14 hw;replace hS:=hS.flip 2 rfl busy hw;clear hw ra a;refine yad (yac (ybq [0,1,3,4,2,5,6,7] (fun i=>match i with | 2=>[3,4] | _=>[]) (ydD ll) (by kernel_rfl) (by kernel_rfl) ?_));replace hS:=hS.drew;refine zp (yam rfl underlying126 rfl yag) (zp (zl underlying3 (Row.cell (hS.bx 3 rfl) (i:=0) rfl)) (zp (yam rfl underlying126 rfl yag) (zp (zl underlying3 (Row.cell (hS.bx 3 rfl) (i:=1) rfl)) ?_)));have hB:=hS.lend (asc [(0,0)]) [0] (by decide) ⟨.inl (ya5 rfl),trivial⟩;refine rp_n rfl rfl rfl rfl (ydt (vs:=#[(.pointer (some ⟨g4,0,none⟩)),(ii y2)]) (us:=#[]) rfl (am2 H5 rfl) enter_105 ((ya4 (by simp) (ydJ h hB)).mono ?_));rintro _ w15 ⟨r2,rfl,hC,h⟩;replace hS:=hS.back (asc [(0,0)]) (ydl (by decide)) hC;clear hC hB;refine ⟨_,rfl,?_⟩;refine ⟨⟨fun _=>(zl underlying3 (Row.cell (hS.bx 3 rfl) (i:=1) rfl)),⟨fun _=>(yam rfl underlying126 rfl yag),⟨fun hh=>zZ hh,⟨fun hh=>zZ hh,trivial⟩⟩⟩⟩,?_⟩;have hB:=hS.lend (asc [(0,0)]) [0] (by decide) ⟨.inl (ya5 rfl),trivial⟩;refine rp_n rfl rfl rfl rfl (ydt (vs:=#[(.pointer (some ⟨g4,0,none⟩)),(ii y3)]) (us:=#[]) rfl (am2 H5 rfl) enter_105 ((ya4 (by simp) (ydJ h hB)).mono ?_));rintro _ w16 ⟨r3,rfl,hC,h⟩;replace hS:=hS.back (asc [(0,0)]) (ydl (by decide)) hC;clear hC hB;refine ⟨_,rfl,?_⟩;refine zb (zp (za (ii r2)) (zp (za (ii r3)) (ybH (yac (yac (yaE (ydD ll) (zM (ii r2) (zM (ii r3) (zq zE (yaa ?_))))))))));obtain ⟨J2,hJ,h⟩:=h;refine wt_cutT0 (fun E ds w'=>∃ genus2,J2 genus2∧ds=[]∧E 5=(Value.pointer (some ⟨g4,0,none⟩))∧E 7=(Value.pointer (some ⟨g5,0,none⟩))∧E 10=(ii r2)∧E 11=(ii r3)∧Sep w10 S O2 w' (rl [Res.obj ll busy,Res.own cI 121 (some ⟨g4,0,none⟩) 12 12 f2,Res.box 3 g5 [(ii genus2)]])) ?_ ?_
        · clear h hS;rintro E ds w17 ⟨genus2,h,rfl,H5,H7,H10,H11,hS⟩;replace h:=hJ genus2 h;refine yaE (ydD ll) (zq (yab H10) (zq (yab H11) (zq (v_max2 rfl rfl) (zq (yab H10) (zq (yab H11) (zq (v_min2 rfl rfl) ?_))))));obtain ⟨hx2,h⟩:=h;have hy2:=yhj (hS.rdo 1 rfl) hx2;refine zq (yew H5 rfl underlying121 yag hx2) (zo (zt (ii (mnF r2 r3)) yag (hS.wr 1 rfl rfl hy2) ?_));intro w18 e1;replace hS:=hS.st 1 rfl rfl hy2 (x:=mnF r2 r3) rfl e1;clear e1;exact zb (yaa (yae (yhq fun a r=>⟨_,⟨_,_,h,rfl⟩,(hS.sel [1,2,0])⟩)))
        clear hJ;intro j;by_cases hp3:r2=r3
        · replace h:=h.1 hp3;refine zc hp3 (yaE (ydD ll) (zq (zl underlying3 (Row.cell (hS.bx 1 rfl) (i:=0) rfl)) ?_));obtain ⟨hi2,h⟩:=h;refine zq (zA hi2) (zo (zt (ii (genus+1)) yag (hS.bwr 1 rfl (j:=0) rfl) ?_));intro w19 e1;replace hS:=hS.bst 1 rfl 0 (ii (genus+1)) e1;clear e1;exact zb (yaa (j _ _ _ ⟨_,h,rfl,H5,rfl,rfl,rfl,(hS.sel [2,0,1])⟩))
        · replace h:=h.2 hp3;exact zd hp3 (yaf (j _ _ _ ⟨_,h,rfl,H5,rfl,rfl,rfl,(hS.sel [2,0,1])⟩))
      · clear hb h0 hS hgp;rintro D ys w11 _ hRr ⟨f2,genus,hI,rfl⟩ hS;replace h:=h ys f2 genus hI hRr;clear hI hRr;exact yae (zs (zq (zl underlying3 (Row.cell (hS.bx 1 rfl) (i:=0) rfl)) (zQ (ii genus) (zQ (ii 0) (yaa (yhT (rs:=[D]) (by simp) (hS.marked 2 rfl) rfl rfl rfl (fun w9 hk=>⟨_,_,rfl,(hS.unmark [2] [] (by decide) (by decide) (yhc 2 rfl) hk),h⟩)))))))
  · replace h:=h.2 hp;exact zf hp (zs (zM (ii r) (zQ (ii 0) (zQ (ii r) (yaa (yhT (rs:=[]) (by simp) (by simp) rfl rfl rfl (fun w9 hk=>⟨_,_,rfl,(hS.unmark [] [] (by decide) (by decide) (by simp) hk),h⟩)))))))
def ybX(z:List Int)(cap:List Int)(R:Bool→Prop):Prop :=
yaO cap z (fun r =>
R r)
theorem yfT{O:Nat→Prop}{w:World}{z cap Az lz cz gc Aa Ab Ac}{R:Bool→Prop}(h:ybX z cap R)(hO:∀ k,O k→k<w.heap.size)(hA0:(FP.sl cI Az lz cz z).P O w)(hA1:(FP.bx 35 gc [(Value.slice Aa Ab Ac)]).P O w)(hA2:(FP.sl cI Aa Ab Ac cap).P O w) :
    Calls Tryz.prog 61 #[(.slice Az lz cz),(.pointer (some ⟨gc,0,none⟩))] w fun e w'=>∃ r2,e = .returned (.bool (r2))∧Sep w no O w' (rl [])∧R r2:=by
  unfold ybX at h;have hS:Sep w no O w (rl [Res.ro (FP.sl cI Az lz cz z),Res.ro (FP.bx 35 gc [(.slice Aa Ab Ac)]),Res.ro (FP.sl cI Aa Ab Ac cap)]):=Sep.startl hO [(FP.sl cI Az lz cz z),(FP.bx 35 gc [(.slice Aa Ab Ac)]),(FP.sl cI Aa Ab Ac cap)] ⟨hA0,hA1,hA2,trivial⟩;refine yal (l:=[(.slice Az lz cz),(.pointer (some ⟨gc,0,none⟩))]) func61 rfl ntmps61 zY (zs (zQ (.bool (false)) (yaa (zs (zq (zl underlying35 (Row.cell (hS.bxr 1 rfl) (i:=0) rfl)) (zM (.slice Az lz cz) (zn (yai rfl (am2 rfl rfl) enter_31 ((yb8 h (yaz _) (hS.rdr 2 rfl) (hS.rdr 0 rfl)).mono ?_)))))))));rintro _ w2 ⟨r,rfl,hC,h⟩;replace hS:=hS.pur hC.pure;clear hC;refine ⟨_,rfl,?_⟩;exact zb (zQ (.bool (r)) (yaa (yah rfl rfl ⟨_,rfl,(hS.sel []),h⟩)))
def ycP(n:Int)(R:Bool→Prop):Prop :=
((n<(-9) →
R true) ∧
(¬(n<(-9)) →
R (decide (9<n))))
theorem yfD{O:Nat→Prop}{w:World}{n}{R:Bool→Prop}(h:ycP n R)(hO:∀ k,O k→k<w.heap.size) :
    Calls Tryz.prog 58 #[(ii n)] w fun e w'=>∃ r,e = .returned (.bool (r))∧Sep w no O w' (rl [])∧R r:=by
  unfold ycP at h;have hS:Sep w no O w (rl []):=Sep.start w hO;refine yal (l:=[(ii n)]) func58 rfl ntmps58 zY (zs (zQ (.bool (false)) (yaa (zs (zM (ii n) (zq zL (zM (.bool (decide (n<(-9)))) ?_)))))));by_cases hp:n<(-9)
  · replace h:=h.1 hp;exact zV rfl rfl (zT hp) (zV rfl rfl (zT hp) (zq (yan (v:=(.bool (true))) (zT hp) rfl) (zQ (.bool (true)) (yaa (yah rfl rfl ⟨_,rfl,(hS.sel []),h⟩)))))
  · replace h:=h.2 hp;exact zW rfl rfl (zF hp) (zm (ii n)) (zW rfl rfl (zF hp) zG (zq (yaj (v:=(.bool (decide (9<n)))) (zF hp) rfl) (zQ (.bool (decide (9<n))) (yaa (yah rfl rfl ⟨_,rfl,(hS.sel []),h⟩)))))
def yct(d:Int)(d2:List E3)(i:List Int)(R:(List (List Int))→Int→Int→Prop):Prop :=
yby d d2 i (fun r r2 =>
((r2=0 →
ycp d d2 (fun r3 r4 =>
((r4=0 →
(∃ J2:Prop,(J2→yb4 r i (fun r5 r6 r7 =>
((r7=true →
ya2 r5 r5 (fun r8 =>
ybg i r5 (fun r9 =>
(∃ I2:Nat→(List (List Int))→Int→Prop,(∃ m0,I2 m0 ([r9]) 0)∧∀ m2 v v2,I2 m2 v v2 → 
((v2<(v.length:Int) →
(∃ I3:Nat→(List (List Int))→Int→Prop,(∃ m0,I3 m0 v 0)∧∀ m3 v3 v4,I3 m3 v3 v4 → 
((v4<(r.length:Int) →
((0≤v4∧v4<(r.length:Int)) ∧
((0≤v2∧v2<(v3.length:Int)) ∧
ybg (gx v3 v2.toNat) (gx r v4.toNat) (fun r10 =>
ybg i r10 (fun r11 =>
ya2 r11 r11 (fun r12 =>
((r12=r8 →
yaX v3 (fun x R=>ybX x r10 R) (fun r13 =>
((r13=true →
(In64 (v4+1) ∧
∃ m4,m4<m3∧I3 m4 v3 (v4+1))) ∧
(¬(r13=true) →
(v3.length+1≤1000000000 ∧
(In64 (v4+1) ∧
∃ m5,m5<m3∧I3 m5 (v3++[r10]) (v4+1))))))) ∧
(¬(r12=r8) →
(In64 (v4+1) ∧
∃ m6,m6<m3∧I3 m6 v3 (v4+1)))))))))) ∧
(¬(v4<(r.length:Int)) →
(In64 (v2+1) ∧
∃ m7,m7<m2∧I2 m7 v3 (v2+1)))))) ∧
(¬(v2<(v.length:Int)) →
ydr v (fun y =>
R y r8 0))))))) ∧
(¬(r7=true) →
R ([]) 0 12)))) ∧
((4<r3 →
R ([]) 0 12) ∧
(¬(4<r3) →
yaR i (fun x2 R=>ycP x2 R) (fun r14 =>
((r14=true →
R ([]) 0 12) ∧
(¬(r14=true) →
J2))))))) ∧
(¬(r4=0) →
R ([]) 0 r4)))) ∧
(¬(r2=0) →
R ([]) 0 r2)))
theorem ygq{O:Nat→Prop}{w:World}{d d2 i Ad ld cd Ai li ci}{R:(List (List Int))→Int→Int→Prop}(h:yct d d2 i R)(hO:∀ k,O k→k<w.heap.size)(hA0:(FP.sl c3 Ad ld cd d2).P O w)(hA1:(FP.sl cI Ai li ci i).P O w) :
    Calls Tryz.prog 21 #[(.agg #[(ii d),(.slice Ad ld cd)]),(.slice Ai li ci)] w fun e w'=>∃ r15 r16 r17 Ar6 lr6 cr6,e = .returned (.tuple #[(.slice Ar6 lr6 cr6),(ii r16),(ii r17)])∧Sep w no O w' (rl [Res.own (cL cI) 35 Ar6 lr6 cr6 r15])∧R r15 r16 r17:=by
  unfold yct at h;have hS:Sep w no O w (rl [Res.ro (FP.sl c3 Ad ld cd d2),Res.ro (FP.sl cI Ai li ci i)]):=Sep.startl hO [(FP.sl c3 Ad ld cd d2),(FP.sl cI Ai li ci i)] ⟨hA0,hA1,trivial⟩;refine yal (l:=[(.agg #[(ii d),(.slice Ad ld cd)]),(.slice Ai li ci)]) func21 rfl ntmps21 zY (zs (zn (ybm (v:=(.agg #[(ii d),(.slice Ad ld cd)])) rfl ?_)));intro g w2 hN;replace hS:Sep w no O w2 (stl _ 2 (Res.box 24 g [(ii d),(.slice Ad ld cd)])):=hS.new 2 rfl hN;clear hN;refine zb (zQ (.slice none 0 0) (zQ (ii 0) (zQ (ii 0) (yaa (zs (zq (yao (vs:=[(ii d),(.slice Ad ld cd)]) rfl underlying24 rfl yak ⟨Row.cell (hS.bx 2 rfl) (i:=0) rfl,Row.cell (hS.bx 2 rfl) (i:=1) rfl,trivial⟩) (zM (.slice Ai li ci) (zn (yai rfl (am2 rfl rfl) enter_49 ((ydy h hS.blt (hS.ro 0 rfl) (hS.ro 1 rfl)).mono ?_))))))))));rintro _ w3 ⟨r,r2,Ar,lr,cr,rfl,hC,h⟩;replace hS:=hS.call1 hC 3 0 rfl;clear hC;refine ⟨_,rfl,?_⟩;refine zb (zM (.tuple #[(.slice Ar lr cr),(ii r2)]) (zq (zx (.slice Ar lr cr)) (zq (zx (ii r2)) (zQ (.slice Ar lr cr) (zQ (ii r2) (yaa (yac (zs (zM (ii r2) (zq zN (yaa ?_)))))))))));by_cases hp:r2=0
  · replace h:=h.1 hp;refine ze hp (yaf (zs (zq (yao (vs:=[(ii d),(.slice Ad ld cd)]) rfl underlying24 rfl yak ⟨Row.cell (hS.bx 2 rfl) (i:=0) rfl,Row.cell (hS.bx 2 rfl) (i:=1) rfl,trivial⟩) (zn (yai rfl (am1 rfl) enter_57 ((yir h (yaz _) (hS.rdr 0 rfl)).mono ?_))))));rintro _ w4 ⟨r3,r4,rfl,hC,h⟩;replace hS:=hS.pur hC.pure;clear hC;refine ⟨_,rfl,?_⟩;refine zb (zM (.tuple #[(ii r3),(ii r4)]) (zq (zx (ii r3)) (zq (zx (ii r4)) (zQ (ii r3) (zQ (ii r4) (yaa (yac (zs (zM (ii r4) (zq zN (yaa ?_)))))))))));by_cases hp2:r4=0
    · replace h:=h.1 hp2;refine ze hp2 (yaf (yac (yac ?_)));obtain ⟨J2,hJ,h⟩:=h;refine ycA (fun E ds w'=>J2∧ds=[]∧E 1=(Value.slice Ai li ci)∧E 7=(Value.slice Ar lr cr)∧Sep w no O w' (rl [Res.ro (FP.sl cI Ai li ci i),Res.ro (FP.sl (cL cI) Ar lr cr r)])) ?_ ?_
      · clear h hS;rintro E ds w5 ⟨h,rfl,H1,H7,hS⟩;replace h:=hJ h;refine zs (zq (yab H7) (zq (yab H1) (zn (yai rfl (am2 rfl rfl) enter_50 ((yek h hS.blt (hS.ro 1 rfl) (hS.ro 0 rfl)).mono ?_)))));rintro _ w6 ⟨r5,r6,r7,Ar2,lr2,cr2,rfl,hC,h⟩;replace hS:=hS.call1 hC 2 0 rfl;clear hC;refine ⟨_,rfl,?_⟩;refine zb (zM (.tuple #[(.slice Ar2 lr2 cr2),(ii r6),(.bool (r7))]) (zq (zx (.slice Ar2 lr2 cr2)) (zq (zx (ii r6)) (zq (zx (.bool (r7))) (zQ (.slice Ar2 lr2 cr2) (zQ (ii r6) (zQ (.bool (r7)) (yaa (yac (zs (zM (.bool (r7)) (zq (yds rfl) (yaa ?_)))))))))))));by_cases hp3:r7=true
        · replace h:=h.1 hp3;refine yav (zC (zB hp3)) (yaf (zs (zM (.slice Ar2 lr2 cr2) (zM (.slice Ar2 lr2 cr2) (zn (yai rfl (am2 rfl rfl) yhR ((yck h (yaz _) (hS.rdr 2 rfl) (hS.rdr 2 rfl)).mono ?_)))))));rintro _ w7 ⟨r8,rfl,hC,h⟩;replace hS:=hS.pur hC.pure;clear hC;refine ⟨_,rfl,?_⟩;refine zb (zQ (ii r8) (yaa (zs (zq (yab H1) (zM (.slice Ar2 lr2 cr2) (zn (yai rfl (am2 rfl rfl) yhF ((yc2 h (yaz _) (hS.rdr 0 rfl) (hS.rdr 2 rfl)).mono ?_))))))));rintro _ w8 ⟨r9,Ar3,lr3,cr3,rfl,hC,h⟩;replace hS:=hS.call1 (hC.widen (ycv (yaP (fI .i64) _ _ _ _ _) ycH) hS.blt) 3 0 rfl;clear hC;refine ⟨_,rfl,?_⟩;refine zb ?_;replace hS:=hS.frz 3 rfl;refine zn (yaK (l:=[(0,(.slice Ar3 lr3 cr3))]) (cells:=[(.slice Ar3 lr3 cr3)]) (bp1 rfl) underlying27 yaJ rfl rfl ?_);intro g2 w9 hN;replace hS:=hS.lit (n:=1) (c:=(cL cI)) 4 rfl hN ([r9]:List (List Int)) rfl (by decide) ⟨[(.slice Ar3 lr3 cr3)],_,rfl,(ro_R (hS.ro 3 rfl)),rfl⟩;clear hN;refine zb (zQ (.slice (some ⟨g2,0,none⟩) 1 1) (yaa (yac (zs (zQ (ii 0) (yaa (yad ?_)))))));obtain ⟨I2,⟨m0,h0⟩,hr⟩:=h;refine yax (fun m E ds w'=>∃ v v2 Av lv cv,I2 m v v2∧ds=[]∧E 1=(Value.slice Ai li ci)∧E 7=(Value.slice Ar lr cr)∧E 13=(ii r8)∧E 14=(Value.slice Av lv cv)∧E 15=(ii v2)∧Sep w no O w' (rl [Res.own (cL cI) 35 Av lv cv v,Res.ro (FP.sl cI Ai li ci i),Res.ro (FP.sl (cL cI) Ar lr cr r)])) m0 ⟨_,_,_,_,_,h0,rfl,H1,H7,rfl,rfl,rfl,(hS.sel [4,0,1])⟩ ?_;clear h0 hS;rintro m2 E ds w10 ⟨v,v2,Av,lv,cv,h,rfl,H1,H7,H13,H14,H15,hS⟩ ag;replace h:=hr m2 v v2 h;clear hr;refine yac (zs (zq (yab H15) (zq (yab H14) (zq (yaG (n:=v.length) rfl underlying27 (yaD (hS.rdo 0 rfl))) (zq zL (yaa ?_))))));by_cases hp4:v2<(v.length:Int)
          · replace h:=h.1 hp4;refine zc hp4 (yaf (yac (yad (zs (zq (yab H7) (zq (yaG (n:=r.length) rfl underlying27 (yaD (hS.rdr 2 rfl))) (zM (ii 0) (yaa (yad ?_)))))))));obtain ⟨I3,⟨m0,h0⟩,hr⟩:=h;refine yax (fun m E ds w'=>∃ v3 v4 Av2 lv2 cv2,I3 m v3 v4∧ds=[]∧E 1=(Value.slice Ai li ci)∧E 7=(Value.slice Ar lr cr)∧E 13=(ii r8)∧E 14=(Value.slice Av2 lv2 cv2)∧E 15=(ii v2)∧E 65=(Value.slice Ar lr cr)∧E 66=(ii (r.length:Int))∧E 67=(ii v4)∧Sep w no O w' (rl [Res.own (cL cI) 35 Av2 lv2 cv2 v3,Res.ro (FP.sl cI Ai li ci i),Res.ro (FP.sl (cL cI) Ar lr cr r)])) m0 ⟨_,_,_,_,_,h0,rfl,H1,H7,H13,H14,H15,rfl,rfl,rfl,(hS.sel [0,1,2])⟩ ?_;clear h0 hS;rintro m3 E ds w11 ⟨v3,v4,Av2,lv2,cv2,h,rfl,H1,H7,H13,H14,H15,H65,H66,H67,hS⟩ again2;replace h:=hr m3 v3 v4 h;clear hr;refine zs (zq (ydm H67 H66) (yaa (yac ?_)));by_cases hp5:v4<(r.length:Int)
            · replace h:=h.1 hp5;refine zc hp5 (yaf (yac (yad (zs ?_))));obtain ⟨hx,h⟩:=h;refine zq (ydA H65 H67 underlying27 yaJ (yaB (hS.rdr 2 rfl) hx)) ?_;obtain ⟨A,l,c,hc,hq⟩:=hS.el 2 rfl hx 3 4 rfl rfl (by decide);replace hS:=hq;clear hq;refine zq (yar (v:=(.slice A l c)) rfl underlying35 rfl (hS.clr 4 rfl)) (zQ (.slice A l c) (yaa (zs (zq (yab H14) (zq (yab H15) ?_)))));obtain ⟨hx2,h⟩:=h;refine zq (zi underlying27 yaJ (yaB (hS.rdo 0 rfl) hx2)) ?_;obtain ⟨A2,l2,c4,hc2,hq⟩:=hS.elo 0 rfl hx2 5 rfl;replace hS:=hq;clear hq;refine zq (yar (v:=(.slice A2 l2 c4)) rfl underlying35 rfl hc2) (zM (.slice A l c) (zn (yai rfl (am2 rfl rfl) yhF ((yc2 h (yaz _) (hS.rdr 5 rfl) (hS.rdr 3 rfl)).mono ?_))));rintro _ w12 ⟨r10,Ar4,lr4,cr4,rfl,hC,h⟩;replace hS:=hS.call1 (hC.widen (ycv (yaP (fI .i64) _ _ _ _ _) ycH) hS.blt) 6 0 rfl;clear hC;refine ⟨_,rfl,?_⟩;refine zb (zn (yaS yaJ ?_));intro g3 w13 hN;replace hS:Sep w no O w13 (stl _ 7 (Res.box 35 g3 [(.slice none 0 0)])):=hS.new 7 rfl hN;clear hN;refine zb (zo (zt (.slice Ar4 lr4 cr4) yaJ (hS.bwr 7 rfl (j:=0) rfl) ?_));intro w14 e1;replace hS:=hS.bst 7 rfl 0 (.slice Ar4 lr4 cr4) e1;clear e1;refine zb (yaa (zs (zq (yab H1) (zq (zl underlying35 (Row.cell (hS.bx 7 rfl) (i:=0) rfl)) (zn (yai rfl (am2 rfl rfl) yhF ((yc2 h (yaz _) (hS.rdr 1 rfl) (hS.rdo 6 rfl)).mono ?_)))))));rintro _ w15 ⟨r11,Ar5,lr5,cr5,rfl,hC,h⟩;replace hS:=hS.call1 (hC.widen (ycv (yaP (fI .i64) _ _ _ _ _) ycH) hS.blt) 8 0 rfl;clear hC;refine ⟨_,rfl,?_⟩;refine zb (zQ (.slice Ar5 lr5 cr5) (yaa (zs (zM (.slice Ar5 lr5 cr5) (zM (.slice Ar5 lr5 cr5) (zn (yai rfl (am2 rfl rfl) yhR ((yck h (yaz _) (hS.rdo 8 rfl) (hS.rdo 8 rfl)).mono ?_))))))));rintro _ w16 ⟨r12,rfl,hC,h⟩;replace hS:=hS.pur hC.pure;clear hC;refine ⟨_,rfl,?_⟩;refine zb (zq (yab H13) (zq zE (zM (.bool (decide (r12=r8))) ?_)));by_cases hp6:r12=r8
              · replace h:=h.1 hp6;refine zW rfl rfl (zT hp6) (yab H14) (zW rfl rfl (zT hp6) (v_func (am0) (am1 rfl)) ?_);replace hS:=hS.frzb 7 rfl;replace hS:=hS.frz 6 rfl;refine rl_n (yaA rfl (ybc rfl (zT hp6))) rfl rfl rfl (yai rfl (am2 rfl rfl) enter_29 ((ydN h (yaz _) (hS.rdo 0 rfl) (fun w' hk=>⟨61,#[(.pointer (some ⟨g3,0,none⟩))],rfl,enter_61,fun x Ax lx cx R hF hz0=>ya4 (by simp) (yfT hF (yaz _) hz0 (FP.sub _ (FP.keep _ (FP.sub _ (hS.ro 7 rfl) (fun _ _ h=>h.elim):FP.P _ no _) hk) fun _ _ h=>h.elim) (FP.sub _ (FP.keep _ (FP.sub _ (hS.ro 6 rfl) (fun _ _ h=>h.elim):FP.P _ no _) hk) fun _ _ h=>h.elim))⟩)).mono ?_));rintro _ w17 ⟨r13,rfl,hC,h⟩;replace hS:=hS.pur hC.pure;clear hC;refine ⟨_,rfl,?_⟩;refine zb (zW rfl rfl (zT hp6) (yds rfl) (zq (yan (v:=(.bool (!(r13)))) (zT hp6) rfl) (yaa ?_)));by_cases hp7:r13=true
                · replace h:=h.1 hp7;refine yav (zC (zB hp7)) (yaf (yae (zr ?_)));obtain ⟨hi,h⟩:=h;refine zq (yb3 H67 rfl hi) (zM (ii (v4+1)) (yaa ?_));obtain ⟨mq,hlt,h⟩:=h;exact again2 mq _ _ _ ⟨_,_,_,_,_,h,rfl,H1,H7,H13,H14,H15,H65,H66,rfl,(hS.sel [0,1,2])⟩ hlt
                · replace h:=h.2 hp7;refine yaq (zC (zB (zI hp7))) (zr (zq (yab H14) (zq (zl underlying35 (Row.cell (hS.bxr 7 rfl) (i:=0) rfl)) (zn (yaK (l:=[(0,(.slice Ar4 lr4 cr4))]) (cells:=[(.slice Ar4 lr4 cr4)]) (bp1 rfl) underlying27 yaJ rfl rfl ?_)))));intro g4 w18 hN;replace hS:=hS.lit (n:=1) (c:=(cL cI)) 9 rfl hN ([r10]:List (List Int)) rfl (by decide) ⟨[(.slice Ar4 lr4 cr4)],_,rfl,(ro_R (hS.ro 6 rfl)),rfl⟩;clear hN;refine zb ?_;obtain ⟨hx3,h⟩:=h;refine zn (yfv (c:=(cL cI)) rfl rfl underlying27 underlying27 yaJ rfl rfl (by decide) hS 0 rfl (hS.yo 9 rfl) hx3 ?_);clear hS;intro A3 c5 w19 hS;refine zb (zQ (.slice A3 (lv2+1) c5) (yaa (yae (zr ?_))));obtain ⟨hi2,h⟩:=h;refine zq (yb3 H67 rfl hi2) (zM (ii (v4+1)) (yaa ?_));obtain ⟨mq,hlt,h⟩:=h;exact again2 mq _ _ _ ⟨_,_,_,_,_,h,rfl,H1,H7,H13,rfl,H15,H65,H66,rfl,(hS.sel [0,1,2])⟩ hlt
              · replace h:=h.2 hp6;refine zV rfl rfl (zF hp6) (zV rfl rfl (zF hp6) (zV rfl rfl (zF hp6) (zV rfl rfl (zF hp6) (zq (yaj (v:=(.bool (false))) (zF hp6) rfl) (yaa (yav rfl (yaf (yae (zr ?_)))))))));obtain ⟨hi3,h⟩:=h;refine zq (yb3 H67 rfl hi3) (zM (ii (v4+1)) (yaa ?_));obtain ⟨mq,hlt,h⟩:=h;exact again2 mq _ _ _ ⟨_,_,_,_,_,h,rfl,H1,H7,H13,H14,H15,H65,H66,rfl,(hS.sel [0,1,2])⟩ hlt
            · replace h:=h.2 hp5;refine zd hp5 (yas rfl (yae (zr (zq (yab H15) ?_))));obtain ⟨hi4,h⟩:=h;refine zq (zA hi4) (zQ (ii (v2+1)) (yaa ?_));obtain ⟨mq,hlt,h⟩:=h;exact ag mq _ _ _ ⟨_,_,_,_,_,h,rfl,H1,H7,H13,H14,rfl,(hS.sel [0,1,2])⟩ hlt
          · replace h:=h.2 hp4;refine zd hp4 (yas rfl (zs (zq (yab H14) ?_)));have hB:=hS.lend (asc [(0,0)]) [0] (by decide) ⟨.inl (ya5 rfl),trivial⟩;refine zn (ydt (vs:=#[(.slice Av lv cv),(.func (Fn.func 47) #[] #[])]) (us:=#[]) rfl (am2 rfl rfl) enter_46 ((ya4 (by simp) (yeH h hB)).mono ?_));rintro _ w20 ⟨y,rfl,hC,h⟩;replace hS:=hS.back (asc [(0,0)]) (ydl (by decide)) hC;clear hC hB;refine ⟨_,rfl,?_⟩;exact zb (yaa (zs (zq (yab H14) (zq (yab H13) (zQ (.slice Av lv cv) (zQ (ii r8) (zQ (ii 0) (yaa (yfh rfl rfl rfl rfl ⟨_,_,_,_,_,_,rfl,(hS.sel [0]),h⟩)))))))))
        · replace h:=h.2 hp3;refine yaq (zC (zB (zI hp3))) (zs (zQ (.slice none 0 0) (zQ (ii 0) (zQ (ii 12) (yaa ?_)))));replace hS:=hS.nil 3 rfl (cL cI) 35;exact yfh rfl rfl rfl rfl ⟨_,_,_,_,_,_,rfl,(hS.sel [3]),h⟩
      clear hJ;intro j;refine zr (zM (ii r3) (zq zG (zM (.bool (decide (4<r3))) ?_)));by_cases hp8:4<r3
      · replace h:=h.1 hp8;refine zV rfl rfl (zT hp8) (zV rfl rfl (zT hp8) (zq (yan (v:=(.bool (true))) (zT hp8) rfl) (yaa (yaq rfl (zs (zQ (.slice none 0 0) (zQ (ii 0) (zQ (ii 12) (yaa ?_)))))))));replace hS:=hS.nil 4 rfl (cL cI) 35;exact yfh rfl rfl rfl rfl ⟨_,_,_,_,_,_,rfl,(hS.sel [4]),h⟩
      · replace h:=h.2 hp8;refine zW rfl rfl (zF hp8) (zm (.slice Ai li ci)) (rl_n (yaA rfl (ybc rfl (zF hp8))) rfl rfl rfl (yai rfl (am2 rfl rfl) enter_25 ((ycs h (yaz _) (hS.rdr 1 rfl) (fun w' hk=>⟨58,#[],rfl,enter_58,fun x2 R hF=>ya4 (by simp) (yfD hF (yaz _))⟩)).mono ?_)));rintro _ w21 ⟨r14,rfl,hC,h⟩;replace hS:=hS.pur hC.pure;clear hC;refine ⟨_,rfl,?_⟩;refine zb (zq (yaj (v:=(.bool (r14))) (zF hp8) rfl) (yaa ?_));by_cases hp9:r14=true
        · replace h:=h.1 hp9;refine yaq (zC hp9) (zs (zQ (.slice none 0 0) (zQ (ii 0) (zQ (ii 12) (yaa ?_)))));replace hS:=hS.nil 4 rfl (cL cI) 35;exact yfh rfl rfl rfl rfl ⟨_,_,_,_,_,_,rfl,(hS.sel [4]),h⟩
        · replace h:=h.2 hp9;exact yav (zC (zI hp9)) (yaf (j _ _ _ ⟨h,rfl,rfl,rfl,(hS.sel [1,3])⟩))
    · replace h:=h.2 hp2;refine zf hp2 (zs (zM (ii r4) (zQ (.slice none 0 0) (zQ (ii 0) (zQ (ii r4) (yaa ?_))))));replace hS:=hS.nil 4 rfl (cL cI) 35;exact yfh rfl rfl rfl rfl ⟨_,_,_,_,_,_,rfl,(hS.sel [4]),h⟩
  · replace h:=h.2 hp;refine zf hp (zs (zM (ii r2) (zQ (.slice none 0 0) (zQ (ii 0) (zQ (ii r2) (yaa ?_))))));replace hS:=hS.nil 4 rfl (cL cI) 35;exact yfh rfl rfl rfl rfl ⟨_,_,_,_,_,_,rfl,(hS.sel [4]),h⟩
def yb6(g:Int)(g2:List E3)(x:List Int)(k:Int)(R:Bool→Int→Prop):Prop :=
yby g g2 x (fun r r2 =>
((r2=0 →
(∃ J2:Prop,(J2→ycG r x k ((∃ Pr Rr:List (List Int)→Prop,ybI r x k Pr Rr ∧
(∃ I2:List (List Int)→Prop,I2 [] ∧
(∀ pre y,I2 pre→Pr (pre++[y]) →
R false 0) ∧
(∀ ys,I2 ys→Rr ys →
R true 0))))) ∧
((k<1 →
R false 2) ∧
(¬(k<1) →
((1048576<k →
R false 2) ∧
(¬(1048576<k) →
J2)))))) ∧
(¬(r2=0) →
R false r2)))
theorem yen{O:Nat→Prop}{w:World}{g g2 x k Ag lg cg Ax lx cx}{R:Bool→Int→Prop}(h:yb6 g g2 x k R)(hO:∀ k,O k→k<w.heap.size)(hA0:(FP.sl c3 Ag lg cg g2).P O w)(hA1:(FP.sl cI Ax lx cx x).P O w) :
    Calls Tryz.prog 17 #[(.agg #[(ii g),(.slice Ag lg cg)]),(.slice Ax lx cx),(ii k)] w fun e w'=>∃ r7 r8,e = .returned (.tuple #[(.bool (r7)),(ii r8)])∧Sep w no O w' (rl [])∧R r7 r8:=by
  unfold yb6 at h;have hS:Sep w no O w (rl [Res.ro (FP.sl c3 Ag lg cg g2),Res.ro (FP.sl cI Ax lx cx x)]):=Sep.startl hO [(FP.sl c3 Ag lg cg g2),(FP.sl cI Ax lx cx x)] ⟨hA0,hA1,trivial⟩;refine yfE (l:=[(.agg #[(ii g),(.slice Ag lg cg)]),(.slice Ax lx cx),(ii k)]) func17 rfl ntmps17 zY (zs (zn (ybm (v:=(.agg #[(ii g),(.slice Ag lg cg)])) rfl ?_)));intro g3 w2 hN;replace hS:Sep w no O w2 (stl _ 2 (Res.box 24 g3 [(ii g),(.slice Ag lg cg)])):=hS.new 2 rfl hN;clear hN;refine zb (zn (yaS ybb ?_));intro g4 w3 hN;replace hS:Sep w no O w3 (stl _ 3 (Res.box 4 g4 [(.bool (false))])):=hS.new 3 rfl hN;clear hN;refine zb (zn (yaS yhg ?_));intro g5 w4 hN;replace hS:Sep w no O w4 (stl _ 4 (Res.box 28 g5 [(ii 0)])):=hS.new 4 rfl hN;clear hN;refine zb (yaa (zs (zq (yao (vs:=[(ii g),(.slice Ag lg cg)]) rfl underlying24 rfl yak ⟨Row.cell (hS.bx 2 rfl) (i:=0) rfl,Row.cell (hS.bx 2 rfl) (i:=1) rfl,trivial⟩) (zM (.slice Ax lx cx) (zn (yai rfl (am2 rfl rfl) enter_49 ((ydy h hS.blt (hS.ro 0 rfl) (hS.ro 1 rfl)).mono ?_)))))));rintro _ w5 ⟨r,r2,Ar,lr,cr,rfl,hC,h⟩;replace hS:=hS.call1 hC 5 0 rfl;clear hC;refine ⟨_,rfl,?_⟩;refine zb (zM (.tuple #[(.slice Ar lr cr),(ii r2)]) (zq (zx (.slice Ar lr cr)) (zq (zx (ii r2)) (zQ (.slice Ar lr cr) (zQ (ii r2) (yaa (yac (zs (zM (ii r2) (zq zN (yaa ?_)))))))))));by_cases hp:r2=0
  · replace h:=h.1 hp;refine ze hp (yaf (yac (yac ?_)));obtain ⟨J2,hJ,h⟩:=h;refine ycA (fun E ds w'=>J2∧ds=[]∧E 1=(Value.slice Ax lx cx)∧E 2=(ii k)∧E 6=(Value.pointer (some ⟨g4,0,none⟩))∧E 7=(Value.pointer (some ⟨g5,0,none⟩))∧E 8=(Value.slice Ar lr cr)∧Sep w no O w' (rl [Res.ro (FP.sl cI Ax lx cx x),Res.box 4 g4 [(.bool (false))],Res.box 28 g5 [(ii 0)],Res.ro (FP.sl (cL cI) Ar lr cr r)])) ?_ ?_
    · clear h hS;rintro E ds w6 ⟨h,rfl,H1,H2,H6,H7,H8,hS⟩;replace h:=hJ h;refine yac (zs (zq (yab H8) (zq (yab H1) (zq (yab H2) (zn (yai rfl (am3 rfl rfl rfl) enter_53 ((yeB h hS.blt (hS.ro 3 rfl) (hS.ro 0 rfl)).mono ?_)))))));rintro _ w7 ⟨gc,gc2,gc3,rfl,hC,h⟩;replace hS:=hS.call3 hC 4 5 6 rfl rfl rfl (by decide) (by decide) (by decide);clear hC;refine ⟨_,rfl,?_⟩;refine zb (yaa (yad ?_));obtain ⟨Pr,Rr,hgp,I2,h0,hb,h⟩:=h;refine wt_iterSP hS [1,2] [4,3,5,0,6] (by decide) (by decide) ⟨.inl (by decide), .inr rfl, .inl (by decide), .inr rfl, .inl (by decide),trivial⟩ rfl enter_103 (val:=(fun (x:List Int) (b:(Option Addr×Nat×Nat))=>#[(.slice b.1 b.2.1 b.2.2)])) (pass:=(fun (x:List Int) (b:(Option Addr×Nat×Nat))=>(FP.sl cI b.1 b.2.1 b.2.2 x))) (Pr:=Pr) (R:=Rr) (fun _ _=>rfl) rfl (fun pr LL=>I2 pr∧LL=[Res.box 4 g4 [(.bool (false))],Res.box 28 g5 [(ii 0)]]) (fun c ys LL=>c=none∧∃ r5 r6,LL=[Res.box 4 g4 [(.bool (r5))],Res.box 28 g5 [(ii r6)]]∧R r5 r6) ⟨h0,rfl⟩ (fun T G hG=>ydT hgp hG) ?_ ?_ ?_
      · clear h h0 hS hgp;rintro ll rdy busy S O2 pre y ⟨A,l,c⟩ w8 _ ⟨hI,rfl⟩ hPr hpass hS;have h:=hb pre y hI hPr;clear hb hI hPr;replace hS:=hS.addro 3 rfl _ hpass;clear hpass;refine yaf (yhq fun a ra=>⟨rfl,_,_,ra,hS,⟨2,rfl⟩,?_⟩);intro w10 hw;replace hS:=hS.flip 2 rfl busy hw;clear hw ra a;refine yad (yac (yaE (ydD ll) (zo (yg5 (v:=(.bool (false))) H6 rfl rfl ybb (hS.bwr 0 rfl (j:=0) rfl) ?_))));intro w11 e1;replace hS:=hS.bst 0 rfl 0 (.bool (false)) e1;clear e1;refine zb (zo (yg5 (v:=(ii 0)) H7 rfl rfl yhg (hS.bwr 1 rfl (j:=0) rfl) ?_));intro w12 e1;replace hS:=hS.bst 1 rfl 0 (ii 0) e1;clear e1;exact zb (yaa (yfs fun a r=>⟨_,⟨rfl,false,0,rfl,h⟩,(hS.sel [0,1,2])⟩))
      · clear hb h0 hS hgp;rintro D ys w9 _ hRr ⟨hI,rfl⟩ hS;replace h:=h ys hI hRr;clear hI hRr;refine yae (zs (zo (yg5 (v:=(.bool (true))) H6 rfl rfl ybb (hS.bwr 0 rfl (j:=0) rfl) ?_)));intro w13 e1;replace hS:=hS.bst 0 rfl 0 (.bool (true)) e1;clear e1;refine zb (zo (yg5 (v:=(ii 0)) H7 rfl rfl yhg (hS.bwr 1 rfl (j:=0) rfl) ?_));intro w14 e1;replace hS:=hS.bst 1 rfl 0 (ii 0) e1;clear e1;exact zb (yaa (yfs (yil (rs:=[D]) hS 0 1 rfl rfl [2] (yhc 2 rfl) (by decide) (by decide) (by simp) (hS.marked 2 rfl) rfl H6 H7 underlying4 rfl underlying28 rfl (fun w9 hk=>⟨_,_,rfl,(hS.unmark [2] [] (by decide) (by decide) (yhc 2 rfl) hk),h⟩))))
      · clear h hb h0 hS hgp;rintro D2 c ys W9 _ ⟨rfl,r5,r6,rfl,h⟩ hS;exact yil (rs:=[D2]) hS 0 1 rfl rfl [2] (yhc 2 rfl) (by decide) (by decide) (by simp) (hS.marked 2 rfl) rfl H6 H7 underlying4 rfl underlying28 rfl (fun w9 hk=>⟨_,_,rfl,(hS.unmark [2] [] (by decide) (by decide) (yhc 2 rfl) hk),h⟩)
    clear hJ;intro j;refine zr (zM (ii k) (zq zL (zM (.bool (decide (k<1))) ?_)));by_cases hp2:k<1
    · replace h:=h.1 hp2;refine zV rfl rfl (zT hp2) (zV rfl rfl (zT hp2) (zq (yan (v:=(.bool (true))) (zT hp2) rfl) (yaa (yaq rfl (zs (zo (zt (.bool (false)) ybb (hS.bwr 3 rfl (j:=0) rfl) ?_)))))));intro w15 e1;replace hS:=hS.bst 3 rfl 0 (.bool (false)) e1;clear e1;refine zb (zo (zt (ii 2) yhg (hS.bwr 4 rfl (j:=0) rfl) ?_));intro w16 e1;replace hS:=hS.bst 4 rfl 0 (ii 2) e1;clear e1;exact zb (yaa (yfs (yil (rs:=[]) hS 3 4 rfl rfl [] (by simp) (by decide) (by decide) (by simp) (by simp) rfl rfl rfl underlying4 rfl underlying28 rfl (fun w9 hk=>⟨_,_,rfl,(hS.unmark [] [] (by decide) (by decide) (by simp) hk),h⟩))))
    · replace h:=h.2 hp2;refine zW rfl rfl (zF hp2) (zm (ii k)) (zW rfl rfl (zF hp2) zG (zq (yaj (v:=(.bool (decide (1048576<k)))) (zF hp2) rfl) (yaa ?_)));by_cases hp3:1048576<k
      · replace h:=h.1 hp3;refine zc hp3 (zs (zo (zt (.bool (false)) ybb (hS.bwr 3 rfl (j:=0) rfl) ?_)));intro w17 e1;replace hS:=hS.bst 3 rfl 0 (.bool (false)) e1;clear e1;refine zb (zo (zt (ii 2) yhg (hS.bwr 4 rfl (j:=0) rfl) ?_));intro w18 e1;replace hS:=hS.bst 4 rfl 0 (ii 2) e1;clear e1;exact zb (yaa (yfs (yil (rs:=[]) hS 3 4 rfl rfl [] (by simp) (by decide) (by decide) (by simp) (by simp) rfl rfl rfl underlying4 rfl underlying28 rfl (fun w9 hk=>⟨_,_,rfl,(hS.unmark [] [] (by decide) (by decide) (by simp) hk),h⟩))))
      · replace h:=h.2 hp3;exact zd hp3 (yaf (j _ _ _ ⟨h,rfl,rfl,rfl,rfl,rfl,rfl,(hS.sel [1,3,4,5])⟩))
  · replace h:=h.2 hp;refine zf hp (zs (zM (ii r2) (zo (zt (.bool (false)) ybb (hS.bwr 3 rfl (j:=0) rfl) ?_))));intro w19 e1;replace hS:=hS.bst 3 rfl 0 (.bool (false)) e1;clear e1;refine zb (zo (zt (ii r2) yhg (hS.bwr 4 rfl (j:=0) rfl) ?_));intro w20 e1;replace hS:=hS.bst 4 rfl 0 (ii r2) e1;clear e1;exact zb (yaa (yfs (yil (rs:=[]) hS 3 4 rfl rfl [] (by simp) (by decide) (by decide) (by simp) (by simp) rfl rfl rfl underlying4 rfl underlying28 rfl (fun w9 hk=>⟨_,_,rfl,(hS.unmark [] [] (by decide) (by decide) (by simp) hk),h⟩))))
end Go.Proofs.YtencmgolklfmkaaGreat

/- Table, whose rows stay one's own; printed by tab.py. -/
namespace Go.Proofs.YtencmgolklfmkaaGreat
open Go Go.RowKit Go.Shelf Go.Proofs.Tryz
set_option maxRecDepth 100000
theorem ygM{O:Nat→Prop}{w:World}{n:Int}(hn:0≤n∧n≤1000)(hO:∀ k,O k→k<w.heap.size) :
    Calls Tryz.prog 158 #[(Value.int .i64 n)] w fun e w'=>∃ Ar:Option Addr,∃ lr:Nat,∃ cr:Nat,∃ Gr:List Nat,e = .returned (Value.slice Ar lr cr)∧Sep w no O w' (rl [Res.own cA 35 Ar lr cr (ows Gr (List.replicate n.toNat (List.replicate n.toNat (0:Int)))),Res.rows 3 Gr (List.replicate n.toNat (List.replicate n.toNat (0:Int)))]):=by
  have hS:Sep w no O w (rl []):=Sep.start w hO
  refine yal (l:=[(Value.int .i64 n)]) func158 rfl ntmps158 (Nat.le_of_ble_eq_true rfl) ?_
  refine yac ?_
  refine yaE yaC ?_
  refine rl_q rfl rfl rfl (ybJ (v:=(Value.slice none 0 0)) rfl) ?_
  refine yaa ?_
  refine yac ?_
  refine yaE yaC ?_
  refine rl_q rfl rfl rfl (ybJ (v:=(Value.slice none 0 0)) rfl) ?_
  refine yaa ?_
  refine yac ?_
  refine yac ?_
  refine yaE yaC ?_
  refine rl_q rfl rfl rfl (ybJ (v:=(Value.int .i64 0)) rfl) ?_
  refine yaa ?_
  refine yad ?_
  replace hS:=hS.tabnil 0 1 rfl rfl rfl 35 3
  refine yax (fun m E ds w'=>∃ k:Nat,∃ Aout:Option Addr,∃ lout:Nat,∃ cout:Nat,∃ G:List Nat,k+m=n.toNat∧ds=[]∧E 0=(Value.int .i64 n)∧E 3=(Value.slice Aout lout cout)∧E 4=(Value.int .i64 (k:Int))∧Sep w no O w' (rl [Res.own cA 35 Aout lout cout (ows G (List.replicate k (List.replicate n.toNat (0:Int)))),Res.rows 3 G (List.replicate k (List.replicate n.toNat (0:Int)))])) n.toNat ⟨0,_,_,_,[],by omega,rfl,rfl,rfl,rfl,(hS.sel [0,1] (by decide))⟩ ?_
  clear hS
  rintro m2 E ds w2 ⟨k,Aout,lout,cout,G,h,rfl,hE0,hE3,hE4,hS⟩ again
  refine yac ?_
  refine yac ?_
  refine yaE yaC ?_
  refine rl_q rfl rfl rfl (yab (v:=(Value.int .i64 (k:Int))) hE4) ?_
  refine rl_q rfl rfl rfl (yab (v:=(Value.int .i64 n)) hE0) ?_
  refine rl_q rfl rfl rfl (ydm rfl rfl) ?_
  refine yaa ?_
  by_cases hp:(k:Int)<n
  · have h:=h
    refine yaq (congrArg Value.bool (decide_eq_true hp)) ?_
    refine yaf ?_
    refine yac ?_
    refine yad ?_
    refine yaE yaC ?_
    refine rl_q rfl rfl rfl (yab (v:=(Value.slice Aout lout cout)) hE3) ?_
    refine rl_q rfl rfl rfl (yab (v:=(Value.int .i64 n)) hE0) ?_
    refine rl_n rfl rfl rfl rfl (yeX rfl rfl underlying35 yag (by decide) rfl (by omega) ?_)
    intro g w3 hN
    replace hS:=hS.made 2 rfl cI (Value.int .i64 0) (0:Int) (fun _ _=>rfl) hN (by omega)
    clear hN
    refine ⟨Stb.none _,?_⟩
    refine rl_n rfl rfl rfl rfl (yaK (l:=[(0,(Value.slice (some ⟨g,0,none⟩) n.toNat n.toNat))]) (cells:=[(Value.slice (some ⟨g,0,none⟩) n.toNat n.toNat)]) (bp1 rfl) underlying27 yaJ rfl rfl ?_)
    intro g2 w4 hN
    replace hS:=hS.litf (n:=1) 3 rfl fA hN ([((some ⟨g,0,none⟩:Option Addr),n.toNat,n.toNat)]) rfl (by decide) rfl
    clear hN
    refine ⟨Stb.none _,?_⟩
    refine rl_n rfl rfl rfl rfl (yfv (c:=cA) rfl rfl underlying27 underlying27 yaJ rfl rfl (by decide) hS 0 rfl (hS.yo 3 rfl) (by rw [ows_len (hS.rowsl 1 rfl)];simp;omega) ?_)
    clear hS
    intro A c w5 hS
    replace hS:=hS.rowpush 1 0 2 rfl rfl rfl rfl rfl rfl
    rw [←List.replicate_succ'] at hS
    refine ⟨Stb.none _,?_⟩
    refine rl_q rfl rfl rfl (ybJ (v:=(Value.slice A (lout+1) c)) rfl) ?_
    refine yaa ?_
    refine yae ?_
    refine yaE yaC ?_
    refine rl_q rfl rfl rfl (yab (v:=(Value.int .i64 (k:Int))) hE4) ?_
    refine rl_q rfl rfl rfl (yb3 rfl rfl (show In64 ((k:Int)+1) from ⟨by omega,by omega⟩)) ?_
    refine rl_q rfl rfl rfl (ybJ (v:=(Value.int .i64 ((k:Int)+1))) rfl) ?_
    refine yaa ?_
    exact again (m2-1) _ _ _ ⟨k+1,_,_,_,_,by omega,rfl,hE0,rfl,by simp [upd],(hS.sel [0,1] (by decide))⟩ (by omega)
  · have h:=h
    refine yav (congrArg Value.bool (decide_eq_false hp)) ?_
    refine yas rfl ?_
    refine yac ?_
    refine yaE yaC ?_
    refine rl_q rfl rfl rfl (yab (v:=(Value.slice Aout lout cout)) hE3) ?_
    refine rl_q rfl rfl rfl (ybJ (v:=(Value.slice Aout lout cout)) rfl) ?_
    refine yaa ?_
    have hk:k=n.toNat:=by omega
    subst hk
    exact yah rfl rfl ⟨_,_,_,_,rfl,(hS.sel [0,1] (by decide))⟩
end Go.Proofs.YtencmgolklfmkaaGreat

/- Pure forms of functions, made by program (pf.py), each with the proof that the code does so. -/
namespace Go.Proofs.YtencmgolklfmkaaGreat
open Go Go.RowKit Go.Shelf Go.Proofs.Tryz
set_option maxRecDepth 100000
set_option maxHeartbeats 8000000
def ydc(n:Int)(times:List (List Int))(R:Int→(List E3)→Prop):Prop :=
(∃ I2:Nat→Int→(List E3)→Prop,(∃ m0,I2 m0 0 ([]))∧∀ m2 a g3,I2 m2 a g3 → 
((a<n →
(∃ I3:Nat→Int→(List E3)→Prop,(∃ m0,I3 m0 a g3)∧∀ m3 b g4,I3 m3 b g4 → 
((b<n →
((0≤a∧a<(times.length:Int)) ∧
((0≤b∧b<((gx times a.toNat).length:Int)) ∧
((0<(gi (gx times a.toNat) b.toNat) →
(g4.length+1≤1000000000 ∧
(In64 (b+1) ∧
∃ m4,m4<m3∧I3 m4 (b+1) (g4++[(a,b,gi (gx times a.toNat) b.toNat)])))) ∧
(¬(0<(gi (gx times a.toNat) b.toNat)) →
(In64 (b+1) ∧
∃ m5,m5<m3∧I3 m5 (b+1) g4)))))) ∧
(¬(b<n) →
(In64 (a+1) ∧
∃ m6,m6<m2∧I2 m6 (a+1) g4))))) ∧
(¬(a<n) →
R n g3)))
theorem ygk{O:Nat→Prop}{w:World}{n times Aa Ab Ac}{R:Int→(List E3)→Prop}(h:ydc n times R)(hO:∀ k,O k→k<w.heap.size)(hA0:(FP.sl (cL cI) Aa Ab Ac times).P O w) :
    Calls Tryz.prog 159 #[(ii n),(.slice Aa Ab Ac)] w fun e w'=>∃ r r2 Ar lr cr,e = .returned (.agg #[(ii r),(.slice Ar lr cr)])∧Sep w no O w' (rl [Res.own c3 93 Ar lr cr r2])∧R r r2:=by
  unfold ydc at h;have hS:Sep w no O w (rl [Res.ro (FP.sl (cL cI) Aa Ab Ac times)]):=Sep.startl hO [(FP.sl (cL cI) Aa Ab Ac times)] ⟨hA0,trivial⟩;refine yal (l:=[(ii n),(.slice Aa Ab Ac)]) func159 rfl ntmps159 zY (zs (zn (yaS yak ?_)));intro g w2 hN;replace hS:Sep w no O w2 (stl _ 1 (Res.box 24 g [(ii 0),(.slice none 0 0)])):=hS.new 1 rfl hN;clear hN;refine zb (yaa (zs (zM (ii n) (zn (ycw (l:=[(0,(ii n))]) (cells:=[(ii n),(.slice none 0 0)]) (places:=[(0,1),(1,1)]) (bp1 rfl) underlying24 yak (by kernel_rfl) rfl ?_)))));refine zb (zn (yaS yak ?_));intro g2 w3 hN;replace hS:Sep w no O w3 (stl _ 2 (Res.box 24 g2 [(ii 0),(.slice none 0 0)])):=hS.new 2 rfl hN;clear hN;refine zb (zo (yaQ (b:=g2) (o:=0) (cells:=#[(ii n),(.slice none 0 0)]) rfl rfl yak rfl rfl (yaL (hS.bx 2 rfl) zY) ?_));intro w4 e1;replace hS:=hS.bstn 2 rfl 0 [(ii n),(.slice none 0 0)] e1;clear e1;refine zb (yaa (yac (zs (zQ (ii 0) (yaa (yad ?_))))));replace hS:=hS.nil 3 rfl c3 93;obtain ⟨I2,⟨m0,h0⟩,hr⟩:=h;refine yax (fun m E ds w'=>∃ a g3 Ag lg cg,I2 m a g3∧ds=[]∧E 0=(ii n)∧E 1=(Value.slice Aa Ab Ac)∧E 4=(Value.pointer (some ⟨g,0,none⟩))∧E 5=(Value.pointer (some ⟨g2,0,none⟩))∧E 6=(ii a)∧Sep w no O w' (rl [Res.ro (FP.sl (cL cI) Aa Ab Ac times),Res.box 24 g [(ii 0),(.slice none 0 0)],Res.box 24 g2 [(ii n),(.slice Ag lg cg)],Res.own c3 93 Ag lg cg g3])) m0 ⟨_,_,_,_,_,h0,rfl,rfl,rfl,rfl,rfl,rfl,(hS.sel [0,1,2,3])⟩ ?_;clear h0 hS;rintro m2 E ds w5 ⟨a,g3,Ag,lg,cg,h,rfl,H0,H1,H4,H5,H6,hS⟩ ag;replace h:=hr m2 a g3 h;clear hr;refine yac (zs (zq (yab H6) (zq (yab H0) (zq zL (yaa ?_)))));by_cases hp:a<n
  · replace h:=h.1 hp;refine zc hp (yaf (yac (yad (zs (zq (yab H6) (zQ (ii a) (yaa (yad ?_))))))));obtain ⟨I3,⟨m0,h0⟩,hr⟩:=h;refine yax (fun m E ds w'=>∃ b g4 Ag2 lg2 cg2,I3 m b g4∧ds=[]∧E 0=(ii n)∧E 1=(Value.slice Aa Ab Ac)∧E 4=(Value.pointer (some ⟨g,0,none⟩))∧E 5=(Value.pointer (some ⟨g2,0,none⟩))∧E 6=(ii a)∧E 7=(ii b)∧Sep w no O w' (rl [Res.ro (FP.sl (cL cI) Aa Ab Ac times),Res.box 24 g [(ii 0),(.slice none 0 0)],Res.box 24 g2 [(ii n),(.slice Ag2 lg2 cg2)],Res.own c3 93 Ag2 lg2 cg2 g4])) m0 ⟨_,_,_,_,_,h0,rfl,H0,H1,H4,H5,H6,rfl,(hS.sel [0,1,2,3])⟩ ?_;clear h0 hS;rintro m3 E ds w6 ⟨b,g4,Ag2,lg2,cg2,h,rfl,H0,H1,H4,H5,H6,H7,hS⟩ again2;replace h:=hr m3 b g4 h;clear hr;refine yac (zs (zq (yab H7) (zq (yab H0) (zq zL (yaa ?_)))));by_cases hp2:b<n
    · replace h:=h.1 hp2;refine zc hp2 (yaf (yac (yad (zs (zq (yab H1) (zq (yab H6) ?_))))));obtain ⟨hx,h⟩:=h;refine zq (zi underlying27 yaJ (yaB (hS.rdr 0 rfl) hx)) ?_;obtain ⟨A,l,c,hc,hq⟩:=hS.el 0 rfl hx 4 5 rfl rfl (by decide);replace hS:=hq;clear hq;refine zq (yar (v:=(.slice A l c)) rfl underlying35 rfl (hS.clr 5 rfl)) (zq (yab H7) ?_);obtain ⟨hx2,h⟩:=h;refine zq (zi underlying35 yag (yaB (hS.rdr 4 rfl) hx2)) (zq (yar (v:=(ii (gi (gx times a.toNat) b.toNat))) rfl underlying3 rfl (rd_1 (hS.rdr 4 rfl) hx2 (fun q=>yaF q) rfl)) ?_);refine zq zG (yaa ?_);by_cases hp3:0<(gi (gx times a.toNat) b.toNat)
      · replace h:=h.1 hp3;refine zc hp3 (ybq [0,1,2,3,4,5,6,7,8,9,10,11,12,13,14,15] (fun i=>match i with | 11=>[0,1] | 12=>[0,1] | _=>[]) yaC (by kernel_rfl) (by kernel_rfl) ?_);replace hS:=hS.drew;refine zp (yam H5 underlying24 rfl ybZ) (zp (zl underlying22 (Row.cell (hS.bx 2 rfl) (i:=1) rfl)) (zp (yab H6) (zp (yab H7) (zp (yab H1) (zp (yab H6) (zp (zi underlying27 yaJ (yaB (hS.rdr 0 rfl) hx)) ?_))))));obtain ⟨A2,l2,c4,hc2,hq⟩:=hS.el 0 rfl hx 6 7 rfl rfl (by decide);replace hS:=hq;clear hq;refine zp (yar (v:=(.slice A2 l2 c4)) rfl underlying35 rfl (hS.clr 7 rfl)) (zp (yab H7) (zp (zi underlying35 yag (yaB (hS.rdr 6 rfl) hx2)) (zp (yar (v:=(ii (gi (gx times a.toNat) b.toNat))) rfl underlying3 rfl (rd_1 (hS.rdr 6 rfl) hx2 (fun q=>yaF q) rfl)) ?_)));refine rp_n rfl rfl rfl rfl (ycw (l:=[(0,(ii a)),(1,(ii b)),(2,(ii (gi (gx times a.toNat) b.toNat)))]) (cells:=[(ii a),(ii b),(ii (gi (gx times a.toNat) b.toNat))]) (places:=[(0,1),(1,1),(2,1)]) (bp3 rfl rfl rfl) underlying93 yaT (by kernel_rfl) rfl ?_);refine ⟨⟨fun hh=>zZ hh,⟨fun hh=>zZ hh,⟨fun hh=>zZ hh,⟨fun hh=>zZ hh,⟨fun hh=>zZ hh,⟨fun hh=>zZ hh,⟨fun hh=>zZ hh,⟨fun hh=>zZ hh,⟨fun hh=>zZ hh,⟨fun _=>(zl underlying22 (Row.cell (hS.bx 2 rfl) (i:=1) rfl)),⟨fun _=>(yam H5 underlying24 rfl ybZ),trivial⟩⟩⟩⟩⟩⟩⟩⟩⟩⟩⟩,?_⟩;refine rp_n rfl rfl rfl rfl (yaK (l:=[(0,(.agg #[(ii a),(ii b),(ii (gi (gx times a.toNat) b.toNat))]))]) (cells:=[(ii a),(ii b),(ii (gi (gx times a.toNat) b.toNat))]) (bp1 rfl) underlying22 yaT rfl rfl ?_);intro g5 w7 hN;replace hS:=hS.litf (n:=1) 8 rfl (fP (fI .i64) (fP (fI .i64) (fI .i64))) hN ([(a,b,gi (gx times a.toNat) b.toNat)]:List E3) rfl (by decide) rfl;clear hN;refine ⟨⟨fun hh=>zZ hh,⟨fun hh=>zZ hh,⟨fun hh=>zZ hh,⟨fun hh=>zZ hh,⟨fun hh=>zZ hh,⟨fun hh=>zZ hh,⟨fun hh=>zZ hh,⟨fun hh=>zZ hh,⟨fun hh=>zZ hh,⟨fun _=>(zl underlying22 (Row.cell (hS.bx 2 rfl) (i:=1) rfl)),⟨fun _=>(yam H5 underlying24 rfl ybZ),trivial⟩⟩⟩⟩⟩⟩⟩⟩⟩⟩⟩,?_⟩;obtain ⟨hx3,h⟩:=h;refine rp_n rfl rfl rfl rfl (yfv (c:=c3) rfl rfl underlying22 underlying22 yaT rfl rfl (by decide) hS 3 rfl (hS.yo 8 rfl) hx3 ?_);clear hS;intro A3 c5 w8 hS;refine zb (zp (yam H5 underlying24 rfl ybZ) (rp_n0 rfl rfl rfl (zt (.slice A3 (lg2+1) c5) ybZ (hS.bwr 2 rfl (j:=1) rfl) ?_)));intro w9 e1;replace hS:=hS.bst 2 rfl 1 (.slice A3 (lg2+1) c5) e1;clear e1;refine zb (ybH (yae (zr (zq (yab H7) ?_))));obtain ⟨hi,h⟩:=h;refine zq (zA hi) (zQ (ii (b+1)) (yaa ?_));obtain ⟨mq,hlt,h⟩:=h;exact again2 mq _ _ _ ⟨_,_,_,_,_,h,rfl,H0,H1,H4,H5,H6,rfl,(hS.sel [0,1,2,3])⟩ hlt
      · replace h:=h.2 hp3;refine zd hp3 (yaf (yae (zr (zq (yab H7) ?_))));obtain ⟨hi2,h⟩:=h;refine zq (zA hi2) (zQ (ii (b+1)) (yaa ?_));obtain ⟨mq,hlt,h⟩:=h;exact again2 mq _ _ _ ⟨_,_,_,_,_,h,rfl,H0,H1,H4,H5,H6,rfl,(hS.sel [0,1,2,3])⟩ hlt
    · replace h:=h.2 hp2;refine zd hp2 (yas rfl (yae (zr (zq (yab H6) ?_))));obtain ⟨hi3,h⟩:=h;refine zq (zA hi3) (zQ (ii (a+1)) (yaa ?_));obtain ⟨mq,hlt,h⟩:=h;exact ag mq _ _ _ ⟨_,_,_,_,_,h,rfl,H0,H1,H4,H5,rfl,(hS.sel [0,1,2,3])⟩ hlt
  · replace h:=h.2 hp;refine zd hp (yas rfl (zs (zq (yao (vs:=[(ii n),(.slice Ag lg cg)]) H5 underlying24 rfl yak ⟨Row.cell (hS.bx 2 rfl) (i:=0) rfl,Row.cell (hS.bx 2 rfl) (i:=1) rfl,trivial⟩) (zo (yaQ (b:=g) (o:=0) (cells:=#[(ii n),(.slice Ag lg cg)]) H4 rfl yak rfl rfl (yaL (hS.bx 1 rfl) zY) ?_)))));intro w10 e1;replace hS:=hS.bstn 1 rfl 0 [(ii n),(.slice Ag lg cg)] e1;clear e1;exact zb (yaa (ygc rfl (rv_n (vs:=[(ii n),(.slice Ag lg cg)]) H4 underlying24 rfl yak ⟨Row.cell (hS.bx 1 rfl) (i:=0) rfl,Row.cell (hS.bx 1 rfl) (i:=1) rfl,trivial⟩) ⟨_,_,_,_,_,rfl,(hS.sel [3]),h⟩))
def yfk(d:Int)(i:List (Int×Int))(R:Int→(List E3)→Int→Prop):Prop :=
(∃ J2:Prop,(J2→((4096<(i.length:Int) →
R 0 ([]) 5) ∧
(¬(4096<(i.length:Int)) →
((0≤d∧d≤1000) ∧
(∃ I2:Nat→Int→(List (List Int))→Prop,(∃ m0,I2 m0 0 (List.replicate d.toNat (List.replicate d.toNat (0:Int))))∧∀ m2 v v2,I2 m2 v v2 → 
((v<(i.length:Int) →
((0≤v∧v<(i.length:Int)) ∧
((0≤(0:Int)∧(0:Int)<2) ∧
((0≤(1:Int)∧(1:Int)<2) ∧
(∃ J3:Prop,(J3→((0≤(mnF ((gx i v.toNat).1) ((gx i v.toNat).2))∧(mnF ((gx i v.toNat).1) ((gx i v.toNat).2))<(v2.length:Int)) ∧
((0≤(mxF ((gx i v.toNat).1) ((gx i v.toNat).2))∧(mxF ((gx i v.toNat).1) ((gx i v.toNat).2))<(((gx v2 (mnF ((gx i v.toNat).1) ((gx i v.toNat).2)).toNat).length:Nat):Int)) ∧
(In64 ((gi (gx v2 (mnF ((gx i v.toNat).1) ((gx i v.toNat).2)).toNat) (mxF ((gx i v.toNat).1) ((gx i v.toNat).2)).toNat)+1) ∧
(In64 (v+1) ∧
∃ m3,m3<m2∧I2 m3 (v+1) (v2.set (mnF ((gx i v.toNat).1) ((gx i v.toNat).2)).toNat ((gx v2 (mnF ((gx i v.toNat).1) ((gx i v.toNat).2)).toNat).set (mxF ((gx i v.toNat).1) ((gx i v.toNat).2)).toNat ((gi (gx v2 (mnF ((gx i v.toNat).1) ((gx i v.toNat).2)).toNat) (mxF ((gx i v.toNat).1) ((gx i v.toNat).2)).toNat)+1)))))))) ∧
((((gx i v.toNat).1)<0 →
R 0 ([]) 2) ∧
(¬(((gx i v.toNat).1)<0) →
((d≤((gx i v.toNat).1) →
R 0 ([]) 2) ∧
(¬(d≤((gx i v.toNat).1)) →
((((gx i v.toNat).2)<0 →
R 0 ([]) 2) ∧
(¬(((gx i v.toNat).2)<0) →
((d≤((gx i v.toNat).2) →
R 0 ([]) 2) ∧
(¬(d≤((gx i v.toNat).2)) →
J3))))))))))))) ∧
(¬(v<(i.length:Int)) →
(∃ I3:Nat→Int→Prop,(∃ m0,I3 m0 0)∧∀ m4 v3,I3 m4 v3 → 
((v3<d →
(∃ I4:Nat→Int→Prop,(∃ m0,I4 m0 0)∧∀ m5 v4,I4 m5 v4 → 
((v4<d →
((0≤v3∧v3<(v2.length:Int)) ∧
((0≤v4∧v4<((gx v2 v3.toNat).length:Int)) ∧
((50<(gi (gx v2 v3.toNat) v4.toNat) →
R 0 ([]) 5) ∧
(¬(50<(gi (gx v2 v3.toNat) v4.toNat)) →
(In64 (v4+1) ∧
∃ m6,m6<m5∧I4 m6 (v4+1))))))) ∧
(¬(v4<d) →
(In64 (v3+1) ∧
∃ m7,m7<m4∧I3 m7 (v3+1)))))) ∧
(¬(v3<d) →
ydc d v2 (fun r r2 =>
R r r2 0))))))))))) ∧
((d<1 →
R 0 ([]) 2) ∧
(¬(d<1) →
((12<d →
R 0 ([]) 2) ∧
(¬(12<d) →
J2)))))
theorem pok_r08_Make{O:Nat→Prop}{w:World}{d i Ai li ci}{R:Int→(List E3)→Int→Prop}(h:yfk d i R)(hO:∀ k,O k→k<w.heap.size)(hA0:(FP.sl c2 Ai li ci i).P O w) :
    Calls Tryz.prog 164 #[(ii d),(.slice Ai li ci)] w fun e w'=>∃ r3 r4 r5 Ar2 lr2 cr2,e = .returned (.tuple #[(.agg #[(ii r3),(.slice Ar2 lr2 cr2)]),(ii r5)])∧Sep w no O w' (rl [Res.own c3 93 Ar2 lr2 cr2 r4])∧R r3 r4 r5:=by
  unfold yfk at h;have hS:Sep w no O w (rl [Res.ro (FP.sl c2 Ai li ci i)]):=Sep.startl hO [(FP.sl c2 Ai li ci i)] ⟨hA0,trivial⟩;refine yal (l:=[(ii d),(.slice Ai li ci)]) func164 rfl ntmps164 zY (zs (zn (yaS yak ?_)));intro g w2 hN;replace hS:Sep w no O w2 (stl _ 1 (Res.box 24 g [(ii 0),(.slice none 0 0)])):=hS.new 1 rfl hN;clear hN;refine zb (zQ (ii 0) (yaa (yac (yac ?_))));obtain ⟨J2,hJ,h⟩:=h;refine ycA (fun E ds w'=>J2∧ds=[]∧E 0=(ii d)∧E 1=(Value.slice Ai li ci)∧E 4=(Value.pointer (some ⟨g,0,none⟩))∧Sep w no O w' (rl [Res.ro (FP.sl c2 Ai li ci i),Res.box 24 g [(ii 0),(.slice none 0 0)]])) ?_ ?_
  · clear h hS;rintro E ds w3 ⟨h,rfl,H0,H1,H4,hS⟩;replace h:=hJ h;refine yac (zs (zq (yab H1) (zq (yaG (n:=i.length) rfl underlying62 (yaD (hS.rdr 0 rfl))) (zq zG (yaa ?_)))));by_cases hp:4096<(i.length:Int)
    · replace h:=h.1 hp;refine zc hp (zs (zn (ycw (l:=[]) (cells:=[(ii 0),(.slice none 0 0)]) (places:=[(0,1),(1,1)]) (bp0) underlying24 yak (by kernel_rfl) rfl ?_)));refine zb (zo (yaQ (b:=g) (o:=0) (cells:=#[(ii 0),(.slice none 0 0)]) H4 rfl yak rfl rfl (yaL (hS.bx 1 rfl) zY) ?_));intro w4 e1;replace hS:=hS.bstn 1 rfl 0 [(ii 0),(.slice none 0 0)] e1;clear e1;refine zb (zQ (ii 5) (yaa ?_));replace hS:=hS.nil 2 rfl c3 93;exact ydW rfl (rv_n (vs:=[(ii 0),(.slice none 0 0)]) H4 underlying24 rfl yak ⟨Row.cell (hS.bx 1 rfl) (i:=0) rfl,Row.cell (hS.bx 1 rfl) (i:=1) rfl,trivial⟩) (rv_t rfl) ⟨_,_,_,_,_,_,rfl,(hS.sel [2]),h⟩
    · replace h:=h.2 hp;refine zd hp (yaf (zs (zq (yab H0) ?_)));obtain ⟨hx,h⟩:=h;refine zn (yai rfl (am1 rfl) enter_158 ((ygM hx hS.blt).mono ?_));rintro _ w5 ⟨At,lt,ct,Gt,rfl,hC⟩;replace hS:=hS.call2 hC 2 0 3 1 rfl rfl (by decide) (by decide);clear hC;refine ⟨_,rfl,?_⟩;refine zb (zQ (.slice At lt ct) (yaa (yac (zs (zQ (ii 0) (yaa (yad ?_)))))));obtain ⟨I2,⟨m0,h0⟩,hr⟩:=h;refine yax (fun m E ds w'=>∃ v v2,I2 m v v2∧ds=[]∧E 0=(ii d)∧E 1=(Value.slice Ai li ci)∧E 4=(Value.pointer (some ⟨g,0,none⟩))∧E 6=(Value.slice At lt ct)∧E 7=(ii v)∧Sep w no O w' (rl [Res.ro (FP.sl c2 Ai li ci i),Res.box 24 g [(ii 0),(.slice none 0 0)],Res.own cA 35 At lt ct (ows Gt v2),Res.rows 3 Gt v2])) m0 ⟨_,_,h0,rfl,H0,H1,H4,rfl,rfl,(hS.sel [0,1,2,3])⟩ ?_;clear h0 hS;rintro m2 E ds w6 ⟨v,v2,h,rfl,H0,H1,H4,H6,H7,hS⟩ ag;replace h:=hr m2 v v2 h;clear hr;refine yac (zs (zq (yab H7) (zq (yab H1) (zq (yaG (n:=i.length) rfl underlying62 (yaD (hS.rdr 0 rfl))) (zq zL (yaa ?_))))));by_cases hp2:v<(i.length:Int)
      · replace h:=h.1 hp2;refine zc hp2 (yaf (yac (yad (yac (ybq [0,1,2,3,4,5,6,7,8,9,10,11] st0 yaC (by kernel_rfl) (by kernel_rfl) ?_)))));replace hS:=hS.drew;refine zp (yab H1) (zp (yab H7) ?_);obtain ⟨hx2,h⟩:=h;refine zp (zi underlying62 ybk (yaB (hS.rdr 0 rfl) hx2)) ?_;obtain ⟨hx3,h⟩:=h;refine zp (ybE rfl rfl underlying96 yag hx3) (zp (yar (v:=(ii ((gx i v.toNat).1))) rfl underlying3 rfl (rd_f (hS.rdr 0 rfl) hx2 (fun q=>ycO q) 0 rfl)) ?_);refine zp (yab H1) (zp (yab H7) (zp (zi underlying62 ybk (yaB (hS.rdr 0 rfl) hx2)) ?_));obtain ⟨hx4,h⟩:=h;refine zp (ybE rfl rfl underlying96 yag hx4) (zp (yar (v:=(ii ((gx i v.toNat).2))) rfl underlying3 rfl (rd_f (hS.rdr 0 rfl) hx2 (fun q=>ycO q) 1 rfl)) ?_);refine zp (za (ii ((gx i v.toNat).1))) (zp (za (ii ((gx i v.toNat).2))) (ybH (yac (yac ?_))));obtain ⟨J3,hJ,h⟩:=h;refine ycA (fun E ds w'=>J3∧ds=[]∧E 0=(ii d)∧E 1=(Value.slice Ai li ci)∧E 4=(Value.pointer (some ⟨g,0,none⟩))∧E 6=(Value.slice At lt ct)∧E 7=(ii v)∧E 8=(ii ((gx i v.toNat).1))∧E 9=(ii ((gx i v.toNat).2))∧Sep w no O w' (rl [Res.ro (FP.sl c2 Ai li ci i),Res.box 24 g [(ii 0),(.slice none 0 0)],Res.own cA 35 At lt ct (ows Gt v2),Res.rows 3 Gt v2])) ?_ ?_
        · clear h hS;rintro E ds w7 ⟨h,rfl,H0,H1,H4,H6,H7,H8,H9,hS⟩;replace h:=hJ h;refine zr (zq (yab H6) (zq (yab (v:=(ii ((gx i v.toNat).1))) H8) (zq (yab (v:=(ii ((gx i v.toNat).2))) H9) (zq (v_min2 rfl rfl) ?_))));obtain ⟨hx5,h⟩:=h;refine zq (zi underlying27 yaJ (hS.rowix 3 2 rfl rfl hx5)) (zq (yar (v:=(.slice (rowA Gt (mnF ((gx i v.toNat).1) ((gx i v.toNat).2))) ((gx v2 (mnF ((gx i v.toNat).1) ((gx i v.toNat).2)).toNat).length) ((gx v2 (mnF ((gx i v.toNat).1) ((gx i v.toNat).2)).toNat).length))) rfl underlying35 rfl (hS.rowcell 3 2 rfl rfl hx5)) (zq (yab (v:=(ii ((gx i v.toNat).1))) H8) (zq (yab (v:=(ii ((gx i v.toNat).2))) H9) (zq (v_max2 rfl rfl) ?_))));obtain ⟨hx6,h⟩:=h;refine zq (zi underlying35 yag (yaB (hS.rowfp 3 rfl hx5) hx6)) (zq (yar (v:=(ii (gi (gx v2 (mnF ((gx i v.toNat).1) ((gx i v.toNat).2)).toNat) (mxF ((gx i v.toNat).1) ((gx i v.toNat).2)).toNat))) rfl underlying3 rfl (rd_1 (f:=fI .i64) (hS.rowfp 3 rfl hx5) hx6 (fun q=>yaF q) rfl)) ?_);obtain ⟨hi,h⟩:=h;refine zq (zA hi) (zq (zi underlying35 yag (yaB (hS.rowfp 3 rfl hx5) hx6)) (zo (zt (ii ((gi (gx v2 (mnF ((gx i v.toNat).1) ((gx i v.toNat).2)).toNat) (mxF ((gx i v.toNat).1) ((gx i v.toNat).2)).toNat)+1)) yag (hS.rowwr 3 rfl hx5 hx6) ?_)));intro w8 e1;replace hS:=hS.rowst 3 rfl hx5 hx6 ((gi (gx v2 (mnF ((gx i v.toNat).1) ((gx i v.toNat).2)).toNat) (mxF ((gx i v.toNat).1) ((gx i v.toNat).2)).toNat)+1) e1;clear e1;replace hS:=hS.rowre 2 rfl (T':=(v2.set (mnF ((gx i v.toNat).1) ((gx i v.toNat).2)).toNat ((gx v2 (mnF ((gx i v.toNat).1) ((gx i v.toNat).2)).toNat).set (mxF ((gx i v.toNat).1) ((gx i v.toNat).2)).toNat ((gi (gx v2 (mnF ((gx i v.toNat).1) ((gx i v.toNat).2)).toNat) (mxF ((gx i v.toNat).1) ((gx i v.toNat).2)).toNat)+1)))) (ows_set (ycO (tn_lt hx5)) (List.length_set ..));refine zb (yaa (yae (zr (zq (yab H7) ?_))));obtain ⟨hi2,h⟩:=h;refine zq (zA hi2) (zQ (ii (v+1)) (yaa ?_));obtain ⟨mq,hlt,h⟩:=h;exact ag mq _ _ _ ⟨_,_,h,rfl,H0,H1,H4,H6,rfl,(hS.sel [0,1,2,3])⟩ hlt
        clear hJ;intro j2;refine zr (zM (ii ((gx i v.toNat).1)) (zq zL (zM (.bool (decide (((gx i v.toNat).1)<0))) ?_)));by_cases hp3:((gx i v.toNat).1)<0
        · replace h:=h.1 hp3;refine zV rfl rfl (zT hp3) (zV rfl rfl (zT hp3) (zV rfl rfl (zT hp3) (zq (yan (v:=(.bool (true))) (zT hp3) rfl) (zM (.bool (true)) (zU (zU (zq (yan (v:=(.bool (true))) rfl rfl) (zM (.bool (true)) (zU (zU (zU (zq (yan (v:=(.bool (true))) rfl rfl) (yaa (yaq rfl (zs (zn (ycw (l:=[]) (cells:=[(ii 0),(.slice none 0 0)]) (places:=[(0,1),(1,1)]) (bp0) underlying24 yak (by kernel_rfl) rfl ?_)))))))))))))))));refine zb (zo (yaQ (b:=g) (o:=0) (cells:=#[(ii 0),(.slice none 0 0)]) H4 rfl yak rfl rfl (yaL (hS.bx 1 rfl) zY) ?_));intro w9 e1;replace hS:=hS.bstn 1 rfl 0 [(ii 0),(.slice none 0 0)] e1;clear e1;refine zb (zQ (ii 2) (yaa ?_));replace hS:=hS.nil 4 rfl c3 93;exact ydW rfl (rv_n (vs:=[(ii 0),(.slice none 0 0)]) H4 underlying24 rfl yak ⟨Row.cell (hS.bx 1 rfl) (i:=0) rfl,Row.cell (hS.bx 1 rfl) (i:=1) rfl,trivial⟩) (rv_t rfl) ⟨_,_,_,_,_,_,rfl,(hS.sel [4]),h⟩
        · replace h:=h.2 hp3;refine zW rfl rfl (zF hp3) (zm (ii ((gx i v.toNat).1))) (zW rfl rfl (zF hp3) (yab H0) (zW rfl rfl (zF hp3) (yiq rfl rfl) (zq (yaj (v:=(.bool (decide (d≤((gx i v.toNat).1))))) (zF hp3) rfl) (zM (.bool (decide (d≤((gx i v.toNat).1)))) ?_))));by_cases hp4:d≤((gx i v.toNat).1)
          · replace h:=h.1 hp4;refine zV rfl rfl (zT hp4) (zV rfl rfl (zT hp4) (zq (yan (v:=(.bool (true))) (zT hp4) rfl) (zM (.bool (true)) (zU (zU (zU (zq (yan (v:=(.bool (true))) rfl rfl) (yaa (yaq rfl (zs (zn (ycw (l:=[]) (cells:=[(ii 0),(.slice none 0 0)]) (places:=[(0,1),(1,1)]) (bp0) underlying24 yak (by kernel_rfl) rfl ?_))))))))))));refine zb (zo (yaQ (b:=g) (o:=0) (cells:=#[(ii 0),(.slice none 0 0)]) H4 rfl yak rfl rfl (yaL (hS.bx 1 rfl) zY) ?_));intro w10 e1;replace hS:=hS.bstn 1 rfl 0 [(ii 0),(.slice none 0 0)] e1;clear e1;refine zb (zQ (ii 2) (yaa ?_));replace hS:=hS.nil 4 rfl c3 93;exact ydW rfl (rv_n (vs:=[(ii 0),(.slice none 0 0)]) H4 underlying24 rfl yak ⟨Row.cell (hS.bx 1 rfl) (i:=0) rfl,Row.cell (hS.bx 1 rfl) (i:=1) rfl,trivial⟩) (rv_t rfl) ⟨_,_,_,_,_,_,rfl,(hS.sel [4]),h⟩
          · replace h:=h.2 hp4;refine zW rfl rfl (zF hp4) (zm (ii ((gx i v.toNat).2))) (zW rfl rfl (zF hp4) zL (zq (yaj (v:=(.bool (decide (((gx i v.toNat).2)<0)))) (zF hp4) rfl) (zM (.bool (decide (((gx i v.toNat).2)<0))) ?_)));by_cases hp5:((gx i v.toNat).2)<0
            · replace h:=h.1 hp5;refine zV rfl rfl (zT hp5) (zV rfl rfl (zT hp5) (zV rfl rfl (zT hp5) (zq (yan (v:=(.bool (true))) (zT hp5) rfl) (yaa (yaq rfl (zs (zn (ycw (l:=[]) (cells:=[(ii 0),(.slice none 0 0)]) (places:=[(0,1),(1,1)]) (bp0) underlying24 yak (by kernel_rfl) rfl ?_))))))));refine zb (zo (yaQ (b:=g) (o:=0) (cells:=#[(ii 0),(.slice none 0 0)]) H4 rfl yak rfl rfl (yaL (hS.bx 1 rfl) zY) ?_));intro w11 e1;replace hS:=hS.bstn 1 rfl 0 [(ii 0),(.slice none 0 0)] e1;clear e1;refine zb (zQ (ii 2) (yaa ?_));replace hS:=hS.nil 4 rfl c3 93;exact ydW rfl (rv_n (vs:=[(ii 0),(.slice none 0 0)]) H4 underlying24 rfl yak ⟨Row.cell (hS.bx 1 rfl) (i:=0) rfl,Row.cell (hS.bx 1 rfl) (i:=1) rfl,trivial⟩) (rv_t rfl) ⟨_,_,_,_,_,_,rfl,(hS.sel [4]),h⟩
            · replace h:=h.2 hp5;refine zW rfl rfl (zF hp5) (zm (ii ((gx i v.toNat).2))) (zW rfl rfl (zF hp5) (yab H0) (zW rfl rfl (zF hp5) (yiq rfl rfl) (zq (yaj (v:=(.bool (decide (d≤((gx i v.toNat).2))))) (zF hp5) rfl) (yaa ?_))));by_cases hp6:d≤((gx i v.toNat).2)
              · replace h:=h.1 hp6;refine zc hp6 (zs (zn (ycw (l:=[]) (cells:=[(ii 0),(.slice none 0 0)]) (places:=[(0,1),(1,1)]) (bp0) underlying24 yak (by kernel_rfl) rfl ?_)));refine zb (zo (yaQ (b:=g) (o:=0) (cells:=#[(ii 0),(.slice none 0 0)]) H4 rfl yak rfl rfl (yaL (hS.bx 1 rfl) zY) ?_));intro w12 e1;replace hS:=hS.bstn 1 rfl 0 [(ii 0),(.slice none 0 0)] e1;clear e1;refine zb (zQ (ii 2) (yaa ?_));replace hS:=hS.nil 4 rfl c3 93;exact ydW rfl (rv_n (vs:=[(ii 0),(.slice none 0 0)]) H4 underlying24 rfl yak ⟨Row.cell (hS.bx 1 rfl) (i:=0) rfl,Row.cell (hS.bx 1 rfl) (i:=1) rfl,trivial⟩) (rv_t rfl) ⟨_,_,_,_,_,_,rfl,(hS.sel [4]),h⟩
              · replace h:=h.2 hp6;exact zd hp6 (yaf (j2 _ _ _ ⟨h,rfl,H0,H1,H4,H6,H7,rfl,rfl,(hS.sel [0,1,2,3])⟩))
      · replace h:=h.2 hp2;refine zd hp2 (yas rfl (yac (zs (zQ (ii 0) (yaa (yad ?_))))));obtain ⟨I3,⟨m0,h0⟩,hr⟩:=h;refine yax (fun m E ds w'=>∃ v3,I3 m v3∧ds=[]∧E 0=(ii d)∧E 4=(Value.pointer (some ⟨g,0,none⟩))∧E 6=(Value.slice At lt ct)∧E 10=(ii v3)∧Sep w no O w' (rl [Res.box 24 g [(ii 0),(.slice none 0 0)],Res.own cA 35 At lt ct (ows Gt v2),Res.rows 3 Gt v2])) m0 ⟨_,h0,rfl,H0,H4,H6,rfl,(hS.sel [1,2,3])⟩ ?_;clear h0 hS;rintro m4 E ds w13 ⟨v3,h,rfl,H0,H4,H6,H10,hS⟩ again2;replace h:=hr m4 v3 h;clear hr;refine yac (zs (zq (yab H10) (zq (yab H0) (zq zL (yaa ?_)))));by_cases hp7:v3<d
        · replace h:=h.1 hp7;refine zc hp7 (yaf (yac (yad (zs (zQ (ii 0) (yaa (yad ?_)))))));obtain ⟨I4,⟨m0,h0⟩,hr⟩:=h;refine yax (fun m E ds w'=>∃ v4,I4 m v4∧ds=[]∧E 0=(ii d)∧E 4=(Value.pointer (some ⟨g,0,none⟩))∧E 6=(Value.slice At lt ct)∧E 10=(ii v3)∧E 11=(ii v4)∧Sep w no O w' (rl [Res.box 24 g [(ii 0),(.slice none 0 0)],Res.own cA 35 At lt ct (ows Gt v2),Res.rows 3 Gt v2])) m0 ⟨_,h0,rfl,H0,H4,H6,H10,rfl,(hS.sel [0,1,2])⟩ ?_;clear h0 hS;rintro m5 E ds w14 ⟨v4,h,rfl,H0,H4,H6,H10,H11,hS⟩ again3;replace h:=hr m5 v4 h;clear hr;refine yac (zs (zq (yab H11) (zq (yab H0) (zq zL (yaa ?_)))));by_cases hp8:v4<d
          · replace h:=h.1 hp8;refine zc hp8 (yaf (yac (yad (zs (zq (yab H6) (zq (yab H10) ?_))))));obtain ⟨hx7,h⟩:=h;refine zq (zi underlying27 yaJ (hS.rowix 2 1 rfl rfl hx7)) (zq (yar (v:=(.slice (rowA Gt v3) ((gx v2 v3.toNat).length) ((gx v2 v3.toNat).length))) rfl underlying35 rfl (hS.rowcell 2 1 rfl rfl hx7)) (zq (yab H11) ?_));obtain ⟨hx8,h⟩:=h;refine zq (zi underlying35 yag (yaB (hS.rowfp 2 rfl hx7) hx8)) (zq (yar (v:=(ii (gi (gx v2 v3.toNat) v4.toNat))) rfl underlying3 rfl (rd_1 (f:=fI .i64) (hS.rowfp 2 rfl hx7) hx8 (fun q=>yaF q) rfl)) ?_);refine zq zG (yaa ?_);by_cases hp9:50<(gi (gx v2 v3.toNat) v4.toNat)
            · replace h:=h.1 hp9;refine zc hp9 (zs (zn (ycw (l:=[]) (cells:=[(ii 0),(.slice none 0 0)]) (places:=[(0,1),(1,1)]) (bp0) underlying24 yak (by kernel_rfl) rfl ?_)));refine zb (zo (yaQ (b:=g) (o:=0) (cells:=#[(ii 0),(.slice none 0 0)]) H4 rfl yak rfl rfl (yaL (hS.bx 0 rfl) zY) ?_));intro w15 e1;replace hS:=hS.bstn 0 rfl 0 [(ii 0),(.slice none 0 0)] e1;clear e1;refine zb (zQ (ii 5) (yaa ?_));replace hS:=hS.nil 3 rfl c3 93;exact ydW rfl (rv_n (vs:=[(ii 0),(.slice none 0 0)]) H4 underlying24 rfl yak ⟨Row.cell (hS.bx 0 rfl) (i:=0) rfl,Row.cell (hS.bx 0 rfl) (i:=1) rfl,trivial⟩) (rv_t rfl) ⟨_,_,_,_,_,_,rfl,(hS.sel [3]),h⟩
            · replace h:=h.2 hp9;refine zd hp9 (yaf (yae (zr (zq (yab H11) ?_))));obtain ⟨hi3,h⟩:=h;refine zq (zA hi3) (zQ (ii (v4+1)) (yaa ?_));obtain ⟨mq,hlt,h⟩:=h;exact again3 mq _ _ _ ⟨_,h,rfl,H0,H4,H6,H10,rfl,(hS.sel [0,1,2])⟩ hlt
          · replace h:=h.2 hp8;refine zd hp8 (yas rfl (yae (zr (zq (yab H10) ?_))));obtain ⟨hi4,h⟩:=h;refine zq (zA hi4) (zQ (ii (v3+1)) (yaa ?_));obtain ⟨mq,hlt,h⟩:=h;exact again2 mq _ _ _ ⟨_,h,rfl,H0,H4,H6,rfl,(hS.sel [0,1,2])⟩ hlt
        · replace h:=h.2 hp7;refine zd hp7 (yas rfl (zs (zq (yab H0) (zq (yab H6) ?_))));replace hS:=hS.rowfrz 2 1 rfl rfl rfl;refine zn (yai rfl (am2 rfl rfl) enter_159 ((ygk h (yaz _) (hS.rdo 1 rfl)).mono ?_));rintro _ w16 ⟨r,r2,Ar,lr,cr,rfl,hC,h⟩;replace hS:=hS.call1 (hC.widen (ycv (yaP (fP (fI .i64) (fP (fI .i64) (fI .i64))) _ _ _ _ _) ycH) hS.blt) 3 0 rfl;clear hC;refine ⟨_,rfl,?_⟩;refine zb (zo (yaQ (b:=g) (o:=0) (cells:=#[(ii r),(.slice Ar lr cr)]) H4 rfl yak rfl rfl (yaL (hS.bx 0 rfl) zY) ?_));intro w17 e1;replace hS:=hS.bstn 0 rfl 0 [(ii r),(.slice Ar lr cr)] e1;clear e1;exact zb (zQ (ii 0) (yaa (ydW rfl (rv_n (vs:=[(ii r),(.slice Ar lr cr)]) H4 underlying24 rfl yak ⟨Row.cell (hS.bx 0 rfl) (i:=0) rfl,Row.cell (hS.bx 0 rfl) (i:=1) rfl,trivial⟩) (rv_t rfl) ⟨_,_,_,_,_,_,rfl,(hS.sel [3]),h⟩)))
  clear hJ;intro j;refine zr (zM (ii d) (zq zL (zM (.bool (decide (d<1))) ?_)));by_cases hp10:d<1
  · replace h:=h.1 hp10;refine zV rfl rfl (zT hp10) (zV rfl rfl (zT hp10) (zq (yan (v:=(.bool (true))) (zT hp10) rfl) (yaa (yaq rfl (zs (zn (ycw (l:=[]) (cells:=[(ii 0),(.slice none 0 0)]) (places:=[(0,1),(1,1)]) (bp0) underlying24 yak (by kernel_rfl) rfl ?_)))))));refine zb (zo (yaQ (b:=g) (o:=0) (cells:=#[(ii 0),(.slice none 0 0)]) rfl rfl yak rfl rfl (yaL (hS.bx 1 rfl) zY) ?_));intro w18 e1;replace hS:=hS.bstn 1 rfl 0 [(ii 0),(.slice none 0 0)] e1;clear e1;refine zb (zQ (ii 2) (yaa ?_));replace hS:=hS.nil 2 rfl c3 93;exact ydW rfl (rv_n (vs:=[(ii 0),(.slice none 0 0)]) rfl underlying24 rfl yak ⟨Row.cell (hS.bx 1 rfl) (i:=0) rfl,Row.cell (hS.bx 1 rfl) (i:=1) rfl,trivial⟩) (rv_t rfl) ⟨_,_,_,_,_,_,rfl,(hS.sel [2]),h⟩
  · replace h:=h.2 hp10;refine zW rfl rfl (zF hp10) (zm (ii d)) (zW rfl rfl (zF hp10) zG (zq (yaj (v:=(.bool (decide (12<d)))) (zF hp10) rfl) (yaa ?_)));by_cases hp11:12<d
    · replace h:=h.1 hp11;refine zc hp11 (zs (zn (ycw (l:=[]) (cells:=[(ii 0),(.slice none 0 0)]) (places:=[(0,1),(1,1)]) (bp0) underlying24 yak (by kernel_rfl) rfl ?_)));refine zb (zo (yaQ (b:=g) (o:=0) (cells:=#[(ii 0),(.slice none 0 0)]) rfl rfl yak rfl rfl (yaL (hS.bx 1 rfl) zY) ?_));intro w19 e1;replace hS:=hS.bstn 1 rfl 0 [(ii 0),(.slice none 0 0)] e1;clear e1;refine zb (zQ (ii 2) (yaa ?_));replace hS:=hS.nil 2 rfl c3 93;exact ydW rfl (rv_n (vs:=[(ii 0),(.slice none 0 0)]) rfl underlying24 rfl yak ⟨Row.cell (hS.bx 1 rfl) (i:=0) rfl,Row.cell (hS.bx 1 rfl) (i:=1) rfl,trivial⟩) (rv_t rfl) ⟨_,_,_,_,_,_,rfl,(hS.sel [2]),h⟩
    · replace h:=h.2 hp11;exact zd hp11 (yaf (j _ _ _ ⟨h,rfl,rfl,rfl,rfl,(hS.sel [0,1])⟩))
def yeC(n:Int)(R:Int→Prop):Prop :=
(∃ I2:Nat→Int→Int→Prop,(∃ m0,I2 m0 1 0)∧∀ m2 out i,I2 m2 out i → 
((i<n →
(In64 (out*2) ∧
(In64 (i+1) ∧
∃ m3,m3<m2∧I2 m3 (out*2) (i+1)))) ∧
(¬(i<n) →
R out)))
theorem pok_r10_power{O:Nat→Prop}{w:World}{n}{R:Int→Prop}(h:yeC n R)(hO:∀ k,O k→k<w.heap.size) :
    Calls Tryz.prog 113 #[(ii n)] w fun e w'=>∃ r,e = .returned (ii r)∧Sep w no O w' (rl [])∧R r:=by
  unfold yeC at h;have hS:Sep w no O w (rl []):=Sep.start w hO;refine yal (l:=[(ii n)]) func113 rfl ntmps113 zY (zs (zQ (ii 0) (yaa (zs (zQ (ii 1) (yaa (yac (zs (zQ (ii 0) (yaa (yad ?_)))))))))));obtain ⟨I2,⟨m0,h0⟩,hr⟩:=h;refine yax (fun m E ds w'=>∃ out i,I2 m out i∧ds=[]∧E 0=(ii n)∧E 3=(ii out)∧E 4=(ii i)∧Sep w no O w' (rl [])) m0 ⟨_,_,h0,rfl,rfl,rfl,rfl,(hS.sel [])⟩ ?_;clear h0 hS;rintro m2 E ds w2 ⟨out,i,h,rfl,H0,H3,H4,hS⟩ ag;replace h:=hr m2 out i h;clear hr;refine yac (zs (zq (yab H4) (zq (yab H0) (zq zL (yaa ?_)))));by_cases hp:i<n
  · replace h:=h.1 hp;refine zc hp (yaf (yac (yad (zr (zq (yab H3) ?_)))));obtain ⟨hi,h⟩:=h;refine zq (v_mul rfl rfl hi) (zQ (ii (out*2)) (yaa (yae (zr (zq (yab H4) ?_)))));obtain ⟨hi2,h⟩:=h;refine zq (zA hi2) (zQ (ii (i+1)) (yaa ?_));obtain ⟨mq,hlt,h⟩:=h;exact ag mq _ _ _ ⟨_,_,h,rfl,H0,rfl,rfl,(hS.sel [])⟩ hlt
  · replace h:=h.2 hp;exact zd hp (yas rfl (zs (zq (yab H3) (zQ (ii out) (yaa (yah rfl rfl ⟨_,rfl,(hS.sel []),h⟩))))))
def ydn(n:Int)(which:Int)(R:(List Int)→Prop):Prop :=
(∃ I2:Nat→Int→(List Int)→Int→Prop,(∃ m0,I2 m0 which ([]) 0)∧∀ m2 which2 out e2,I2 m2 which2 out e2 → 
((e2<n →
((2:Int)≠0 ∧
(((which2.tmod 2)=1 →
(out.length+1≤1000000000 ∧
(In64 (which2.tdiv 2) ∧
(In64 (e2+1) ∧
∃ m3,m3<m2∧I2 m3 (which2.tdiv 2) (out++[e2]) (e2+1))))) ∧
(¬((which2.tmod 2)=1) →
(In64 (which2.tdiv 2) ∧
(In64 (e2+1) ∧
∃ m4,m4<m2∧I2 m4 (which2.tdiv 2) out (e2+1))))))) ∧
(¬(e2<n) →
R out)))
theorem ygo{O:Nat→Prop}{w:World}{n which}{R:(List Int)→Prop}(h:ydn n which R)(hO:∀ k,O k→k<w.heap.size) :
    Calls Tryz.prog 98 #[(ii n),(ii which)] w fun e w'=>∃ r Ar lr cr,e = .returned (.slice Ar lr cr)∧Sep w no O w' (rl [Res.own cI 3 Ar lr cr r])∧R r:=by
  unfold ydn at h;have hS:Sep w no O w (rl []):=Sep.start w hO;refine yal (l:=[(ii n),(ii which)]) func98 rfl ntmps98 zY (zs (zQ (.slice none 0 0) (yaa (zs (zQ (.slice none 0 0) (yaa (yac (zs (zQ (ii 0) (yaa (yad ?_)))))))))));replace hS:=hS.nil 0 rfl cI 3;obtain ⟨I2,⟨m0,h0⟩,hr⟩:=h;refine yax (fun m E ds w'=>∃ which2 out e2 Aa Ab Ac,I2 m which2 out e2∧ds=[]∧E 0=(ii n)∧E 1=(ii which2)∧E 5=(Value.slice Aa Ab Ac)∧E 6=(ii e2)∧Sep w no O w' (rl [Res.own cI 3 Aa Ab Ac out])) m0 ⟨_,_,_,_,_,_,h0,rfl,rfl,rfl,rfl,rfl,(hS.sel [0])⟩ ?_;clear h0 hS;rintro m2 E ds w2 ⟨which2,out,e2,Aa,Ab,Ac,h,rfl,H0,H1,H5,H6,hS⟩ ag;replace h:=hr m2 which2 out e2 h;clear hr;refine yac (zs (zq (yab H6) (zq (yab H0) (zq zL (yaa ?_)))));by_cases hp:e2<n
  · replace h:=h.1 hp;refine zc hp (yaf (yac (yad (yac (zs (zq (yab H1) ?_))))));obtain ⟨hz,h⟩:=h;refine zq (v_rem rfl rfl hz) (zq zE (yaa ?_));by_cases hp2:(which2.tmod 2)=1
    · replace h:=h.1 hp2;refine zc hp2 (zr (zq (yab H5) (zq (yab H6) (zn (yaK (l:=[(0,(ii e2))]) (cells:=[(ii e2)]) (bp1 rfl) underlying35 yag rfl rfl ?_)))));intro g w3 hN;replace hS:=hS.litf (n:=1) 1 rfl (fI .i64) hN ([e2]:List Int) rfl (by decide) rfl;clear hN;refine zb ?_;obtain ⟨hx,h⟩:=h;refine zn (yfv (c:=cI) rfl rfl underlying35 underlying35 yag rfl rfl (by decide) hS 0 rfl (hS.yo 1 rfl) hx ?_);clear hS;intro A c w4 hS;refine zb (zQ (.slice A (Ab+1) c) (yaa (zr (zq (yab H1) ?_))));obtain ⟨hi,h⟩:=h;refine zq (v_quo rfl rfl hz hi) (zQ (ii (which2.tdiv 2)) (yaa (yae (zr (zq (yab H6) ?_)))));obtain ⟨hi2,h⟩:=h;refine zq (zA hi2) (zQ (ii (e2+1)) (yaa ?_));obtain ⟨mq,hlt,h⟩:=h;exact ag mq _ _ _ ⟨_,_,_,_,_,_,h,rfl,H0,rfl,rfl,rfl,(hS.sel [0])⟩ hlt
    · replace h:=h.2 hp2;refine zd hp2 (yaf (zr (zq (yab H1) ?_)));obtain ⟨hi3,h⟩:=h;refine zq (v_quo rfl rfl hz hi3) (zQ (ii (which2.tdiv 2)) (yaa (yae (zr (zq (yab H6) ?_)))));obtain ⟨hi4,h⟩:=h;refine zq (zA hi4) (zQ (ii (e2+1)) (yaa ?_));obtain ⟨mq,hlt,h⟩:=h;exact ag mq _ _ _ ⟨_,_,_,_,_,_,h,rfl,H0,rfl,H5,rfl,(hS.sel [0])⟩ hlt
  · replace h:=h.2 hp;exact zd hp (yas rfl (zs (zq (yab H5) (zQ (.slice Aa Ab Ac) (yaa (yah rfl rfl ⟨_,_,_,_,rfl,(hS.sel [0]),h⟩))))))
def ye5(g:Int)(g2:List E3)(l:List Int)(R:Int→(List E3)→Prop):Prop :=
yci g g2 (fun r =>
(∃ I2:Nat→(List (Int×Int))→Int→Prop,(∃ m0,I2 m0 ([]) 0)∧∀ m2 some2 i,I2 m2 some2 i → 
((i<(l.length:Int) →
((0≤i∧i<(l.length:Int)) ∧
((0≤(gi l i.toNat)∧(gi l i.toNat)<(r.length:Int)) ∧
(some2.length+1≤1000000000 ∧
(In64 (i+1) ∧
∃ m3,m3<m2∧I2 m3 (some2++[((gx r (gi l i.toNat).toNat).1,(gx r (gi l i.toNat).toNat).2)]) (i+1)))))) ∧
(¬(i<(l.length:Int)) →
yfk g some2 (fun r2 r3 r4 =>
R r2 r3)))))
theorem pok_r10_With{O:Nat→Prop}{w:World}{g g2 l Ag lg cg Al ll cl}{R:Int→(List E3)→Prop}(h:ye5 g g2 l R)(hO:∀ k,O k→k<w.heap.size)(hA0:(FP.sl c3 Ag lg cg g2).P O w)(hA1:(FP.sl cI Al ll cl l).P O w) :
    Calls Tryz.prog 148 #[(.agg #[(ii g),(.slice Ag lg cg)]),(.slice Al ll cl)] w fun e w'=>∃ r5 r6 Ar3 lr3 cr3,e = .returned (.agg #[(ii r5),(.slice Ar3 lr3 cr3)])∧Sep w no O w' (rl [Res.own c3 93 Ar3 lr3 cr3 r6])∧R r5 r6:=by
  unfold ye5 at h;have hS:Sep w no O w (rl [Res.ro (FP.sl c3 Ag lg cg g2),Res.ro (FP.sl cI Al ll cl l)]):=Sep.startl hO [(FP.sl c3 Ag lg cg g2),(FP.sl cI Al ll cl l)] ⟨hA0,hA1,trivial⟩;refine yal (l:=[(.agg #[(ii g),(.slice Ag lg cg)]),(.slice Al ll cl)]) func148 rfl ntmps148 zY (zs (zn (ybm (v:=(.agg #[(ii g),(.slice Ag lg cg)])) rfl ?_)));intro g3 w2 hN;replace hS:Sep w no O w2 (stl _ 2 (Res.box 24 g3 [(ii g),(.slice Ag lg cg)])):=hS.new 2 rfl hN;clear hN;refine zb (zn (yaS yak ?_));intro g4 w3 hN;replace hS:Sep w no O w3 (stl _ 3 (Res.box 24 g4 [(ii 0),(.slice none 0 0)])):=hS.new 3 rfl hN;clear hN;refine zb (yaa (zs (zq (yao (vs:=[(ii g),(.slice Ag lg cg)]) rfl underlying24 rfl yak ⟨Row.cell (hS.bx 2 rfl) (i:=0) rfl,Row.cell (hS.bx 2 rfl) (i:=1) rfl,trivial⟩) (zn (yai rfl (am1 rfl) yhJ ((yep h (yaz _) (hS.rdr 0 rfl)).mono ?_))))));rintro _ w4 ⟨r,Ar,lr,cr,rfl,hC,h⟩;replace hS:=hS.call1 (hC.widen (ycv (yaP (fP (fI .i64) (fI .i64)) _ _ _ _ _) ycH) hS.blt) 4 0 rfl;clear hC;refine ⟨_,rfl,?_⟩;refine zb (zQ (.slice Ar lr cr) (yaa (zs (zQ (.slice none 0 0) (yaa (yac (zs (zQ (ii 0) (yaa (yad ?_))))))))));replace hS:=hS.nil 5 rfl c2 96;obtain ⟨I2,⟨m0,h0⟩,hr⟩:=h;refine yax (fun m E ds w'=>∃ some2 i Aa Ab Ac,I2 m some2 i∧ds=[]∧E 1=(Value.slice Al ll cl)∧E 2=(Value.pointer (some ⟨g3,0,none⟩))∧E 4=(Value.pointer (some ⟨g4,0,none⟩))∧E 5=(Value.slice Ar lr cr)∧E 6=(Value.slice Aa Ab Ac)∧E 7=(ii i)∧Sep w no O w' (rl [Res.own c2 96 Aa Ab Ac some2,Res.ro (FP.sl cI Al ll cl l),Res.box 24 g3 [(ii g),(.slice Ag lg cg)],Res.ro (FP.sl c3 Ag lg cg g2),Res.box 24 g4 [(ii 0),(.slice none 0 0)],Res.own c2 96 Ar lr cr r])) m0 ⟨_,_,_,_,_,h0,rfl,rfl,rfl,rfl,rfl,rfl,rfl,(hS.sel [5,1,2,0,3,4])⟩ ?_;clear h0 hS;rintro m2 E ds w5 ⟨some2,i,Aa,Ab,Ac,h,rfl,H1,H2,H4,H5,H6,H7,hS⟩ ag;replace h:=hr m2 some2 i h;clear hr;refine yac (zs (zq (yab H7) (zq (yab H1) (zq (yaG (n:=l.length) rfl underlying35 (yaD (hS.rdr 1 rfl))) (zq zL (yaa ?_))))));by_cases hp:i<(l.length:Int)
  · replace h:=h.1 hp;refine zc hp (yaf (yac (yad (zr (zq (yab H6) (zq (yab H5) (zq (yab H1) (zq (yab H7) ?_))))))));obtain ⟨hx,h⟩:=h;refine zq (zi underlying35 yag (yaB (hS.rdr 1 rfl) hx)) (zq (yar (v:=(ii (gi l i.toNat))) rfl underlying3 rfl (rd_1 (hS.rdr 1 rfl) hx (fun q=>yaF q) rfl)) ?_);obtain ⟨hx2,h⟩:=h;refine zq (zi underlying62 ybk (yaB (hS.rdo 5 rfl) hx2)) (zq (yao (vs:=[(ii ((gx r (gi l i.toNat).toNat).1)),(ii ((gx r (gi l i.toNat).toNat).2))]) rfl underlying96 rfl ybk (yhX (hS.rdo 5 rfl) hx2 (fun q=>ycO q))) ?_);refine zn (yaK (l:=[(0,(.agg #[(ii ((gx r (gi l i.toNat).toNat).1)),(ii ((gx r (gi l i.toNat).toNat).2))]))]) (cells:=[(ii ((gx r (gi l i.toNat).toNat).1)),(ii ((gx r (gi l i.toNat).toNat).2))]) (bp1 rfl) underlying62 ybk rfl rfl ?_);intro g5 w6 hN;replace hS:=hS.litf (n:=1) 6 rfl (fP (fI .i64) (fI .i64)) hN ([((gx r (gi l i.toNat).toNat).1,(gx r (gi l i.toNat).toNat).2)]:List (Int×Int)) rfl (by decide) rfl;clear hN;refine zb ?_;obtain ⟨hx3,h⟩:=h;refine zn (yfv (c:=c2) rfl rfl underlying62 underlying62 ybk rfl rfl (by decide) hS 0 rfl (hS.yo 6 rfl) hx3 ?_);clear hS;intro A c w7 hS;refine zb (zQ (.slice A (Ab+1) c) (yaa (yae (zr (zq (yab H7) ?_)))));obtain ⟨hi,h⟩:=h;refine zq (zA hi) (zQ (ii (i+1)) (yaa ?_));obtain ⟨mq,hlt,h⟩:=h;exact ag mq _ _ _ ⟨_,_,_,_,_,h,rfl,H1,H2,H4,H5,rfl,rfl,(hS.sel [0,1,2,3,4,5])⟩ hlt
  · replace h:=h.2 hp;refine zd hp (yas rfl (zs (zq (yam H2 underlying24 rfl yag) (zq (zl underlying3 (Row.cell (hS.bx 2 rfl) (i:=0) rfl)) (zq (yab H6) (zn (yai rfl (am2 rfl rfl) enter_164 ((pok_r08_Make h (yaz _) (hS.rdo 0 rfl)).mono ?_))))))));rintro _ w8 ⟨r2,r3,r4,Ar2,lr2,cr2,rfl,hC,h⟩;replace hS:=hS.call1 (hC.widen (ycv (yaP (fP (fI .i64) (fP (fI .i64) (fI .i64))) _ _ _ _ _) ycH) hS.blt) 6 0 rfl;clear hC;refine ⟨_,rfl,?_⟩;refine zb (zM (.tuple #[(.agg #[(ii r2),(.slice Ar2 lr2 cr2)]),(ii r4)]) (zq (zx (.agg #[(ii r2),(.slice Ar2 lr2 cr2)])) (zq (zx (ii r4)) (zn (yaS yak ?_)))));intro g6 w9 hN;replace hS:Sep w no O w9 (stl _ 7 (Res.box 24 g6 [(ii 0),(.slice none 0 0)])):=hS.new 7 rfl hN;clear hN;refine zb (zo (yaQ (b:=g6) (o:=0) (cells:=#[(ii r2),(.slice Ar2 lr2 cr2)]) rfl rfl yak rfl rfl (yaL (hS.bx 7 rfl) zY) ?_));intro w10 e1;replace hS:=hS.bstn 7 rfl 0 [(ii r2),(.slice Ar2 lr2 cr2)] e1;clear e1;refine zb (zQ (ii r4) (yaa (zs (zq (yao (vs:=[(ii r2),(.slice Ar2 lr2 cr2)]) rfl underlying24 rfl yak ⟨Row.cell (hS.bx 7 rfl) (i:=0) rfl,Row.cell (hS.bx 7 rfl) (i:=1) rfl,trivial⟩) (zo (yaQ (b:=g4) (o:=0) (cells:=#[(ii r2),(.slice Ar2 lr2 cr2)]) H4 rfl yak rfl rfl (yaL (hS.bx 4 rfl) zY) ?_))))));intro w11 e1;replace hS:=hS.bstn 4 rfl 0 [(ii r2),(.slice Ar2 lr2 cr2)] e1;clear e1;exact zb (yaa (ygc rfl (rv_n (vs:=[(ii r2),(.slice Ar2 lr2 cr2)]) H4 underlying24 rfl yak ⟨Row.cell (hS.bx 4 rfl) (i:=0) rfl,Row.cell (hS.bx 4 rfl) (i:=1) rfl,trivial⟩) ⟨_,_,_,_,_,rfl,(hS.sel [6]),h⟩))
def ydC(g:Int)(g2:List E3)(l:List Int)(R:Bool→Prop):Prop :=
ye5 g g2 l (fun r r2 =>
(∃ I2:Nat→Int→Int→Prop,(∃ m0,I2 m0 0 0)∧∀ m2 touched v,I2 m2 touched v → 
((v<g →
yc8 r r2 v (fun r3 =>
((r3=0 →
((r3=2 →
(In64 (touched+1) ∧
(In64 (v+1) ∧
∃ m3,m3<m2∧I2 m3 (touched+1) (v+1)))) ∧
(¬(r3=2) →
(In64 (v+1) ∧
∃ m4,m4<m2∧I2 m4 touched (v+1))))) ∧
(¬(r3=0) →
((r3=2 →
(In64 (touched+1) ∧
(In64 (v+1) ∧
∃ m5,m5<m2∧I2 m5 (touched+1) (v+1)))) ∧
(¬(r3=2) →
R false)))))) ∧
(¬(v<g) →
((0<(l.length:Int) →
(In64 (g-touched) ∧
(In64 ((g-touched)+1) ∧
yca r r2 (fun r4 =>
R (decide (r4=((g-touched)+1))))))) ∧
(¬(0<(l.length:Int)) →
R false))))))
theorem yik{O:Nat→Prop}{w:World}{g g2 l Ag lg cg Al ll cl}{R:Bool→Prop}(h:ydC g g2 l R)(hO:∀ k,O k→k<w.heap.size)(hA0:(FP.sl c3 Ag lg cg g2).P O w)(hA1:(FP.sl cI Al ll cl l).P O w) :
    Calls Tryz.prog 114 #[(.agg #[(ii g),(.slice Ag lg cg)]),(.slice Al ll cl)] w fun e w'=>∃ r5,e = .returned (.bool (r5))∧Sep w no O w' (rl [])∧R r5:=by
  unfold ydC at h;have hS:Sep w no O w (rl [Res.ro (FP.sl c3 Ag lg cg g2),Res.ro (FP.sl cI Al ll cl l)]):=Sep.startl hO [(FP.sl c3 Ag lg cg g2),(FP.sl cI Al ll cl l)] ⟨hA0,hA1,trivial⟩;refine yal (l:=[(.agg #[(ii g),(.slice Ag lg cg)]),(.slice Al ll cl)]) func114 rfl ntmps114 zY (zs (zn (ybm (v:=(.agg #[(ii g),(.slice Ag lg cg)])) rfl ?_)));intro g3 w2 hN;replace hS:Sep w no O w2 (stl _ 2 (Res.box 24 g3 [(ii g),(.slice Ag lg cg)])):=hS.new 2 rfl hN;clear hN;refine zb (zQ (.bool (false)) (yaa (zs (zq (yao (vs:=[(ii g),(.slice Ag lg cg)]) rfl underlying24 rfl yak ⟨Row.cell (hS.bx 2 rfl) (i:=0) rfl,Row.cell (hS.bx 2 rfl) (i:=1) rfl,trivial⟩) (zM (.slice Al ll cl) (zn (yai rfl (am2 rfl rfl) enter_148 ((pok_r10_With h (yaz _) (hS.rdr 0 rfl) (hS.rdr 1 rfl)).mono ?_))))))));rintro _ w3 ⟨r,r2,Ar,lr,cr,rfl,hC,h⟩;replace hS:=hS.call1 (hC.widen (ycv (yaP (fP (fI .i64) (fP (fI .i64) (fI .i64))) _ _ _ _ _) ycH) hS.blt) 3 0 rfl;clear hC;refine ⟨_,rfl,?_⟩;refine zb (zn (yaS yak ?_));intro g4 w4 hN;replace hS:Sep w no O w4 (stl _ 4 (Res.box 24 g4 [(ii 0),(.slice none 0 0)])):=hS.new 4 rfl hN;clear hN;refine zb (zo (yaQ (b:=g4) (o:=0) (cells:=#[(ii r),(.slice Ar lr cr)]) rfl rfl yak rfl rfl (yaL (hS.bx 4 rfl) zY) ?_));intro w5 e1;replace hS:=hS.bstn 4 rfl 0 [(ii r),(.slice Ar lr cr)] e1;clear e1;refine zb (yaa (zs (zQ (ii 0) (yaa (yac (zs (zQ (ii 0) (yaa (yad ?_)))))))));obtain ⟨I2,⟨m0,h0⟩,hr⟩:=h;refine yax (fun m E ds w'=>∃ touched v,I2 m touched v∧ds=[]∧E 1=(Value.slice Al ll cl)∧E 2=(Value.pointer (some ⟨g3,0,none⟩))∧E 5=(Value.pointer (some ⟨g4,0,none⟩))∧E 6=(ii touched)∧E 7=(ii v)∧Sep w no O w' (rl [Res.ro (FP.sl cI Al ll cl l),Res.box 24 g3 [(ii g),(.slice Ag lg cg)],Res.ro (FP.sl c3 Ag lg cg g2),Res.box 24 g4 [(ii r),(.slice Ar lr cr)],Res.own c3 93 Ar lr cr r2])) m0 ⟨_,_,h0,rfl,rfl,rfl,rfl,rfl,rfl,(hS.sel [1,2,0,4,3])⟩ ?_;clear h0 hS;rintro m2 E ds w6 ⟨touched,v,h,rfl,H1,H2,H5,H6,H7,hS⟩ ag;replace h:=hr m2 touched v h;clear hr;refine yac (zs (zq (yab H7) (zq (yam H2 underlying24 rfl yag) (zq (zl underlying3 (Row.cell (hS.bx 1 rfl) (i:=0) rfl)) (zq zL (yaa ?_))))));by_cases hp:v<g
  · replace h:=h.1 hp;refine zc hp (yaf (yac (yad (zs (zq (yao (vs:=[(ii r),(.slice Ar lr cr)]) H5 underlying24 rfl yak ⟨Row.cell (hS.bx 3 rfl) (i:=0) rfl,Row.cell (hS.bx 3 rfl) (i:=1) rfl,trivial⟩) (zq (yab H7) (zn (yai rfl (am2 rfl rfl) enter_149 ((pok_r08_Degree h (yaz _) (hS.rdo 4 rfl)).mono ?_)))))))));rintro _ w7 ⟨r3,rfl,hC,h⟩;replace hS:=hS.pur hC.pure;clear hC;refine ⟨_,rfl,?_⟩;refine zb (zQ (ii r3) (yaa (yac (zs (zM (ii r3) (zq zN (zM (.bool (!(decide (r3=0)))) ?_)))))));by_cases hp2:r3=0
    · replace h:=h.1 hp2;refine zV rfl rfl (zC (zB (decide_eq_true hp2))) (zV rfl rfl (zC (zB (decide_eq_true hp2))) (zq (yaj (v:=(.bool (false))) (zC (zB (decide_eq_true hp2))) rfl) (yaa (yav rfl (yaf (zs (zM (ii r3) (zq zE (yaa ?_)))))))));by_cases hp3:r3=2
      · replace h:=h.1 hp3;refine zc hp3 (zr (zq (yab H6) ?_));obtain ⟨hi,h⟩:=h;refine zq (zA hi) (zQ (ii (touched+1)) (yaa (yae (zr (zq (yab H7) ?_)))));obtain ⟨hi2,h⟩:=h;refine zq (zA hi2) (zQ (ii (v+1)) (yaa ?_));obtain ⟨mq,hlt,h⟩:=h;exact ag mq _ _ _ ⟨_,_,h,rfl,H1,H2,H5,rfl,rfl,(hS.sel [0,1,2,3,4])⟩ hlt
      · replace h:=h.2 hp3;refine zd hp3 (yaf (yae (zr (zq (yab H7) ?_))));obtain ⟨hi3,h⟩:=h;refine zq (zA hi3) (zQ (ii (v+1)) (yaa ?_));obtain ⟨mq,hlt,h⟩:=h;exact ag mq _ _ _ ⟨_,_,h,rfl,H1,H2,H5,H6,rfl,(hS.sel [0,1,2,3,4])⟩ hlt
    · replace h:=h.2 hp2;refine zW rfl rfl (zC (zB (decide_eq_false hp2))) (zm (ii r3)) (zW rfl rfl (zC (zB (decide_eq_false hp2))) zN (zq (yan (v:=(.bool (!(decide (r3=2))))) (zC (zB (decide_eq_false hp2))) rfl) (yaa ?_)));by_cases hp4:r3=2
      · replace h:=h.1 hp4;refine ze hp4 (yaf (zs (zM (ii r3) (zq zE (yaa (zc hp4 (zr (zq (yab H6) ?_))))))));obtain ⟨hi4,h⟩:=h;refine zq (zA hi4) (zQ (ii (touched+1)) (yaa (yae (zr (zq (yab H7) ?_)))));obtain ⟨hi5,h⟩:=h;refine zq (zA hi5) (zQ (ii (v+1)) (yaa ?_));obtain ⟨mq,hlt,h⟩:=h;exact ag mq _ _ _ ⟨_,_,h,rfl,H1,H2,H5,rfl,rfl,(hS.sel [0,1,2,3,4])⟩ hlt
      · replace h:=h.2 hp4;exact zf hp4 (zs (zQ (.bool (false)) (yaa (yah rfl rfl ⟨_,rfl,(hS.sel []),h⟩))))
  · replace h:=h.2 hp;refine zd hp (yas rfl (yac (ybq [0,1,2,3,4,6,7,8,9,10,5,11,12,13] (fun i=>match i with | 5=>[6,7,8,9,10] | _=>[]) yaC (by kernel_rfl) (by kernel_rfl) ?_)));replace hS:=hS.drew;refine zp (yab H1) (zp (yaG (n:=l.length) rfl underlying35 (yaD (hS.rdr 0 rfl))) (zp zG (zp (zm (.bool (decide (0<(l.length:Int))))) ?_)));by_cases hp5:0<(l.length:Int)
    · replace h:=h.1 hp5;refine rp_q (yaA rfl (ybc rfl (zT hp5))) rfl rfl (yao (vs:=[(ii r),(.slice Ar lr cr)]) H5 underlying24 rfl yak ⟨Row.cell (hS.bx 3 rfl) (i:=0) rfl,Row.cell (hS.bx 3 rfl) (i:=1) rfl,trivial⟩) (rp_q (yaA rfl (ybc rfl (zT hp5))) rfl rfl (yam H2 underlying24 rfl yag) (rp_q (yaA rfl (ybc rfl (zT hp5))) rfl rfl (zl underlying3 (Row.cell (hS.bx 1 rfl) (i:=0) rfl)) (rp_q (yaA rfl (ybc rfl (zT hp5))) rfl rfl (yab H6) ?_)));obtain ⟨hi6,h⟩:=h;refine rp_q (yaA rfl (ybc rfl (zT hp5))) rfl rfl (zS hi6) ?_;obtain ⟨hi7,h⟩:=h;refine rp_q (yaA rfl (ybc rfl (zT hp5))) rfl rfl (zA hi7) (rp_n (yaA rfl (ybc rfl (zT hp5))) rfl rfl rfl (yai rfl (am1 rfl) enter_64 ((ygN h (yaz _) (hS.rdo 4 rfl)).mono ?_)));rintro _ w8 ⟨r4,rfl,hC,h⟩;replace hS:=hS.pur hC.pure;clear hC;refine ⟨_,rfl,?_⟩;refine ⟨⟨fun _=>(zA hi7),⟨fun _=>(zS hi6),⟨fun _=>(yab H6),⟨fun _=>(zl underlying3 (Row.cell (hS.bx 1 rfl) (i:=0) rfl)),⟨fun _=>(yam H2 underlying24 rfl yag),⟨fun hh=>zZ hh,⟨fun hh=>zZ hh,⟨fun hh=>zZ hh,⟨fun hh=>zZ hh,⟨fun hh=>zZ hh,trivial⟩⟩⟩⟩⟩⟩⟩⟩⟩⟩,?_⟩;exact rp_q (yaA rfl (ybc rfl (zT hp5))) rfl rfl zE (zp (yan (v:=(.bool (decide (r4=((g-touched)+1))))) (zT hp5) rfl) (zp (za (.bool (decide (r4=((g-touched)+1))))) (ybH (yah rfl rfl ⟨_,rfl,(hS.sel []),h⟩))))
    · replace h:=h.2 hp5;exact rp_p (ycq rfl (ybc rfl (zF hp5)) rfl) rfl (rp_p (ycq rfl (ybc rfl (zF hp5)) rfl) rfl (rp_p (ycq rfl (ybc rfl (zF hp5)) rfl) rfl (rp_p (ycq rfl (ybc rfl (zF hp5)) rfl) rfl (rp_p (ycq rfl (ybc rfl (zF hp5)) rfl) rfl (rp_p (ycq rfl (ybc rfl (zF hp5)) rfl) rfl (rp_p (ycq rfl (ybc rfl (zF hp5)) rfl) rfl (rp_p (ycq rfl (ybc rfl (zF hp5)) rfl) rfl (zp (yaj (v:=(.bool (false))) (zF hp5) rfl) (zp (za (.bool (false))) (ybH (yah rfl rfl ⟨_,rfl,(hS.sel []),h⟩)))))))))))
def yd5(a:List Int)(b:List Int)(R:Bool→Prop):Prop :=
(∃ I2:Nat→Int→Prop,(∃ m0,I2 m0 0)∧∀ m2 i,I2 m2 i → 
(∃ J2:Prop,(J2→((0≤i∧i<(a.length:Int)) ∧
((0≤i∧i<(b.length:Int)) ∧
(((gi a i.toNat)=(gi b i.toNat) →
(In64 (i+1) ∧
∃ m3,m3<m2∧I2 m3 (i+1))) ∧
(¬((gi a i.toNat)=(gi b i.toNat)) →
R (decide ((gi a i.toNat)<(gi b i.toNat)))))))) ∧
((i<(a.length:Int) →
((i<(b.length:Int) →
J2) ∧
(¬(i<(b.length:Int)) →
R (decide ((a.length:Int)<(b.length:Int)))))) ∧
(¬(i<(a.length:Int)) →
R (decide ((a.length:Int)<(b.length:Int)))))))
theorem pok_r10_Before{O:Nat→Prop}{w:World}{a b Aa la ca Ab lb cb}{R:Bool→Prop}(h:yd5 a b R)(hO:∀ k,O k→k<w.heap.size)(hA0:(FP.sl cI Aa la ca a).P O w)(hA1:(FP.sl cI Ab lb cb b).P O w) :
    Calls Tryz.prog 115 #[(.slice Aa la ca),(.slice Ab lb cb)] w fun e w'=>∃ r,e = .returned (.bool (r))∧Sep w no O w' (rl [])∧R r:=by
  unfold yd5 at h;have hS:Sep w no O w (rl [Res.ro (FP.sl cI Aa la ca a),Res.ro (FP.sl cI Ab lb cb b)]):=Sep.startl hO [(FP.sl cI Aa la ca a),(FP.sl cI Ab lb cb b)] ⟨hA0,hA1,trivial⟩;refine yal (l:=[(.slice Aa la ca),(.slice Ab lb cb)]) func115 rfl ntmps115 zY (zs (zQ (.bool (false)) (yaa (yac (zs (zQ (ii 0) (yaa (yad ?_))))))));obtain ⟨I2,⟨m0,h0⟩,hr⟩:=h;refine yax (fun m E ds w'=>∃ i,I2 m i∧ds=[]∧E 0=(Value.slice Aa la ca)∧E 1=(Value.slice Ab lb cb)∧E 5=(ii i)∧Sep w no O w' (rl [Res.ro (FP.sl cI Aa la ca a),Res.ro (FP.sl cI Ab lb cb b)])) m0 ⟨_,h0,rfl,rfl,rfl,rfl,(hS.sel [0,1])⟩ ?_;clear h0 hS;rintro m2 E ds w2 ⟨i,h,rfl,H0,H1,H5,hS⟩ ag;replace h:=hr m2 i h;clear hr;refine yac (yac ?_);obtain ⟨J2,hJ,h⟩:=h;refine ycA (fun E ds w'=>J2∧ds=[]∧E 0=(Value.slice Aa la ca)∧E 1=(Value.slice Ab lb cb)∧E 5=(ii i)∧Sep w no O w' (rl [Res.ro (FP.sl cI Aa la ca a),Res.ro (FP.sl cI Ab lb cb b)])) ?_ ?_
  · clear h hS;rintro E ds w3 ⟨h,rfl,H0,H1,H5,hS⟩;replace h:=hJ h;refine yac (yad (yac (ybq [0,1,2,3,4,5,6,7,8] st0 yaC (by kernel_rfl) (by kernel_rfl) ?_)));replace hS:=hS.drew;refine zp (yab H0) (zp (yab H5) ?_);obtain ⟨hx,h⟩:=h;refine zp (zi underlying35 yag (yaB (hS.rdr 0 rfl) hx)) (zp (yar (v:=(ii (gi a i.toNat))) rfl underlying3 rfl (rd_1 (hS.rdr 0 rfl) hx (fun q=>yaF q) rfl)) ?_);refine zp (yab H1) (zp (yab H5) ?_);obtain ⟨hx2,h⟩:=h;refine zp (zi underlying35 yag (yaB (hS.rdr 1 rfl) hx2)) (zp (yar (v:=(ii (gi b i.toNat))) rfl underlying3 rfl (rd_1 (hS.rdr 1 rfl) hx2 (fun q=>yaF q) rfl)) ?_);refine zp zN (ybH ?_);by_cases hp:(gi a i.toNat)=(gi b i.toNat)
    · replace h:=h.1 hp;refine ze hp (yaf (yae (zr (zq (yab H5) ?_))));obtain ⟨hi,h⟩:=h;refine zq (zA hi) (zQ (ii (i+1)) (yaa ?_));obtain ⟨mq,hlt,h⟩:=h;exact ag mq _ _ _ ⟨_,h,rfl,H0,H1,rfl,(hS.sel [0,1])⟩ hlt
    · replace h:=h.2 hp;refine zf hp (yac (ybq [0,1,2,3,4,5,6,7,8,9] st0 yaC (by kernel_rfl) (by kernel_rfl) ?_));replace hS:=hS.drew;refine zp (yab H0) (zp (yab H5) (zp (zi underlying35 yag (yaB (hS.rdr 0 rfl) hx)) (zp (yar (v:=(ii (gi a i.toNat))) rfl underlying3 rfl (rd_1 (hS.rdr 0 rfl) hx (fun q=>yaF q) rfl)) ?_)));refine zp (yab H1) (zp (yab H5) (zp (zi underlying35 yag (yaB (hS.rdr 1 rfl) hx2)) (zp (yar (v:=(ii (gi b i.toNat))) rfl underlying3 rfl (rd_1 (hS.rdr 1 rfl) hx2 (fun q=>yaF q) rfl)) ?_)));exact zp zL (zp (za (.bool (decide ((gi a i.toNat)<(gi b i.toNat))))) (ybH (yah rfl rfl ⟨_,rfl,(hS.sel []),h⟩)))
  clear hJ;intro j;refine zr (zq (yab H5) (zq (yab H0) (zq (yaG (n:=a.length) rfl underlying35 (yaD (hS.rdr 0 rfl))) (zq zL (zM (.bool (decide (i<(a.length:Int)))) ?_)))));by_cases hp2:i<(a.length:Int)
  · replace h:=h.1 hp2;refine zW rfl rfl (zT hp2) (yab H5) (zW rfl rfl (zT hp2) (yab H1) (zW rfl rfl (zT hp2) (yaG (n:=b.length) rfl underlying35 (yaD (hS.rdr 1 rfl))) (zW rfl rfl (zT hp2) zL (zq (yan (v:=(.bool (decide (i<(b.length:Int))))) (zT hp2) rfl) (yaa ?_)))));by_cases hp3:i<(b.length:Int)
    · replace h:=h.1 hp3;exact zc hp3 (yaf (j _ _ _ ⟨h,rfl,H0,H1,H5,(hS.sel [0,1])⟩))
    · replace h:=h.2 hp3;exact zd hp3 (yas rfl (zs (zq (yab H0) (zq (yaG (n:=a.length) rfl underlying35 (yaD (hS.rdr 0 rfl))) (zq (yab H1) (zq (yaG (n:=b.length) rfl underlying35 (yaD (hS.rdr 1 rfl))) (zq zL (zQ (.bool (decide ((a.length:Int)<(b.length:Int)))) (yaa (yah rfl rfl ⟨_,rfl,(hS.sel []),h⟩))))))))))
  · replace h:=h.2 hp2;exact zV rfl rfl (zF hp2) (zV rfl rfl (zF hp2) (zV rfl rfl (zF hp2) (zV rfl rfl (zF hp2) (zq (yaj (v:=(.bool (false))) (zF hp2) rfl) (yaa (yav rfl (yas rfl (zs (zq (yab H0) (zq (yaG (n:=a.length) rfl underlying35 (yaD (hS.rdr 0 rfl))) (zq (yab H1) (zq (yaG (n:=b.length) rfl underlying35 (yaD (hS.rdr 1 rfl))) (zq zL (zQ (.bool (decide ((a.length:Int)<(b.length:Int)))) (yaa (yah rfl rfl ⟨_,rfl,(hS.sel []),h⟩))))))))))))))))
def ydV(g:Int)(g2:List E3)(R:(List (List Int))→Prop):Prop :=
ycz g g2 (fun r =>
(∃ I2:Nat→(List (List Int))→Int→Prop,(∃ m0,I2 m0 ([]) 1)∧∀ m2 out w5,I2 m2 out w5 → 
yeC r (fun r2 =>
((w5<r2 →
ydn r w5 (fun r3 =>
ydC g g2 r3 (fun r4 =>
((r4=true →
(out.length+1≤1000000000 ∧
(In64 (w5+1) ∧
∃ m3,m3<m2∧I2 m3 (out++[r3]) (w5+1)))) ∧
(¬(r4=true) →
(In64 (w5+1) ∧
∃ m4,m4<m2∧I2 m4 out (w5+1))))))) ∧
(¬(w5<r2) →
R out)))))
theorem pok_r10_Cycles{O:Nat→Prop}{w:World}{g g2 Ag lg cg}{R:(List (List Int))→Prop}(h:ydV g g2 R)(hO:∀ k,O k→k<w.heap.size)(hA0:(FP.sl c3 Ag lg cg g2).P O w) :
    Calls Tryz.prog 81 #[(.agg #[(ii g),(.slice Ag lg cg)])] w fun e w'=>∃ r5 Ar2 lr2 cr2,e = .returned (.slice Ar2 lr2 cr2)∧Sep w no O w' (rl [Res.own (cL cI) 35 Ar2 lr2 cr2 r5])∧R r5:=by
  unfold ydV at h;have hS:Sep w no O w (rl [Res.ro (FP.sl c3 Ag lg cg g2)]):=Sep.startl hO [(FP.sl c3 Ag lg cg g2)] ⟨hA0,trivial⟩;refine yal (l:=[(.agg #[(ii g),(.slice Ag lg cg)])]) func81 rfl ntmps81 zY (zs (zn (ybm (v:=(.agg #[(ii g),(.slice Ag lg cg)])) rfl ?_)));intro g3 w2 hN;replace hS:Sep w no O w2 (stl _ 1 (Res.box 24 g3 [(ii g),(.slice Ag lg cg)])):=hS.new 1 rfl hN;clear hN;refine zb (zQ (.slice none 0 0) (yaa (zs (zq (yao (vs:=[(ii g),(.slice Ag lg cg)]) rfl underlying24 rfl yak ⟨Row.cell (hS.bx 1 rfl) (i:=0) rfl,Row.cell (hS.bx 1 rfl) (i:=1) rfl,trivial⟩) (zn (yai rfl (am1 rfl) yhI ((yez h (yaz _) (hS.rdr 0 rfl)).mono ?_)))))));rintro _ w3 ⟨r,rfl,hC,h⟩;replace hS:=hS.pur hC.pure;clear hC;refine ⟨_,rfl,?_⟩;refine zb (zQ (ii r) (yaa (zs (zQ (.slice none 0 0) (yaa (yac (zs (zQ (ii 1) (yaa (yad ?_))))))))));replace hS:=hS.nil 2 rfl (cL cI) 35;obtain ⟨I2,⟨m0,h0⟩,hr⟩:=h;refine yax (fun m E ds w'=>∃ out w5 Aa Ab Ac,I2 m out w5∧ds=[]∧E 1=(Value.pointer (some ⟨g3,0,none⟩))∧E 3=(ii r)∧E 4=(Value.slice Aa Ab Ac)∧E 5=(ii w5)∧Sep w no O w' (rl [Res.own (cL cI) 35 Aa Ab Ac out,Res.box 24 g3 [(ii g),(.slice Ag lg cg)],Res.ro (FP.sl c3 Ag lg cg g2)])) m0 ⟨_,_,_,_,_,h0,rfl,rfl,rfl,rfl,rfl,(hS.sel [2,1,0])⟩ ?_;clear h0 hS;rintro m2 E ds w4 ⟨out,w5,Aa,Ab,Ac,h,rfl,H1,H3,H4,H5,hS⟩ ag;replace h:=hr m2 out w5 h;clear hr;refine yac (zs (zq (yab H5) (zq (yab H3) (zn (yai rfl (am1 rfl) enter_113 ((pok_r10_power h (yaz _)).mono ?_))))));rintro _ w6 ⟨r2,rfl,hC,h⟩;replace hS:=hS.pur hC.pure;clear hC;refine ⟨_,rfl,?_⟩;refine zb (zq zL (yaa ?_));by_cases hp:w5<r2
  · replace h:=h.1 hp;refine zc hp (yaf (yac (yad (zs (zq (yab H3) (zq (yab H5) (zn (yai rfl (am2 rfl rfl) enter_98 ((ygo h (yaz _)).mono ?_)))))))));rintro _ w7 ⟨r3,Ar,lr,cr,rfl,hC,h⟩;replace hS:=hS.call1 (hC.widen (ycv (yaP (fI .i64) _ _ _ _ _) ycH) hS.blt) 3 0 rfl;clear hC;refine ⟨_,rfl,?_⟩;refine zb (zQ (.slice Ar lr cr) (yaa (zs (zq (yao (vs:=[(ii g),(.slice Ag lg cg)]) H1 underlying24 rfl yak ⟨Row.cell (hS.bx 1 rfl) (i:=0) rfl,Row.cell (hS.bx 1 rfl) (i:=1) rfl,trivial⟩) (zM (.slice Ar lr cr) (zn (yai rfl (am2 rfl rfl) enter_114 ((yik h (yaz _) (hS.rdr 2 rfl) (hS.rdo 3 rfl)).mono ?_))))))));rintro _ w8 ⟨r4,rfl,hC,h⟩;replace hS:=hS.pur hC.pure;clear hC;refine ⟨_,rfl,?_⟩;refine zb (yaa ?_);by_cases hp2:r4=true
    · replace h:=h.1 hp2;refine yaq (zC hp2) (zr (zq (yab H4) (zM (.slice Ar lr cr) ?_)));replace hS:=hS.frz 3 rfl;refine zn (yaK (l:=[(0,(.slice Ar lr cr))]) (cells:=[(.slice Ar lr cr)]) (bp1 rfl) underlying27 yaJ rfl rfl ?_);intro g4 w9 hN;replace hS:=hS.lit (n:=1) (c:=(cL cI)) 4 rfl hN ([r3]:List (List Int)) rfl (by decide) ⟨[(.slice Ar lr cr)],_,rfl,(ro_R (hS.ro 3 rfl)),rfl⟩;clear hN;refine zb ?_;obtain ⟨hx,h⟩:=h;refine zn (yfv (c:=(cL cI)) rfl rfl underlying27 underlying27 yaJ rfl rfl (by decide) hS 0 rfl (hS.yo 4 rfl) hx ?_);clear hS;intro A c w10 hS;refine zb (zQ (.slice A (Ab+1) c) (yaa (yae (zr (zq (yab H5) ?_)))));obtain ⟨hi,h⟩:=h;refine zq (zA hi) (zQ (ii (w5+1)) (yaa ?_));obtain ⟨mq,hlt,h⟩:=h;exact ag mq _ _ _ ⟨_,_,_,_,_,h,rfl,H1,H3,rfl,rfl,(hS.sel [0,1,2])⟩ hlt
    · replace h:=h.2 hp2;refine yav (zC (zI hp2)) (yaf (yae (zr (zq (yab H5) ?_))));obtain ⟨hi2,h⟩:=h;refine zq (zA hi2) (zQ (ii (w5+1)) (yaa ?_));obtain ⟨mq,hlt,h⟩:=h;exact ag mq _ _ _ ⟨_,_,_,_,_,h,rfl,H1,H3,H4,rfl,(hS.sel [0,1,2])⟩ hlt
  · replace h:=h.2 hp;exact zd hp (yas rfl (zs (zq (yab H4) (zQ (.slice Aa Ab Ac) (yaa (yah rfl rfl ⟨_,_,_,_,rfl,(hS.sel [0]),h⟩))))))
def ydb(g:Int)(g2:List E3)(R:Int→Prop):Prop :=
ybV g g2 (fun r =>
((r=0 →
ybv g g2 (fun r2 =>
((r2=true →
R 0) ∧
(¬(r2=true) →
R 13)))) ∧
(¬(r=0) →
R r)))
theorem ygn{O:Nat→Prop}{w:World}{g g2 Ag lg cg}{R:Int→Prop}(h:ydb g g2 R)(hO:∀ k,O k→k<w.heap.size)(hA0:(FP.sl c3 Ag lg cg g2).P O w) :
    Calls Tryz.prog 33 #[(.agg #[(ii g),(.slice Ag lg cg)])] w fun e w'=>∃ r3,e = .returned (ii r3)∧Sep w no O w' (rl [])∧R r3:=by
  unfold ydb at h;have hS:Sep w no O w (rl [Res.ro (FP.sl c3 Ag lg cg g2)]):=Sep.startl hO [(FP.sl c3 Ag lg cg g2)] ⟨hA0,trivial⟩;refine yal (l:=[(.agg #[(ii g),(.slice Ag lg cg)])]) func33 rfl ntmps33 zY (zs (zn (ybm (v:=(.agg #[(ii g),(.slice Ag lg cg)])) rfl ?_)));intro g3 w2 hN;replace hS:Sep w no O w2 (stl _ 1 (Res.box 24 g3 [(ii g),(.slice Ag lg cg)])):=hS.new 1 rfl hN;clear hN;refine zb (zQ (ii 0) (yaa (yac (zs (zq (yao (vs:=[(ii g),(.slice Ag lg cg)]) rfl underlying24 rfl yak ⟨Row.cell (hS.bx 1 rfl) (i:=0) rfl,Row.cell (hS.bx 1 rfl) (i:=1) rfl,trivial⟩) (zn (yai rfl (am1 rfl) yjd ((yfm h (yaz _) (hS.rdr 0 rfl)).mono ?_))))))));rintro _ w3 ⟨r,rfl,hC,h⟩;replace hS:=hS.pur hC.pure;clear hC;refine ⟨_,rfl,?_⟩;refine zb (zQ (ii r) (yaa (zs (zM (ii r) (zq zN (yaa ?_))))));by_cases hp:r=0
  · replace h:=h.1 hp;refine ze hp (yaf (yac (zs (zq (yao (vs:=[(ii g),(.slice Ag lg cg)]) rfl underlying24 rfl yak ⟨Row.cell (hS.bx 1 rfl) (i:=0) rfl,Row.cell (hS.bx 1 rfl) (i:=1) rfl,trivial⟩) (zn (yai rfl (am1 rfl) yhU ((ycC h (yaz _) (hS.rdr 0 rfl)).mono ?_)))))));rintro _ w4 ⟨r2,rfl,hC,h⟩;replace hS:=hS.pur hC.pure;clear hC;refine ⟨_,rfl,?_⟩;refine zb (zq (yds rfl) (yaa ?_));by_cases hp2:r2=true
    · replace h:=h.1 hp2;exact yav (zC (zB hp2)) (yaf (zs (zQ (ii 0) (yaa (yah rfl rfl ⟨_,rfl,(hS.sel []),h⟩)))))
    · replace h:=h.2 hp2;exact yaq (zC (zB (zI hp2))) (zs (zQ (ii 13) (yaa (yah rfl rfl ⟨_,rfl,(hS.sel []),h⟩))))
  · replace h:=h.2 hp;exact zf hp (zs (zM (ii r) (zQ (ii r) (yaa (yah rfl rfl ⟨_,rfl,(hS.sel []),h⟩)))))
def yje(k:Int)(R:Bool→Prop):Prop :=
(((-1048576)≤k →
R (decide (k≤1048576))) ∧
(¬((-1048576)≤k) →
R false))
theorem pok_r16_in{O:Nat→Prop}{w:World}{k}{R:Bool→Prop}(h:yje k R)(hO:∀ k,O k→k<w.heap.size) :
    Calls Tryz.prog 160 #[(ii k)] w fun e w'=>∃ r,e = .returned (.bool (r))∧Sep w no O w' (rl [])∧R r:=by
  unfold yje at h;have hS:Sep w no O w (rl []):=Sep.start w hO;refine yal (l:=[(ii k)]) func160 rfl ntmps160 zY (zs (zQ (.bool (false)) (yaa (zs (zM (ii k) (zq (yiq rfl rfl) (zM (.bool (decide ((-1048576)≤k))) ?_)))))));by_cases hp:(-1048576)≤k
  · replace h:=h.1 hp;exact zW rfl rfl (zT hp) (zm (ii k)) (zW rfl rfl (zT hp) (v_leq rfl rfl) (zq (yan (v:=(.bool (decide (k≤1048576)))) (zT hp) rfl) (zQ (.bool (decide (k≤1048576))) (yaa (yah rfl rfl ⟨_,rfl,(hS.sel []),h⟩)))))
  · replace h:=h.2 hp;exact zV rfl rfl (zF hp) (zV rfl rfl (zF hp) (zq (yaj (v:=(.bool (false))) (zF hp) rfl) (zQ (.bool (false)) (yaa (yah rfl rfl ⟨_,rfl,(hS.sel []),h⟩)))))
def yiY(x:List Int)(n:Int)(R:Int→Prop):Prop :=
(((x.length:Int)=n →
(∃ I2:Nat→Int→Prop,(∃ m0,I2 m0 0)∧∀ m2 i,I2 m2 i → 
((i<n →
((0≤i∧i<(x.length:Int)) ∧
yje (gi x i.toNat) (fun r =>
((r=true →
(In64 (i+1) ∧
∃ m3,m3<m2∧I2 m3 (i+1))) ∧
(¬(r=true) →
R 2))))) ∧
(¬(i<n) →
R 0)))) ∧
(¬((x.length:Int)=n) →
R 8))
theorem yjb{O:Nat→Prop}{w:World}{x n Ax lx cx}{R:Int→Prop}(h:yiY x n R)(hO:∀ k,O k→k<w.heap.size)(hA0:(FP.sl cI Ax lx cx x).P O w) :
    Calls Tryz.prog 139 #[(.slice Ax lx cx),(ii n)] w fun e w'=>∃ r2,e = .returned (ii r2)∧Sep w no O w' (rl [])∧R r2:=by
  unfold yiY at h;have hS:Sep w no O w (rl [Res.ro (FP.sl cI Ax lx cx x)]):=Sep.startl hO [(FP.sl cI Ax lx cx x)] ⟨hA0,trivial⟩;refine yal (l:=[(.slice Ax lx cx),(ii n)]) func139 rfl ntmps139 zY (zs (zQ (ii 0) (yaa (yac (zs (zM (.slice Ax lx cx) (zq (yaG (n:=x.length) rfl underlying35 (yaD (hS.rdr 0 rfl))) (zM (ii n) (zq zN (yaa ?_))))))))));by_cases hp:(x.length:Int)=n
  · replace h:=h.1 hp;refine ze hp (yaf (yac (zs (zQ (ii 0) (yaa (yad ?_))))));obtain ⟨I2,⟨m0,h0⟩,hr⟩:=h;refine yax (fun m E ds w'=>∃ i,I2 m i∧ds=[]∧E 0=(Value.slice Ax lx cx)∧E 1=(ii n)∧E 5=(ii i)∧Sep w no O w' (rl [Res.ro (FP.sl cI Ax lx cx x)])) m0 ⟨_,h0,rfl,rfl,rfl,rfl,(hS.sel [0])⟩ ?_;clear h0 hS;rintro m2 E ds w2 ⟨i,h,rfl,H0,H1,H5,hS⟩ ag;replace h:=hr m2 i h;clear hr;refine yac (zs (zq (yab H5) (zq (yab H1) (zq zL (yaa ?_)))));by_cases hp2:i<n
    · replace h:=h.1 hp2;refine zc hp2 (yaf (yac (yad (zs (zq (yab H0) (zq (yab H5) ?_))))));obtain ⟨hx,h⟩:=h;refine zq (zi underlying35 yag (yaB (hS.rdr 0 rfl) hx)) (zq (yar (v:=(ii (gi x i.toNat))) rfl underlying3 rfl (rd_1 (hS.rdr 0 rfl) hx (fun q=>yaF q) rfl)) ?_);refine zn (yai rfl (am1 rfl) enter_160 ((pok_r16_in h (yaz _)).mono ?_));rintro _ w3 ⟨r,rfl,hC,h⟩;replace hS:=hS.pur hC.pure;clear hC;refine ⟨_,rfl,?_⟩;refine zb (zq (yds rfl) (yaa ?_));by_cases hp3:r=true
      · replace h:=h.1 hp3;refine yav (zC (zB hp3)) (yaf (yae (zr (zq (yab H5) ?_))));obtain ⟨hi,h⟩:=h;refine zq (zA hi) (zQ (ii (i+1)) (yaa ?_));obtain ⟨mq,hlt,h⟩:=h;exact ag mq _ _ _ ⟨_,h,rfl,H0,H1,rfl,(hS.sel [0])⟩ hlt
      · replace h:=h.2 hp3;exact yaq (zC (zB (zI hp3))) (zs (zQ (ii 2) (yaa (yah rfl rfl ⟨_,rfl,(hS.sel []),h⟩))))
    · replace h:=h.2 hp2;exact zd hp2 (yas rfl (zs (zQ (ii 0) (yaa (yah rfl rfl ⟨_,rfl,(hS.sel []),h⟩)))))
  · replace h:=h.2 hp;exact zf hp (zs (zQ (ii 8) (yaa (yah rfl rfl ⟨_,rfl,(hS.sel []),h⟩))))
def yi3(x:List Int)(R:Int→Prop):Prop :=
yiY x (x.length:Int) (fun r =>
((r=0 →
R 0) ∧
(¬(r=0) →
R 11)))
theorem pok_r16_large{O:Nat→Prop}{w:World}{x Ax lx cx}{R:Int→Prop}(h:yi3 x R)(hO:∀ k,O k→k<w.heap.size)(hA0:(FP.sl cI Ax lx cx x).P O w) :
    Calls Tryz.prog 141 #[(.slice Ax lx cx)] w fun e w'=>∃ r2,e = .returned (ii r2)∧Sep w no O w' (rl [])∧R r2:=by
  unfold yi3 at h;have hS:Sep w no O w (rl [Res.ro (FP.sl cI Ax lx cx x)]):=Sep.startl hO [(FP.sl cI Ax lx cx x)] ⟨hA0,trivial⟩;refine yal (l:=[(.slice Ax lx cx)]) func141 rfl ntmps141 zY (zs (zQ (ii 0) (yaa (yac (zs (zM (.slice Ax lx cx) (zM (.slice Ax lx cx) (zq (yaG (n:=x.length) rfl underlying35 (yaD (hS.rdr 0 rfl))) (zn (yai rfl (am2 rfl rfl) enter_139 ((yjb h (yaz _) (hS.rdr 0 rfl)).mono ?_)))))))))));rintro _ w2 ⟨r,rfl,hC,h⟩;replace hS:=hS.pur hC.pure;clear hC;refine ⟨_,rfl,?_⟩;refine zb (zq zN (yaa ?_));by_cases hp:r=0
  · replace h:=h.1 hp;exact ze hp (yaf (zs (zQ (ii 0) (yaa (yah rfl rfl ⟨_,rfl,(hS.sel []),h⟩)))))
  · replace h:=h.2 hp;exact zf hp (zs (zQ (ii 11) (yaa (yah rfl rfl ⟨_,rfl,(hS.sel []),h⟩))))
def yi7(g:Int)(g2:List E3)(x:List Int)(R:(List Int)→Prop):Prop :=
((0≤g∧g≤1000000) ∧
yci g g2 (fun r =>
(∃ I2:Nat→Int→(List Int)→Prop,(∃ m0,I2 m0 0 (List.replicate g.toNat (0:Int)))∧∀ m2 e2 out,I2 m2 e2 out → 
((e2<(r.length:Int) →
((0≤e2∧e2<(r.length:Int)) ∧
((0≤(0:Int)∧(0:Int)<2) ∧
((0≤(1:Int)∧(1:Int)<2) ∧
((0≤((gx r e2.toNat).2)∧((gx r e2.toNat).2)<(out.length:Int)) ∧
((0≤e2∧e2<(x.length:Int)) ∧
(In64 ((gi out ((gx r e2.toNat).2).toNat)+(gi x e2.toNat)) ∧
((0≤((gx r e2.toNat).1)∧((gx r e2.toNat).1)<(((out.set ((gx r e2.toNat).2).toNat ((gi out ((gx r e2.toNat).2).toNat)+(gi x e2.toNat))).length:Nat):Int)) ∧
(In64 ((gi (out.set ((gx r e2.toNat).2).toNat ((gi out ((gx r e2.toNat).2).toNat)+(gi x e2.toNat))) ((gx r e2.toNat).1).toNat)-(gi x e2.toNat)) ∧
(In64 (e2+1) ∧
∃ m3,m3<m2∧I2 m3 (e2+1) ((out.set ((gx r e2.toNat).2).toNat ((gi out ((gx r e2.toNat).2).toNat)+(gi x e2.toNat))).set ((gx r e2.toNat).1).toNat ((gi (out.set ((gx r e2.toNat).2).toNat ((gi out ((gx r e2.toNat).2).toNat)+(gi x e2.toNat))) ((gx r e2.toNat).1).toNat)-(gi x e2.toNat))))))))))))) ∧
(¬(e2<(r.length:Int)) →
R out)))))
theorem pok_r16_Flow{O:Nat→Prop}{w:World}{g g2 x Ag lg cg Ax lx cx}{R:(List Int)→Prop}(h:yi7 g g2 x R)(hO:∀ k,O k→k<w.heap.size)(hA0:(FP.sl c3 Ag lg cg g2).P O w)(hA1:(FP.sl cI Ax lx cx x).P O w) :
    Calls Tryz.prog 140 #[(.agg #[(ii g),(.slice Ag lg cg)]),(.slice Ax lx cx)] w fun e w'=>∃ r2 Ar2 lr2 cr2,e = .returned (.slice Ar2 lr2 cr2)∧Sep w no O w' (rl [Res.own cI 3 Ar2 lr2 cr2 r2])∧R r2:=by
  unfold yi7 at h;have hS:Sep w no O w (rl [Res.ro (FP.sl c3 Ag lg cg g2),Res.ro (FP.sl cI Ax lx cx x)]):=Sep.startl hO [(FP.sl c3 Ag lg cg g2),(FP.sl cI Ax lx cx x)] ⟨hA0,hA1,trivial⟩;refine yal (l:=[(.agg #[(ii g),(.slice Ag lg cg)]),(.slice Ax lx cx)]) func140 rfl ntmps140 zY (zs (zn (ybm (v:=(.agg #[(ii g),(.slice Ag lg cg)])) rfl ?_)));intro g3 w2 hN;replace hS:Sep w no O w2 (stl _ 2 (Res.box 24 g3 [(ii g),(.slice Ag lg cg)])):=hS.new 2 rfl hN;clear hN;refine zb (zQ (.slice none 0 0) (yaa (zs (zq (yam rfl underlying24 rfl yag) (zq (zl underlying3 (Row.cell (hS.bx 2 rfl) (i:=0) rfl)) ?_)))));obtain ⟨hx,h⟩:=h;refine zn (yeX rfl rfl underlying117 yag (by decide) rfl hx ?_);intro g4 w3 hN;replace hS:=hS.made 3 rfl cI (ii 0) (0:Int) (fun _ _=>rfl) hN (by omega);clear hN;refine zb (zQ (.slice (some ⟨g4,0,none⟩) g.toNat g.toNat) (yaa (zs (zq (yao (vs:=[(ii g),(.slice Ag lg cg)]) rfl underlying24 rfl yak ⟨Row.cell (hS.bx 2 rfl) (i:=0) rfl,Row.cell (hS.bx 2 rfl) (i:=1) rfl,trivial⟩) (zn (yai rfl (am1 rfl) yhJ ((yep h (yaz _) (hS.rdr 0 rfl)).mono ?_)))))));rintro _ w4 ⟨r,Ar,lr,cr,rfl,hC,h⟩;replace hS:=hS.call1 (hC.widen (ycv (yaP (fP (fI .i64) (fI .i64)) _ _ _ _ _) ycH) hS.blt) 4 0 rfl;clear hC;refine ⟨_,rfl,?_⟩;refine zb (zQ (.slice Ar lr cr) (yaa (yac (zs (zQ (ii 0) (yaa (yad ?_)))))));obtain ⟨I2,⟨m0,h0⟩,hr⟩:=h;refine yax (fun m E ds w'=>∃ e2 out,I2 m e2 out∧ds=[]∧E 1=(Value.slice Ax lx cx)∧E 5=(Value.slice (some ⟨g4,0,none⟩) g.toNat g.toNat)∧E 6=(Value.slice Ar lr cr)∧E 7=(ii e2)∧Sep w no O w' (rl [Res.ro (FP.sl cI Ax lx cx x),Res.own cI 3 (some ⟨g4,0,none⟩) g.toNat g.toNat out,Res.own c2 96 Ar lr cr r])) m0 ⟨_,_,h0,rfl,rfl,rfl,rfl,rfl,(hS.sel [1,3,4])⟩ ?_;clear h0 hS;rintro m2 E ds w5 ⟨e2,out,h,rfl,H1,H5,H6,H7,hS⟩ ag;replace h:=hr m2 e2 out h;clear hr;refine yac (zs (zq (yab H7) (zq (yab H6) (zq (yaG (n:=r.length) rfl underlying62 (yaD (hS.rdo 2 rfl))) (zq zL (yaa ?_))))));by_cases hp:e2<(r.length:Int)
  · replace h:=h.1 hp;refine zc hp (yaf (yac (yad (yac (ybq [0,1,2,3,4,5,6,7,8,9,10,11] st0 yaC (by kernel_rfl) (by kernel_rfl) ?_)))));replace hS:=hS.drew;refine zp (yab H6) (zp (yab H7) ?_);obtain ⟨hx2,h⟩:=h;refine zp (zi underlying62 ybk (yaB (hS.rdo 2 rfl) hx2)) ?_;obtain ⟨hx3,h⟩:=h;refine zp (ybE rfl rfl underlying96 yag hx3) (zp (yar (v:=(ii ((gx r e2.toNat).1))) rfl underlying3 rfl (rd_f (hS.rdo 2 rfl) hx2 (fun q=>ycO q) 0 rfl)) ?_);refine zp (yab H6) (zp (yab H7) (zp (zi underlying62 ybk (yaB (hS.rdo 2 rfl) hx2)) ?_));obtain ⟨hx4,h⟩:=h;refine zp (ybE rfl rfl underlying96 yag hx4) (zp (yar (v:=(ii ((gx r e2.toNat).2))) rfl underlying3 rfl (rd_f (hS.rdo 2 rfl) hx2 (fun q=>ycO q) 1 rfl)) ?_);refine zp (za (ii ((gx r e2.toNat).1))) (zp (za (ii ((gx r e2.toNat).2))) (ybH (yac (ybq [0,1,2,3,4,5,6,7,8,9,10,11,12] st0 yaC (by kernel_rfl) (by kernel_rfl) ?_))));replace hS:=hS.drew;refine zp (yab H5) (zp (zm (ii ((gx r e2.toNat).2))) (zp (yab H5) (zp (zm (ii ((gx r e2.toNat).2))) ?_)));obtain ⟨hx5,h⟩:=h;refine zp (zi underlying117 yag (yaB (hS.rdo 1 rfl) hx5)) (zp (yar (v:=(ii (gi out ((gx r e2.toNat).2).toNat))) rfl underlying3 rfl (rd_1 (hS.rdo 1 rfl) hx5 (fun q=>yaF q) rfl)) ?_);refine zp (yab H1) (zp (yab H7) ?_);obtain ⟨hx6,h⟩:=h;refine zp (zi underlying35 yag (yaB (hS.rdr 0 rfl) hx6)) (zp (yar (v:=(ii (gi x e2.toNat))) rfl underlying3 rfl (rd_1 (hS.rdr 0 rfl) hx6 (fun q=>yaF q) rfl)) ?_);obtain ⟨hi,h⟩:=h;refine zp (zA hi) (zp (zi underlying117 yag (yaB (hS.rdo 1 rfl) hx5)) (rp_n0 rfl rfl rfl (zt (ii ((gi out ((gx r e2.toNat).2).toNat)+(gi x e2.toNat))) yag (hS.wr 1 rfl rfl hx5) ?_)));intro w6 e1;replace hS:=hS.st 1 rfl rfl hx5 (x:=(gi out ((gx r e2.toNat).2).toNat)+(gi x e2.toNat)) rfl e1;clear e1;refine zb (ybH (ybq [0,1,2,3,4,5,6,7,8,9,10,11,12] st0 yaC (by kernel_rfl) (by kernel_rfl) ?_));replace hS:=hS.drew;refine zp (yab H5) (zp (zm (ii ((gx r e2.toNat).1))) (zp (yab H5) (zp (zm (ii ((gx r e2.toNat).1))) ?_)));obtain ⟨hx7,h⟩:=h;refine zp (zi underlying117 yag (yaB (hS.rdo 1 rfl) hx7)) (zp (yar (v:=(ii (gi (out.set ((gx r e2.toNat).2).toNat ((gi out ((gx r e2.toNat).2).toNat)+(gi x e2.toNat))) ((gx r e2.toNat).1).toNat))) rfl underlying3 rfl (rd_1 (hS.rdo 1 rfl) hx7 (fun q=>yaF q) rfl)) ?_);refine zp (yab H1) (zp (yab H7) (zp (zi underlying35 yag (yaB (hS.rdr 0 rfl) hx6)) (zp (yar (v:=(ii (gi x e2.toNat))) rfl underlying3 rfl (rd_1 (hS.rdr 0 rfl) hx6 (fun q=>yaF q) rfl)) ?_)));obtain ⟨hi2,h⟩:=h;refine zp (zS hi2) (zp (zi underlying117 yag (yaB (hS.rdo 1 rfl) hx7)) (rp_n0 rfl rfl rfl (zt (ii ((gi (out.set ((gx r e2.toNat).2).toNat ((gi out ((gx r e2.toNat).2).toNat)+(gi x e2.toNat))) ((gx r e2.toNat).1).toNat)-(gi x e2.toNat))) yag (hS.wr 1 rfl rfl hx7) ?_)));intro w7 e1;replace hS:=hS.st 1 rfl rfl hx7 (x:=(gi (out.set ((gx r e2.toNat).2).toNat ((gi out ((gx r e2.toNat).2).toNat)+(gi x e2.toNat))) ((gx r e2.toNat).1).toNat)-(gi x e2.toNat)) rfl e1;clear e1;refine zb (ybH (yae (zr (zq (yab H7) ?_))));obtain ⟨hi3,h⟩:=h;refine zq (zA hi3) (zQ (ii (e2+1)) (yaa ?_));obtain ⟨mq,hlt,h⟩:=h;exact ag mq _ _ _ ⟨_,_,h,rfl,H1,H5,H6,rfl,(hS.sel [0,1,2])⟩ hlt
  · replace h:=h.2 hp;exact zd hp (yas rfl (zs (zq (yab H5) (zQ (.slice (some ⟨g4,0,none⟩) g.toNat g.toNat) (yaa (yah rfl rfl ⟨_,_,_,_,rfl,(hS.sel [1]),h⟩))))))
def yiU(g:Int)(g2:List E3)(x:List Int)(R:(List Int)→Int→Prop):Prop :=
ybV g g2 (fun r =>
((r=0 →
ycz g g2 (fun r2 =>
yiY x r2 (fun r3 =>
((r3=0 →
yi7 g g2 x (fun r4 =>
yi3 r4 (fun r5 =>
((r5=0 →
R r4 0) ∧
(¬(r5=0) →
R ([]) r5))))) ∧
(¬(r3=0) →
R ([]) r3))))) ∧
(¬(r=0) →
R ([]) r)))
theorem yjc{O:Nat→Prop}{w:World}{g g2 x Ag lg cg Ax lx cx}{R:(List Int)→Int→Prop}(h:yiU g g2 x R)(hO:∀ k,O k→k<w.heap.size)(hA0:(FP.sl c3 Ag lg cg g2).P O w)(hA1:(FP.sl cI Ax lx cx x).P O w) :
    Calls Tryz.prog 101 #[(.agg #[(ii g),(.slice Ag lg cg)]),(.slice Ax lx cx)] w fun e w'=>∃ r6 r7 Ar2 lr2 cr2,e = .returned (.tuple #[(.slice Ar2 lr2 cr2),(ii r7)])∧Sep w no O w' (rl [Res.own cI 3 Ar2 lr2 cr2 r6])∧R r6 r7:=by
  unfold yiU at h;have hS:Sep w no O w (rl [Res.ro (FP.sl c3 Ag lg cg g2),Res.ro (FP.sl cI Ax lx cx x)]):=Sep.startl hO [(FP.sl c3 Ag lg cg g2),(FP.sl cI Ax lx cx x)] ⟨hA0,hA1,trivial⟩;refine yal (l:=[(.agg #[(ii g),(.slice Ag lg cg)]),(.slice Ax lx cx)]) func101 rfl ntmps101 zY (zs (zn (ybm (v:=(.agg #[(ii g),(.slice Ag lg cg)])) rfl ?_)));intro g3 w2 hN;replace hS:Sep w no O w2 (stl _ 2 (Res.box 24 g3 [(ii g),(.slice Ag lg cg)])):=hS.new 2 rfl hN;clear hN;refine zb (zQ (.slice none 0 0) (zQ (ii 0) (yaa (yac (zs (zq (yao (vs:=[(ii g),(.slice Ag lg cg)]) rfl underlying24 rfl yak ⟨Row.cell (hS.bx 2 rfl) (i:=0) rfl,Row.cell (hS.bx 2 rfl) (i:=1) rfl,trivial⟩) (zn (yai rfl (am1 rfl) yjd ((yfm h (yaz _) (hS.rdr 0 rfl)).mono ?_)))))))));rintro _ w3 ⟨r,rfl,hC,h⟩;replace hS:=hS.pur hC.pure;clear hC;refine ⟨_,rfl,?_⟩;refine zb (zQ (ii r) (yaa (zs (zM (ii r) (zq zN (yaa ?_))))));by_cases hp:r=0
  · replace h:=h.1 hp;refine ze hp (yaf (yac (zs (zM (.slice Ax lx cx) (zq (yao (vs:=[(ii g),(.slice Ag lg cg)]) rfl underlying24 rfl yak ⟨Row.cell (hS.bx 2 rfl) (i:=0) rfl,Row.cell (hS.bx 2 rfl) (i:=1) rfl,trivial⟩) (zn (yai rfl (am1 rfl) yhI ((yez h (yaz _) (hS.rdr 0 rfl)).mono ?_))))))));rintro _ w4 ⟨r2,rfl,hC,h⟩;replace hS:=hS.pur hC.pure;clear hC;refine ⟨_,rfl,?_⟩;refine zb (zn (yai rfl (am2 rfl rfl) enter_139 ((yjb h (yaz _) (hS.rdr 1 rfl)).mono ?_)));rintro _ w5 ⟨r3,rfl,hC,h⟩;replace hS:=hS.pur hC.pure;clear hC;refine ⟨_,rfl,?_⟩;refine zb (zQ (ii r3) (yaa (zs (zM (ii r3) (zq zN (yaa ?_))))));by_cases hp2:r3=0
    · replace h:=h.1 hp2;refine ze hp2 (yaf (zs (zq (yao (vs:=[(ii g),(.slice Ag lg cg)]) rfl underlying24 rfl yak ⟨Row.cell (hS.bx 2 rfl) (i:=0) rfl,Row.cell (hS.bx 2 rfl) (i:=1) rfl,trivial⟩) (zM (.slice Ax lx cx) (zn (yai rfl (am2 rfl rfl) enter_140 ((pok_r16_Flow h (yaz _) (hS.rdr 0 rfl) (hS.rdr 1 rfl)).mono ?_)))))));rintro _ w6 ⟨r4,Ar,lr,cr,rfl,hC,h⟩;replace hS:=hS.call1 (hC.widen (ycv (yaP (fI .i64) _ _ _ _ _) ycH) hS.blt) 3 0 rfl;clear hC;refine ⟨_,rfl,?_⟩;refine zb (zQ (.slice Ar lr cr) (yaa (yac (zs (zM (.slice Ar lr cr) (zn (yai rfl (am1 rfl) enter_141 ((pok_r16_large h (yaz _) (hS.rdo 3 rfl)).mono ?_))))))));rintro _ w7 ⟨r5,rfl,hC,h⟩;replace hS:=hS.pur hC.pure;clear hC;refine ⟨_,rfl,?_⟩;refine zb (zQ (ii r5) (yaa (zs (zM (ii r5) (zq zN (yaa ?_))))));by_cases hp3:r5=0
      · replace h:=h.1 hp3;exact ze hp3 (yaf (zs (zM (.slice Ar lr cr) (zQ (.slice Ar lr cr) (zQ (ii 0) (yaa (ya7 rfl rfl rfl ⟨_,_,_,_,_,rfl,(hS.sel [3]),h⟩)))))))
      · replace h:=h.2 hp3;refine zf hp3 (zs (zM (ii r5) (zQ (.slice none 0 0) (zQ (ii r5) (yaa ?_)))));replace hS:=hS.nil 4 rfl cI 3;exact ya7 rfl rfl rfl ⟨_,_,_,_,_,rfl,(hS.sel [4]),h⟩
    · replace h:=h.2 hp2;refine zf hp2 (zs (zM (ii r3) (zQ (.slice none 0 0) (zQ (ii r3) (yaa ?_)))));replace hS:=hS.nil 3 rfl cI 3;exact ya7 rfl rfl rfl ⟨_,_,_,_,_,rfl,(hS.sel [3]),h⟩
  · replace h:=h.2 hp;refine zf hp (zs (zM (ii r) (zQ (.slice none 0 0) (zQ (ii r) (yaa ?_)))));replace hS:=hS.nil 3 rfl cI 3;exact ya7 rfl rfl rfl ⟨_,_,_,_,_,rfl,(hS.sel [3]),h⟩
def yi1(x:List Int)(y:List Int)(R:Int→Prop):Prop :=
(∃ I2:Nat→Int→Int→Prop,(∃ m0,I2 m0 0 0)∧∀ m2 sum i,I2 m2 sum i → 
((i<(x.length:Int) →
((0≤i∧i<(x.length:Int)) ∧
((0≤i∧i<(y.length:Int)) ∧
(In64 ((gi x i.toNat)*(gi y i.toNat)) ∧
(In64 (sum+((gi x i.toNat)*(gi y i.toNat))) ∧
(In64 (i+1) ∧
∃ m3,m3<m2∧I2 m3 (sum+((gi x i.toNat)*(gi y i.toNat))) (i+1))))))) ∧
(¬(i<(x.length:Int)) →
R sum)))
theorem yjk{O:Nat→Prop}{w:World}{x y Ax lx cx Ay ly cy}{R:Int→Prop}(h:yi1 x y R)(hO:∀ k,O k→k<w.heap.size)(hA0:(FP.sl cI Ax lx cx x).P O w)(hA1:(FP.sl cI Ay ly cy y).P O w) :
    Calls Tryz.prog 27 #[(.slice Ax lx cx),(.slice Ay ly cy)] w fun e w'=>∃ r,e = .returned (ii r)∧Sep w no O w' (rl [])∧R r:=by
  unfold yi1 at h;have hS:Sep w no O w (rl [Res.ro (FP.sl cI Ax lx cx x),Res.ro (FP.sl cI Ay ly cy y)]):=Sep.startl hO [(FP.sl cI Ax lx cx x),(FP.sl cI Ay ly cy y)] ⟨hA0,hA1,trivial⟩;refine yal (l:=[(.slice Ax lx cx),(.slice Ay ly cy)]) func27 rfl ntmps27 zY (zs (zQ (ii 0) (yaa (zs (zQ (ii 0) (yaa (yac (zs (zQ (ii 0) (yaa (yad ?_)))))))))));obtain ⟨I2,⟨m0,h0⟩,hr⟩:=h;refine yax (fun m E ds w'=>∃ sum i,I2 m sum i∧ds=[]∧E 0=(Value.slice Ax lx cx)∧E 1=(Value.slice Ay ly cy)∧E 5=(ii sum)∧E 6=(ii i)∧Sep w no O w' (rl [Res.ro (FP.sl cI Ax lx cx x),Res.ro (FP.sl cI Ay ly cy y)])) m0 ⟨_,_,h0,rfl,rfl,rfl,rfl,rfl,(hS.sel [0,1])⟩ ?_;clear h0 hS;rintro m2 E ds w2 ⟨sum,i,h,rfl,H0,H1,H5,H6,hS⟩ ag;replace h:=hr m2 sum i h;clear hr;refine yac (zs (zq (yab H6) (zq (yab H0) (zq (yaG (n:=x.length) rfl underlying35 (yaD (hS.rdr 0 rfl))) (zq zL (yaa ?_))))));by_cases hp:i<(x.length:Int)
  · replace h:=h.1 hp;refine zc hp (yaf (yac (yad (ybq [0,1,2,3,4,5,6,7,8,9,10,11] st0 yaC (by kernel_rfl) (by kernel_rfl) ?_))));replace hS:=hS.drew;refine zp (yab H5) (zp (yab H0) (zp (yab H6) ?_));obtain ⟨hx,h⟩:=h;refine zp (zi underlying35 yag (yaB (hS.rdr 0 rfl) hx)) (zp (yar (v:=(ii (gi x i.toNat))) rfl underlying3 rfl (rd_1 (hS.rdr 0 rfl) hx (fun q=>yaF q) rfl)) ?_);refine zp (yab H1) (zp (yab H6) ?_);obtain ⟨hx2,h⟩:=h;refine zp (zi underlying35 yag (yaB (hS.rdr 1 rfl) hx2)) (zp (yar (v:=(ii (gi y i.toNat))) rfl underlying3 rfl (rd_1 (hS.rdr 1 rfl) hx2 (fun q=>yaF q) rfl)) ?_);obtain ⟨hi,h⟩:=h;refine zp (v_mul rfl rfl hi) ?_;obtain ⟨hi2,h⟩:=h;refine zp (zA hi2) (zp (za (ii (sum+((gi x i.toNat)*(gi y i.toNat))))) (ybH (yae (zr (zq (yab H6) ?_)))));obtain ⟨hi3,h⟩:=h;refine zq (zA hi3) (zQ (ii (i+1)) (yaa ?_));obtain ⟨mq,hlt,h⟩:=h;exact ag mq _ _ _ ⟨_,_,h,rfl,H0,H1,rfl,rfl,(hS.sel [0,1])⟩ hlt
  · replace h:=h.2 hp;exact zd hp (yas rfl (zs (zq (yab H5) (zQ (ii sum) (yaa (yah rfl rfl ⟨_,rfl,(hS.sel []),h⟩))))))
def ye6(a:List Int)(b:List Int)(R:Bool→Prop):Prop :=
ydk a b (fun r =>
R r)
theorem yi9{O:Nat→Prop}{w:World}{a b Aa la ca Ab lb cb}{R:Bool→Prop}(h:ye6 a b R)(hO:∀ k,O k→k<w.heap.size)(hA0:(FP.sl cI Aa la ca a).P O w)(hA1:(FP.sl cI Ab lb cb b).P O w) :
    Calls Tryz.prog 19 #[(.slice Aa la ca),(.slice Ab lb cb)] w fun e w'=>∃ r2,e = .returned (.bool (r2))∧Sep w no O w' (rl [])∧R r2:=by
  unfold ye6 at h;have hS:Sep w no O w (rl [Res.ro (FP.sl cI Aa la ca a),Res.ro (FP.sl cI Ab lb cb b)]):=Sep.startl hO [(FP.sl cI Aa la ca a),(FP.sl cI Ab lb cb b)] ⟨hA0,hA1,trivial⟩;refine yal (l:=[(.slice Aa la ca),(.slice Ab lb cb)]) func19 rfl ntmps19 zY (zs (zQ (.bool (false)) (yaa (zs (zM (.slice Aa la ca) (zM (.slice Ab lb cb) (zn (yai rfl (am2 rfl rfl) enter_55 ((yhx h (yaz _) (hS.rdr 0 rfl) (hS.rdr 1 rfl)).mono ?_)))))))));rintro _ w2 ⟨r,rfl,hC,h⟩;replace hS:=hS.pur hC.pure;clear hC;refine ⟨_,rfl,?_⟩;exact zb (zQ (.bool (r)) (yaa (yah rfl rfl ⟨_,rfl,(hS.sel []),h⟩)))
def ya0(a:List (List Int))(b:List (List Int))(R:Bool→Prop):Prop :=
(((a.length:Int)=(b.length:Int) →
(∃ I2:Nat→Int→Prop,(∃ m0,I2 m0 0)∧∀ m2 i,I2 m2 i → 
((i<(a.length:Int) →
((0≤i∧i<(a.length:Int)) ∧
((0≤i∧i<(b.length:Int)) ∧
ye6 (gx a i.toNat) (gx b i.toNat) (fun r =>
((r=true →
(In64 (i+1) ∧
∃ m3,m3<m2∧I2 m3 (i+1))) ∧
(¬(r=true) →
R false)))))) ∧
(¬(i<(a.length:Int)) →
R true)))) ∧
(¬((a.length:Int)=(b.length:Int)) →
R false))
theorem yb2{O:Nat→Prop}{w:World}{a b Aa la ca Ab lb cb}{R:Bool→Prop}(h:ya0 a b R)(hO:∀ k,O k→k<w.heap.size)(hA0:(FP.sl (cL cI) Aa la ca a).P O w)(hA1:(FP.sl (cL cI) Ab lb cb b).P O w) :
    Calls Tryz.prog 14 #[(.slice Aa la ca),(.slice Ab lb cb)] w fun e w'=>∃ r2,e = .returned (.bool (r2))∧Sep w no O w' (rl [])∧R r2:=by
  unfold ya0 at h;have hS:Sep w no O w (rl [Res.ro (FP.sl (cL cI) Aa la ca a),Res.ro (FP.sl (cL cI) Ab lb cb b)]):=Sep.startl hO [(FP.sl (cL cI) Aa la ca a),(FP.sl (cL cI) Ab lb cb b)] ⟨hA0,hA1,trivial⟩;refine yal (l:=[(.slice Aa la ca),(.slice Ab lb cb)]) func14 rfl ntmps14 zY (zs (zQ (.bool (false)) (yaa (yac (zs (zM (.slice Aa la ca) (zq (yaG (n:=a.length) rfl underlying27 (yaD (hS.rdr 0 rfl))) (zM (.slice Ab lb cb) (zq (yaG (n:=b.length) rfl underlying27 (yaD (hS.rdr 1 rfl))) (zq zN (yaa ?_)))))))))));by_cases hp:(a.length:Int)=(b.length:Int)
  · replace h:=h.1 hp;refine ze hp (yaf (yac (zs (zQ (ii 0) (yaa (yad ?_))))));obtain ⟨I2,⟨m0,h0⟩,hr⟩:=h;refine yax (fun m E ds w'=>∃ i,I2 m i∧ds=[]∧E 0=(Value.slice Aa la ca)∧E 1=(Value.slice Ab lb cb)∧E 5=(ii i)∧Sep w no O w' (rl [Res.ro (FP.sl (cL cI) Aa la ca a),Res.ro (FP.sl (cL cI) Ab lb cb b)])) m0 ⟨_,h0,rfl,rfl,rfl,rfl,(hS.sel [0,1])⟩ ?_;clear h0 hS;rintro m2 E ds w2 ⟨i,h,rfl,H0,H1,H5,hS⟩ ag;replace h:=hr m2 i h;clear hr;refine yac (zs (zq (yab H5) (zq (yab H0) (zq (yaG (n:=a.length) rfl underlying27 (yaD (hS.rdr 0 rfl))) (zq zL (yaa ?_))))));by_cases hp2:i<(a.length:Int)
    · replace h:=h.1 hp2;refine zc hp2 (yaf (yac (yad (yac (ybq [0,1,2,3,4,5,6,7,8,9] st0 yaC (by kernel_rfl) (by kernel_rfl) ?_)))));replace hS:=hS.drew;refine zp (yab H0) (zp (yab H5) ?_);obtain ⟨hx,h⟩:=h;refine zp (zi underlying27 yaJ (yaB (hS.rdr 0 rfl) hx)) ?_;obtain ⟨A,l,c,hc,hq⟩:=hS.el 0 rfl hx 2 3 rfl rfl (by decide);replace hS:=hq;clear hq;refine zp (yar (v:=(.slice A l c)) rfl underlying35 rfl (hS.clr 3 rfl)) (zp (yab H1) (zp (yab H5) ?_));obtain ⟨hx2,h⟩:=h;refine zp (zi underlying27 yaJ (yaB (hS.rdr 1 rfl) hx2)) ?_;obtain ⟨A2,l2,c4,hc2,hq⟩:=hS.el 1 rfl hx2 4 5 rfl rfl (by decide);replace hS:=hq;clear hq;refine zp (yar (v:=(.slice A2 l2 c4)) rfl underlying35 rfl (hS.clr 5 rfl)) (rp_n rfl rfl rfl rfl (yai rfl (am2 rfl rfl) enter_19 ((yi9 h (yaz _) (hS.rdr 2 rfl) (hS.rdr 4 rfl)).mono ?_)));rintro _ w3 ⟨r,rfl,hC,h⟩;replace hS:=hS.pur hC.pure;clear hC;refine ⟨_,rfl,?_⟩;refine zb (zp (yds rfl) (ybH ?_));by_cases hp3:r=true
      · replace h:=h.1 hp3;refine yav (zC (zB hp3)) (yaf (yae (zr (zq (yab H5) ?_))));obtain ⟨hi,h⟩:=h;refine zq (zA hi) (zQ (ii (i+1)) (yaa ?_));obtain ⟨mq,hlt,h⟩:=h;exact ag mq _ _ _ ⟨_,h,rfl,H0,H1,rfl,(hS.sel [0,1])⟩ hlt
      · replace h:=h.2 hp3;exact yaq (zC (zB (zI hp3))) (zs (zQ (.bool (false)) (yaa (yah rfl rfl ⟨_,rfl,(hS.sel []),h⟩))))
    · replace h:=h.2 hp2;exact zd hp2 (yas rfl (zs (zQ (.bool (true)) (yaa (yah rfl rfl ⟨_,rfl,(hS.sel []),h⟩)))))
  · replace h:=h.2 hp;exact zf hp (zs (zQ (.bool (false)) (yaa (yah rfl rfl ⟨_,rfl,(hS.sel []),h⟩))))
def yeq(g:Int)(g2:List E3)(R:Int→Prop):Prop :=
ydb g g2 (fun r =>
((r=0 →
ycz g g2 (fun r2 =>
((14<r2 →
R 12) ∧
(¬(14<r2) →
R 0)))) ∧
(¬(r=0) →
R r)))
theorem pok_r49_given{O:Nat→Prop}{w:World}{g g2 Ag lg cg}{R:Int→Prop}(h:yeq g g2 R)(hO:∀ k,O k→k<w.heap.size)(hA0:(FP.sl c3 Ag lg cg g2).P O w) :
    Calls Tryz.prog 41 #[(.agg #[(ii g),(.slice Ag lg cg)])] w fun e w'=>∃ r3,e = .returned (ii r3)∧Sep w no O w' (rl [])∧R r3:=by
  unfold yeq at h;have hS:Sep w no O w (rl [Res.ro (FP.sl c3 Ag lg cg g2)]):=Sep.startl hO [(FP.sl c3 Ag lg cg g2)] ⟨hA0,trivial⟩;refine yal (l:=[(.agg #[(ii g),(.slice Ag lg cg)])]) func41 rfl ntmps41 zY (zs (zn (ybm (v:=(.agg #[(ii g),(.slice Ag lg cg)])) rfl ?_)));intro g3 w2 hN;replace hS:Sep w no O w2 (stl _ 1 (Res.box 24 g3 [(ii g),(.slice Ag lg cg)])):=hS.new 1 rfl hN;clear hN;refine zb (zQ (ii 0) (yaa (yac (zs (zq (yao (vs:=[(ii g),(.slice Ag lg cg)]) rfl underlying24 rfl yak ⟨Row.cell (hS.bx 1 rfl) (i:=0) rfl,Row.cell (hS.bx 1 rfl) (i:=1) rfl,trivial⟩) (zn (yai rfl (am1 rfl) enter_33 ((ygn h (yaz _) (hS.rdr 0 rfl)).mono ?_))))))));rintro _ w3 ⟨r,rfl,hC,h⟩;replace hS:=hS.pur hC.pure;clear hC;refine ⟨_,rfl,?_⟩;refine zb (zQ (ii r) (yaa (zs (zM (ii r) (zq zN (yaa ?_))))));by_cases hp:r=0
  · replace h:=h.1 hp;refine ze hp (yaf (yac (zs (zq (yao (vs:=[(ii g),(.slice Ag lg cg)]) rfl underlying24 rfl yak ⟨Row.cell (hS.bx 1 rfl) (i:=0) rfl,Row.cell (hS.bx 1 rfl) (i:=1) rfl,trivial⟩) (zn (yai rfl (am1 rfl) yhI ((yez h (yaz _) (hS.rdr 0 rfl)).mono ?_)))))));rintro _ w4 ⟨r2,rfl,hC,h⟩;replace hS:=hS.pur hC.pure;clear hC;refine ⟨_,rfl,?_⟩;refine zb (zq zG (yaa ?_));by_cases hp2:14<r2
    · replace h:=h.1 hp2;exact zc hp2 (zs (zQ (ii 12) (yaa (yah rfl rfl ⟨_,rfl,(hS.sel []),h⟩))))
    · replace h:=h.2 hp2;exact zd hp2 (yaf (zs (zQ (ii 0) (yaa (yah rfl rfl ⟨_,rfl,(hS.sel []),h⟩)))))
  · replace h:=h.2 hp;exact zf hp (zs (zM (ii r) (zQ (ii r) (yaa (yah rfl rfl ⟨_,rfl,(hS.sel []),h⟩)))))
def yd4(x:List Int)(R:(List Int)→Prop):Prop :=
(∃ I2:Nat→(List Int)→Int→Prop,(∃ m0,I2 m0 ([]) 0)∧∀ m2 out e2,I2 m2 out e2 → 
((e2<(x.length:Int) →
((0≤e2∧e2<(x.length:Int)) ∧
(In64 (-(gi x e2.toNat)) ∧
(out.length+1≤1000000000 ∧
(In64 (e2+1) ∧
∃ m3,m3<m2∧I2 m3 (out++[-(gi x e2.toNat)]) (e2+1)))))) ∧
(¬(e2<(x.length:Int)) →
R out)))
theorem pok_r49_Turned{O:Nat→Prop}{w:World}{x Ax lx cx}{R:(List Int)→Prop}(h:yd4 x R)(hO:∀ k,O k→k<w.heap.size)(hA0:(FP.sl cI Ax lx cx x).P O w) :
    Calls Tryz.prog 35 #[(.slice Ax lx cx)] w fun e w'=>∃ r Ar lr cr,e = .returned (.slice Ar lr cr)∧Sep w no O w' (rl [Res.own cI 3 Ar lr cr r])∧R r:=by
  unfold yd4 at h;have hS:Sep w no O w (rl [Res.ro (FP.sl cI Ax lx cx x)]):=Sep.startl hO [(FP.sl cI Ax lx cx x)] ⟨hA0,trivial⟩;refine yal (l:=[(.slice Ax lx cx)]) func35 rfl ntmps35 zY (zs (zQ (.slice none 0 0) (yaa (zs (zQ (.slice none 0 0) (yaa (yac (zs (zQ (ii 0) (yaa (yad ?_)))))))))));replace hS:=hS.nil 1 rfl cI 3;obtain ⟨I2,⟨m0,h0⟩,hr⟩:=h;refine yax (fun m E ds w'=>∃ out e2 Aa Ab Ac,I2 m out e2∧ds=[]∧E 0=(Value.slice Ax lx cx)∧E 3=(Value.slice Aa Ab Ac)∧E 4=(ii e2)∧Sep w no O w' (rl [Res.own cI 3 Aa Ab Ac out,Res.ro (FP.sl cI Ax lx cx x)])) m0 ⟨_,_,_,_,_,h0,rfl,rfl,rfl,rfl,(hS.sel [1,0])⟩ ?_;clear h0 hS;rintro m2 E ds w2 ⟨out,e2,Aa,Ab,Ac,h,rfl,H0,H3,H4,hS⟩ ag;replace h:=hr m2 out e2 h;clear hr;refine yac (zs (zq (yab H4) (zq (yab H0) (zq (yaG (n:=x.length) rfl underlying35 (yaD (hS.rdr 1 rfl))) (zq zL (yaa ?_))))));by_cases hp:e2<(x.length:Int)
  · replace h:=h.1 hp;refine zc hp (yaf (yac (yad (zr (zq (yab H3) (zq (yab H0) (zq (yab H4) ?_)))))));obtain ⟨hx,h⟩:=h;refine zq (zi underlying35 yag (yaB (hS.rdr 1 rfl) hx)) (zq (yar (v:=(ii (gi x e2.toNat))) rfl underlying3 rfl (rd_1 (hS.rdr 1 rfl) hx (fun q=>yaF q) rfl)) ?_);obtain ⟨hi,h⟩:=h;refine zq (v_neg rfl hi) (zn (yaK (l:=[(0,(ii (-(gi x e2.toNat))))]) (cells:=[(ii (-(gi x e2.toNat)))]) (bp1 rfl) underlying35 yag rfl rfl ?_));intro g w3 hN;replace hS:=hS.litf (n:=1) 2 rfl (fI .i64) hN ([-(gi x e2.toNat)]:List Int) rfl (by decide) rfl;clear hN;refine zb ?_;obtain ⟨hx2,h⟩:=h;refine zn (yfv (c:=cI) rfl rfl underlying35 underlying35 yag rfl rfl (by decide) hS 0 rfl (hS.yo 2 rfl) hx2 ?_);clear hS;intro A c w4 hS;refine zb (zQ (.slice A (Ab+1) c) (yaa (yae (zr (zq (yab H4) ?_)))));obtain ⟨hi2,h⟩:=h;refine zq (zA hi2) (zQ (ii (e2+1)) (yaa ?_));obtain ⟨mq,hlt,h⟩:=h;exact ag mq _ _ _ ⟨_,_,_,_,_,h,rfl,H0,rfl,rfl,(hS.sel [0,1])⟩ hlt
  · replace h:=h.2 hp;exact zd hp (yas rfl (zs (zq (yab H3) (zQ (.slice Aa Ab Ac) (yaa (yah rfl rfl ⟨_,_,_,_,rfl,(hS.sel [0]),h⟩))))))
def yer(d:Int)(d2:List E3)(i:List Int)(R:(List Int)→Prop):Prop :=
yci d d2 (fun r =>
((0≤(r.length:Int)∧(r.length:Int)≤1000000) ∧
((0≤(0:Int)∧(0:Int)<(i.length:Int)) ∧
((0≤(gi i (0:Int).toNat)∧(gi i (0:Int).toNat)<(((List.replicate (r.length:Int).toNat (0:Int)).length:Nat):Int)) ∧
((0≤(gi i (0:Int).toNat)∧(gi i (0:Int).toNat)<(r.length:Int)) ∧
((0≤(1:Int)∧(1:Int)<2) ∧
(∃ I2:Nat→Int→Int→(List Int)→Prop,(∃ m0,I2 m0 ((gx r (gi i (0:Int).toNat).toNat).2) 1 ((List.replicate (r.length:Int).toNat (0:Int)).set (gi i (0:Int).toNat).toNat 1))∧∀ m2 v v2 v3,I2 m2 v v2 v3 → 
((v2<(i.length:Int) →
(∃ I3:Nat→Int→Int→Prop,(∃ m0,I3 m0 v 1)∧∀ m3 v4 v5,I3 m3 v4 v5 → 
((v5<(i.length:Int) →
((0≤v5∧v5<(i.length:Int)) ∧
((0≤(gi i v5.toNat)∧(gi i v5.toNat)<(r.length:Int)) ∧
(∃ J2:Prop,(J2→((0≤(0:Int)∧(0:Int)<2) ∧
((((gx r (gi i v5.toNat).toNat).1)=v4 →
((0≤(gi i v5.toNat)∧(gi i v5.toNat)<(v3.length:Int)) ∧
(In64 (v2+1) ∧
∃ m4,m4<m2∧I2 m4 ((gx r (gi i v5.toNat).toNat).2) (v2+1) (v3.set (gi i v5.toNat).toNat 1)))) ∧
(¬(((gx r (gi i v5.toNat).toNat).1)=v4) →
((0≤(gi i v5.toNat)∧(gi i v5.toNat)<(v3.length:Int)) ∧
(In64 (v2+1) ∧
∃ m5,m5<m2∧I2 m5 ((gx r (gi i v5.toNat).toNat).1) (v2+1) (v3.set (gi i v5.toNat).toNat (-1)))))))) ∧
((0≤(gi i v5.toNat)∧(gi i v5.toNat)<(v3.length:Int)) ∧
(((gi v3 (gi i v5.toNat).toNat)=0 →
((0≤(0:Int)∧(0:Int)<2) ∧
((((gx r (gi i v5.toNat).toNat).1)=v4 →
J2) ∧
(¬(((gx r (gi i v5.toNat).toNat).1)=v4) →
((((gx r (gi i v5.toNat).toNat).2)=v4 →
J2) ∧
(¬(((gx r (gi i v5.toNat).toNat).2)=v4) →
(In64 (v5+1) ∧
∃ m6,m6<m3∧I3 m6 v4 (v5+1)))))))) ∧
(¬((gi v3 (gi i v5.toNat).toNat)=0) →
(In64 (v5+1) ∧
∃ m7,m7<m3∧I3 m7 v4 (v5+1))))))))) ∧
(¬(v5<(i.length:Int)) →
(In64 (v2+1) ∧
∃ m8,m8<m2∧I2 m8 v4 (v2+1) v3))))) ∧
(¬(v2<(i.length:Int)) →
R v3)))))))))
theorem pok_r49_Along{O:Nat→Prop}{w:World}{d d2 i Ad ld cd Ai li ci}{R:(List Int)→Prop}(h:yer d d2 i R)(hO:∀ k,O k→k<w.heap.size)(hA0:(FP.sl c3 Ad ld cd d2).P O w)(hA1:(FP.sl cI Ai li ci i).P O w) :
    Calls Tryz.prog 82 #[(.agg #[(ii d),(.slice Ad ld cd)]),(.slice Ai li ci)] w fun e w'=>∃ r2 Ar2 lr2 cr2,e = .returned (.slice Ar2 lr2 cr2)∧Sep w no O w' (rl [Res.own cI 3 Ar2 lr2 cr2 r2])∧R r2:=by
  unfold yer at h;have hS:Sep w no O w (rl [Res.ro (FP.sl c3 Ad ld cd d2),Res.ro (FP.sl cI Ai li ci i)]):=Sep.startl hO [(FP.sl c3 Ad ld cd d2),(FP.sl cI Ai li ci i)] ⟨hA0,hA1,trivial⟩;refine yal (l:=[(.agg #[(ii d),(.slice Ad ld cd)]),(.slice Ai li ci)]) func82 rfl ntmps82 zY (zs (zn (ybm (v:=(.agg #[(ii d),(.slice Ad ld cd)])) rfl ?_)));intro g w2 hN;replace hS:Sep w no O w2 (stl _ 2 (Res.box 24 g [(ii d),(.slice Ad ld cd)])):=hS.new 2 rfl hN;clear hN;refine zb (zQ (.slice none 0 0) (yaa (zs (zq (yao (vs:=[(ii d),(.slice Ad ld cd)]) rfl underlying24 rfl yak ⟨Row.cell (hS.bx 2 rfl) (i:=0) rfl,Row.cell (hS.bx 2 rfl) (i:=1) rfl,trivial⟩) (zn (yai rfl (am1 rfl) yhJ ((yep h (yaz _) (hS.rdr 0 rfl)).mono ?_)))))));rintro _ w3 ⟨r,Ar,lr,cr,rfl,hC,h⟩;replace hS:=hS.call1 (hC.widen (ycv (yaP (fP (fI .i64) (fI .i64)) _ _ _ _ _) ycH) hS.blt) 3 0 rfl;clear hC;refine ⟨_,rfl,?_⟩;refine zb (zQ (.slice Ar lr cr) (yaa (zs (zM (.slice Ar lr cr) (zq (yaG (n:=r.length) rfl underlying62 (yaD (hS.rdo 3 rfl))) ?_)))));obtain ⟨hx,h⟩:=h;refine zn (yeX rfl rfl underlying35 yag (by decide) rfl hx ?_);intro g2 w4 hN;replace hS:=hS.made 4 rfl cI (ii 0) (0:Int) (fun _ _=>rfl) hN (by omega);clear hN;refine zb (zQ (.slice (some ⟨g2,0,none⟩) ((r.length:Int).toNat) ((r.length:Int).toNat)) (yaa (zs (zM (.slice (some ⟨g2,0,none⟩) ((r.length:Int).toNat) ((r.length:Int).toNat)) (zM (.slice Ai li ci) ?_)))));obtain ⟨hx2,h⟩:=h;refine zq (zi underlying35 yag (yaB (hS.rdr 1 rfl) hx2)) (zq (yar (v:=(ii (gi i (0:Int).toNat))) rfl underlying3 rfl (rd_1 (hS.rdr 1 rfl) hx2 (fun q=>yaF q) rfl)) ?_);obtain ⟨hx3,h⟩:=h;refine zq (zi underlying35 yag (yaB (hS.rdo 4 rfl) hx3)) (zo (zt (ii 1) yag (hS.wr 4 rfl rfl hx3) ?_));intro w5 e1;replace hS:=hS.st 4 rfl rfl hx3 (x:=1) rfl e1;clear e1;refine zb (yaa (zs (zM (.slice Ar lr cr) (zM (.slice Ai li ci) (zq (zi underlying35 yag (yaB (hS.rdr 1 rfl) hx2)) (zq (yar (v:=(ii (gi i (0:Int).toNat))) rfl underlying3 rfl (rd_1 (hS.rdr 1 rfl) hx2 (fun q=>yaF q) rfl)) ?_))))));obtain ⟨hx4,h⟩:=h;refine zq (zi underlying62 ybk (yaB (hS.rdo 3 rfl) hx4)) ?_;obtain ⟨hx5,h⟩:=h;refine zq (ybE rfl rfl underlying96 yag hx5) (zq (yar (v:=(ii ((gx r (gi i (0:Int).toNat).toNat).2))) rfl underlying3 rfl (rd_f (hS.rdo 3 rfl) hx4 (fun q=>ycO q) 1 rfl)) ?_);refine zQ (ii ((gx r (gi i (0:Int).toNat).toNat).2)) (yaa (yac (zs (zQ (ii 1) (yaa (yad ?_))))));obtain ⟨I2,⟨m0,h0⟩,hr⟩:=h;refine yax (fun m E ds w'=>∃ v v2 v3,I2 m v v2 v3∧ds=[]∧E 1=(Value.slice Ai li ci)∧E 5=(Value.slice Ar lr cr)∧E 6=(Value.slice (some ⟨g2,0,none⟩) ((r.length:Int).toNat) ((r.length:Int).toNat))∧E 7=(ii v)∧E 8=(ii v2)∧Sep w no O w' (rl [Res.ro (FP.sl cI Ai li ci i),Res.own c2 96 Ar lr cr r,Res.own cI 3 (some ⟨g2,0,none⟩) ((r.length:Int).toNat) ((r.length:Int).toNat) v3])) m0 ⟨_,_,_,h0,rfl,rfl,rfl,rfl,rfl,rfl,(hS.sel [1,3,4])⟩ ?_;clear h0 hS;rintro m2 E ds w6 ⟨v,v2,v3,h,rfl,H1,H5,H6,H7,H8,hS⟩ ag;replace h:=hr m2 v v2 v3 h;clear hr;refine yac (zs (zq (yab H8) (zq (yab H1) (zq (yaG (n:=i.length) rfl underlying35 (yaD (hS.rdr 0 rfl))) (zq zL (yaa ?_))))));by_cases hp:v2<(i.length:Int)
  · replace h:=h.1 hp;refine zc hp (yaf (yac (yad (zs (zQ (ii 1) (yaa (yad ?_)))))));obtain ⟨I3,⟨m0,h0⟩,hr⟩:=h;refine yax (fun m E ds w'=>∃ v4 v5,I3 m v4 v5∧ds=[]∧E 1=(Value.slice Ai li ci)∧E 5=(Value.slice Ar lr cr)∧E 6=(Value.slice (some ⟨g2,0,none⟩) ((r.length:Int).toNat) ((r.length:Int).toNat))∧E 7=(ii v4)∧E 8=(ii v2)∧E 9=(ii v5)∧Sep w no O w' (rl [Res.ro (FP.sl cI Ai li ci i),Res.own c2 96 Ar lr cr r,Res.own cI 3 (some ⟨g2,0,none⟩) ((r.length:Int).toNat) ((r.length:Int).toNat) v3])) m0 ⟨_,_,h0,rfl,H1,H5,H6,H7,H8,rfl,(hS.sel [0,1,2])⟩ ?_;clear h0 hS;rintro m3 E ds w7 ⟨v4,v5,h,rfl,H1,H5,H6,H7,H8,H9,hS⟩ again2;replace h:=hr m3 v4 v5 h;clear hr;refine yac (zs (zq (yab H9) (zq (yab H1) (zq (yaG (n:=i.length) rfl underlying35 (yaD (hS.rdr 0 rfl))) (zq zL (yaa ?_))))));by_cases hp2:v5<(i.length:Int)
    · replace h:=h.1 hp2;refine zc hp2 (yaf (yac (yad (zs (zq (yab H5) (zq (yab H1) (zq (yab H9) ?_)))))));obtain ⟨hx6,h⟩:=h;refine zq (zi underlying35 yag (yaB (hS.rdr 0 rfl) hx6)) (zq (yar (v:=(ii (gi i v5.toNat))) rfl underlying3 rfl (rd_1 (hS.rdr 0 rfl) hx6 (fun q=>yaF q) rfl)) ?_);obtain ⟨hx7,h⟩:=h;refine zq (zi underlying62 ybk (yaB (hS.rdo 1 rfl) hx7)) (zq (yao (vs:=[(ii ((gx r (gi i v5.toNat).toNat).1)),(ii ((gx r (gi i v5.toNat).toNat).2))]) rfl underlying96 rfl ybk (yhX (hS.rdo 1 rfl) hx7 (fun q=>ycO q))) ?_);refine zn (yaS ybk ?_);intro g3 w8 hN;replace hS:Sep w no O w8 (stl _ 3 (Res.box 96 g3 [(ii 0),(ii 0)])):=hS.new 3 rfl hN;clear hN;refine zb (zo (yaQ (b:=g3) (o:=0) (cells:=#[(ii ((gx r (gi i v5.toNat).toNat).1)),(ii ((gx r (gi i v5.toNat).toNat).2))]) rfl rfl ybk rfl rfl (yaL (hS.bx 3 rfl) zY) ?_));intro w9 e1;replace hS:=hS.bstn 3 rfl 0 [(ii ((gx r (gi i v5.toNat).toNat).1)),(ii ((gx r (gi i v5.toNat).toNat).2))] e1;clear e1;refine zb (yaa (yac (yac ?_)));obtain ⟨J2,hJ,h⟩:=h;refine ycA (fun E ds w'=>J2∧ds=[]∧E 1=(Value.slice Ai li ci)∧E 5=(Value.slice Ar lr cr)∧E 6=(Value.slice (some ⟨g2,0,none⟩) ((r.length:Int).toNat) ((r.length:Int).toNat))∧E 7=(ii v4)∧E 8=(ii v2)∧E 9=(ii v5)∧E 10=(Value.pointer (some ⟨g3,0,none⟩))∧Sep w no O w' (rl [Res.ro (FP.sl cI Ai li ci i),Res.own c2 96 Ar lr cr r,Res.own cI 3 (some ⟨g2,0,none⟩) ((r.length:Int).toNat) ((r.length:Int).toNat) v3,Res.box 96 g3 [(ii ((gx r (gi i v5.toNat).toNat).1)),(ii ((gx r (gi i v5.toNat).toNat).2))]])) ?_ ?_
      · clear h hS;rintro E ds w10 ⟨h,rfl,H1,H5,H6,H7,H8,H9,H10,hS⟩;replace h:=hJ h;refine yac (zs ?_);obtain ⟨hx8,h⟩:=h;refine zq (ybE H10 rfl underlying96 yag hx8) (zq (zl underlying3 (Row.cell (hS.bx 3 rfl) (i:=0) rfl)) (zq (yab H7) (zq zE (yaa ?_))));by_cases hp3:((gx r (gi i v5.toNat).toNat).1)=v4
        · replace h:=h.1 hp3;refine zc hp3 (ybq [0,1,2,3,4,5,6,7,8,9] (fun i=>match i with | 8=>[5,6] | _=>[]) yaC (by kernel_rfl) (by kernel_rfl) ?_);replace hS:=hS.drew;refine zp (yab (v:=(.slice (some ⟨g2,0,none⟩) ((r.length:Int).toNat) ((r.length:Int).toNat))) H6) (zp (yab H1) (zp (yab H9) (zp (zi underlying35 yag (yaB (hS.rdr 0 rfl) hx6)) (zp (yar (v:=(ii (gi i v5.toNat))) rfl underlying3 rfl (rd_1 (hS.rdr 0 rfl) hx6 (fun q=>yaF q) rfl)) ?_))));refine zp (ybE H10 rfl underlying96 yag hx5) (zp (zl underlying3 (Row.cell (hS.bx 3 rfl) (i:=1) rfl)) ?_);obtain ⟨hx9,h⟩:=h;refine zp (zi underlying35 yag (yaB (hS.rdo 2 rfl) hx9)) (rp_n0 rfl rfl rfl (zt (ii 1) yag (hS.wr 2 rfl rfl hx9) ?_));intro w11 e1;replace hS:=hS.st 2 rfl rfl hx9 (x:=1) rfl e1;clear e1;refine ⟨⟨fun hh=>zZ hh,⟨fun _=>(zl underlying3 (Row.cell (hS.bx 3 rfl) (i:=1) rfl)),⟨fun _=>(ybE H10 rfl underlying96 yag hx5),⟨fun hh=>zZ hh,⟨fun hh=>zZ hh,⟨fun hh=>zZ hh,⟨fun hh=>zZ hh,⟨fun hh=>zZ hh,trivial⟩⟩⟩⟩⟩⟩⟩⟩,?_⟩;refine zp (za (ii ((gx r (gi i v5.toNat).toNat).2))) (ybH (yas rfl (yae (zr (zq (yab H8) ?_)))));obtain ⟨hi,h⟩:=h;refine zq (zA hi) (zQ (ii (v2+1)) (yaa ?_));obtain ⟨mq,hlt,h⟩:=h;exact ag mq _ _ _ ⟨_,_,_,h,rfl,H1,H5,H6,rfl,rfl,(hS.sel [0,1,2])⟩ hlt
        · replace h:=h.2 hp3;refine zd hp3 (ybq [0,1,2,3,4,5,6,7,8,9] (fun i=>match i with | 8=>[5,6] | _=>[]) yaC (by kernel_rfl) (by kernel_rfl) ?_);replace hS:=hS.drew;refine zp (yab (v:=(.slice (some ⟨g2,0,none⟩) ((r.length:Int).toNat) ((r.length:Int).toNat))) H6) (zp (yab H1) (zp (yab H9) (zp (zi underlying35 yag (yaB (hS.rdr 0 rfl) hx6)) (zp (yar (v:=(ii (gi i v5.toNat))) rfl underlying3 rfl (rd_1 (hS.rdr 0 rfl) hx6 (fun q=>yaF q) rfl)) ?_))));refine zp (ybE H10 rfl underlying96 yag hx8) (zp (zl underlying3 (Row.cell (hS.bx 3 rfl) (i:=0) rfl)) ?_);obtain ⟨hx10,h⟩:=h;refine zp (zi underlying35 yag (yaB (hS.rdo 2 rfl) hx10)) (rp_n0 rfl rfl rfl (zt (ii (-1)) yag (hS.wr 2 rfl rfl hx10) ?_));intro w12 e1;replace hS:=hS.st 2 rfl rfl hx10 (x := -1) rfl e1;clear e1;refine ⟨⟨fun hh=>zZ hh,⟨fun _=>(zl underlying3 (Row.cell (hS.bx 3 rfl) (i:=0) rfl)),⟨fun _=>(ybE H10 rfl underlying96 yag hx8),⟨fun hh=>zZ hh,⟨fun hh=>zZ hh,⟨fun hh=>zZ hh,⟨fun hh=>zZ hh,⟨fun hh=>zZ hh,trivial⟩⟩⟩⟩⟩⟩⟩⟩,?_⟩;refine zp (za (ii ((gx r (gi i v5.toNat).toNat).1))) (ybH (yas rfl (yae (zr (zq (yab H8) ?_)))));obtain ⟨hi2,h⟩:=h;refine zq (zA hi2) (zQ (ii (v2+1)) (yaa ?_));obtain ⟨mq,hlt,h⟩:=h;exact ag mq _ _ _ ⟨_,_,_,h,rfl,H1,H5,H6,rfl,rfl,(hS.sel [0,1,2])⟩ hlt
      clear hJ;intro j;refine zr (zq (yab (v:=(.slice (some ⟨g2,0,none⟩) ((r.length:Int).toNat) ((r.length:Int).toNat))) H6) (zq (yab H1) (zq (yab H9) (zq (zi underlying35 yag (yaB (hS.rdr 0 rfl) hx6)) (zq (yar (v:=(ii (gi i v5.toNat))) rfl underlying3 rfl (rd_1 (hS.rdr 0 rfl) hx6 (fun q=>yaF q) rfl)) ?_)))));obtain ⟨hx11,h⟩:=h;refine zq (zi underlying35 yag (yaB (hS.rdo 2 rfl) hx11)) (zq (yar (v:=(ii (gi v3 (gi i v5.toNat).toNat))) rfl underlying3 rfl (rd_1 (hS.rdo 2 rfl) hx11 (fun q=>yaF q) rfl)) ?_);refine zq zN (zM (.bool (!(decide ((gi v3 (gi i v5.toNat).toNat)=0)))) ?_);by_cases hp4:(gi v3 (gi i v5.toNat).toNat)=0
      · replace h:=h.1 hp4;obtain ⟨hx12,h⟩:=h;refine zW rfl rfl (zC (zB (decide_eq_true hp4))) (ybE rfl rfl underlying96 yag hx12) (zW rfl rfl (zC (zB (decide_eq_true hp4))) (zl underlying3 (Row.cell (hS.bx 3 rfl) (i:=0) rfl)) (zW rfl rfl (zC (zB (decide_eq_true hp4))) (yab H7) (zW rfl rfl (zC (zB (decide_eq_true hp4))) zN (zW rfl rfl (zC (zB (decide_eq_true hp4))) (zm (.bool (!(decide (((gx r (gi i v5.toNat).toNat).1)=v4))))) ?_))));by_cases hp5:((gx r (gi i v5.toNat).toNat).1)=v4
        · replace h:=h.1 hp5;exact zV rfl rfl (zC (zB (decide_eq_true hp5))) (zV rfl rfl (zC (zB (decide_eq_true hp5))) (zV rfl rfl (zC (zB (decide_eq_true hp5))) (zV rfl rfl (zC (zB (decide_eq_true hp5))) (zW rfl rfl (zC (zB (decide_eq_true hp4))) (yaj (v:=(.bool (false))) (zC (zB (decide_eq_true hp5))) rfl) (zq (yaj (v:=(.bool (false))) (zC (zB (decide_eq_true hp4))) rfl) (yaa (yav rfl (yaf (j _ _ _ ⟨h,rfl,H1,H5,H6,H7,H8,H9,rfl,(hS.sel [0,1,2,3])⟩)))))))))
        · replace h:=h.2 hp5;refine zW rfl rfl (zC (zB (decide_eq_false hp5))) (ybE rfl rfl underlying96 yag hx5) (zW rfl rfl (zC (zB (decide_eq_false hp5))) (zl underlying3 (Row.cell (hS.bx 3 rfl) (i:=1) rfl)) (zW rfl rfl (zC (zB (decide_eq_false hp5))) (yab H7) (zW rfl rfl (zC (zB (decide_eq_false hp5))) zN (zW rfl rfl (zC (zB (decide_eq_true hp4))) (yan (v:=(.bool (!(decide (((gx r (gi i v5.toNat).toNat).2)=v4))))) (zC (zB (decide_eq_false hp5))) rfl) (zq (yaj (v:=(.bool (!(decide (((gx r (gi i v5.toNat).toNat).2)=v4))))) (zC (zB (decide_eq_true hp4))) rfl) (yaa ?_))))));by_cases hp6:((gx r (gi i v5.toNat).toNat).2)=v4
          · replace h:=h.1 hp6;exact ze hp6 (yaf (j _ _ _ ⟨h,rfl,H1,H5,H6,H7,H8,H9,rfl,(hS.sel [0,1,2,3])⟩))
          · replace h:=h.2 hp6;refine zf hp6 (yas rfl (zr (zq (yab H9) ?_)));obtain ⟨hi3,h⟩:=h;refine zq (zA hi3) (zQ (ii (v5+1)) (yaa ?_));obtain ⟨mq,hlt,h⟩:=h;exact again2 mq _ _ _ ⟨_,_,h,rfl,H1,H5,H6,H7,H8,rfl,(hS.sel [0,1,2])⟩ hlt
      · replace h:=h.2 hp4;refine zV rfl rfl (zC (zB (decide_eq_false hp4))) (zV rfl rfl (zC (zB (decide_eq_false hp4))) (zV rfl rfl (zC (zB (decide_eq_false hp4))) (zV rfl rfl (zC (zB (decide_eq_false hp4))) (zV rfl rfl (zC (zB (decide_eq_false hp4))) (zX (zX (zX (zX (zV rfl rfl (zC (zB (decide_eq_false hp4))) (zq (yan (v:=(.bool (true))) (zC (zB (decide_eq_false hp4))) rfl) (yaa (yaq rfl (yas rfl (zr (zq (yab H9) ?_)))))))))))))));obtain ⟨hi4,h⟩:=h;refine zq (zA hi4) (zQ (ii (v5+1)) (yaa ?_));obtain ⟨mq,hlt,h⟩:=h;exact again2 mq _ _ _ ⟨_,_,h,rfl,H1,H5,H6,H7,H8,rfl,(hS.sel [0,1,2])⟩ hlt
    · replace h:=h.2 hp2;refine zd hp2 (yas rfl (yae (zr (zq (yab H8) ?_))));obtain ⟨hi5,h⟩:=h;refine zq (zA hi5) (zQ (ii (v2+1)) (yaa ?_));obtain ⟨mq,hlt,h⟩:=h;exact ag mq _ _ _ ⟨_,_,_,h,rfl,H1,H5,H6,H7,rfl,(hS.sel [0,1,2])⟩ hlt
  · replace h:=h.2 hp;exact zd hp (yas rfl (zs (zq (yab (v:=(.slice (some ⟨g2,0,none⟩) ((r.length:Int).toNat) ((r.length:Int).toNat))) H6) (zQ (.slice (some ⟨g2,0,none⟩) ((r.length:Int).toNat) ((r.length:Int).toNat)) (yaa (yah rfl rfl ⟨_,_,_,_,rfl,(hS.sel [2]),h⟩))))))
def ycR(l:List (List Int))(R:(List (List Int))→Prop):Prop :=
(0+l.length≤1000000000 ∧
(∃ I2:Nat→Int→(List (List Int))→Prop,(∃ m0,I2 m0 0 ([]++l))∧∀ m2 i out,I2 m2 i out → 
((i<(out.length:Int) →
(In64 (i+1) ∧
(∃ I3:Nat→Int→(List (List Int))→Prop,(∃ m0,I3 m0 (i+1) out)∧∀ m3 k out2,I3 m3 k out2 → 
((k<(out2.length:Int) →
((0≤k∧k<(out2.length:Int)) ∧
((0≤i∧i<(out2.length:Int)) ∧
yd5 (gx out2 k.toNat) (gx out2 i.toNat) (fun r =>
((r=true →
((0≤k∧k<(((out2.set i.toNat (gx out2 k.toNat)).length:Nat):Int)) ∧
(In64 (k+1) ∧
∃ m4,m4<m3∧I3 m4 (k+1) ((out2.set i.toNat (gx out2 k.toNat)).set k.toNat (gx out2 i.toNat))))) ∧
(¬(r=true) →
(In64 (k+1) ∧
∃ m5,m5<m3∧I3 m5 (k+1) out2))))))) ∧
(¬(k<(out2.length:Int)) →
∃ m6,m6<m2∧I2 m6 (i+1) out2))))) ∧
(¬(i<(out.length:Int)) →
R out))))
theorem yfF{O:Nat→Prop}{w:World}{l Al ll cl}{R:(List (List Int))→Prop}(h:ycR l R)(hO:∀ k,O k→k<w.heap.size)(hA0:(FP.sl (cL cI) Al ll cl l).P O w) :
    Calls Tryz.prog 83 #[(.slice Al ll cl)] w fun e w'=>∃ r2 Ar lr cr,e = .returned (.slice Ar lr cr)∧Sep w no O w' (rl [Res.own (cL cI) 35 Ar lr cr r2])∧R r2:=by
  unfold ycR at h;have hS:Sep w no O w (rl [Res.ro (FP.sl (cL cI) Al ll cl l)]):=Sep.startl hO [(FP.sl (cL cI) Al ll cl l)] ⟨hA0,trivial⟩;refine yal (l:=[(.slice Al ll cl)]) func83 rfl ntmps83 zY (zs (zQ (.slice none 0 0) (yaa (zs (zn (yaK (l:=[]) (cells:=[]) (bp0) underlying27 yaJ rfl rfl ?_))))));intro g w2 hN;replace hS:=hS.lit (n:=0) (c:=(cL cI)) 1 rfl hN ([]:List (List Int)) rfl (by decide) rfl;clear hN;refine zb (zM (.slice Al ll cl) ?_);obtain ⟨hx,h⟩:=h;refine zn (yfv (c:=(cL cI)) rfl rfl underlying27 underlying27 yaJ rfl rfl (by decide) hS 1 rfl (hS.yr 0 rfl) hx ?_);clear hS;intro A c w3 hS;refine zb (zQ (.slice A (0+ll) c) (yaa (yac (zs (zQ (ii 0) (yaa (yad ?_)))))));obtain ⟨I2,⟨m0,h0⟩,hr⟩:=h;refine yax (fun m E ds w'=>∃ i out,I2 m i out∧ds=[]∧E 3=(Value.slice A (0+ll) c)∧E 4=(ii i)∧Sep w no O w' (rl [Res.own (cL cI) 35 A (0+ll) c out])) m0 ⟨_,_,h0,rfl,rfl,rfl,(hS.sel [1])⟩ ?_;clear h0 hS;rintro m2 E ds w4 ⟨i,out,h,rfl,H3,H4,hS⟩ ag;replace h:=hr m2 i out h;clear hr;refine yac (zs (zq (yab H4) (zq (yab H3) (zq (yaG (n:=out.length) rfl underlying27 (yaD (hS.rdo 0 rfl))) (zq zL (yaa ?_))))));by_cases hp:i<(out.length:Int)
  · replace h:=h.1 hp;refine zc hp (yaf (yac (yad (zs (zq (yab H4) ?_)))));obtain ⟨hi,h⟩:=h;refine zq (zA hi) (zQ (ii (i+1)) (yaa (yad ?_)));obtain ⟨I3,⟨m0,h0⟩,hr⟩:=h;refine yax (fun m E ds w'=>∃ k out2,I3 m k out2∧ds=[]∧E 3=(Value.slice A (0+ll) c)∧E 4=(ii i)∧E 5=(ii k)∧Sep w no O w' (rl [Res.own (cL cI) 35 A (0+ll) c out2])) m0 ⟨_,_,h0,rfl,H3,H4,rfl,(hS.sel [0])⟩ ?_;clear h0 hS;rintro m3 E ds w5 ⟨k,out2,h,rfl,H3,H4,H5,hS⟩ again2;replace h:=hr m3 k out2 h;clear hr;refine yac (zs (zq (yab H5) (zq (yab H3) (zq (yaG (n:=out2.length) rfl underlying27 (yaD (hS.rdo 0 rfl))) (zq zL (yaa ?_))))));by_cases hp2:k<(out2.length:Int)
    · replace h:=h.1 hp2;refine zc hp2 (yaf (yac (yad (yac (ybq [0,1,2,3,4,5,6,7,8] st0 yaC (by kernel_rfl) (by kernel_rfl) ?_)))));replace hS:=hS.drew;refine zp (yab H3) (zp (yab H5) ?_);obtain ⟨hx2,h⟩:=h;refine zp (zi underlying27 yaJ (yaB (hS.rdo 0 rfl) hx2)) ?_;obtain ⟨A2,l2,c4,hc,hq⟩:=hS.elo 0 rfl hx2 1 rfl;replace hS:=hq;clear hq;refine zp (yar (v:=(.slice A2 l2 c4)) rfl underlying35 rfl hc) (zp (yab H3) (zp (yab H4) ?_));obtain ⟨hx3,h⟩:=h;refine zp (zi underlying27 yaJ (yaB (hS.rdo 0 rfl) hx3)) ?_;obtain ⟨A3,l3,c5,hc2,hq⟩:=hS.elo 0 rfl hx3 2 rfl;replace hS:=hq;clear hq;refine zp (yar (v:=(.slice A3 l3 c5)) rfl underlying35 rfl hc2) (rp_n rfl rfl rfl rfl (yai rfl (am2 rfl rfl) enter_115 ((pok_r10_Before h (yaz _) (hS.rdr 1 rfl) (hS.rdr 2 rfl)).mono ?_)));rintro _ w6 ⟨r,rfl,hC,h⟩;replace hS:=hS.pur hC.pure;clear hC;refine ⟨_,rfl,?_⟩;refine zb (ybH ?_);by_cases hp3:r=true
      · replace h:=h.1 hp3;refine yaq (zC hp3) (ybq [0,1,2,3,4,5,6,7,8,9,10,11,12,13,14,15] (fun i=>match i with | 13=>[2,3] | _=>[]) yaC (by kernel_rfl) (by kernel_rfl) ?_);replace hS:=hS.drew;refine zp (yab H3) (zp (yab H4) (zp (yab H3) (zp (yab H5) (zp (yab H3) (zp (yab H5) (zp (zi underlying27 yaJ (yaB (hS.rdo 0 rfl) hx2)) ?_))))));obtain ⟨A4,l4,c6,hc3,hq⟩:=hS.elo 0 rfl hx2 3 rfl;replace hS:=hq;clear hq;refine zp (yar (v:=(.slice A4 l4 c6)) rfl underlying35 rfl hc3) (zp (yab H3) (zp (yab H4) (zp (zi underlying27 yaJ (yaB (hS.rdo 0 rfl) hx3)) ?_)));obtain ⟨A5,l5,c7,hc4,hq⟩:=hS.elo 0 rfl hx3 4 rfl;replace hS:=hq;clear hq;refine zp (yar (v:=(.slice A5 l5 c7)) rfl underlying35 rfl hc4) (zp (zi underlying27 yaJ (yaB (hS.rdo 0 rfl) hx3)) (rp_n0 rfl rfl rfl (zt (.slice A4 l4 c6) yaJ (hS.wr 0 rfl rfl hx3) ?_)));intro w7 e1;replace hS:=hS.st 0 rfl rfl hx3 (x:=(gx out2 k.toNat)) (ro_R (hS.ro 3 rfl)) e1;clear e1;refine ⟨⟨fun hh=>zZ hh,⟨fun hh=>zZ hh,⟨fun hh=>zZ hh,⟨fun hh=>zZ hh,⟨fun hh=>zZ hh,⟨fun hh=>zZ hh,⟨fun hh=>zZ hh,⟨fun hh=>zZ hh,⟨fun hh=>zZ hh,⟨fun _=>(yab H5),⟨fun _=>(yab H3),⟨fun hh=>zZ hh,⟨fun hh=>zZ hh,trivial⟩⟩⟩⟩⟩⟩⟩⟩⟩⟩⟩⟩⟩,?_⟩;obtain ⟨hx4,h⟩:=h;refine zp (zi underlying27 yaJ (yaB (hS.rdo 0 rfl) hx4)) (rp_n0 rfl rfl rfl (zt (.slice A5 l5 c7) yaJ (hS.wr 0 rfl rfl hx4) ?_));intro w8 e1;replace hS:=hS.st 0 rfl rfl hx4 (x:=(gx out2 i.toNat)) (ro_R (hS.ro 4 rfl)) e1;clear e1;refine zb (ybH (yae (zr (zq (yab H5) ?_))));obtain ⟨hi2,h⟩:=h;refine zq (zA hi2) (zQ (ii (k+1)) (yaa ?_));obtain ⟨mq,hlt,h⟩:=h;exact again2 mq _ _ _ ⟨_,_,h,rfl,H3,H4,rfl,(hS.sel [0])⟩ hlt
      · replace h:=h.2 hp3;refine yav (zC (zI hp3)) (yaf (yae (zr (zq (yab H5) ?_))));obtain ⟨hi3,h⟩:=h;refine zq (zA hi3) (zQ (ii (k+1)) (yaa ?_));obtain ⟨mq,hlt,h⟩:=h;exact again2 mq _ _ _ ⟨_,_,h,rfl,H3,H4,rfl,(hS.sel [0])⟩ hlt
    · replace h:=h.2 hp2;refine zd hp2 (yas rfl (yae (zr (zq (yab H4) (zq (zA hi) (zQ (ii (i+1)) (yaa ?_)))))));obtain ⟨mq,hlt,h⟩:=h;exact ag mq _ _ _ ⟨_,_,h,rfl,H3,rfl,(hS.sel [0])⟩ hlt
  · replace h:=h.2 hp;exact zd hp (yas rfl (zs (zq (yab H3) (zQ (.slice A (0+ll) c) (yaa (yah rfl rfl ⟨_,_,_,_,rfl,(hS.sel [0]),h⟩))))))
def ycW(g:Int)(g2:List E3)(R:(List (List Int))→Prop):Prop :=
ydV g g2 (fun r =>
(∃ I2:Nat→(List (List Int))→Int→Prop,(∃ m0,I2 m0 ([]) 0)∧∀ m2 out i,I2 m2 out i → 
((i<(r.length:Int) →
((0≤i∧i<(r.length:Int)) ∧
yer g g2 (gx r i.toNat) (fun r2 =>
yd4 r2 (fun r3 =>
(out.length+2≤1000000000 ∧
(In64 (i+1) ∧
∃ m3,m3<m2∧I2 m3 (out++[r2,r3]) (i+1))))))) ∧
(¬(i<(r.length:Int)) →
ycR out (fun r4 =>
R r4)))))
theorem yii{O:Nat→Prop}{w:World}{g g2 Ag lg cg}{R:(List (List Int))→Prop}(h:ycW g g2 R)(hO:∀ k,O k→k<w.heap.size)(hA0:(FP.sl c3 Ag lg cg g2).P O w) :
    Calls Tryz.prog 42 #[(.agg #[(ii g),(.slice Ag lg cg)])] w fun e w'=>∃ r5 Ar5 lr5 cr5,e = .returned (.slice Ar5 lr5 cr5)∧Sep w no O w' (rl [Res.own (cL cI) 35 Ar5 lr5 cr5 r5])∧R r5:=by
  unfold ycW at h;have hS:Sep w no O w (rl [Res.ro (FP.sl c3 Ag lg cg g2)]):=Sep.startl hO [(FP.sl c3 Ag lg cg g2)] ⟨hA0,trivial⟩;refine yal (l:=[(.agg #[(ii g),(.slice Ag lg cg)])]) func42 rfl ntmps42 zY (zs (zn (ybm (v:=(.agg #[(ii g),(.slice Ag lg cg)])) rfl ?_)));intro g3 w2 hN;replace hS:Sep w no O w2 (stl _ 1 (Res.box 24 g3 [(ii g),(.slice Ag lg cg)])):=hS.new 1 rfl hN;clear hN;refine zb (zQ (.slice none 0 0) (yaa (zs (zq (yao (vs:=[(ii g),(.slice Ag lg cg)]) rfl underlying24 rfl yak ⟨Row.cell (hS.bx 1 rfl) (i:=0) rfl,Row.cell (hS.bx 1 rfl) (i:=1) rfl,trivial⟩) (zn (yai rfl (am1 rfl) enter_81 ((pok_r10_Cycles h hS.blt (hS.ro 0 rfl)).mono ?_)))))));rintro _ w3 ⟨r,Ar,lr,cr,rfl,hC,h⟩;replace hS:=hS.call1 hC 2 0 rfl;clear hC;refine ⟨_,rfl,?_⟩;refine zb (zQ (.slice Ar lr cr) (yaa (zs (zQ (.slice none 0 0) (yaa (yac (zs (zQ (ii 0) (yaa (yad ?_))))))))));replace hS:=hS.nil 3 rfl (cL cI) 35;obtain ⟨I2,⟨m0,h0⟩,hr⟩:=h;refine yax (fun m E ds w'=>∃ out i Aa Ab Ac,I2 m out i∧ds=[]∧E 1=(Value.pointer (some ⟨g3,0,none⟩))∧E 3=(Value.slice Ar lr cr)∧E 4=(Value.slice Aa Ab Ac)∧E 5=(ii i)∧Sep w no O w' (rl [Res.own (cL cI) 35 Aa Ab Ac out,Res.box 24 g3 [(ii g),(.slice Ag lg cg)],Res.ro (FP.sl c3 Ag lg cg g2),Res.own (cL cI) 35 Ar lr cr r])) m0 ⟨_,_,_,_,_,h0,rfl,rfl,rfl,rfl,rfl,(hS.sel [3,1,0,2])⟩ ?_;clear h0 hS;rintro m2 E ds w4 ⟨out,i,Aa,Ab,Ac,h,rfl,H1,H3,H4,H5,hS⟩ ag;replace h:=hr m2 out i h;clear hr;refine yac (zs (zq (yab H5) (zq (yab H3) (zq (yaG (n:=r.length) rfl underlying27 (yaD (hS.rdo 3 rfl))) (zq zL (yaa ?_))))));by_cases hp:i<(r.length:Int)
  · replace h:=h.1 hp;refine zc hp (yaf (yac (yad (yac (ybq [0,1,2,3,4,5,6] st0 yaC (by kernel_rfl) (by kernel_rfl) ?_)))));replace hS:=hS.drew;refine zp (yao (vs:=[(ii g),(.slice Ag lg cg)]) H1 underlying24 rfl yak ⟨Row.cell (hS.bx 1 rfl) (i:=0) rfl,Row.cell (hS.bx 1 rfl) (i:=1) rfl,trivial⟩) (zp (yab H3) (zp (yab H5) ?_));obtain ⟨hx,h⟩:=h;refine zp (zi underlying27 yaJ (yaB (hS.rdo 3 rfl) hx)) ?_;obtain ⟨A,l,c,hc,hq⟩:=hS.elo 3 rfl hx 4 rfl;replace hS:=hq;clear hq;refine zp (yar (v:=(.slice A l c)) rfl underlying35 rfl hc) (rp_n rfl rfl rfl rfl (yai rfl (am2 rfl rfl) enter_82 ((pok_r49_Along h (yaz _) (hS.rdr 2 rfl) (hS.rdr 4 rfl)).mono ?_)));rintro _ w5 ⟨r2,Ar2,lr2,cr2,rfl,hC,h⟩;replace hS:=hS.call1 (hC.widen (ycv (yaP (fI .i64) _ _ _ _ _) ycH) hS.blt) 5 0 rfl;clear hC;refine ⟨_,rfl,?_⟩;refine zb (zp (za (.slice Ar2 lr2 cr2)) (ybH (zr (zq (yab H4) (zM (.slice Ar2 lr2 cr2) (zM (.slice Ar2 lr2 cr2) (zn (yai rfl (am1 rfl) enter_35 ((pok_r49_Turned h (yaz _) (hS.rdo 5 rfl)).mono ?_)))))))));rintro _ w6 ⟨r3,Ar3,lr3,cr3,rfl,hC,h⟩;replace hS:=hS.call1 (hC.widen (ycv (yaP (fI .i64) _ _ _ _ _) ycH) hS.blt) 6 0 rfl;clear hC;refine ⟨_,rfl,?_⟩;refine zb ?_;replace hS:=hS.frz 5 rfl;replace hS:=hS.frz 6 rfl;refine zn (yaK (l:=[(0,(.slice Ar2 lr2 cr2)),(1,(.slice Ar3 lr3 cr3))]) (cells:=[(.slice Ar2 lr2 cr2),(.slice Ar3 lr3 cr3)]) (bp2 rfl rfl) underlying27 yaJ rfl rfl ?_);intro g4 w7 hN;replace hS:=hS.lit (n:=2) (c:=(cL cI)) 7 rfl hN ([r2,r3]:List (List Int)) rfl (by decide) ⟨[(.slice Ar2 lr2 cr2)],_,rfl,(ro_R (hS.ro 5 rfl)),⟨[(.slice Ar3 lr3 cr3)],_,rfl,(ro_R (hS.ro 6 rfl)),rfl⟩⟩;clear hN;refine zb ?_;obtain ⟨hx2,h⟩:=h;refine zn (yfv (c:=(cL cI)) rfl rfl underlying27 underlying27 yaJ rfl rfl (by decide) hS 0 rfl (hS.yo 7 rfl) hx2 ?_);clear hS;intro A2 c4 w8 hS;refine zb (zQ (.slice A2 (Ab+2) c4) (yaa (yae (zr (zq (yab H5) ?_)))));obtain ⟨hi,h⟩:=h;refine zq (zA hi) (zQ (ii (i+1)) (yaa ?_));obtain ⟨mq,hlt,h⟩:=h;exact ag mq _ _ _ ⟨_,_,_,_,_,h,rfl,H1,H3,rfl,rfl,(hS.sel [0,1,2,3])⟩ hlt
  · replace h:=h.2 hp;refine zd hp (yas rfl (zs (zq (yab H4) ?_)));replace hS:=hS.frz 0 rfl;refine zn (yai rfl (am1 rfl) enter_83 ((yfF h hS.blt (hS.ro 0 rfl)).mono ?_));rintro _ w9 ⟨r4,Ar4,lr4,cr4,rfl,hC,h⟩;replace hS:=hS.call1 hC 4 0 rfl;clear hC;refine ⟨_,rfl,?_⟩;exact zb (zQ (.slice Ar4 lr4 cr4) (yaa (yah rfl rfl ⟨_,_,_,_,rfl,(hS.sel [4]),h⟩)))
def yiZ(m2:Int)(R:(List E3)→Prop):Prop :=
((m2=0 →
R ([])) ∧
(¬(m2=0) →
R ([(0,0,m2)])))
theorem pok_r49_loops{O:Nat→Prop}{w:World}{m2}{R:(List E3)→Prop}(h:yiZ m2 R)(hO:∀ k,O k→k<w.heap.size) :
    Calls Tryz.prog 102 #[(ii m2)] w fun e w'=>∃ r Ar lr cr,e = .returned (.slice Ar lr cr)∧Sep w no O w' (rl [Res.own c3 93 Ar lr cr r])∧R r:=by
  unfold yiZ at h;have hS:Sep w no O w (rl []):=Sep.start w hO;refine yal (l:=[(ii m2)]) func102 rfl ntmps102 zY (zs (zQ (.slice none 0 0) (yaa (yac (zs (zM (ii m2) (zq zE (yaa ?_))))))));by_cases hp:m2=0
  · replace h:=h.1 hp;refine zc hp (zs (zQ (.slice none 0 0) (yaa ?_)));replace hS:=hS.nil 0 rfl c3 93;exact yah rfl rfl ⟨_,_,_,_,rfl,(hS.sel [0]),h⟩
  · replace h:=h.2 hp;refine zd hp (yaf (zs (zM (ii m2) (zn (ycw (l:=[(2,(ii m2))]) (cells:=[(ii 0),(ii 0),(ii m2)]) (places:=[(0,1),(1,1),(2,1)]) (bp1 rfl) underlying93 yaT (by kernel_rfl) rfl ?_)))));refine zb (zn (yaK (l:=[(0,(.agg #[(ii 0),(ii 0),(ii m2)]))]) (cells:=[(ii 0),(ii 0),(ii m2)]) (bp1 rfl) underlying22 yaT rfl rfl ?_));intro g w2 hN;replace hS:=hS.litf (n:=1) 0 rfl (fP (fI .i64) (fP (fI .i64) (fI .i64))) hN ([(0,0,m2)]:List E3) rfl (by decide) rfl;clear hN;exact zb (zQ (.slice (some ⟨g,0,none⟩) 1 1) (yaa (yah rfl rfl ⟨_,_,_,_,rfl,(hS.sel [0]),h⟩)))
def yiV(g:Int)(g2:List E3)(x:List Int)(R:Int→Prop):Prop :=
yeq g g2 (fun r =>
((r=0 →
ycz g g2 (fun r2 =>
yiZ r2 (fun r3 =>
yiU 1 r3 x (fun r4 r5 =>
R r5)))) ∧
(¬(r=0) →
R r)))
theorem yi6{O:Nat→Prop}{w:World}{g g2 x Ag lg cg Ax lx cx}{R:Int→Prop}(h:yiV g g2 x R)(hO:∀ k,O k→k<w.heap.size)(hA0:(FP.sl c3 Ag lg cg g2).P O w)(hA1:(FP.sl cI Ax lx cx x).P O w) :
    Calls Tryz.prog 51 #[(.agg #[(ii g),(.slice Ag lg cg)]),(.slice Ax lx cx)] w fun e w'=>∃ r6,e = .returned (ii r6)∧Sep w no O w' (rl [])∧R r6:=by
  unfold yiV at h;have hS:Sep w no O w (rl [Res.ro (FP.sl c3 Ag lg cg g2),Res.ro (FP.sl cI Ax lx cx x)]):=Sep.startl hO [(FP.sl c3 Ag lg cg g2),(FP.sl cI Ax lx cx x)] ⟨hA0,hA1,trivial⟩;refine yal (l:=[(.agg #[(ii g),(.slice Ag lg cg)]),(.slice Ax lx cx)]) func51 rfl ntmps51 zY (zs (zn (ybm (v:=(.agg #[(ii g),(.slice Ag lg cg)])) rfl ?_)));intro g3 w2 hN;replace hS:Sep w no O w2 (stl _ 2 (Res.box 24 g3 [(ii g),(.slice Ag lg cg)])):=hS.new 2 rfl hN;clear hN;refine zb (zQ (ii 0) (yaa (yac (zs (zq (yao (vs:=[(ii g),(.slice Ag lg cg)]) rfl underlying24 rfl yak ⟨Row.cell (hS.bx 2 rfl) (i:=0) rfl,Row.cell (hS.bx 2 rfl) (i:=1) rfl,trivial⟩) (zn (yai rfl (am1 rfl) enter_41 ((pok_r49_given h (yaz _) (hS.rdr 0 rfl)).mono ?_))))))));rintro _ w3 ⟨r,rfl,hC,h⟩;replace hS:=hS.pur hC.pure;clear hC;refine ⟨_,rfl,?_⟩;refine zb (zQ (ii r) (yaa (zs (zM (ii r) (zq zN (yaa ?_))))));by_cases hp:r=0
  · replace h:=h.1 hp;refine ze hp (yaf (zs (zq (yao (vs:=[(ii g),(.slice Ag lg cg)]) rfl underlying24 rfl yak ⟨Row.cell (hS.bx 2 rfl) (i:=0) rfl,Row.cell (hS.bx 2 rfl) (i:=1) rfl,trivial⟩) (zn (yai rfl (am1 rfl) yhI ((yez h (yaz _) (hS.rdr 0 rfl)).mono ?_))))));rintro _ w4 ⟨r2,rfl,hC,h⟩;replace hS:=hS.pur hC.pure;clear hC;refine ⟨_,rfl,?_⟩;refine zb (zn (yai rfl (am1 rfl) enter_102 ((pok_r49_loops h (yaz _)).mono ?_)));rintro _ w5 ⟨r3,Ar,lr,cr,rfl,hC,h⟩;replace hS:=hS.call1 (hC.widen (ycv (yaP (fP (fI .i64) (fP (fI .i64) (fI .i64))) _ _ _ _ _) ycH) hS.blt) 3 0 rfl;clear hC;refine ⟨_,rfl,?_⟩;refine zb (zn (ycw (l:=[(0,(ii 1)),(1,(.slice Ar lr cr))]) (cells:=[(ii 1),(.slice Ar lr cr)]) (places:=[(0,1),(1,1)]) (bp2 rfl rfl) underlying24 yak (by kernel_rfl) rfl ?_));refine zb (zM (.slice Ax lx cx) (zn (yai rfl (am2 rfl rfl) enter_101 ((yjc h (yaz _) (hS.rdo 3 rfl) (hS.rdr 1 rfl)).mono ?_))));rintro _ w6 ⟨r4,r5,Ar2,lr2,cr2,rfl,hC,h⟩;replace hS:=hS.call1 (hC.widen (ycv (yaP (fI .i64) _ _ _ _ _) ycH) hS.blt) 4 0 rfl;clear hC;refine ⟨_,rfl,?_⟩;exact zb (zM (.tuple #[(.slice Ar2 lr2 cr2),(ii r5)]) (zq (zx (.slice Ar2 lr2 cr2)) (zq (zx (ii r5)) (zQ (.slice Ar2 lr2 cr2) (zQ (ii r5) (yaa (zs (zM (ii r5) (zQ (ii r5) (yaa (yah rfl rfl ⟨_,rfl,(hS.sel []),h⟩)))))))))))
  · replace h:=h.2 hp;exact zf hp (zs (zM (ii r) (zQ (ii r) (yaa (yah rfl rfl ⟨_,rfl,(hS.sel []),h⟩)))))
def yiT(l:List (List Int))(x:List Int)(k:Int)(R:Int→Prop):Prop :=
(∃ I2:Nat→Int→Prop,(∃ m0,I2 m0 0)∧∀ m2 i,I2 m2 i → 
((i<(l.length:Int) →
((0≤i∧i<(l.length:Int)) ∧
yi1 x (gx l i.toNat) (fun r =>
(In64 (2*r) ∧
yi1 (gx l i.toNat) (gx l i.toNat) (fun r2 =>
(In64 (k*r2) ∧
(((k*r2)<(2*r) →
R i) ∧
(¬((k*r2)<(2*r)) →
(In64 (i+1) ∧
∃ m3,m3<m2∧I2 m3 (i+1)))))))))) ∧
(¬(i<(l.length:Int)) →
R (-1))))
theorem yi4{O:Nat→Prop}{w:World}{l x k Al ll cl Ax lx cx}{R:Int→Prop}(h:yiT l x k R)(hO:∀ k,O k→k<w.heap.size)(hA0:(FP.sl (cL cI) Al ll cl l).P O w)(hA1:(FP.sl cI Ax lx cx x).P O w) :
    Calls Tryz.prog 54 #[(.slice Al ll cl),(.slice Ax lx cx),(ii k)] w fun e w'=>∃ r3,e = .returned (ii r3)∧Sep w no O w' (rl [])∧R r3:=by
  unfold yiT at h;have hS:Sep w no O w (rl [Res.ro (FP.sl (cL cI) Al ll cl l),Res.ro (FP.sl cI Ax lx cx x)]):=Sep.startl hO [(FP.sl (cL cI) Al ll cl l),(FP.sl cI Ax lx cx x)] ⟨hA0,hA1,trivial⟩;refine yal (l:=[(.slice Al ll cl),(.slice Ax lx cx),(ii k)]) func54 rfl ntmps54 zY (zs (zQ (ii 0) (yaa (yac (zs (zQ (ii 0) (yaa (yad ?_))))))));obtain ⟨I2,⟨m0,h0⟩,hr⟩:=h;refine yax (fun m E ds w'=>∃ i,I2 m i∧ds=[]∧E 0=(Value.slice Al ll cl)∧E 1=(Value.slice Ax lx cx)∧E 2=(ii k)∧E 7=(ii i)∧Sep w no O w' (rl [Res.ro (FP.sl (cL cI) Al ll cl l),Res.ro (FP.sl cI Ax lx cx x)])) m0 ⟨_,h0,rfl,rfl,rfl,rfl,rfl,(hS.sel [0,1])⟩ ?_;clear h0 hS;rintro m2 E ds w2 ⟨i,h,rfl,H0,H1,H2,H7,hS⟩ ag;replace h:=hr m2 i h;clear hr;refine yac (zs (zq (yab H7) (zq (yab H0) (zq (yaG (n:=l.length) rfl underlying27 (yaD (hS.rdr 0 rfl))) (zq zL (yaa ?_))))));by_cases hp:i<(l.length:Int)
  · replace h:=h.1 hp;refine zc hp (yaf (yac (yad (yac (ybq [0,1,2,3,4,7,8,9,10,11,12,13,14,15,5,6,16,17,18] (fun i=>match i with | 5=>[7,8,9,10,11,12,13,14,15] | 16=>[7,6] | _=>[]) yaC (by kernel_rfl) (by kernel_rfl) ?_)))));replace hS:=hS.drew;refine zp (yab H1) (zp (yab H0) (zp (yab H7) ?_));obtain ⟨hx,h⟩:=h;refine zp (zi underlying27 yaJ (yaB (hS.rdr 0 rfl) hx)) ?_;obtain ⟨A,l2,c,hc,hq⟩:=hS.el 0 rfl hx 2 3 rfl rfl (by decide);replace hS:=hq;clear hq;refine zp (yar (v:=(.slice A l2 c)) rfl underlying35 rfl (hS.clr 3 rfl)) (zp (yab H2) (zp (yab H0) (zp (yab H7) (zp (zi underlying27 yaJ (yaB (hS.rdr 0 rfl) hx)) ?_))));obtain ⟨A2,l3,c4,hc2,hq⟩:=hS.el 0 rfl hx 4 5 rfl rfl (by decide);replace hS:=hq;clear hq;refine zp (yar (v:=(.slice A2 l3 c4)) rfl underlying35 rfl (hS.clr 5 rfl)) (zp (yab H0) (zp (yab H7) (zp (zi underlying27 yaJ (yaB (hS.rdr 0 rfl) hx)) ?_)));obtain ⟨A3,l4,c5,hc3,hq⟩:=hS.el 0 rfl hx 6 7 rfl rfl (by decide);replace hS:=hq;clear hq;refine zp (yar (v:=(.slice A3 l4 c5)) rfl underlying35 rfl (hS.clr 7 rfl)) (rp_n rfl rfl rfl rfl (yai rfl (am2 rfl rfl) enter_27 ((yjk h (yaz _) (hS.rdr 1 rfl) (hS.rdr 2 rfl)).mono ?_)));rintro _ w3 ⟨r,rfl,hC,h⟩;replace hS:=hS.pur hC.pure;clear hC;refine ⟨_,rfl,?_⟩;refine ⟨⟨fun _=>(yar (v:=(Value.slice A3 l4 c5)) rfl underlying35 rfl (hS.clr 7 rfl)),⟨fun _=>(zi underlying27 yaJ (yaB (hS.rdr 0 rfl) hx)),⟨fun _=>(yab H7),⟨fun _=>(yab H0),⟨fun _=>(yar (v:=(Value.slice A2 l3 c4)) rfl underlying35 rfl (hS.clr 5 rfl)),⟨fun _=>(zi underlying27 yaJ (yaB (hS.rdr 0 rfl) hx)),⟨fun _=>(yab H7),⟨fun _=>(yab H0),⟨fun _=>(yab H2),⟨fun hh=>zZ hh,⟨fun hh=>zZ hh,⟨fun hh=>zZ hh,⟨fun hh=>zZ hh,⟨fun hh=>zZ hh,trivial⟩⟩⟩⟩⟩⟩⟩⟩⟩⟩⟩⟩⟩⟩,?_⟩;obtain ⟨hi,h⟩:=h;refine zp (v_mul rfl rfl hi) (rp_n rfl rfl rfl rfl (yai rfl (am2 rfl rfl) enter_27 ((yjk h (yaz _) (hS.rdr 4 rfl) (hS.rdr 6 rfl)).mono ?_)));rintro _ w4 ⟨r2,rfl,hC,h⟩;replace hS:=hS.pur hC.pure;clear hC;refine ⟨_,rfl,?_⟩;refine ⟨⟨fun _=>(v_mul rfl rfl hi),⟨fun hh=>zZ hh,⟨fun hh=>zZ hh,⟨fun hh=>zZ hh,⟨fun hh=>zZ hh,⟨fun hh=>zZ hh,⟨fun hh=>zZ hh,⟨fun hh=>zZ hh,⟨fun hh=>zZ hh,⟨fun _=>(yab H2),⟨fun hh=>zZ hh,⟨fun hh=>zZ hh,⟨fun hh=>zZ hh,⟨fun hh=>zZ hh,⟨fun hh=>zZ hh,trivial⟩⟩⟩⟩⟩⟩⟩⟩⟩⟩⟩⟩⟩⟩⟩,?_⟩;obtain ⟨hi2,h⟩:=h;refine zp (v_mul rfl rfl hi2) (zp zG (ybH ?_));by_cases hp2:(k*r2)<(2*r)
    · replace h:=h.1 hp2;exact zc hp2 (zs (zq (yab H7) (zQ (ii i) (yaa (yah rfl rfl ⟨_,rfl,(hS.sel []),h⟩)))))
    · replace h:=h.2 hp2;refine zd hp2 (yaf (yae (zr (zq (yab H7) ?_))));obtain ⟨hi3,h⟩:=h;refine zq (zA hi3) (zQ (ii (i+1)) (yaa ?_));obtain ⟨mq,hlt,h⟩:=h;exact ag mq _ _ _ ⟨_,h,rfl,H0,H1,H2,rfl,(hS.sel [0,1])⟩ hlt
  · replace h:=h.2 hp;exact zd hp (yas rfl (zs (zQ (ii (-1)) (yaa (yah rfl rfl ⟨_,rfl,(hS.sel []),h⟩)))))
def yiX(x:List Int)(y:List Int)(R:(List Int)→Prop):Prop :=
(∃ I2:Nat→(List Int)→Int→Prop,(∃ m0,I2 m0 ([]) 0)∧∀ m2 out e2,I2 m2 out e2 → 
((e2<(x.length:Int) →
((0≤e2∧e2<(x.length:Int)) ∧
((0≤e2∧e2<(y.length:Int)) ∧
(In64 ((gi x e2.toNat)-(gi y e2.toNat)) ∧
(out.length+1≤1000000000 ∧
(In64 (e2+1) ∧
∃ m3,m3<m2∧I2 m3 (out++[(gi x e2.toNat)-(gi y e2.toNat)]) (e2+1))))))) ∧
(¬(e2<(x.length:Int)) →
R out)))
theorem pok_r49_Less{O:Nat→Prop}{w:World}{x y Ax lx cx Ay ly cy}{R:(List Int)→Prop}(h:yiX x y R)(hO:∀ k,O k→k<w.heap.size)(hA0:(FP.sl cI Ax lx cx x).P O w)(hA1:(FP.sl cI Ay ly cy y).P O w) :
    Calls Tryz.prog 28 #[(.slice Ax lx cx),(.slice Ay ly cy)] w fun e w'=>∃ r Ar lr cr,e = .returned (.slice Ar lr cr)∧Sep w no O w' (rl [Res.own cI 3 Ar lr cr r])∧R r:=by
  unfold yiX at h;have hS:Sep w no O w (rl [Res.ro (FP.sl cI Ax lx cx x),Res.ro (FP.sl cI Ay ly cy y)]):=Sep.startl hO [(FP.sl cI Ax lx cx x),(FP.sl cI Ay ly cy y)] ⟨hA0,hA1,trivial⟩;refine yal (l:=[(.slice Ax lx cx),(.slice Ay ly cy)]) func28 rfl ntmps28 zY (zs (zQ (.slice none 0 0) (yaa (zs (zQ (.slice none 0 0) (yaa (yac (zs (zQ (ii 0) (yaa (yad ?_)))))))))));replace hS:=hS.nil 2 rfl cI 3;obtain ⟨I2,⟨m0,h0⟩,hr⟩:=h;refine yax (fun m E ds w'=>∃ out e2 Aa Ab Ac,I2 m out e2∧ds=[]∧E 0=(Value.slice Ax lx cx)∧E 1=(Value.slice Ay ly cy)∧E 5=(Value.slice Aa Ab Ac)∧E 6=(ii e2)∧Sep w no O w' (rl [Res.own cI 3 Aa Ab Ac out,Res.ro (FP.sl cI Ax lx cx x),Res.ro (FP.sl cI Ay ly cy y)])) m0 ⟨_,_,_,_,_,h0,rfl,rfl,rfl,rfl,rfl,(hS.sel [2,0,1])⟩ ?_;clear h0 hS;rintro m2 E ds w2 ⟨out,e2,Aa,Ab,Ac,h,rfl,H0,H1,H5,H6,hS⟩ ag;replace h:=hr m2 out e2 h;clear hr;refine yac (zs (zq (yab H6) (zq (yab H0) (zq (yaG (n:=x.length) rfl underlying35 (yaD (hS.rdr 1 rfl))) (zq zL (yaa ?_))))));by_cases hp:e2<(x.length:Int)
  · replace h:=h.1 hp;refine zc hp (yaf (yac (yad (ybq [0,1,2,3,4,5,6,7,8,9,10,11,12] (fun i=>match i with | 10=>[0] | _=>[]) yaC (by kernel_rfl) (by kernel_rfl) ?_))));replace hS:=hS.drew;refine zp (yab H5) (zp (yab H0) (zp (yab H6) ?_));obtain ⟨hx,h⟩:=h;refine zp (zi underlying35 yag (yaB (hS.rdr 1 rfl) hx)) (zp (yar (v:=(ii (gi x e2.toNat))) rfl underlying3 rfl (rd_1 (hS.rdr 1 rfl) hx (fun q=>yaF q) rfl)) ?_);refine zp (yab H1) (zp (yab H6) ?_);obtain ⟨hx2,h⟩:=h;refine zp (zi underlying35 yag (yaB (hS.rdr 2 rfl) hx2)) (zp (yar (v:=(ii (gi y e2.toNat))) rfl underlying3 rfl (rd_1 (hS.rdr 2 rfl) hx2 (fun q=>yaF q) rfl)) ?_);obtain ⟨hi,h⟩:=h;refine zp (zS hi) (rp_n rfl rfl rfl rfl (yaK (l:=[(0,(ii ((gi x e2.toNat)-(gi y e2.toNat))))]) (cells:=[(ii ((gi x e2.toNat)-(gi y e2.toNat)))]) (bp1 rfl) underlying35 yag rfl rfl ?_));intro g w3 hN;replace hS:=hS.litf (n:=1) 3 rfl (fI .i64) hN ([(gi x e2.toNat)-(gi y e2.toNat)]:List Int) rfl (by decide) rfl;clear hN;refine ⟨⟨fun hh=>zZ hh,⟨fun hh=>zZ hh,⟨fun hh=>zZ hh,⟨fun hh=>zZ hh,⟨fun hh=>zZ hh,⟨fun hh=>zZ hh,⟨fun hh=>zZ hh,⟨fun hh=>zZ hh,⟨fun hh=>zZ hh,⟨fun _=>(yab H5),trivial⟩⟩⟩⟩⟩⟩⟩⟩⟩⟩,?_⟩;obtain ⟨hx3,h⟩:=h;refine rp_n rfl rfl rfl rfl (yfv (c:=cI) rfl rfl underlying35 underlying35 yag rfl rfl (by decide) hS 0 rfl (hS.yo 3 rfl) hx3 ?_);clear hS;intro A c w4 hS;refine zb (zp (za (.slice A (Ab+1) c)) (ybH (yae (zr (zq (yab H6) ?_)))));obtain ⟨hi2,h⟩:=h;refine zq (zA hi2) (zQ (ii (e2+1)) (yaa ?_));obtain ⟨mq,hlt,h⟩:=h;exact ag mq _ _ _ ⟨_,_,_,_,_,h,rfl,H0,H1,rfl,rfl,(hS.sel [0,1,2])⟩ hlt
  · replace h:=h.2 hp;exact zd hp (yas rfl (zs (zq (yab H5) (zQ (.slice Aa Ab Ac) (yaa (yah rfl rfl ⟨_,_,_,_,rfl,(hS.sel [0]),h⟩))))))
def yi2(g:Int)(g2:List E3)(x:List Int)(R:(List Int)→Int→Prop):Prop :=
ycW g g2 (fun r =>
yiT r x 1 (fun r2 =>
(∃ I2:Nat→(List Int)→Int→Int→Prop,(∃ m0,I2 m0 x 0 r2)∧∀ m2 x2 n i,I2 m2 x2 n i → 
(∃ J2:Prop,(J2→((0≤i∧i<(r.length:Int)) ∧
yiX x2 (gx r i.toNat) (fun r3 =>
(In64 (n+1) ∧
yiT r r3 1 (fun r4 =>
∃ m3,m3<m2∧I2 m3 r3 (n+1) r4))))) ∧
((0≤i →
((n≤4096 →
J2) ∧
(¬(n≤4096) →
R x2 n))) ∧
(¬(0≤i) →
R x2 n))))))
theorem pok_r49_Sliced{O:Nat→Prop}{w:World}{g g2 x Ag lg cg Ax lx cx}{R:(List Int)→Int→Prop}(h:yi2 g g2 x R)(hO:∀ k,O k→k<w.heap.size)(hA0:(FP.sl c3 Ag lg cg g2).P O w)(hA1:(FP.sl cI Ax lx cx x).P O w) :
    Calls Tryz.prog 52 #[(.agg #[(ii g),(.slice Ag lg cg)]),(.slice Ax lx cx)] w fun e w'=>∃ r5 r6 Ar3 lr3 cr3,e = .returned (.tuple #[(.slice Ar3 lr3 cr3),(ii r6)])∧Sep w no O w' (rl [Res.ro (FP.sl cI Ar3 lr3 cr3 r5)])∧R r5 r6:=by
  unfold yi2 at h;have hS:Sep w no O w (rl [Res.ro (FP.sl c3 Ag lg cg g2),Res.ro (FP.sl cI Ax lx cx x)]):=Sep.startl hO [(FP.sl c3 Ag lg cg g2),(FP.sl cI Ax lx cx x)] ⟨hA0,hA1,trivial⟩;refine yal (l:=[(.agg #[(ii g),(.slice Ag lg cg)]),(.slice Ax lx cx)]) func52 rfl ntmps52 zY (zs (zn (ybm (v:=(.agg #[(ii g),(.slice Ag lg cg)])) rfl ?_)));intro g3 w2 hN;replace hS:Sep w no O w2 (stl _ 2 (Res.box 24 g3 [(ii g),(.slice Ag lg cg)])):=hS.new 2 rfl hN;clear hN;refine zb (zQ (.slice none 0 0) (zQ (ii 0) (yaa (zs (zq (yao (vs:=[(ii g),(.slice Ag lg cg)]) rfl underlying24 rfl yak ⟨Row.cell (hS.bx 2 rfl) (i:=0) rfl,Row.cell (hS.bx 2 rfl) (i:=1) rfl,trivial⟩) (zn (yai rfl (am1 rfl) enter_42 ((yii h hS.blt (hS.ro 0 rfl)).mono ?_))))))));rintro _ w3 ⟨r,Ar,lr,cr,rfl,hC,h⟩;replace hS:=hS.call1 hC 3 0 rfl;clear hC;refine ⟨_,rfl,?_⟩;refine zb (zQ (.slice Ar lr cr) (yaa (zs (zQ (ii 0) (yaa (yac (zs (zM (.slice Ar lr cr) (zM (.slice Ax lx cx) (zn (yai rfl (am3 rfl rfl rfl) enter_54 ((yi4 h (yaz _) (hS.rdo 3 rfl) (hS.rdr 1 rfl)).mono ?_))))))))))));rintro _ w4 ⟨r2,rfl,hC,h⟩;replace hS:=hS.pur hC.pure;clear hC;refine ⟨_,rfl,?_⟩;refine zb (zQ (ii r2) (yaa (yad ?_)));obtain ⟨I2,⟨m0,h0⟩,hr⟩:=h;refine yax (fun m E ds w'=>∃ x2 n i Ax2 lx2 cx2,I2 m x2 n i∧ds=[]∧E 1=(Value.slice Ax2 lx2 cx2)∧E 6=(Value.slice Ar lr cr)∧E 7=(ii n)∧E 8=(ii i)∧Sep w no O w' (rl [Res.ro (FP.sl cI Ax2 lx2 cx2 x2),Res.own (cL cI) 35 Ar lr cr r])) m0 ⟨_,_,_,_,_,_,h0,rfl,rfl,rfl,rfl,rfl,(hS.sel [1,3])⟩ ?_;clear h0 hS;rintro m2 E ds w5 ⟨x2,n,i,Ax2,lx2,cx2,h,rfl,H1,H6,H7,H8,hS⟩ ag;replace h:=hr m2 x2 n i h;clear hr;refine yac (yac ?_);obtain ⟨J2,hJ,h⟩:=h;refine ycA (fun E ds w'=>J2∧ds=[]∧E 1=(Value.slice Ax2 lx2 cx2)∧E 6=(Value.slice Ar lr cr)∧E 7=(ii n)∧E 8=(ii i)∧Sep w no O w' (rl [Res.ro (FP.sl cI Ax2 lx2 cx2 x2),Res.own (cL cI) 35 Ar lr cr r])) ?_ ?_
  · clear h hS;rintro E ds w6 ⟨h,rfl,H1,H6,H7,H8,hS⟩;replace h:=hJ h;refine yac (yad (zs (zq (yab H1) (zq (yab H6) (zq (yab H8) ?_)))));obtain ⟨hx,h⟩:=h;refine zq (zi underlying27 yaJ (yaB (hS.rdo 1 rfl) hx)) ?_;obtain ⟨A,l,c,hc,hq⟩:=hS.elo 1 rfl hx 2 rfl;replace hS:=hq;clear hq;refine zq (yar (v:=(.slice A l c)) rfl underlying35 rfl hc) (zn (yai rfl (am2 rfl rfl) enter_28 ((pok_r49_Less h (yaz _) (hS.rdr 0 rfl) (hS.rdr 2 rfl)).mono ?_)));rintro _ w7 ⟨r3,Ar2,lr2,cr2,rfl,hC,h⟩;replace hS:=hS.call1 (hC.widen (ycv (yaP (fI .i64) _ _ _ _ _) ycH) hS.blt) 3 0 rfl;clear hC;refine ⟨_,rfl,?_⟩;refine zb (zQ (.slice Ar2 lr2 cr2) (yaa (zr (zq (yab H7) ?_))));obtain ⟨hi,h⟩:=h;refine zq (zA hi) (zQ (ii (n+1)) (yaa (yae (zr (zq (yab H6) (zM (.slice Ar2 lr2 cr2) (zn (yai rfl (am3 rfl rfl rfl) enter_54 ((yi4 h (yaz _) (hS.rdo 1 rfl) (hS.rdo 3 rfl)).mono ?_)))))))));rintro _ w8 ⟨r4,rfl,hC,h⟩;replace hS:=hS.pur hC.pure;clear hC;refine ⟨_,rfl,?_⟩;refine zb (zQ (ii r4) (yaa ?_));replace hS:=hS.frz 3 rfl;obtain ⟨mq,hlt,h⟩:=h;exact ag mq _ _ _ ⟨_,_,_,_,_,_,h,rfl,rfl,H6,rfl,rfl,(hS.sel [3,1])⟩ hlt
  clear hJ;intro j;refine zr (zq (yab H8) (zq (yiq rfl rfl) (zM (.bool (decide (0≤i))) ?_)));by_cases hp:0≤i
  · replace h:=h.1 hp;refine zW rfl rfl (zT hp) (yab H7) (zW rfl rfl (zT hp) (v_leq rfl rfl) (zq (yan (v:=(.bool (decide (n≤4096)))) (zT hp) rfl) (yaa ?_)));by_cases hp2:n≤4096
    · replace h:=h.1 hp2;exact zc hp2 (yaf (j _ _ _ ⟨h,rfl,H1,H6,H7,H8,(hS.sel [0,1])⟩))
    · replace h:=h.2 hp2;exact zd hp2 (yas rfl (zs (zq (yab H1) (zq (yab H7) (zQ (.slice Ax2 lx2 cx2) (zQ (ii n) (yaa (ya7 rfl rfl rfl ⟨_,_,_,_,_,rfl,(hS.sel [0]),h⟩))))))))
  · replace h:=h.2 hp;exact zV rfl rfl (zF hp) (zV rfl rfl (zF hp) (zq (yaj (v:=(.bool (false))) (zF hp) rfl) (yaa (yav rfl (yas rfl (zs (zq (yab H1) (zq (yab H7) (zQ (.slice Ax2 lx2 cx2) (zQ (ii n) (yaa (ya7 rfl rfl rfl ⟨_,_,_,_,_,rfl,(hS.sel [0]),h⟩))))))))))))
def yi0(g:Int)(g2:List E3)(x:List Int)(R:(List Int)→Int→Int→Prop):Prop :=
yiV g g2 x (fun r =>
((r=0 →
yi2 g g2 x (fun r2 r3 =>
((4096<r3 →
R ([]) 0 12) ∧
(¬(4096<r3) →
R r2 r3 0)))) ∧
(¬(r=0) →
R ([]) 0 r)))
theorem pok_r49_Slice{O:Nat→Prop}{w:World}{g g2 x Ag lg cg Ax lx cx}{R:(List Int)→Int→Int→Prop}(h:yi0 g g2 x R)(hO:∀ k,O k→k<w.heap.size)(hA0:(FP.sl c3 Ag lg cg g2).P O w)(hA1:(FP.sl cI Ax lx cx x).P O w) :
    Calls Tryz.prog 16 #[(.agg #[(ii g),(.slice Ag lg cg)]),(.slice Ax lx cx)] w fun e w'=>∃ r4 r5 r6 Ar2 lr2 cr2,e = .returned (.tuple #[(.slice Ar2 lr2 cr2),(ii r5),(ii r6)])∧Sep w no O w' (rl [Res.ro (FP.sl cI Ar2 lr2 cr2 r4)])∧R r4 r5 r6:=by
  unfold yi0 at h;have hS:Sep w no O w (rl [Res.ro (FP.sl c3 Ag lg cg g2),Res.ro (FP.sl cI Ax lx cx x)]):=Sep.startl hO [(FP.sl c3 Ag lg cg g2),(FP.sl cI Ax lx cx x)] ⟨hA0,hA1,trivial⟩;refine yal (l:=[(.agg #[(ii g),(.slice Ag lg cg)]),(.slice Ax lx cx)]) func16 rfl ntmps16 zY (zs (zn (ybm (v:=(.agg #[(ii g),(.slice Ag lg cg)])) rfl ?_)));intro g3 w2 hN;replace hS:Sep w no O w2 (stl _ 2 (Res.box 24 g3 [(ii g),(.slice Ag lg cg)])):=hS.new 2 rfl hN;clear hN;refine zb (zQ (.slice none 0 0) (zQ (ii 0) (zQ (ii 0) (yaa (yac (zs (zq (yao (vs:=[(ii g),(.slice Ag lg cg)]) rfl underlying24 rfl yak ⟨Row.cell (hS.bx 2 rfl) (i:=0) rfl,Row.cell (hS.bx 2 rfl) (i:=1) rfl,trivial⟩) (zM (.slice Ax lx cx) (zn (yai rfl (am2 rfl rfl) enter_51 ((yi6 h (yaz _) (hS.rdr 0 rfl) (hS.rdr 1 rfl)).mono ?_)))))))))));rintro _ w3 ⟨r,rfl,hC,h⟩;replace hS:=hS.pur hC.pure;clear hC;refine ⟨_,rfl,?_⟩;refine zb (zQ (ii r) (yaa (zs (zM (ii r) (zq zN (yaa ?_))))));by_cases hp:r=0
  · replace h:=h.1 hp;refine ze hp (yaf (zs (zq (yao (vs:=[(ii g),(.slice Ag lg cg)]) rfl underlying24 rfl yak ⟨Row.cell (hS.bx 2 rfl) (i:=0) rfl,Row.cell (hS.bx 2 rfl) (i:=1) rfl,trivial⟩) (zM (.slice Ax lx cx) (zn (yai rfl (am2 rfl rfl) enter_52 ((pok_r49_Sliced h hS.blt (hS.ro 0 rfl) (hS.ro 1 rfl)).mono ?_)))))));rintro _ w4 ⟨r2,r3,Ar,lr,cr,rfl,hC,h⟩;replace hS:=hS.call1 hC 3 0 rfl;clear hC;refine ⟨_,rfl,?_⟩;refine zb (zM (.tuple #[(.slice Ar lr cr),(ii r3)]) (zq (zx (.slice Ar lr cr)) (zq (zx (ii r3)) (zQ (.slice Ar lr cr) (zQ (ii r3) (yaa (yac (zs (zM (ii r3) (zq zG (yaa ?_)))))))))));by_cases hp2:4096<r3
    · replace h:=h.1 hp2;refine zc hp2 (zs (zQ (.slice none 0 0) (zQ (ii 0) (zQ (ii 12) (yaa ?_)))));replace hS:=hS.addro 4 rfl _ (yeK cI _ _);exact yfh rfl rfl rfl rfl ⟨_,_,_,_,_,_,rfl,(hS.sel [4]),h⟩
    · replace h:=h.2 hp2;exact zd hp2 (yaf (zs (zM (.slice Ar lr cr) (zM (ii r3) (zQ (.slice Ar lr cr) (zQ (ii r3) (zQ (ii 0) (yaa (yfh rfl rfl rfl rfl ⟨_,_,_,_,_,_,rfl,(hS.sel [3]),h⟩)))))))))
  · replace h:=h.2 hp;refine zf hp (zs (zM (ii r) (zQ (.slice none 0 0) (zQ (ii 0) (zQ (ii r) (yaa ?_))))));replace hS:=hS.addro 3 rfl _ (yeK cI _ _);exact yfh rfl rfl rfl rfl ⟨_,_,_,_,_,_,rfl,(hS.sel [3]),h⟩
def yiW(g:Int)(g2:List E3)(x:List Int)(k:Int)(R:Bool→Int→Prop):Prop :=
yiV g g2 x (fun r =>
((r=0 →
(∃ J2:Prop,(J2→ycW g g2 (fun r2 =>
yiT r2 x k (fun r3 =>
R (decide (r3<0)) 0))) ∧
((k<1 →
R false 2) ∧
(¬(k<1) →
((1048576<k →
R false 2) ∧
(¬(1048576<k) →
J2)))))) ∧
(¬(r=0) →
R false r)))
theorem pok_r49_Inside{O:Nat→Prop}{w:World}{g g2 x k Ag lg cg Ax lx cx}{R:Bool→Int→Prop}(h:yiW g g2 x k R)(hO:∀ k,O k→k<w.heap.size)(hA0:(FP.sl c3 Ag lg cg g2).P O w)(hA1:(FP.sl cI Ax lx cx x).P O w) :
    Calls Tryz.prog 18 #[(.agg #[(ii g),(.slice Ag lg cg)]),(.slice Ax lx cx),(ii k)] w fun e w'=>∃ r4 r5,e = .returned (.tuple #[(.bool (r4)),(ii r5)])∧Sep w no O w' (rl [])∧R r4 r5:=by
  unfold yiW at h;have hS:Sep w no O w (rl [Res.ro (FP.sl c3 Ag lg cg g2),Res.ro (FP.sl cI Ax lx cx x)]):=Sep.startl hO [(FP.sl c3 Ag lg cg g2),(FP.sl cI Ax lx cx x)] ⟨hA0,hA1,trivial⟩;refine yal (l:=[(.agg #[(ii g),(.slice Ag lg cg)]),(.slice Ax lx cx),(ii k)]) func18 rfl ntmps18 zY (zs (zn (ybm (v:=(.agg #[(ii g),(.slice Ag lg cg)])) rfl ?_)));intro g3 w2 hN;replace hS:Sep w no O w2 (stl _ 2 (Res.box 24 g3 [(ii g),(.slice Ag lg cg)])):=hS.new 2 rfl hN;clear hN;refine zb (zQ (.bool (false)) (zQ (ii 0) (yaa (yac (zs (zq (yao (vs:=[(ii g),(.slice Ag lg cg)]) rfl underlying24 rfl yak ⟨Row.cell (hS.bx 2 rfl) (i:=0) rfl,Row.cell (hS.bx 2 rfl) (i:=1) rfl,trivial⟩) (zM (.slice Ax lx cx) (zn (yai rfl (am2 rfl rfl) enter_51 ((yi6 h (yaz _) (hS.rdr 0 rfl) (hS.rdr 1 rfl)).mono ?_))))))))));rintro _ w3 ⟨r,rfl,hC,h⟩;replace hS:=hS.pur hC.pure;clear hC;refine ⟨_,rfl,?_⟩;refine zb (zQ (ii r) (yaa (zs (zM (ii r) (zq zN (yaa ?_))))));by_cases hp:r=0
  · replace h:=h.1 hp;refine ze hp (yaf (yac (yac ?_)));obtain ⟨J2,hJ,h⟩:=h;refine ycA (fun E ds w'=>J2∧ds=[]∧E 1=(Value.slice Ax lx cx)∧E 2=(ii k)∧E 3=(Value.pointer (some ⟨g3,0,none⟩))∧Sep w no O w' (rl [Res.ro (FP.sl cI Ax lx cx x),Res.box 24 g3 [(ii g),(.slice Ag lg cg)],Res.ro (FP.sl c3 Ag lg cg g2)])) ?_ ?_
    · clear h hS;rintro E ds w4 ⟨h,rfl,H1,H2,H3,hS⟩;replace h:=hJ h;refine zs (zq (yao (vs:=[(ii g),(.slice Ag lg cg)]) H3 underlying24 rfl yak ⟨Row.cell (hS.bx 1 rfl) (i:=0) rfl,Row.cell (hS.bx 1 rfl) (i:=1) rfl,trivial⟩) (zn (yai rfl (am1 rfl) enter_42 ((yii h hS.blt (hS.ro 2 rfl)).mono ?_))));rintro _ w5 ⟨r2,Ar,lr,cr,rfl,hC,h⟩;replace hS:=hS.call1 hC 3 0 rfl;clear hC;refine ⟨_,rfl,?_⟩;refine zb (zq (yab H1) (zq (yab H2) (zn (yai rfl (am3 rfl rfl rfl) enter_54 ((yi4 h (yaz _) (hS.rdo 3 rfl) (hS.rdr 0 rfl)).mono ?_)))));rintro _ w6 ⟨r3,rfl,hC,h⟩;replace hS:=hS.pur hC.pure;clear hC;refine ⟨_,rfl,?_⟩;exact zb (zq zL (zQ (.bool (decide (r3<0))) (zQ (ii 0) (yaa (ya7 rfl rfl rfl ⟨_,_,rfl,(hS.sel []),h⟩)))))
    clear hJ;intro j;refine zr (zM (ii k) (zq zL (zM (.bool (decide (k<1))) ?_)));by_cases hp2:k<1
    · replace h:=h.1 hp2;exact zV rfl rfl (zT hp2) (zV rfl rfl (zT hp2) (zq (yan (v:=(.bool (true))) (zT hp2) rfl) (yaa (yaq rfl (zs (zQ (.bool (false)) (zQ (ii 2) (yaa (ya7 rfl rfl rfl ⟨_,_,rfl,(hS.sel []),h⟩)))))))))
    · replace h:=h.2 hp2;refine zW rfl rfl (zF hp2) (zm (ii k)) (zW rfl rfl (zF hp2) zG (zq (yaj (v:=(.bool (decide (1048576<k)))) (zF hp2) rfl) (yaa ?_)));by_cases hp3:1048576<k
      · replace h:=h.1 hp3;exact zc hp3 (zs (zQ (.bool (false)) (zQ (ii 2) (yaa (ya7 rfl rfl rfl ⟨_,_,rfl,(hS.sel []),h⟩)))))
      · replace h:=h.2 hp3;exact zd hp3 (yaf (j _ _ _ ⟨h,rfl,rfl,rfl,rfl,(hS.sel [1,2,0])⟩))
  · replace h:=h.2 hp;exact zf hp (zs (zM (ii r) (zQ (.bool (false)) (zQ (ii r) (yaa (ya7 rfl rfl rfl ⟨_,_,rfl,(hS.sel []),h⟩))))))
def yf4(g:Int)(g2:List E3)(x:List Int)(R:Bool→Prop):Prop :=
(∃ J2:Prop,(J2→(∃ I2:Nat→Int→Prop,(∃ m0,I2 m0 0)∧∀ m2 e2,I2 m2 e2 → 
((e2<(x.length:Int) →
((0≤e2∧e2<(x.length:Int)) ∧
((400<(gi x e2.toNat) →
(((gi x e2.toNat)≤1048576 →
(((-1048576)≤(gi x e2.toNat) →
R false) ∧
(¬((-1048576)≤(gi x e2.toNat)) →
(In64 (e2+1) ∧
∃ m3,m3<m2∧I2 m3 (e2+1))))) ∧
(¬((gi x e2.toNat)≤1048576) →
(In64 (e2+1) ∧
∃ m4,m4<m2∧I2 m4 (e2+1))))) ∧
(¬(400<(gi x e2.toNat)) →
(((gi x e2.toNat)<(-400) →
(((gi x e2.toNat)≤1048576 →
(((-1048576)≤(gi x e2.toNat) →
R false) ∧
(¬((-1048576)≤(gi x e2.toNat)) →
(In64 (e2+1) ∧
∃ m5,m5<m2∧I2 m5 (e2+1))))) ∧
(¬((gi x e2.toNat)≤1048576) →
(In64 (e2+1) ∧
∃ m6,m6<m2∧I2 m6 (e2+1))))) ∧
(¬((gi x e2.toNat)<(-400)) →
(In64 (e2+1) ∧
∃ m7,m7<m2∧I2 m7 (e2+1)))))))) ∧
(¬(e2<(x.length:Int)) →
R true)))) ∧
ydh g g2 (fun r =>
((r=true →
((60<(x.length:Int) →
R false) ∧
(¬(60<(x.length:Int)) →
J2))) ∧
(¬(r=true) →
ybV g g2 (fun r2 =>
((r2=0 →
(((g2.length:Int)<20 →
ycz g g2 (fun r3 =>
((14<r3 →
((60<(x.length:Int) →
R false) ∧
(¬(60<(x.length:Int)) →
J2))) ∧
(¬(14<r3) →
R false)))) ∧
(¬((g2.length:Int)<20) →
R false))) ∧
(¬(r2=0) →
R false)))))))
theorem pok_r49_Few{O:Nat→Prop}{w:World}{g g2 x Ag lg cg Ax lx cx}{R:Bool→Prop}(h:yf4 g g2 x R)(hO:∀ k,O k→k<w.heap.size)(hA0:(FP.sl c3 Ag lg cg g2).P O w)(hA1:(FP.sl cI Ax lx cx x).P O w) :
    Calls Tryz.prog 8 #[(.agg #[(ii g),(.slice Ag lg cg)]),(.slice Ax lx cx)] w fun e w'=>∃ r4,e = .returned (.bool (r4))∧Sep w no O w' (rl [])∧R r4:=by
  unfold yf4 at h;have hS:Sep w no O w (rl [Res.ro (FP.sl c3 Ag lg cg g2),Res.ro (FP.sl cI Ax lx cx x)]):=Sep.startl hO [(FP.sl c3 Ag lg cg g2),(FP.sl cI Ax lx cx x)] ⟨hA0,hA1,trivial⟩;refine yal (l:=[(.agg #[(ii g),(.slice Ag lg cg)]),(.slice Ax lx cx)]) func8 rfl ntmps8 zY (zs (zn (ybm (v:=(.agg #[(ii g),(.slice Ag lg cg)])) rfl ?_)));intro g3 w2 hN;replace hS:Sep w no O w2 (stl _ 2 (Res.box 24 g3 [(ii g),(.slice Ag lg cg)])):=hS.new 2 rfl hN;clear hN;refine zb (zQ (.bool (false)) (yaa (yac (yac ?_))));obtain ⟨J2,hJ,h⟩:=h;refine ycA (fun E ds w'=>J2∧ds=[]∧E 1=(Value.slice Ax lx cx)∧Sep w no O w' (rl [Res.ro (FP.sl cI Ax lx cx x)])) ?_ ?_
  · clear h hS;rintro E ds w3 ⟨h,rfl,H1,hS⟩;replace h:=hJ h;refine yac (zs (zQ (ii 0) (yaa (yad ?_))));obtain ⟨I2,⟨m0,h0⟩,hr⟩:=h;refine yax (fun m E ds w'=>∃ e2,I2 m e2∧ds=[]∧E 1=(Value.slice Ax lx cx)∧E 5=(ii e2)∧Sep w no O w' (rl [Res.ro (FP.sl cI Ax lx cx x)])) m0 ⟨_,h0,rfl,H1,rfl,(hS.sel [0])⟩ ?_;clear h0 hS;rintro m2 E ds w4 ⟨e2,h,rfl,H1,H5,hS⟩ ag;replace h:=hr m2 e2 h;clear hr;refine yac (zs (zq (yab H5) (zq (yab H1) (zq (yaG (n:=x.length) rfl underlying35 (yaD (hS.rdr 0 rfl))) (zq zL (yaa ?_))))));by_cases hp:e2<(x.length:Int)
    · replace h:=h.1 hp;refine zc hp (yaf (yac (yad (zs (zq (yab H1) (zq (yab H5) ?_))))));obtain ⟨hx,h⟩:=h;refine zq (zi underlying35 yag (yaB (hS.rdr 0 rfl) hx)) (zq (yar (v:=(ii (gi x e2.toNat))) rfl underlying3 rfl (rd_1 (hS.rdr 0 rfl) hx (fun q=>yaF q) rfl)) ?_);refine zq zG (zM (.bool (decide (400<(gi x e2.toNat)))) ?_);by_cases hp2:400<(gi x e2.toNat)
      · replace h:=h.1 hp2;refine zV rfl rfl (zT hp2) (zV rfl rfl (zT hp2) (zV rfl rfl (zT hp2) (zV rfl rfl (zT hp2) (zV rfl rfl (zT hp2) (zq (yan (v:=(.bool (true))) (zT hp2) rfl) (zM (.bool (true)) (zW rfl rfl rfl (yab H1) (zW rfl rfl rfl (yab H5) (zW rfl rfl rfl (zi underlying35 yag (yaB (hS.rdr 0 rfl) hx)) (zW rfl rfl rfl (yar (v:=(ii (gi x e2.toNat))) rfl underlying3 rfl (rd_1 (hS.rdr 0 rfl) hx (fun q=>yaF q) rfl)) ?_))))))))));refine zW rfl rfl rfl (v_leq rfl rfl) (zq (yan (v:=(.bool (decide ((gi x e2.toNat)≤1048576)))) rfl rfl) (zM (.bool (decide ((gi x e2.toNat)≤1048576))) ?_));by_cases hp3:(gi x e2.toNat)≤1048576
        · replace h:=h.1 hp3;refine zW rfl rfl (zT hp3) (yab H1) (zW rfl rfl (zT hp3) (yab H5) (zW rfl rfl (zT hp3) (zi underlying35 yag (yaB (hS.rdr 0 rfl) hx)) (zW rfl rfl (zT hp3) (yar (v:=(ii (gi x e2.toNat))) rfl underlying3 rfl (rd_1 (hS.rdr 0 rfl) hx (fun q=>yaF q) rfl)) ?_)));refine zW rfl rfl (zT hp3) (yiq rfl rfl) (zq (yan (v:=(.bool (decide ((-1048576)≤(gi x e2.toNat))))) (zT hp3) rfl) (yaa ?_));by_cases hp4:(-1048576)≤(gi x e2.toNat)
          · replace h:=h.1 hp4;exact zc hp4 (zs (zQ (.bool (false)) (yaa (yah rfl rfl ⟨_,rfl,(hS.sel []),h⟩))))
          · replace h:=h.2 hp4;refine zd hp4 (yaf (yae (zr (zq (yab H5) ?_))));obtain ⟨hi,h⟩:=h;refine zq (zA hi) (zQ (ii (e2+1)) (yaa ?_));obtain ⟨mq,hlt,h⟩:=h;exact ag mq _ _ _ ⟨_,h,rfl,H1,rfl,(hS.sel [0])⟩ hlt
        · replace h:=h.2 hp3;refine zV rfl rfl (zF hp3) (zV rfl rfl (zF hp3) (zV rfl rfl (zF hp3) (zV rfl rfl (zF hp3) (zV rfl rfl (zF hp3) (zq (yaj (v:=(.bool (false))) (zF hp3) rfl) (yaa (yav rfl (yaf (yae (zr (zq (yab H5) ?_)))))))))));obtain ⟨hi2,h⟩:=h;refine zq (zA hi2) (zQ (ii (e2+1)) (yaa ?_));obtain ⟨mq,hlt,h⟩:=h;exact ag mq _ _ _ ⟨_,h,rfl,H1,rfl,(hS.sel [0])⟩ hlt
      · replace h:=h.2 hp2;refine zW rfl rfl (zF hp2) (yab H1) (zW rfl rfl (zF hp2) (yab H5) (zW rfl rfl (zF hp2) (zi underlying35 yag (yaB (hS.rdr 0 rfl) hx)) (zW rfl rfl (zF hp2) (yar (v:=(ii (gi x e2.toNat))) rfl underlying3 rfl (rd_1 (hS.rdr 0 rfl) hx (fun q=>yaF q) rfl)) ?_)));refine zW rfl rfl (zF hp2) zL (zq (yaj (v:=(.bool (decide ((gi x e2.toNat)<(-400))))) (zF hp2) rfl) (zM (.bool (decide ((gi x e2.toNat)<(-400)))) ?_));by_cases hp5:(gi x e2.toNat)<(-400)
        · replace h:=h.1 hp5;refine zW rfl rfl (zT hp5) (yab H1) (zW rfl rfl (zT hp5) (yab H5) (zW rfl rfl (zT hp5) (zi underlying35 yag (yaB (hS.rdr 0 rfl) hx)) (zW rfl rfl (zT hp5) (yar (v:=(ii (gi x e2.toNat))) rfl underlying3 rfl (rd_1 (hS.rdr 0 rfl) hx (fun q=>yaF q) rfl)) ?_)));refine zW rfl rfl (zT hp5) (v_leq rfl rfl) (zq (yan (v:=(.bool (decide ((gi x e2.toNat)≤1048576)))) (zT hp5) rfl) (zM (.bool (decide ((gi x e2.toNat)≤1048576))) ?_));by_cases hp6:(gi x e2.toNat)≤1048576
          · replace h:=h.1 hp6;refine zW rfl rfl (zT hp6) (yab H1) (zW rfl rfl (zT hp6) (yab H5) (zW rfl rfl (zT hp6) (zi underlying35 yag (yaB (hS.rdr 0 rfl) hx)) (zW rfl rfl (zT hp6) (yar (v:=(ii (gi x e2.toNat))) rfl underlying3 rfl (rd_1 (hS.rdr 0 rfl) hx (fun q=>yaF q) rfl)) ?_)));refine zW rfl rfl (zT hp6) (yiq rfl rfl) (zq (yan (v:=(.bool (decide ((-1048576)≤(gi x e2.toNat))))) (zT hp6) rfl) (yaa ?_));by_cases hp7:(-1048576)≤(gi x e2.toNat)
            · replace h:=h.1 hp7;exact zc hp7 (zs (zQ (.bool (false)) (yaa (yah rfl rfl ⟨_,rfl,(hS.sel []),h⟩))))
            · replace h:=h.2 hp7;refine zd hp7 (yaf (yae (zr (zq (yab H5) ?_))));obtain ⟨hi3,h⟩:=h;refine zq (zA hi3) (zQ (ii (e2+1)) (yaa ?_));obtain ⟨mq,hlt,h⟩:=h;exact ag mq _ _ _ ⟨_,h,rfl,H1,rfl,(hS.sel [0])⟩ hlt
          · replace h:=h.2 hp6;refine zV rfl rfl (zF hp6) (zV rfl rfl (zF hp6) (zV rfl rfl (zF hp6) (zV rfl rfl (zF hp6) (zV rfl rfl (zF hp6) (zq (yaj (v:=(.bool (false))) (zF hp6) rfl) (yaa (yav rfl (yaf (yae (zr (zq (yab H5) ?_)))))))))));obtain ⟨hi4,h⟩:=h;refine zq (zA hi4) (zQ (ii (e2+1)) (yaa ?_));obtain ⟨mq,hlt,h⟩:=h;exact ag mq _ _ _ ⟨_,h,rfl,H1,rfl,(hS.sel [0])⟩ hlt
        · replace h:=h.2 hp5;refine zV rfl rfl (zF hp5) (zV rfl rfl (zF hp5) (zV rfl rfl (zF hp5) (zV rfl rfl (zF hp5) (zV rfl rfl (zF hp5) (zq (yaj (v:=(.bool (false))) (zF hp5) rfl) (zM (.bool (false)) (zU (zU (zU (zU (zU (zq (yaj (v:=(.bool (false))) rfl rfl) (yaa (yav rfl (yaf (yae (zr (zq (yab H5) ?_))))))))))))))))));obtain ⟨hi5,h⟩:=h;refine zq (zA hi5) (zQ (ii (e2+1)) (yaa ?_));obtain ⟨mq,hlt,h⟩:=h;exact ag mq _ _ _ ⟨_,h,rfl,H1,rfl,(hS.sel [0])⟩ hlt
    · replace h:=h.2 hp;exact zd hp (yas rfl (zs (zQ (.bool (true)) (yaa (yah rfl rfl ⟨_,rfl,(hS.sel []),h⟩)))))
  clear hJ;intro j;refine zr (zq (yao (vs:=[(ii g),(.slice Ag lg cg)]) rfl underlying24 rfl yak ⟨Row.cell (hS.bx 2 rfl) (i:=0) rfl,Row.cell (hS.bx 2 rfl) (i:=1) rfl,trivial⟩) (zn (yai rfl (am1 rfl) enter_32 ((yht h (yaz _) (hS.rdr 0 rfl)).mono ?_))));rintro _ w5 ⟨r,rfl,hC,h⟩;replace hS:=hS.pur hC.pure;clear hC;refine ⟨_,rfl,?_⟩;refine zb (zq (yds rfl) (zM (.bool (!(r))) ?_));by_cases hp8:r=true
  · replace h:=h.1 hp8;refine zV rfl rfl (zC (zB hp8)) (zV rfl rfl (zC (zB hp8)) (zV rfl rfl (zC (zB hp8)) (zV rfl rfl (zC (zB hp8)) (zX (zX (zX (zX (zV rfl rfl (zC (zB hp8)) (zV rfl rfl (zC (zB hp8)) (zX (zX (zX (zV rfl rfl (zC (zB hp8)) (zV rfl rfl (zC (zB hp8)) (zq (yaj (v:=(.bool (false))) (zC (zB hp8)) rfl) (zM (.bool (false)) (zW rfl rfl rfl (zm (.slice Ax lx cx)) (zW rfl rfl rfl (yaG (n:=x.length) rfl underlying35 (yaD (hS.rdr 1 rfl))) (zW rfl rfl rfl zG (zq (yaj (v:=(.bool (decide (60<(x.length:Int))))) rfl rfl) (yaa ?_)))))))))))))))))))));by_cases hp9:60<(x.length:Int)
    · replace h:=h.1 hp9;exact zc hp9 (zs (zQ (.bool (false)) (yaa (yah rfl rfl ⟨_,rfl,(hS.sel []),h⟩))))
    · replace h:=h.2 hp9;exact zd hp9 (yaf (j _ _ _ ⟨h,rfl,rfl,(hS.sel [1])⟩))
  · replace h:=h.2 hp8;refine zW rfl rfl (zC (zB (zI hp8))) (yao (vs:=[(ii g),(.slice Ag lg cg)]) rfl underlying24 rfl yak ⟨Row.cell (hS.bx 2 rfl) (i:=0) rfl,Row.cell (hS.bx 2 rfl) (i:=1) rfl,trivial⟩) (rl_n (yaA rfl (ybc rfl (zC (zB (zI hp8))))) rfl rfl rfl (yai rfl (am1 rfl) yjd ((yfm h (yaz _) (hS.rdr 0 rfl)).mono ?_)));rintro _ w6 ⟨r2,rfl,hC,h⟩;replace hS:=hS.pur hC.pure;clear hC;refine ⟨_,rfl,?_⟩;refine zb (zW rfl rfl (zC (zB (zI hp8))) zE (zW rfl rfl (zC (zB (zI hp8))) (zm (.bool (decide (r2=0)))) ?_));by_cases hp10:r2=0
    · replace h:=h.1 hp10;refine zW rfl rfl (zT hp10) (yam rfl underlying24 rfl ybZ) (zW rfl rfl (zT hp10) (zl underlying22 (Row.cell (hS.bx 2 rfl) (i:=1) rfl)) (zW rfl rfl (zT hp10) (yaG (n:=g2.length) rfl underlying22 (yaD (hS.rdr 0 rfl))) (zW rfl rfl (zT hp10) zL (zW rfl rfl (zC (zB (zI hp8))) (yan (v:=(.bool (decide ((g2.length:Int)<20)))) (zT hp10) rfl) (zW rfl rfl (zC (zB (zI hp8))) (zm (.bool (decide ((g2.length:Int)<20)))) ?_)))));by_cases hp11:(g2.length:Int)<20
      · replace h:=h.1 hp11;refine zW rfl rfl (zT hp11) (yao (vs:=[(ii g),(.slice Ag lg cg)]) rfl underlying24 rfl yak ⟨Row.cell (hS.bx 2 rfl) (i:=0) rfl,Row.cell (hS.bx 2 rfl) (i:=1) rfl,trivial⟩) (rl_n (yaA rfl (ybc rfl (zT hp11))) rfl rfl rfl (yai rfl (am1 rfl) yhI ((yez h (yaz _) (hS.rdr 0 rfl)).mono ?_)));rintro _ w7 ⟨r3,rfl,hC,h⟩;replace hS:=hS.pur hC.pure;clear hC;refine ⟨_,rfl,?_⟩;refine zb (zW rfl rfl (zT hp11) zG (zW rfl rfl (zC (zB (zI hp8))) (yan (v:=(.bool (decide (14<r3)))) (zT hp11) rfl) (zW rfl rfl (zC (zB (zI hp8))) (yds rfl) (zq (yan (v:=(.bool (!(decide (14<r3))))) (zC (zB (zI hp8))) rfl) (zM (.bool (!(decide (14<r3)))) ?_)))));by_cases hp12:14<r3
        · replace h:=h.1 hp12;refine zW rfl rfl (zC (zB (decide_eq_true hp12))) (zm (.slice Ax lx cx)) (zW rfl rfl (zC (zB (decide_eq_true hp12))) (yaG (n:=x.length) rfl underlying35 (yaD (hS.rdr 1 rfl))) (zW rfl rfl (zC (zB (decide_eq_true hp12))) zG (zq (yaj (v:=(.bool (decide (60<(x.length:Int))))) (zC (zB (decide_eq_true hp12))) rfl) (yaa ?_))));by_cases hp13:60<(x.length:Int)
          · replace h:=h.1 hp13;exact zc hp13 (zs (zQ (.bool (false)) (yaa (yah rfl rfl ⟨_,rfl,(hS.sel []),h⟩))))
          · replace h:=h.2 hp13;exact zd hp13 (yaf (j _ _ _ ⟨h,rfl,rfl,(hS.sel [1])⟩))
        · replace h:=h.2 hp12;exact zV rfl rfl (zC (zB (decide_eq_false hp12))) (zV rfl rfl (zC (zB (decide_eq_false hp12))) (zV rfl rfl (zC (zB (decide_eq_false hp12))) (zq (yan (v:=(.bool (true))) (zC (zB (decide_eq_false hp12))) rfl) (yaa (yaq rfl (zs (zQ (.bool (false)) (yaa (yah rfl rfl ⟨_,rfl,(hS.sel []),h⟩)))))))))
      · replace h:=h.2 hp11;exact zV rfl rfl (zF hp11) (zV rfl rfl (zF hp11) (zV rfl rfl (zF hp11) (zW rfl rfl (zC (zB (zI hp8))) (yaj (v:=(.bool (false))) (zF hp11) rfl) (zW rfl rfl (zC (zB (zI hp8))) (yds rfl) (zq (yan (v:=(.bool (!(false)))) (zC (zB (zI hp8))) rfl) (zM (.bool (!(false))) (zV rfl rfl (zC (zB rfl)) (zV rfl rfl (zC (zB rfl)) (zV rfl rfl (zC (zB rfl)) (zq (yan (v:=(.bool (true))) (zC (zB rfl)) rfl) (yaa (yaq rfl (zs (zQ (.bool (false)) (yaa (yah rfl rfl ⟨_,rfl,(hS.sel []),h⟩))))))))))))))))
    · replace h:=h.2 hp10;exact zV rfl rfl (zF hp10) (zV rfl rfl (zF hp10) (zV rfl rfl (zF hp10) (zV rfl rfl (zF hp10) (zW rfl rfl (zC (zB (zI hp8))) (yaj (v:=(.bool (false))) (zF hp10) rfl) (zW rfl rfl (zC (zB (zI hp8))) (zm (.bool (false))) (zU (zU (zU (zW rfl rfl (zC (zB (zI hp8))) (yaj (v:=(.bool (false))) rfl rfl) (zW rfl rfl (zC (zB (zI hp8))) (yds rfl) (zq (yan (v:=(.bool (!(false)))) (zC (zB (zI hp8))) rfl) (zM (.bool (!(false))) (zV rfl rfl (zC (zB rfl)) (zV rfl rfl (zC (zB rfl)) (zV rfl rfl (zC (zB rfl)) (zq (yan (v:=(.bool (true))) (zC (zB rfl)) rfl) (yaa (yaq rfl (zs (zQ (.bool (false)) (yaa (yah rfl rfl ⟨_,rfl,(hS.sel []),h⟩))))))))))))))))))))))
end Go.Proofs.YtencmgolklfmkaaGreat

/- The forms. -/

/- The graph with some single edges: the reference and the program. -/
namespace Go.Proofs.YtencmgolklfmkaaGreat
open Go Go.RowKit Go.Shelf Go.Proofs.Tryz
def cellJ(T:List (List Int))(k j:Nat):Option E3:=if 0<gi (gx T k) (k+j) then some ((k:Int),((k+j:Nat):Int),gi (gx T k) (k+j)) else none
def rowJ(d:Nat)(T:List (List Int))(k:Nat):List E3:=(List.range (d-k)).filterMap (cellJ T k)
def yiR(d:Nat)(T:List (List Int)):List E3:=(List.range d).flatMap (rowJ d T)
theorem yhi{d:Nat}(hd:d≤12){T:List (List Int)}(hT:T.length=d)(hr:∀ a,a<d→(gx T a).length=d){R:Int→List E3→Prop}(h:R d (yiR d T)):ydc d T R:=by
  refine ⟨fun m a g=>∃ k:Nat,a=k∧k+m=d∧g=(List.range k).flatMap (rowJ d T)∧g.length≤k*12,⟨d,0,rfl,by omega,rfl,by simp⟩,?_⟩
  rintro m a g ⟨k,rfl,hk,rfl,hl⟩
  refine ⟨fun hlt=>?_,fun hge=>?_⟩
  · refine ⟨fun m b g4=>∃ j:Nat,b=((k+j:Nat):Int)∧k+j+m=d∧g4=(List.range k).flatMap (rowJ d T)++(List.range j).filterMap (cellJ T k)∧g4.length≤k*12+j,⟨d-k,0,by simp,by omega,by simp,by simpa using hl⟩,?_⟩
    rintro m' b g4 ⟨j,rfl,hj,rfl,hl4⟩
    refine ⟨fun hb=>?_,fun hb=>?_⟩
    · have hrow:=hr k (by omega)
      refine ⟨⟨by omega,by omega⟩,⟨by omega,by rw [Int.toNat_natCast,hrow];omega⟩,?_⟩
      rw [Int.toNat_natCast,Int.toNat_natCast]
      refine ⟨fun hp=>⟨by omega,⟨by omega,by omega⟩,m'-1,by omega,j+1,by omega,by omega,?_,?_⟩,fun hp=>⟨⟨by omega,by omega⟩,m'-1,by omega,j+1,by omega,by omega,?_,by omega⟩⟩
      · rw [List.range_succ,List.filterMap_append,List.append_assoc]
        simp [cellJ,hp]
      · rw [List.length_append,List.length_singleton];omega
      · rw [List.range_succ,List.filterMap_append]
        simp [cellJ,hp]
    · have hj2:j=d-k:=by omega
      subst hj2
      refine ⟨⟨by omega,by omega⟩,m-1,by omega,k+1,by omega,by omega,?_,by omega⟩
      rw [List.range_succ,List.flatMap_append]
      simp [rowJ]
  · have:k=d:=by omega
    subst this
    exact h
def isE(a b:Int)(e:Int×Int):Bool:=decide (mnF e.1 e.2=a∧mxF e.1 e.2=b)
def cntE(l:List (Int×Int))(a b:Int):Int:=(l.countP (isE a b):Int)
def rowT(d:Nat)(l:List (Int×Int))(a:Nat):List Int:=(List.range d).map fun (b:Nat)=>cntE l (a:Int) (b:Int)
def tabE(d:Nat)(l:List (Int×Int)):List (List Int):=(List.range d).map (rowT d l)
theorem yf9(d:Nat)(l:List (Int×Int))(a:Nat):(rowT d l a).length=d:=by simp [rowT]
theorem ygb(d:Nat)(l:List (Int×Int)):(tabE d l).length=d:=by simp [tabE]
theorem yfG{d:Nat}{l:List (Int×Int)}{a:Nat}(h:a<d):gx (tabE d l) a=rowT d l a:=by
  rw [yaM (by rw [ygb];exact h)];simp [tabE]
theorem yg4{d:Nat}{l:List (Int×Int)}{a b:Nat}(h:b<d):gi (rowT d l a) b=cntE l a b:=by
  rw [ybe (by rw [yf9];exact h)];simp [rowT]
theorem ydF(l:List (Int×Int))(e:Int×Int)(a b:Int):cntE (l++[e]) a b=cntE l a b+if mnF e.1 e.2=a∧mxF e.1 e.2=b then 1 else 0:=by
  unfold cntE
  rw [List.countP_append]
  by_cases h:mnF e.1 e.2=a∧mxF e.1 e.2=b
  · simp [List.countP_cons,isE,h]
  · simp [List.countP_cons,isE,h]
theorem tabE_nil(d:Nat):tabE d []=List.replicate d (List.replicate d 0):=by
  apply List.ext_getElem?
  intro k
  by_cases h:k<d
  · simp only [tabE,List.getElem?_map,List.getElem?_range h,Option.map_some,List.getElem?_replicate,h,if_true]
    congr 1
    apply List.ext_getElem?
    intro j
    by_cases h2:j<d
    · simp [rowT,List.getElem?_replicate,h2,cntE]
    · simp [rowT,h2]
  · simp [tabE,h]
theorem tabE_set{d:Nat}{l:List (Int×Int)}{e:Int×Int}{a b:Nat}(ha:a<d)(hb:b<d)(h1:mnF e.1 e.2=a)(h2:mxF e.1 e.2=b):(tabE d l).set a ((gx (tabE d l) a).set b (gi (gx (tabE d l) a) b+1))=tabE d (l++[e]):=by
  rw [yfG ha,yg4 hb]
  apply List.ext_getElem?
  intro k
  rw [List.getElem?_set,ygb]
  by_cases hk:a=k
  · subst hk
    rw [if_pos rfl,if_pos ha]
    simp only [tabE,List.getElem?_map,List.getElem?_range ha,Option.map_some]
    congr 1
    apply List.ext_getElem?
    intro j
    rw [List.getElem?_set,yf9]
    by_cases hj:b=j
    · subst hj
      rw [if_pos rfl,if_pos hb]
      simp [rowT,hb,ydF,h1,h2]
    · rw [if_neg hj]
      by_cases hjd:j<d
      · have:¬((b:Int)=(j:Int)):=fun q=>hj (by omega)
        simp [rowT,hjd,ydF,h1,h2,this]
      · simp [rowT,hjd]
  · rw [if_neg hk]
    by_cases hkd:k<d
    · have:¬((a:Int)=(k:Int)):=fun q=>hk (by omega)
      simp only [tabE,List.getElem?_map,List.getElem?_range hkd,Option.map_some]
      congr 1
      unfold rowT
      refine List.map_congr_left fun j _=>?_
      simp [ydF,h1,this]
    · simp [tabE,hkd]
theorem yic(l:List (Int×Int))(a b:Int):0≤cntE l a b:=Int.natCast_nonneg _
theorem cntE_le(l:List (Int×Int))(a b:Int):cntE l a b≤l.length:=Int.ofNat_le.2 List.countP_le_length
theorem p_r08_Make{d:Nat}(h1:1≤d)(hd:d≤12){l:List (Int×Int)}(hl:∀ e∈l,(0≤e.1∧e.1<d)∧0≤e.2∧e.2<d)(hn:l.length≤4096)(hm:∀ a b,cntE l a b≤50){R:Int→List E3→Int→Prop}(h:R d (yiR d (tabE d l)) 0):yfk d l R:=by
  refine ⟨True,fun _=>⟨fun q=>by omega,fun _=>⟨by omega,?_⟩⟩,fun q=>by omega,fun _=>⟨fun q=>by omega,fun _=>trivial⟩⟩
  refine ⟨fun m v T=>∃ k:Nat,v=k∧k+m=l.length∧T=tabE d (l.take k),⟨l.length,0,rfl,by omega,by simp [tabE_nil]⟩,?_⟩
  rintro m v T ⟨k,rfl,hk,rfl⟩
  refine ⟨fun hlt=>?_,fun hge=>?_⟩
  · have hkl:k<l.length:=by omega
    rw [Int.toNat_natCast]
    have hx:=hl (gx l k) (by rw [yaM hkl];exact List.getElem_mem hkl)
    have htk:l.take (k+1)=l.take k++[gx l k]:=by rw [List.take_add_one,List.getElem?_eq_getElem hkl,yaM hkl];rfl
    generalize gx l k=e at hx htk ⊢
    obtain ⟨a,ha⟩:∃ a:Nat,mnF e.1 e.2=a:=⟨(mnF e.1 e.2).toNat,by unfold mnF;split <;> omega⟩
    obtain ⟨b,hb⟩:∃ b:Nat,mxF e.1 e.2=b:=⟨(mxF e.1 e.2).toNat,by unfold mxF;split <;> omega⟩
    have had:a<d:=by unfold mnF at ha;split at ha <;> omega
    have hbd:b<d:=by unfold mxF at hb;split at hb <;> omega
    refine ⟨by omega,by decide,by decide,True,fun _=>?_,fun q=>by omega,fun _=>⟨fun q=>by omega,fun _=>⟨fun q=>by omega,fun _=>⟨fun q=>by omega,fun _=>trivial⟩⟩⟩⟩
    rw [ha,hb,Int.toNat_natCast,Int.toNat_natCast,ygb,yfG had,yf9,yg4 hbd]
    have hc1:=yic (l.take k) a b
    have hc2:=cntE_le (l.take k) a b
    have hc3:(l.take k).length≤4096:=by rw [List.length_take];omega
    refine ⟨⟨by omega,by omega⟩,⟨by omega,by omega⟩,⟨by omega,by omega⟩,⟨by omega,by omega⟩,m-1,by omega,k+1,by omega,by omega,?_⟩
    have:=tabE_set (l:=l.take k) had hbd ha hb
    rw [yfG had,yg4 hbd] at this
    rw [htk]
    exact this
  · have hk2:l.take k=l:=List.take_of_length_le (by omega)
    rw [hk2]
    refine ⟨fun m v=>∃ k:Nat,v=k∧k+m=d,⟨d,0,rfl,by omega⟩,?_⟩
    rintro m v ⟨a,rfl,ha⟩
    refine ⟨fun hlt=>?_,fun _=>yhi hd (ygb d l) (fun a ha=>by rw [yfG ha,yf9]) h⟩
    refine ⟨fun m v=>∃ k:Nat,v=k∧k+m=d,⟨d,0,rfl,by omega⟩,?_⟩
    rintro m' v ⟨b,rfl,hb⟩
    refine ⟨fun hlt2=>?_,fun _=>⟨⟨by omega,by omega⟩,m-1,by omega,a+1,by omega,by omega⟩⟩
    rw [Int.toNat_natCast,Int.toNat_natCast,ygb,yfG (by omega),yf9,yg4 (by omega)]
    have:=hm a b
    exact ⟨⟨by omega,by omega⟩,⟨by omega,by omega⟩,fun q=>by omega,fun _=>⟨⟨by omega,by omega⟩,m'-1,by omega,b+1,by omega,by omega⟩⟩
structure BagOk(d:Nat)(l:List (Int×Int))(M:List (List Int×Int)):Prop where
  key:KOk 2 M
  at_:∀ p∈M,∃ a b:Nat,a≤b∧b<d∧p.1=[(a:Int),(b:Int)]∧p.2=cntE l a b∧0<p.2
  get:∀ a b:Int,(mget M [a,b]).getD 0=cntE l a b
  len:M.length≤l.length
theorem BagOk.nil(d:Nat):BagOk d [] []:=⟨KOk.nil 2,fun p h=>by simp at h,fun a b=>by simp [mget,cntE],Nat.le_refl _⟩
theorem keyOk2{d a b:Nat}(hd:d≤12)(h1:a≤b)(h2:b<d):KeyOk 2 [(a:Int),(b:Int)]:=by
  refine ⟨rfl,fun x hx=>?_⟩
  simp only [List.mem_cons,List.not_mem_nil,or_false] at hx
  rcases hx with rfl | rfl <;> exact ⟨by omega,by omega⟩
theorem BagOk.put{d:Nat}{l:List (Int×Int)}{M:List (List Int×Int)}(h:BagOk d l M)(hd:d≤12){e:Int×Int}{a b:Nat}(h1:a≤b)(h2:b<d)(ha:mnF e.1 e.2=a)(hb:mxF e.1 e.2=b):BagOk d (l++[e]) (mput M [(a:Int),(b:Int)] (cntE l a b+1)):=by
  have hk:=h.key.put (keyOk2 hd h1 h2) (cntE l a b+1)
  refine ⟨hk,fun p hp=>?_,fun x y=>?_,by have:=h.len;rw [mput_length,List.length_append,List.length_singleton];split <;> omega⟩
  · obtain ⟨j,hj⟩:=List.getElem?_of_mem hp
    have hg:=mget_at hk.1 (k:=p.1) (v:=p.2) hj
    rw [mget_put] at hg
    by_cases q:[(a:Int),(b:Int)]=p.1
    · rw [if_pos q] at hg
      refine ⟨a,b,h1,h2,q.symm,?_,?_⟩
      · rw [ydF,if_pos ⟨ha,hb⟩];exact (Option.some.inj hg).symm
      · rw [←Option.some.inj hg];have:=yic l a b;omega
    · rw [if_neg q] at hg
      obtain ⟨x,y,h3,h4,h5,h6,h7⟩:=h.at_ _ (mget_mem hg)
      refine ⟨x,y,h3,h4,h5,?_,h7⟩
      rw [ydF,if_neg,Int.add_zero]
      · exact h6
      · rintro ⟨q1,q2⟩
        rw [ha] at q1;rw [hb] at q2
        have h5:p.1=[(x:Int),(y:Int)]:=h5
        exact q (by rw [h5,q1,q2])
  · rw [mget_put,ydF,ha,hb,←h.get x y]
    by_cases q:(a:Int)=x∧(b:Int)=y
    · rw [if_pos (by rw [q.1,q.2]),if_pos q,h.get x y,←q.1,←q.2];rfl
    · rw [if_neg (fun z=>q (by simpa using z)),if_neg q,Int.add_zero]
def eM(p:List Int×Int):E3:=(gi p.1 0,gi p.1 1,p.2)
theorem nodupN_le:∀ {l K:List Nat},l.Nodup→(∀ x∈l,x∈K)→l.length≤K.length
  | [],K,_,_=>Nat.zero_le _
  | a::t,K,hn,hs=>by
    rw [List.nodup_cons] at hn
    have ha:a∈K:=hs a (by simp)
    have h2:=nodupN_le (l:=t) (K:=K.erase a) hn.2 fun x hx=>(List.mem_erase_of_ne (by rintro rfl;exact hn.1 hx)).2 (hs x (by simp [hx]))
    rw [List.length_erase_of_mem ha] at h2
    have:0<K.length:=List.length_pos_of_mem ha
    rw [List.length_cons];omega
theorem ydp{d:Nat}{l:List (Int×Int)}{x:E3} : x∈yiR d (tabE d l)↔∃ a b:Nat,a≤b∧b<d∧0<cntE l a b∧x=((a:Int),(b:Int),cntE l a b):=by
  unfold yiR
  simp only [List.mem_flatMap,List.mem_range,rowJ,List.mem_filterMap]
  constructor
  · rintro ⟨a,ha,j,hj,hx⟩
    unfold cellJ at hx
    rw [yfG ha,yg4 (by omega)] at hx
    split at hx
    · rename_i hp
      exact ⟨a,a+j,by omega,by omega,hp,(Option.some.inj hx).symm⟩
    · cases hx
  · rintro ⟨a,b,h1,h2,h3,rfl⟩
    refine ⟨a,by omega,b-a,by omega,?_⟩
    unfold cellJ
    rw [yfG (by omega),yg4 (by omega),show a+(b-a)=b by omega,if_pos h3]
def ltE(x y:E3):Prop:=x.1<y.1∨x.1=y.1∧x.2.1<y.2.1
theorem sorted_joinE{d:Nat}{T:List (List Int)} : (yiR d T).Pairwise ltE:=by
  unfold yiR
  rw [List.pairwise_flatMap]
  refine ⟨fun a _=>?_,?_⟩
  · unfold rowJ
    refine List.Pairwise.filterMap (R:=fun a b=>a<b) (S:=ltE) (cellJ T a) ?_ List.pairwise_lt_range
    intro x y hxy u hu v hv
    unfold cellJ at hu hv
    split at hu
    · split at hv
      · cases hu;cases hv
        refine .inr ⟨rfl,?_⟩
        show ((a+x:Nat):Int)<((a+y:Nat):Int)
        omega
      · cases hv
    · cases hu
  · refine List.pairwise_lt_range.imp ?_
    intro a b hab u hu v hv
    simp only [rowJ,List.mem_filterMap] at hu hv
    obtain ⟨x,_,hu⟩:=hu
    obtain ⟨y,_,hv⟩:=hv
    unfold cellJ at hu hv
    split at hu
    · split at hv
      · cases hu;cases hv
        refine .inl ?_
        show (a:Int)<(b:Int)
        omega
      · cases hv
    · cases hu
theorem BagOk.mem{d:Nat}{l:List (Int×Int)}{M:List (List Int×Int)}(h:BagOk d l M)(x:E3):x∈M.map eM↔x∈yiR d (tabE d l):=by
  rw [ydp,List.mem_map]
  constructor
  · rintro ⟨p,hp,rfl⟩
    obtain ⟨a,b,h1,h2,h3,h4,h5⟩:=h.at_ p hp
    exact ⟨a,b,h1,h2,by rw [←h4];exact h5,by unfold eM;rw [h3,h4];rfl⟩
  · rintro ⟨a,b,h1,h2,h3,rfl⟩
    have hg:=h.get a b
    cases hq:mget M [(a:Int),(b:Int)] with
    | none=>rw [hq] at hg;simp at hg;omega
    | some v =>
      rw [hq] at hg
      have hg:v=cntE l a b:=hg
      exact ⟨_,mget_mem hq,by unfold eM;rw [hg];rfl⟩
theorem BagOk.nodup{d:Nat}{l:List (Int×Int)}{M:List (List Int×Int)}(h:BagOk d l M):(M.map eM).Nodup:=by
  unfold List.Nodup
  rw [List.pairwise_map]
  refine h.key.1.imp_of_mem ?_
  intro p q hp hq hne he
  obtain ⟨a,b,_,_,h3,_,_⟩:=h.at_ p hp
  obtain ⟨a',b',_,_,h3',_,_⟩:=h.at_ q hq
  apply hne
  unfold eM at he
  rw [h3,h3'] at he ⊢
  have e1:(a:Int)=a':=congrArg Prod.fst he
  have e2:(b:Int)=b':=congrArg (fun z:E3=>z.2.1) he
  rw [e1,e2]
end Go.Proofs.YtencmgolklfmkaaGreat

/- The facts of a graph that is made of ends: in normal form, its size, its genus, its degrees. -/
namespace Go.Proofs.YtencmgolklfmkaaGreat
open Go Go.RowKit Go.Shelf Go.Proofs.Tryz
theorem pcmp_ltG{a b c d:Int} : ygK a b c d<0↔a<c∨(a=c∧b<d):=by
  unfold ygK orF cmpF
  by_cases h1:a<c <;> by_cases h2:c<a <;> by_cases h3:b<d <;> by_cases h4:d<b <;> simp [h1,h2,h3,h4] <;> omega
def sF:List E3→List E3
  | []=>[]
  | x::t=>List.replicate x.2.2.toNat (x.1,x.2.1,1)++sF t
theorem yhZ:∀ (a b:List E3),sF (a++b)=sF a++sF b
  | [],b=>rfl
  | x::t,b=>by rw [List.cons_append,sF,sF,yhZ t b,List.append_assoc]
theorem sF_take{es:List E3}{k:Nat}(hk:k<es.length):sF (es.take (k+1))=sF (es.take k)++List.replicate (ge es k).2.2.toNat ((ge es k).1,(ge es k).2.1,1):=by
  rw [List.take_add_one,List.getElem?_eq_getElem hk,←ydg hk,yhZ]
  simp [sF]
theorem sF_pre{es:List E3}{k:Nat}(hk:k<es.length){j:Nat}(hj:j≤(ge es k).2.2.toNat):sF (es.take k)++List.replicate j ((ge es k).1,(ge es k).2.1,1) <+: sF es:=by
  have h1:es=es.take (k+1)++es.drop (k+1):=(List.take_append_drop _ _).symm
  have h2:sF es=sF (es.take k)++List.replicate (ge es k).2.2.toNat ((ge es k).1,(ge es k).2.1,1)++sF (es.drop (k+1)):=by
    conv=>lhs;rw [h1]
    rw [yhZ,sF_take hk]
  obtain ⟨i,hi⟩:∃ i,(ge es k).2.2.toNat=j+i:=⟨(ge es k).2.2.toNat-j,by omega⟩
  rw [h2,hi,←List.replicate_append_replicate]
  exact ⟨List.replicate i ((ge es k).1,(ge es k).2.1,1)++sF (es.drop (k+1)),by simp only [List.append_assoc]⟩
theorem sF_ok{n:Nat} : ∀ {es:List E3},EOk n es→EOk n (sF es)
  | [],_=>fun x hx=>by simp [sF] at hx
  | y::t,h=>fun x hx=>by
    rw [sF,List.mem_append] at hx
    rcases hx with q | q
    · have:=h y (by simp)
      have e:=(List.mem_replicate.1 q).2
      subst e
      simp only
      omega
    · exact sF_ok (fun z hz=>h z (by simp [hz])) x q
theorem W_rep(a b:Int)(l:List E3)(v u:Nat):∀ k:Nat,W (List.replicate k (a,b,1)++l) v u=(k:Int)*w1 (a,b,1) v u+W l v u
  | 0=>by simp
  | k+1=>by
    rw [List.replicate_succ,List.cons_append,ygV,W_rep a b l v u k,Int.natCast_add,Int.add_mul]
    omega
theorem W_sF{n:Nat}(v u:Nat):∀ {es:List E3},EOk n es→W (sF es) v u=W es v u
  | [],_=>rfl
  | x::t,h=>by
    have hx:=h x (by simp)
    rw [sF,W_rep,ygV,W_sF v u (fun z hz=>h z (by simp [hz]))]
    have:((x.2.2.toNat:Nat):Int)*w1 (x.1,x.2.1,1) v u=w1 x v u:=by
      unfold w1
      simp only
      split
      · omega
      · omega
    omega
theorem sF_len{n:Nat} : ∀ {es:List E3},EOk n es→((sF es).length:Int)=(es.map (·.2.2)).sum
  | [],_=>rfl
  | x::t,h=>by
    have hx:=h x (by simp)
    have:=sF_len (es:=t) fun z hz=>h z (by simp [hz])
    rw [sF,List.length_append,List.length_replicate,List.map_cons,List.sum_cons,←this]
    omega
theorem sF_few{n:Nat} : ∀ {es:List E3},EOk n es→(sF es).length≤50*es.length
  | [],_=>Nat.le_refl _
  | x::t,h=>by
    have hx:=h x (by simp)
    have:=sF_few (es:=t) fun z hz=>h z (by simp [hz])
    rw [sF,List.length_append,List.length_replicate,List.length_cons]
    omega
def gmap(y:Int×Int×Int):E3:=(y.2.1,y.2.2,1)
theorem yeV{n:Nat}{es:List E3}(hE:EOk n es)(hl:es.length≤1000):ybt (n:Int) es (fun l=>l.map gmap <+: sF es) (fun l=>l.map gmap=sF es):=by
  unfold ybt
  refine ⟨fun m pre e2 v=>Cnt es.length (fun k=>pre.map gmap=sF (es.take k)∧0≤e2∧e2≤50*k) m v,Cnt.start ⟨rfl,by omega,by omega⟩,?_⟩
  rintro m pre e2 _ ⟨k,rfl,rfl,hk,hpre,he0,he1⟩
  simp only [Int.toNat_natCast]
  refine ⟨fun hlt=>⟨by omega,?_⟩,fun hge=>?_⟩
  · have hkl:k<es.length:=by omega
    have hx:=hE _ (List.mem_of_getElem? (ydz hkl))
    refine ⟨fun m pre e3 v=>Cnt (ge es k).2.2.toNat (fun j=>pre.map gmap=sF (es.take k)++List.replicate j ((ge es k).1,(ge es k).2.1,1)∧0≤e3∧e3≤50*k+j) m v,Cnt.start ⟨by simpa using hpre,he0,by omega⟩,?_⟩
    rintro m3 pre3 e3 _ ⟨j,rfl,rfl,hj,hp3,h30,h31⟩
    have hstep:∀ e:Int,(pre3++[(e,(ge es k).1,(ge es k).2.1)]).map gmap=sF (es.take k)++List.replicate (j+1) ((ge es k).1,(ge es k).2.1,1):=fun e=>by
      rw [List.map_append,hp3,List.replicate_succ',List.append_assoc];rfl
    refine ⟨fun h1=>⟨?_,⟨i64 (by omega),Cnt.next (by omega) (by omega) ⟨hstep e3,by omega,by omega⟩⟩,trivial⟩,fun h1=>Cnt.next (by omega) (by omega) ⟨?_,by omega,by omega⟩⟩
    · show (pre3++[(e3,(ge es k).1,(ge es k).2.1)]).map gmap <+: sF es
      rw [hstep];exact sF_pre hkl (by omega)
    · have e:j=(ge es k).2.2.toNat:=by omega
      rw [sF_take hkl,hp3,e]
  · have e:k=es.length:=by omega
    rw [e,List.take_length] at hpre
    exact hpre
def yeG(F:List Nat):List Int:=F.map fun v:Nat=>(v:Int)
theorem yhS{F:List Nat}{v:Nat}(hv:v<F.length):gi (yeG F) v=(gn F v:Int):=by
  unfold yeG
  rw [ybe (by simpa using hv),yfl hv];simp
theorem ygI{F:List Nat}(hF:ycb F){v:Nat}(hv:v<12){R:Int→Prop}(h:R (root F v)):ybh (yeG F) (v:Int) R:=by
  unfold ybh
  refine ⟨fun m x=>∃ u:Nat,x=u∧m=u∧u<12∧root F u=root F v,⟨v,v,rfl,rfl,hv,rfl⟩,?_⟩
  rintro m _ ⟨u,rfl,hm,hu,hr⟩
  have hg:gi (yeG F) u=(gn F u:Int):=yhS (by rw [hF.1];exact hu)
  have hle:=hF.2 u hu
  simp only [Int.toNat_natCast,hg]
  refine ⟨by omega,fun e=>?_,fun e=>⟨gn F u,by omega,gn F u,rfl,rfl,by omega,?_⟩⟩
  · rw [ycm (F:=F) (v:=u) (by omega)] at hr
    rw [hr];exact h
  · rw [←yed hF hu (by omega)];exact hr
theorem yid{F:List Nat}(hF:ycb F){a b:Nat}(ha:a<12)(hb:b<12)(hne:root F a≠root F b):∀ k,k≤12→yay (ycu F a b) k+(if max (root F a) (root F b)<k then 1 else 0)=yay F k
  | 0,_=>by simp [yay]
  | k+1,hk=>by
    have ih:=yid hF ha hb hne k (by omega)
    have hj:=yga hF ha hb k (by omega)
    have ra:=yd6 hF ha
    have rb:=yd6 hF hb
    rw [yay,yay]
    have hM:root F (max (root F a) (root F b))=max (root F a) (root F b):=by
      rcases Nat.le_total (root F a) (root F b) with q | q
      · rw [Nat.max_eq_right q];exact rb
      · rw [Nat.max_eq_left q];exact ra
    have hm:root F (min (root F a) (root F b))=min (root F a) (root F b):=by
      rcases Nat.le_total (root F a) (root F b) with q | q
      · rw [Nat.min_eq_left q];exact ra
      · rw [Nat.min_eq_right q];exact rb
    by_cases e1:k=max (root F a) (root F b)
    · have h1:root F k=k:=by rw [e1];exact hM
      rw [if_pos (h1.trans e1)] at hj
      rw [if_neg (by omega:¬root (ycu F a b) k=k),if_pos h1,if_pos (by omega)]
      rw [if_neg (by omega)] at ih
      omega
    · have h2:root (ycu F a b) k=k↔root F k=k:=by
        rw [hj]
        split
        · rename_i e2
          constructor
          · intro e3;rw [←e3] at e2;rw [hm] at e2;omega
          · intro e3;omega
        · exact Iff.rfl
      by_cases e3:root F k=k
      · rw [if_pos (h2.2 e3),if_pos e3]
        by_cases e4:max (root F a) (root F b)<k
        · rw [if_pos e4] at ih;rw [if_pos (by omega)];omega
        · rw [if_neg e4] at ih;rw [if_neg (by omega)];omega
      · rw [if_neg (fun q=>e3 (h2.1 q)),if_neg e3]
        by_cases e4:max (root F a) (root F b)<k
        · rw [if_pos e4] at ih;rw [if_pos (by omega)];omega
        · rw [if_neg e4] at ih;rw [if_neg (by omega)];omega
theorem yiJ{F:List Nat}(hF:ycb F){a b:Nat}(ha:a<12)(hb:b<12)(he:root F a=root F b):∀ k,k≤12→yay (ycu F a b) k=yay F k
  | 0,_=>rfl
  | k+1,hk=>by
    have ih:=yiJ hF ha hb he k (by omega)
    have hj:=yga hF ha hb k (by omega)
    rw [yay,yay,ih,hj,he]
    simp only [Nat.max_self,Nat.min_self]
    congr 2
    split
    · rename_i e;rw [e]
    · rfl
theorem yhk:∀ k,k≤12→yay ycr k=k
  | 0,_=>rfl
  | k+1,hk=>by
    rw [yay,yhk k (by omega),if_pos]
    exact ycm (by rw [yfl (by simpa [ycr] using (by omega:k<12))];simp [ycr])
theorem yfW(l:List E3)(x:E3):yap (l++[x])=ycu (yap l) x.1.toNat x.2.1.toNat:=by
  unfold yap;rw [List.foldl_append];rfl
theorem castF_join{F:List Nat}{a b:Nat} : (yeG F).set (mxF (root F a) (root F b)).toNat (mnF (root F a) (root F b))=yeG (ycu F a b):=by
  unfold yeG ycu
  rw [List.map_set,mxF_eq,mnF_eq]
  congr 1
  · omega
  · omega
theorem p_graph_Genus{n:Nat}{es:List E3}{R:Int→Int→Prop}(hl:es.length≤1000)(hg:yat n es=0)(hc:∀ q,q<n→Conn n es q)(h:R ((es.map (·.2.2)).sum+1-n) 0):ycp n es R:=by
  obtain ⟨hE,hn1,hn12⟩:=ybr hg
  unfold ycp
  refine yc9 (by omega) ⟨fun _=>?_,fun q=>absurd hg q⟩
  refine ⟨fun m v f=>Cnt 12 (fun k=>f.length=12∧∀ i,i<k→gi f i=(i:Int)) m v,Cnt.start ⟨by simp,fun i hi=>absurd hi (by omega)⟩,?_⟩
  rintro m _ f ⟨k,rfl,rfl,hk,hfl,hf⟩
  simp only [Int.toNat_natCast]
  refine ⟨fun hlt=>⟨by omega,Cnt.next (by omega) (by omega) ⟨by simpa using hfl,fun i hi=>?_⟩⟩,fun hge=>?_⟩
  · rw [ycM (by omega)]
    split
    · omega
    · exact hf i (by omega)
  have e12:k=12:=by omega
  subst e12
  have hf0:f=yeG ycr:=ygj (by rw [hfl];rfl) fun i hi=>by
    rw [hf i (by omega),yhS (by show i<(List.range 12).length;simpa using (by omega:i<12)),yfl (by simpa [ycr] using (by omega:i<12))]
    simp [ycr]
  show ∃ Pr Rr:List (Int×Int×Int)→Prop,_
  refine ⟨_,_,yeV hE hl,fun pre f2 genus=>pre.map gmap <+: sF es∧f2=yeG (yap (pre.map gmap))∧genus+n-(yay (yap (pre.map gmap)) n:Int)=pre.length∧0≤genus∧genus≤pre.length,⟨List.nil_prefix,hf0,?_,by omega,by simp⟩,?_,?_⟩
  · show (0:Int)+n-(yay ycr n:Int)=0
    rw [yhk n hn12];omega
  · rintro pre e a b f2 genus ⟨hp,rfl,hcount,h0,h1⟩ hPr
    have hPr:(pre++[(e,a,b)]).map gmap <+: sF es:=hPr
    have hE2:=sF_ok hE
    have hmem:(a,b,1)∈sF es:=hPr.subset (by simp [gmap])
    have hx:=hE2 _ hmem
    simp only at hx
    obtain ⟨a,rfl⟩:∃ k:Nat,a=(k:Int):=⟨a.toNat,by omega⟩
    obtain ⟨b,rfl⟩:∃ k:Nat,b=(k:Int):=⟨b.toNat,by omega⟩
    have hF:ycb (yap (pre.map gmap)):=yaU _ fun x hx=>by
      have:=hE2 x (hp.subset hx)
      omega
    have hplen:pre.length≤50*es.length:=by
      have h2:=hp.length_le
      have h3:=sF_few hE
      rw [List.length_map] at h2
      omega
    have hsn:(pre++[(e,(a:Int),(b:Int))]).map gmap=pre.map gmap++[((a:Int),(b:Int),1)]:=by rw [List.map_append];rfl
    have hjs:yap ((pre++[(e,(a:Int),(b:Int))]).map gmap)=ycu (yap (pre.map gmap)) a b:=by rw [hsn,yfW];simp
    have ra:=ycj hF a (by omega)
    have rb:=ycj hF b (by omega)
    have hrl:∀ v,v<n→root (yap (pre.map gmap)) v<n:=fun v hv=>by have:=(ycj hF v (by omega)).1;omega
    have hra:=hrl a (by omega)
    have hrb:=hrl b (by omega)
    refine ygI hF (by omega) (ygI hF (by omega) ?_)
    have hmx:0≤mxF (root (yap (pre.map gmap)) a:Int) (root (yap (pre.map gmap)) b)∧mxF (root (yap (pre.map gmap)) a:Int) (root (yap (pre.map gmap)) b)<12:=by rw [mxF_eq];omega
    refine ⟨fun g2=>g2=genus+if root (yap (pre.map gmap)) a=root (yap (pre.map gmap)) b then 1 else 0,fun g2 hg2=>⟨hmx,hPr,by rw [hjs];exact castF_join,?_,?_,?_⟩,fun q=>⟨i64 (by omega),by rw [if_pos (by omega)]⟩,fun q=>by rw [if_neg (by omega)];omega⟩
    · rw [hjs,hg2,List.length_append,List.length_singleton]
      by_cases q:root (yap (pre.map gmap)) a=root (yap (pre.map gmap)) b
      · rw [if_pos q,yiJ hF (by omega) (by omega) q n hn12];omega
      · have:=yid hF (by omega) (by omega) q n hn12
        rw [if_pos (by omega)] at this
        rw [if_neg q];omega
    · rw [hg2];split <;> omega
    · rw [hg2,List.length_append,List.length_singleton];split <;> omega
  · rintro ys f2 genus ⟨hp,rfl,hcount,h0,h1⟩ hR
    have hR:ys.map gmap=sF es:=hR
    have hE2:=sF_ok hE
    have hc2:yd0 n (sF es)=true:=(yhM hE2 hn1 hn12 (q:=0) (by omega)).2 fun S h0 h1=>by
      obtain ⟨v,u,a,b,c,d,e⟩:=hc 0 (by omega) S h0 h1
      exact ⟨v,u,a,b,c,d,by rw [W_sF v u hE];exact e⟩
    unfold yd0 at hc2
    rw [beq_iff_eq,Int.toNat_natCast] at hc2
    rw [hR,hc2] at hcount
    have hlen:=sF_len hE
    rw [←hR,List.length_map] at hlen
    have e:genus=(es.map (·.2.2)).sum+1-n:=by omega
    rw [e];exact h
def ya6(d:Nat)(l:List (Int×Int)):Prop:=∀ e∈l,(0≤e.1∧e.1<d)∧0≤e.2∧e.2<d
def made(d:Nat)(l:List (Int×Int)):List E3:=yiR d (tabE d l)
theorem gchk_zero{n:Int} : ∀ (es:List E3) (a b:Int),(∀ x∈es,(0≤x.1∧x.1<n)∧(0≤x.2.1∧x.2.1<n)∧1≤x.2.2∧x.2.2≤50∧x.1≤x.2.1)→es.Pairwise ltE→(∀ x∈es,ygK a b x.1 x.2.1<0)→gchk n a b es=0
  | [],_,_,_,_,_=>rfl
  | x::t,a,b,h,hp,h0=>by
    have hx:=h x (by simp)
    rw [gchk,if_pos ⟨hx.1,hx.2.1,hx.2.2.1,hx.2.2.2.1⟩,if_pos ⟨hx.2.2.2.2,h0 x (by simp)⟩]
    rw [List.pairwise_cons] at hp
    exact gchk_zero t _ _ (fun y hy=>h y (by simp [hy])) hp.2 fun y hy=>pcmp_ltG.2 (by have:=hp.1 y hy;unfold ltE at this;exact this)
theorem yiD{d:Nat}(h1:1≤d)(hd:d≤12){l:List (Int×Int)}(hm:∀ a b,cntE l a b≤50):yat d (made d l)=0:=by
  unfold yat
  rw [if_pos (by omega)]
  refine gchk_zero _ _ _ (fun x hx=>?_) sorted_joinE fun x hx=>?_
  · obtain ⟨a,b,h2,h3,h4,rfl⟩:=ydp.1 hx
    have:=hm a b
    simp only
    omega
  · obtain ⟨a,b,h2,h3,h4,rfl⟩:=ydp.1 hx
    exact pcmp_ltG.2 (.inl (by simp only;omega))
theorem mn_nat{d:Nat}{e:Int×Int}(h:(0≤e.1∧e.1<d)∧0≤e.2∧e.2<d):∃ a b:Nat,mnF e.1 e.2=a∧mxF e.1 e.2=b∧a≤b∧b<d:=by
  refine ⟨(mnF e.1 e.2).toNat,(mxF e.1 e.2).toNat,?_,?_,?_,?_⟩ <;> simp only [mnF,mxF] <;> (try split) <;> (try split) <;> omega
theorem snoc_ind{α:Type}{P:List α→Prop}(h0:P [])(h:∀ l x,P l→P (l++[x]))(l:List α):P l:=by
  have:∀ k,k≤l.length→P (l.take k):=by
    intro k
    induction k with
    | zero=>intro _;exact h0
    | succ k ih =>
      intro hk
      rw [List.take_add_one,List.getElem?_eq_getElem (by omega)]
      exact h _ _ (ih (by omega))
  have:=this l.length (Nat.le_refl _)
  rwa [List.take_length] at this
def Joins(l:List (Int×Int))(v u:Nat):Prop:=((v:Int),(u:Int))∈l∨((u:Int),(v:Int))∈l
theorem W_made{d:Nat}{l:List (Int×Int)}(h1:1≤d)(hd:d≤12)(hm:∀ a b,cntE l a b≤50){v u:Nat}(hv:v<d)(hu:u<d)(hne:v≠u):W (made d l) v u=cntE l (mnF v u) (mxF v u):=by
  have hg:=yiD h1 hd hm
  rw [←yfO v u hne _ (-1) (-1) (ycl hg)]
  obtain ⟨a,b,ha,hb,hab,hbd⟩:=mn_nat (d:=d) (e:=((v:Int),(u:Int))) ⟨⟨by omega,by simp only;omega⟩,by omega,by simp only;omega⟩
  simp only at ha hb
  rw [ha,hb]
  cases hf:(made d l).find? fun x=>decide (x.1=(a:Int)∧x.2.1=(b:Int)) with
  | none =>
    have h0:=yic l a b
    rcases Classical.em (0<cntE l a b) with q | q
    · have:=List.find?_eq_none.1 hf _ (ydp.2 ⟨a,b,hab,hbd,q,rfl⟩)
      simp at this
    · simp;omega
  | some x =>
    have hx:=List.mem_of_find?_eq_some hf
    have hp:=List.find?_some hf
    simp only [decide_eq_true_eq] at hp
    obtain ⟨a',b',_,_,_,rfl⟩:=ydp.1 hx
    simp only at hp
    simp [hp.1,hp.2]
end Go.Proofs.YtencmgolklfmkaaGreat
