/- Texts laid together: PGb, PFe, Mk, Gnm, Ind, Go, Hit, Lea, Ggn, PGd, Lg, Lh. -/
import Derived.Test.YtadpnlimiblniaaGreatK7
set_option linter.unusedVariables false
set_option linter.unusedSimpArgs false
set_option linter.unusedSectionVars false
namespace Go.Proofs.YtadpnlimiblniaaGreat
open Go Go.RowKit Go.Shelf Go.Proofs.Tryz
set_option maxRecDepth 100000
set_option maxHeartbeats 8000000
def yeJ(n:Int)(times:List (List Int))(R:Int→(List E3)→Prop):Prop :=
(∃ I2:Nat→Int→(List E3)→Prop,(∃ m0,I2 m0 0 ([]))∧∀ m2 a g3,I2 m2 a g3 → 
((a<n →
(∃ I3:Nat→Int→(List E3)→Prop,(∃ m0,I3 m0 a g3)∧∀ m3 b g4,I3 m3 b g4 → 
((b<n →
((0≤a∧a<(times.length:Int)) ∧
((0≤b∧b<((gx times a.toNat).length:Int)) ∧
((0<(gi (gx times a.toNat) b.toNat) →
(g4.length+1≤1000000000 ∧
(In64 (b+1) ∧
∃ m4,m4<m3∧I3 m4 (b+1) (g4++[(a,b,gi (gx times a.toNat) b.toNat)])))) ∧
(¬(0<(gi (gx times a.toNat) b.toNat)) →
(In64 (b+1) ∧
∃ m5,m5<m3∧I3 m5 (b+1) g4)))))) ∧
(¬(b<n) →
(In64 (a+1) ∧
∃ m6,m6<m2∧I2 m6 (a+1) g4))))) ∧
(¬(a<n) →
R n g3)))
theorem pok_r08_Joined{O:Nat→Prop}{w:World}{n times Aa Ab Ac}{R:Int→(List E3)→Prop}(h:yeJ n times R)(hO:∀ k,O k→k<w.heap.size)(hA0:(FP.sl (cL cI) Aa Ab Ac times).P O w) :
    Calls Tryz.prog 150 #[ii n,.slice Aa Ab Ac] w fun e w'=>∃ r r2 Ar lr cr,e = .returned (.agg #[ii r,.slice Ar lr cr])∧Sep w no O w' (rl [Res.own c3 79 Ar lr cr r2])∧R r r2:=by
  unfold yeJ at h;have hS:Sep w no O w (rl [Res.ro (FP.sl (cL cI) Aa Ab Ac times)]):=Sep.startl hO [(FP.sl (cL cI) Aa Ab Ac times)] ⟨hA0,trivial⟩;refine yap (l:=[ii n,.slice Aa Ab Ac]) func150 rfl ntmps150 zY (zs (zn (yaO yao ?_)));intro g w2 hN;replace hS:=hS.neu 1 [ii 0,.slice none 0 0] hN;clear hN;refine zb (yaa (zs (zM (ii n) (zn (yck (l:=[(0,(ii n))]) (cells:=[ii n,.slice none 0 0]) (places:=[(0,1),(1,1)]) (bp1 rfl) underlying24 yao (by kernel_rfl) rfl ?_)))));refine zb (zn (yaO yao ?_));intro g2 w3 hN;replace hS:=hS.neu 2 [ii 0,.slice none 0 0] hN;clear hN;refine zb (zo (yaV (b:=g2) (o:=0) (cells:=#[ii n,.slice none 0 0]) rfl rfl yao rfl rfl (yaI (hS.bx 2 rfl) zY) ?_));intro w4 e1;replace hS:=hS.bstn 2 rfl 0 [ii n,.slice none 0 0] e1;clear e1;refine zb (yaa (yaf (zs (zQ (ii 0) (yaa (yai ?_))))));replace hS:=hS.nil 3 rfl c3 79;obtain ⟨I2,⟨m0,h0⟩,hr⟩:=h;refine yaz (fun m E ds w'=>∃ a g3 Ag lg cg,I2 m a g3∧ds=[]∧E 0=(ii n)∧E 1 = .slice Aa Ab Ac∧E 4 = .pointer (some ⟨g,0,none⟩)∧E 5 = .pointer (some ⟨g2,0,none⟩)∧E 6=(ii a)∧Sep w no O w' (rl [Res.ro (FP.sl (cL cI) Aa Ab Ac times),Res.box 24 g [ii 0,.slice none 0 0],Res.box 24 g2 [ii n,.slice Ag lg cg],Res.own c3 79 Ag lg cg g3])) m0 ⟨_,_,_,_,_,h0,rfl,rfl,rfl,rfl,rfl,rfl,hS.sel [0,1,2,3]⟩ ?_;clear h0 hS;rintro m2 E ds w5 ⟨a,g3,Ag,lg,cg,h,rfl,H0,H1,H4,H5,H6,hS⟩ ag;replace h:=hr m2 a g3 h;clear hr;refine yaf (zs (zH H6 (zH H0 (zq zL (yaa ?_)))));by_cases hp:a<n
  · replace h:=h.1 hp;refine zc hp (yag (yaf (yai (zs (zH H6 (zQ (ii a) (yaa (yai ?_))))))));obtain ⟨I3,⟨m0,h0⟩,hr⟩:=h;refine yaz (fun m E ds w'=>∃ b g4 Ag2 lg2 cg2,I3 m b g4∧ds=[]∧E 0=(ii n)∧E 1 = .slice Aa Ab Ac∧E 4 = .pointer (some ⟨g,0,none⟩)∧E 5 = .pointer (some ⟨g2,0,none⟩)∧E 6=(ii a)∧E 7=(ii b)∧Sep w no O w' (rl [Res.ro (FP.sl (cL cI) Aa Ab Ac times),Res.box 24 g [ii 0,.slice none 0 0],Res.box 24 g2 [ii n,.slice Ag2 lg2 cg2],Res.own c3 79 Ag2 lg2 cg2 g4])) m0 ⟨_,_,_,_,_,h0,rfl,H0,H1,H4,H5,H6,rfl,hS.sel [0,1,2,3]⟩ ?_;clear h0 hS;rintro m3 E ds w6 ⟨b,g4,Ag2,lg2,cg2,h,rfl,H0,H1,H4,H5,H6,H7,hS⟩ again2;replace h:=hr m3 b g4 h;clear hr;refine yaf (zs (zH H7 (zH H0 (zq zL (yaa ?_)))));by_cases hp2:b<n
    · replace h:=h.1 hp2;refine zc hp2 (yag (yaf (yai (zs (zH H1 (zH H6 ?_))))));obtain ⟨hx,h⟩:=h;refine zq (zi underlying25 yaL (yaP (hS.rdr 0 rfl) hx)) ?_;obtain ⟨A,l,c,hc,hq⟩:=hS.el 0 rfl hx 4 5 rfl rfl (by decide);replace hS:=hq;clear hq;refine zq (yau (v:=(.slice A l c)) rfl underlying29 rfl (hS.clr 5 rfl)) (zH H7 ?_);obtain ⟨hx2,h⟩:=h;refine zq (zi underlying29 yaj (yaP (hS.rdr 4 rfl) hx2)) (zq (yau (v:=(ii (gi (gx times a.toNat) b.toNat))) rfl underlying3 rfl (rd_1 (hS.rdr 4 rfl) hx2 (fun q=>yaY q) rfl)) ?_);refine zq zG (yaa ?_);by_cases hp3:0<(gi (gx times a.toNat) b.toNat)
      · replace h:=h.1 hp3;refine zc hp3 (yaT [0,1,2,3,4,5,6,7,8,9,10,11,12,13,14,15] (fun i=>match i with | 11=>[0,1] | 12=>[0,1] | _=>[]) yaD (by kernel_rfl) (by kernel_rfl) ?_);replace hS:=hS.drew;refine zp (yan H5 underlying24 rfl ybv) (zp (zl underlying22 (hS.bc 2 1)) (zp (yad H6) (zp (yad H7) (zp (yad H1) (zp (yad H6) (zp (zi underlying25 yaL (yaP (hS.rdr 0 rfl) hx)) ?_))))));obtain ⟨A2,l2,c4,hc2,hq⟩:=hS.el 0 rfl hx 6 7 rfl rfl (by decide);replace hS:=hq;clear hq;refine zp (yau (v:=(.slice A2 l2 c4)) rfl underlying29 rfl (hS.clr 7 rfl)) (zp (yad H7) (zp (zi underlying29 yaj (yaP (hS.rdr 6 rfl) hx2)) (zp (yau (v:=(ii (gi (gx times a.toNat) b.toNat))) rfl underlying3 rfl (rd_1 (hS.rdr 6 rfl) hx2 (fun q=>yaY q) rfl)) ?_)));refine rp_n rfl rfl rfl rfl (yck (l:=[(0,(ii a)),(1,(ii b)),(2,(ii (gi (gx times a.toNat) b.toNat)))]) (cells:=[ii a,ii b,(ii (gi (gx times a.toNat) b.toNat))]) (places:=[(0,1),(1,1),(2,1)]) (bp3 rfl rfl rfl) underlying79 yaK (by kernel_rfl) rfl ?_);refine ⟨⟨fun hh=>zZ hh,⟨fun hh=>zZ hh,⟨fun hh=>zZ hh,⟨fun hh=>zZ hh,⟨fun hh=>zZ hh,⟨fun hh=>zZ hh,⟨fun hh=>zZ hh,⟨fun hh=>zZ hh,⟨fun hh=>zZ hh,⟨fun _=>(zl underlying22 (hS.bc 2 1)),⟨fun _=>(yan H5 underlying24 rfl ybv),trivial⟩⟩⟩⟩⟩⟩⟩⟩⟩⟩⟩,?_⟩;refine rp_n rfl rfl rfl rfl (yaX (l:=[(0,(.agg #[ii a,ii b,(ii (gi (gx times a.toNat) b.toNat))]))]) (cells:=[ii a,ii b,(ii (gi (gx times a.toNat) b.toNat))]) (bp1 rfl) underlying22 yaK rfl rfl ?_);intro g5 w7 hN;replace hS:=hS.litf (n:=1) 8 rfl (fP (fI .i64) (fP (fI .i64) (fI .i64))) hN ([(a,b,gi (gx times a.toNat) b.toNat)]:List E3) rfl (by decide) rfl;clear hN;refine ⟨⟨fun hh=>zZ hh,⟨fun hh=>zZ hh,⟨fun hh=>zZ hh,⟨fun hh=>zZ hh,⟨fun hh=>zZ hh,⟨fun hh=>zZ hh,⟨fun hh=>zZ hh,⟨fun hh=>zZ hh,⟨fun hh=>zZ hh,⟨fun _=>(zl underlying22 (hS.bc 2 1)),⟨fun _=>(yan H5 underlying24 rfl ybv),trivial⟩⟩⟩⟩⟩⟩⟩⟩⟩⟩⟩,?_⟩;obtain ⟨hx3,h⟩:=h;refine rp_n rfl rfl rfl rfl (ygp (c:=c3) rfl rfl underlying22 underlying22 yaK rfl rfl (by decide) hS 3 rfl (hS.yo 8 rfl) hx3 ?_);clear hS;intro A3 c5 w8 hS;refine zb (zp (yan H5 underlying24 rfl ybv) (yjg rfl rfl rfl (zt (.slice A3 (lg2+1) c5) ybv (hS.bwr 2 rfl (j:=1) rfl) ?_)));intro w9 e1;replace hS:=hS.bst 2 rfl 1 (.slice A3 (lg2+1) c5) e1;clear e1;refine zb (yaZ (yah (zr (zH H7 ?_))));obtain ⟨hi,h⟩:=h;refine zq (zA hi) (zQ (ii (b+1)) (yaa ?_));obtain ⟨mq,hlt,h⟩:=h;exact again2 mq _ _ _ ⟨_,_,_,_,_,h,rfl,H0,H1,H4,H5,H6,rfl,hS.sel [0,1,2,3]⟩ hlt
      · replace h:=h.2 hp3;refine zd hp3 (yag (yah (zr (zH H7 ?_))));obtain ⟨hi2,h⟩:=h;refine zq (zA hi2) (zQ (ii (b+1)) (yaa ?_));obtain ⟨mq,hlt,h⟩:=h;exact again2 mq _ _ _ ⟨_,_,_,_,_,h,rfl,H0,H1,H4,H5,H6,rfl,hS.sel [0,1,2,3]⟩ hlt
    · replace h:=h.2 hp2;refine zd hp2 (yax rfl (yah (zr (zH H6 ?_))));obtain ⟨hi3,h⟩:=h;refine zq (zA hi3) (zQ (ii (a+1)) (yaa ?_));obtain ⟨mq,hlt,h⟩:=h;exact ag mq _ _ _ ⟨_,_,_,_,_,h,rfl,H0,H1,H4,H5,rfl,hS.sel [0,1,2,3]⟩ hlt
  · replace h:=h.2 hp;refine zd hp (yax rfl (zs (zq (yaq (vs:=[ii n,.slice Ag lg cg]) H5 underlying24 rfl yao ⟨hS.bc 2 0,hS.bc 2 1,trivial⟩) (zo (yaV (b:=g) (o:=0) (cells:=#[ii n,.slice Ag lg cg]) H4 rfl yao rfl rfl (yaI (hS.bx 1 rfl) zY) ?_)))));intro w10 e1;replace hS:=hS.bstn 1 rfl 0 [ii n,.slice Ag lg cg] e1;clear e1;exact zb (yaa (yg1 rfl (rv_n (vs:=[ii n,.slice Ag lg cg]) H4 underlying24 rfl yao ⟨hS.bc 1 0,hS.bc 1 1,trivial⟩) ⟨_,_,_,_,_,rfl,hS.sel [3],h⟩))
def yd9(g:Int)(g2:List E3)(set2:List Int)(R:Int→(List E3)→Prop):Prop :=
((0≤(set2.length:Int)∧(set2.length:Int)≤1000) ∧
(∃ I2:Nat→Int→(List (List Int))→Prop,(∃ m0,I2 m0 0 (List.replicate (set2.length:Int).toNat (List.replicate (set2.length:Int).toNat (0:Int))))∧∀ m2 i times,I2 m2 i times → 
((i<(set2.length:Int) →
(∃ I3:Nat→Int→(List (List Int))→Prop,(∃ m0,I3 m0 i times)∧∀ m3 k times2,I3 m3 k times2 → 
((k<(set2.length:Int) →
((0≤i∧i<(times2.length:Int)) ∧
((0≤i∧i<(set2.length:Int)) ∧
((0≤k∧k<(set2.length:Int)) ∧
yca g g2 (gi set2 i.toNat) (gi set2 k.toNat) (fun r =>
((0≤k∧k<((gx times2 i.toNat).length:Int)) ∧
(In64 (k+1) ∧
∃ m4,m4<m3∧I3 m4 (k+1) (times2.set i.toNat ((gx times2 i.toNat).set k.toNat r))))))))) ∧
(¬(k<(set2.length:Int)) →
(In64 (i+1) ∧
∃ m5,m5<m2∧I2 m5 (i+1) times2))))) ∧
(¬(i<(set2.length:Int)) →
yeJ (set2.length:Int) times (fun r2 r3 =>
R r2 r3)))))
theorem yjR{O:Nat→Prop}{w:World}{g g2 set2 Ag lg cg Aa Ab Ac}{R:Int→(List E3)→Prop}(h:yd9 g g2 set2 R)(hO:∀ k,O k→k<w.heap.size)(hA0:(FP.sl c3 Ag lg cg g2).P O w)(hA1:(FP.sl cI Aa Ab Ac set2).P O w) :
    Calls Tryz.prog 122 #[(.agg #[ii g,.slice Ag lg cg]),.slice Aa Ab Ac] w fun e w'=>∃ r4 r5 Ar2 lr2 cr2,e = .returned (.agg #[ii r4,.slice Ar2 lr2 cr2])∧Sep w no O w' (rl [Res.own c3 79 Ar2 lr2 cr2 r5])∧R r4 r5:=by
  unfold yd9 at h;have hS:Sep w no O w (rl [Res.ro (FP.sl c3 Ag lg cg g2),Res.ro (FP.sl cI Aa Ab Ac set2)]):=Sep.startl hO [(FP.sl c3 Ag lg cg g2),(FP.sl cI Aa Ab Ac set2)] ⟨hA0,hA1,trivial⟩;refine yap (l:=[(.agg #[ii g,.slice Ag lg cg]),.slice Aa Ab Ac]) func122 rfl ntmps122 zY (zs (zn (ya8 (v:=(.agg #[ii g,.slice Ag lg cg])) rfl ?_)));intro g3 w2 hN;replace hS:=hS.neu 2 [ii g,.slice Ag lg cg] hN;clear hN;refine zb (zn (yaO yao ?_));intro g4 w3 hN;replace hS:=hS.neu 3 [ii 0,.slice none 0 0] hN;clear hN;refine zb (yaa (zs (zM (.slice Aa Ab Ac) (zq (yaF (n:=set2.length) rfl underlying29 (yaE (hS.rdr 1 rfl))) ?_))));obtain ⟨hx,h⟩:=h;refine zn (yam rfl (am1 rfl) enter_148 ((tab_r08_Table hx hS.blt).mono ?_));rintro _ w4 ⟨At,lt,ct,Gt,rfl,hC⟩;replace hS:=hS.call2 hC 4 0 5 1 rfl rfl (by decide) (by decide);clear hC;refine ⟨_,rfl,?_⟩;refine zb (zQ (.slice At lt ct) (yaa (yaf (zs (zQ (ii 0) (yaa (yai ?_)))))));obtain ⟨I2,⟨m0,h0⟩,hr⟩:=h;refine yaz (fun m E ds w'=>∃ i times,I2 m i times∧ds=[]∧E 1 = .slice Aa Ab Ac∧E 2 = .pointer (some ⟨g3,0,none⟩)∧E 4 = .pointer (some ⟨g4,0,none⟩)∧E 5 = .slice At lt ct∧E 6=(ii i)∧Sep w no O w' (rl [Res.ro (FP.sl cI Aa Ab Ac set2),Res.box 24 g3 [ii g,.slice Ag lg cg],Res.ro (FP.sl c3 Ag lg cg g2),Res.box 24 g4 [ii 0,.slice none 0 0],Res.own cA 29 At lt ct (ows Gt times),Res.rows 3 Gt times])) m0 ⟨_,_,h0,rfl,rfl,rfl,rfl,rfl,rfl,hS.sel [1,2,0,3,4,5]⟩ ?_;clear h0 hS;rintro m2 E ds w5 ⟨i,times,h,rfl,H1,H2,H4,H5,H6,hS⟩ ag;replace h:=hr m2 i times h;clear hr;refine yaf (zs (zH H6 (zH H1 (zq (yaF (n:=set2.length) rfl underlying29 (yaE (hS.rdr 0 rfl))) (zq zL (yaa ?_))))));by_cases hp:i<(set2.length:Int)
  · replace h:=h.1 hp;refine zc hp (yag (yaf (yai (zs (zH H6 (zQ (ii i) (yaa (yai ?_))))))));obtain ⟨I3,⟨m0,h0⟩,hr⟩:=h;refine yaz (fun m E ds w'=>∃ k times2,I3 m k times2∧ds=[]∧E 1 = .slice Aa Ab Ac∧E 2 = .pointer (some ⟨g3,0,none⟩)∧E 4 = .pointer (some ⟨g4,0,none⟩)∧E 5 = .slice At lt ct∧E 6=(ii i)∧E 7=(ii k)∧Sep w no O w' (rl [Res.ro (FP.sl cI Aa Ab Ac set2),Res.box 24 g3 [ii g,.slice Ag lg cg],Res.ro (FP.sl c3 Ag lg cg g2),Res.box 24 g4 [ii 0,.slice none 0 0],Res.own cA 29 At lt ct (ows Gt times2),Res.rows 3 Gt times2])) m0 ⟨_,_,h0,rfl,H1,H2,H4,H5,H6,rfl,hS.sel [0,1,2,3,4,5]⟩ ?_;clear h0 hS;rintro m3 E ds w6 ⟨k,times2,h,rfl,H1,H2,H4,H5,H6,H7,hS⟩ again2;replace h:=hr m3 k times2 h;clear hr;refine yaf (zs (zH H7 (zH H1 (zq (yaF (n:=set2.length) rfl underlying29 (yaE (hS.rdr 0 rfl))) (zq zL (yaa ?_))))));by_cases hp2:k<(set2.length:Int)
    · replace h:=h.1 hp2;refine zc hp2 (yag (yaf (yai (yaT [0,1,2,3,4,5,6,7,8,9,10,11,12,13,14,15,16] (fun i=>match i with | 14=>[0,1,2,3,4] | _=>[]) yaD (by kernel_rfl) (by kernel_rfl) ?_))));replace hS:=hS.drew;refine zp (yad H5) (zp (yad H6) ?_);obtain ⟨hx2,h⟩:=h;refine zp (zi underlying25 yaL (hS.rowix 5 4 rfl rfl hx2)) (zp (yau (v:=(.slice (rowA Gt i) ((gx times2 i.toNat).length) ((gx times2 i.toNat).length))) rfl underlying29 rfl (hS.rowcell 5 4 rfl rfl hx2)) (zp (yad H7) (zp (yaq (vs:=[ii g,.slice Ag lg cg]) H2 underlying24 rfl yao ⟨hS.bc 1 0,hS.bc 1 1,trivial⟩) (zp (yad H1) (zp (yad H6) ?_)))));obtain ⟨hx3,h⟩:=h;refine zp (zi underlying29 yaj (yaP (hS.rdr 0 rfl) hx3)) (zp (yau (v:=(ii (gi set2 i.toNat))) rfl underlying3 rfl (rd_1 (hS.rdr 0 rfl) hx3 (fun q=>yaY q) rfl)) ?_);refine zp (yad H1) (zp (yad H7) ?_);obtain ⟨hx4,h⟩:=h;refine zp (zi underlying29 yaj (yaP (hS.rdr 0 rfl) hx4)) (zp (yau (v:=(ii (gi set2 k.toNat))) rfl underlying3 rfl (rd_1 (hS.rdr 0 rfl) hx4 (fun q=>yaY q) rfl)) ?_);refine rp_n rfl rfl rfl rfl (yam rfl (am3 rfl rfl rfl) ykA ((ygq h (yaB _) (hS.rdr 2 rfl)).mono ?_));rintro _ w7 ⟨r,rfl,hC,h⟩;replace hS:=hS.pur hC.pure;refine ⟨_,rfl,?_⟩;refine ⟨⟨fun hh=>zZ hh,⟨fun hh=>zZ hh,⟨fun hh=>zZ hh,⟨fun hh=>zZ hh,⟨fun hh=>zZ hh,⟨fun hh=>zZ hh,⟨fun hh=>zZ hh,⟨fun hh=>zZ hh,⟨fun hh=>zZ hh,⟨fun _=>(yad H7),⟨fun _=>(yau (v:=(Value.slice (rowA Gt i) ((gx times2 i.toNat).length) ((gx times2 i.toNat).length))) rfl underlying29 rfl (hS.rowcell 5 4 rfl rfl hx2)),⟨fun _=>(zi underlying25 yaL (hS.rowix 5 4 rfl rfl hx2)),⟨fun _=>(yad H6),⟨fun _=>(yad H5),trivial⟩⟩⟩⟩⟩⟩⟩⟩⟩⟩⟩⟩⟩⟩,?_⟩;obtain ⟨hx5,h⟩:=h;refine zp (zi underlying29 yaj (yaP (hS.rowfp 5 rfl hx2) hx5)) (yjg rfl rfl rfl (zt (ii r) yaj (hS.rowwr 5 rfl hx2 hx5) ?_));intro w8 e1;replace hS:=hS.rowst 5 rfl hx2 hx5 r e1;clear e1;replace hS:=hS.rowre 4 rfl (T':=(times2.set i.toNat ((gx times2 i.toNat).set k.toNat r))) (ows_set (yfY (tn_lt hx2)) (List.length_set ..));refine zb (yaZ (yah (zr (zH H7 ?_))));obtain ⟨hi,h⟩:=h;refine zq (zA hi) (zQ (ii (k+1)) (yaa ?_));obtain ⟨mq,hlt,h⟩:=h;exact again2 mq _ _ _ ⟨_,_,h,rfl,H1,H2,H4,H5,H6,rfl,hS.sel [0,1,2,3,4,5]⟩ hlt
    · replace h:=h.2 hp2;refine zd hp2 (yax rfl (yah (zr (zH H6 ?_))));obtain ⟨hi2,h⟩:=h;refine zq (zA hi2) (zQ (ii (i+1)) (yaa ?_));obtain ⟨mq,hlt,h⟩:=h;exact ag mq _ _ _ ⟨_,_,h,rfl,H1,H2,H4,H5,rfl,hS.sel [0,1,2,3,4,5]⟩ hlt
  · replace h:=h.2 hp;refine zd hp (yax rfl (zs (zH H1 (zq (yaF (n:=set2.length) rfl underlying29 (yaE (hS.rdr 0 rfl))) (zH H5 ?_)))));replace hS:=hS.rowfrz 5 4 rfl rfl rfl;refine zn (yam rfl (am2 rfl rfl) enter_150 ((pok_r08_Joined h (yaB _) (hS.rdo 4 rfl)).mono ?_));rintro _ w9 ⟨r2,r3,Ar,lr,cr,rfl,hC,h⟩;replace hS:=hS.call1 (hC.widen (yde (ya0 (fP (fI .i64) (fP (fI .i64) (fI .i64))) _ _ _ _ _) ydA) hS.blt) 6 0 rfl;clear hC;refine ⟨_,rfl,?_⟩;refine zb (zo (yaV (b:=g4) (o:=0) (cells:=#[ii r2,.slice Ar lr cr]) H4 rfl yao rfl rfl (yaI (hS.bx 3 rfl) zY) ?_));intro w10 e1;replace hS:=hS.bstn 3 rfl 0 [ii r2,.slice Ar lr cr] e1;clear e1;exact zb (yaa (yg1 rfl (rv_n (vs:=[ii r2,.slice Ar lr cr]) H4 underlying24 rfl yao ⟨hS.bc 3 0,hS.bc 3 1,trivial⟩) ⟨_,_,_,_,_,rfl,hS.sel [6],h⟩))
def yg0(g:Int)(g2:List E3)(l:List Int)(R:Int→Prop):Prop :=
yeQ g g2 l (fun r =>
((r=0 →
(((l.length:Int)=0 →
R 14) ∧
(¬((l.length:Int)=0) →
yd9 g g2 l (fun r2 r3 =>
ycz r2 r3 (fun r4 =>
((r4=true →
R 0) ∧
(¬(r4=true) →
R 13))))))) ∧
(¬(r=0) →
R r)))
theorem pok_r40_egg{O:Nat→Prop}{w:World}{g g2 l Ag lg cg Al ll cl}{R:Int→Prop}(h:yg0 g g2 l R)(hO:∀ k,O k→k<w.heap.size)(hA0:(FP.sl c3 Ag lg cg g2).P O w)(hA1:(FP.sl cI Al ll cl l).P O w) :
    Calls Tryz.prog 77 #[(.agg #[ii g,.slice Ag lg cg]),.slice Al ll cl] w fun e w'=>∃ r5,e = .returned (ii r5)∧Sep w no O w' (rl [])∧R r5:=by
  unfold yg0 at h;have hS:Sep w no O w (rl [Res.ro (FP.sl c3 Ag lg cg g2),Res.ro (FP.sl cI Al ll cl l)]):=Sep.startl hO [(FP.sl c3 Ag lg cg g2),(FP.sl cI Al ll cl l)] ⟨hA0,hA1,trivial⟩;refine yap (l:=[(.agg #[ii g,.slice Ag lg cg]),.slice Al ll cl]) func77 rfl ntmps77 zY (zs (zn (ya8 (v:=(.agg #[ii g,.slice Ag lg cg])) rfl ?_)));intro g3 w2 hN;replace hS:=hS.neu 2 [ii g,.slice Ag lg cg] hN;clear hN;refine zb (zQ (ii 0) (yaa (yaf (zs (zq (yaq (vs:=[ii g,.slice Ag lg cg]) rfl underlying24 rfl yao ⟨hS.bc 2 0,hS.bc 2 1,trivial⟩) (zM (.slice Al ll cl) (zn (yam rfl (am2 rfl rfl) enter_46 ((yln h (yaB _) (hS.rdr 0 rfl) (hS.rdr 1 rfl)).mono ?_)))))))));rintro _ w3 ⟨r,rfl,hC,h⟩;replace hS:=hS.pur hC.pure;refine ⟨_,rfl,?_⟩;refine zb (zQ (ii r) (yaa (zs (zM (ii r) (zq zN (yaa ?_))))));by_cases hp:r=0
  · replace h:=h.1 hp;refine ze hp (yag (yaf (zs (zM (.slice Al ll cl) (zq (yaF (n:=l.length) rfl underlying29 (yaE (hS.rdr 1 rfl))) (zq zE (yaa ?_)))))));by_cases hp2:(l.length:Int)=0
    · replace h:=h.1 hp2;exact zc hp2 (zs (zQ (ii 14) (yaa (yak rfl rfl ⟨_,rfl,hS.sel [],h⟩))))
    · replace h:=h.2 hp2;refine zd hp2 (yag (yaf (zs (zq (yaq (vs:=[ii g,.slice Ag lg cg]) rfl underlying24 rfl yao ⟨hS.bc 2 0,hS.bc 2 1,trivial⟩) (zM (.slice Al ll cl) (zn (yam rfl (am2 rfl rfl) enter_122 ((yjR h (yaB _) (hS.rdr 0 rfl) (hS.rdr 1 rfl)).mono ?_))))))));rintro _ w4 ⟨r2,r3,Ar,lr,cr,rfl,hC,h⟩;replace hS:=hS.call1 (hC.widen (yde (ya0 (fP (fI .i64) (fP (fI .i64) (fI .i64))) _ _ _ _ _) ydA) hS.blt) 3 0 rfl;clear hC;refine ⟨_,rfl,?_⟩;refine zb (zn (yam rfl (am1 rfl) enter_91 ((yfF h (yaB _) (hS.rdo 3 rfl)).mono ?_)));rintro _ w5 ⟨r4,rfl,hC,h⟩;replace hS:=hS.pur hC.pure;refine ⟨_,rfl,?_⟩;refine zb (zq (ycX rfl) (yaa ?_));by_cases hp3:r4=true
      · replace h:=h.1 hp3;exact yat (zC (zB hp3)) (yag (zs (zQ (ii 0) (yaa (yak rfl rfl ⟨_,rfl,hS.sel [],h⟩)))))
      · replace h:=h.2 hp3;exact yar (zC (zB (zI hp3))) (zs (zQ (ii 13) (yaa (yak rfl rfl ⟨_,rfl,hS.sel [],h⟩))))
  · replace h:=h.2 hp;exact zf hp (zs (zM (ii r) (zQ (ii r) (yaa (yak rfl rfl ⟨_,rfl,hS.sel [],h⟩)))))
def yf1(g:Int)(g2:List E3)(s:List (List Int))(R:Int→Prop):Prop :=
((256<(s.length:Int) →
R 5) ∧
(¬(256<(s.length:Int)) →
(∃ I2:Nat→Int→Prop,(∃ m0,I2 m0 0)∧∀ m2 i,I2 m2 i → 
((i<(s.length:Int) →
((0≤i∧i<(s.length:Int)) ∧
yg0 g g2 (gx s i.toNat) (fun r =>
((r=0 →
(In64 (i+1) ∧
∃ m3,m3<m2∧I2 m3 (i+1))) ∧
(¬(r=0) →
R r))))) ∧
(¬(i<(s.length:Int)) →
R 0)))))
theorem ylo{O:Nat→Prop}{w:World}{g g2 s Ag lg cg As ls cs}{R:Int→Prop}(h:yf1 g g2 s R)(hO:∀ k,O k→k<w.heap.size)(hA0:(FP.sl c3 Ag lg cg g2).P O w)(hA1:(FP.sl (cL cI) As ls cs s).P O w) :
    Calls Tryz.prog 28 #[(.agg #[ii g,.slice Ag lg cg]),.slice As ls cs] w fun e w'=>∃ r2,e = .returned (ii r2)∧Sep w no O w' (rl [])∧R r2:=by
  unfold yf1 at h;have hS:Sep w no O w (rl [Res.ro (FP.sl c3 Ag lg cg g2),Res.ro (FP.sl (cL cI) As ls cs s)]):=Sep.startl hO [(FP.sl c3 Ag lg cg g2),(FP.sl (cL cI) As ls cs s)] ⟨hA0,hA1,trivial⟩;refine yap (l:=[(.agg #[ii g,.slice Ag lg cg]),.slice As ls cs]) func28 rfl ntmps28 zY (zs (zn (ya8 (v:=(.agg #[ii g,.slice Ag lg cg])) rfl ?_)));intro g3 w2 hN;replace hS:=hS.neu 2 [ii g,.slice Ag lg cg] hN;clear hN;refine zb (zQ (ii 0) (yaa (yaf (zs (zM (.slice As ls cs) (zq (yaF (n:=s.length) rfl underlying25 (yaE (hS.rdr 1 rfl))) (zq zG (yaa ?_))))))));by_cases hp:256<(s.length:Int)
  · replace h:=h.1 hp;exact zc hp (zs (zQ (ii 5) (yaa (yak rfl rfl ⟨_,rfl,hS.sel [],h⟩))))
  · replace h:=h.2 hp;refine zd hp (yag (yaf (zs (zQ (ii 0) (yaa (yai ?_))))));obtain ⟨I2,⟨m0,h0⟩,hr⟩:=h;refine yaz (fun m E ds w'=>∃ i,I2 m i∧ds=[]∧E 1 = .slice As ls cs∧E 2 = .pointer (some ⟨g3,0,none⟩)∧E 5=(ii i)∧Sep w no O w' (rl [Res.ro (FP.sl (cL cI) As ls cs s),Res.box 24 g3 [ii g,.slice Ag lg cg],Res.ro (FP.sl c3 Ag lg cg g2)])) m0 ⟨_,h0,rfl,rfl,rfl,rfl,hS.sel [1,2,0]⟩ ?_;clear h0 hS;rintro m2 E ds w3 ⟨i,h,rfl,H1,H2,H5,hS⟩ ag;replace h:=hr m2 i h;clear hr;refine yaf (zs (zH H5 (zH H1 (zq (yaF (n:=s.length) rfl underlying25 (yaE (hS.rdr 0 rfl))) (zq zL (yaa ?_))))));by_cases hp2:i<(s.length:Int)
    · replace h:=h.1 hp2;refine zc hp2 (yag (yaf (yai (yaf (yaT [0,1,2,3,4,5,6] st0 yaD (by kernel_rfl) (by kernel_rfl) ?_)))));replace hS:=hS.drew;refine zp (yaq (vs:=[ii g,.slice Ag lg cg]) H2 underlying24 rfl yao ⟨hS.bc 1 0,hS.bc 1 1,trivial⟩) (zp (yad H1) (zp (yad H5) ?_));obtain ⟨hx,h⟩:=h;refine zp (zi underlying25 yaL (yaP (hS.rdr 0 rfl) hx)) ?_;obtain ⟨A,l,c,hc,hq⟩:=hS.el 0 rfl hx 3 4 rfl rfl (by decide);replace hS:=hq;clear hq;refine zp (yau (v:=(.slice A l c)) rfl underlying29 rfl (hS.clr 4 rfl)) (rp_n rfl rfl rfl rfl (yam rfl (am2 rfl rfl) enter_77 ((pok_r40_egg h (yaB _) (hS.rdr 2 rfl) (hS.rdr 3 rfl)).mono ?_)));rintro _ w4 ⟨r,rfl,hC,h⟩;replace hS:=hS.pur hC.pure;refine ⟨_,rfl,?_⟩;refine zb (zp (za (ii r)) (yaZ (zs (zM (ii r) (zq zN (yaa ?_))))));by_cases hp3:r=0
      · replace h:=h.1 hp3;refine ze hp3 (yag (yah (zr (zH H5 ?_))));obtain ⟨hi,h⟩:=h;refine zq (zA hi) (zQ (ii (i+1)) (yaa ?_));obtain ⟨mq,hlt,h⟩:=h;exact ag mq _ _ _ ⟨_,h,rfl,H1,H2,rfl,hS.sel [0,1,2]⟩ hlt
      · replace h:=h.2 hp3;exact zf hp3 (zs (zM (ii r) (zQ (ii r) (yaa (yak rfl rfl ⟨_,rfl,hS.sel [],h⟩)))))
    · replace h:=h.2 hp2;exact zd hp2 (yax rfl (zs (zQ (ii 0) (yaa (yak rfl rfl ⟨_,rfl,hS.sel [],h⟩)))))
def yeH(g:Int)(g2:List E3)(R:Int→Prop):Prop :=
ydy g g2 (fun r =>
((r=0 →
ycz g g2 (fun r2 =>
((r2=true →
R 0) ∧
(¬(r2=true) →
R 13)))) ∧
(¬(r=0) →
R r)))
theorem yj3{O:Nat→Prop}{w:World}{g g2 Ag lg cg}{R:Int→Prop}(h:yeH g g2 R)(hO:∀ k,O k→k<w.heap.size)(hA0:(FP.sl c3 Ag lg cg g2).P O w) :
    Calls Tryz.prog 43 #[(.agg #[ii g,.slice Ag lg cg])] w fun e w'=>∃ r3,e = .returned (ii r3)∧Sep w no O w' (rl [])∧R r3:=by
  unfold yeH at h;have hS:Sep w no O w (rl [Res.ro (FP.sl c3 Ag lg cg g2)]):=Sep.startl hO [(FP.sl c3 Ag lg cg g2)] ⟨hA0,trivial⟩;refine yap (l:=[(.agg #[ii g,.slice Ag lg cg])]) func43 rfl ntmps43 zY (zs (zn (ya8 (v:=(.agg #[ii g,.slice Ag lg cg])) rfl ?_)));intro g3 w2 hN;replace hS:=hS.neu 1 [ii g,.slice Ag lg cg] hN;clear hN;refine zb (zQ (ii 0) (yaa (yaf (zs (zq (yaq (vs:=[ii g,.slice Ag lg cg]) rfl underlying24 rfl yao ⟨hS.bc 1 0,hS.bc 1 1,trivial⟩) (zn (yam rfl (am1 rfl) enter_90 ((yhz h (yaB _) (hS.rdr 0 rfl)).mono ?_))))))));rintro _ w3 ⟨r,rfl,hC,h⟩;replace hS:=hS.pur hC.pure;refine ⟨_,rfl,?_⟩;refine zb (zQ (ii r) (yaa (zs (zM (ii r) (zq zN (yaa ?_))))));by_cases hp:r=0
  · replace h:=h.1 hp;refine ze hp (yag (yaf (zs (zq (yaq (vs:=[ii g,.slice Ag lg cg]) rfl underlying24 rfl yao ⟨hS.bc 1 0,hS.bc 1 1,trivial⟩) (zn (yam rfl (am1 rfl) enter_91 ((yfF h (yaB _) (hS.rdr 0 rfl)).mono ?_)))))));rintro _ w4 ⟨r2,rfl,hC,h⟩;replace hS:=hS.pur hC.pure;refine ⟨_,rfl,?_⟩;refine zb (zq (ycX rfl) (yaa ?_));by_cases hp2:r2=true
    · replace h:=h.1 hp2;exact yat (zC (zB hp2)) (yag (zs (zQ (ii 0) (yaa (yak rfl rfl ⟨_,rfl,hS.sel [],h⟩)))))
    · replace h:=h.2 hp2;exact yar (zC (zB (zI hp2))) (zs (zQ (ii 13) (yaa (yak rfl rfl ⟨_,rfl,hS.sel [],h⟩))))
  · replace h:=h.2 hp;exact zf hp (zs (zM (ii r) (zQ (ii r) (yaa (yak rfl rfl ⟨_,rfl,hS.sel [],h⟩)))))
def ycW(l:List Int)(v:Int)(R:Bool→Prop):Prop :=
(∃ I2:Nat→Int→Prop,(∃ m0,I2 m0 0)∧∀ m2 i,I2 m2 i → 
((i<(l.length:Int) →
((0≤i∧i<(l.length:Int)) ∧
(((gi l i.toNat)=v →
R true) ∧
(¬((gi l i.toNat)=v) →
(In64 (i+1) ∧
∃ m3,m3<m2∧I2 m3 (i+1)))))) ∧
(¬(i<(l.length:Int)) →
R false)))
theorem yeF{O:Nat→Prop}{w:World}{l v Al ll cl}{R:Bool→Prop}(h:ycW l v R)(hO:∀ k,O k→k<w.heap.size)(hA0:(FP.sl cI Al ll cl l).P O w) :
    Calls Tryz.prog 95 #[.slice Al ll cl,ii v] w fun e w'=>∃ r,e = .returned (.bool (r))∧Sep w no O w' (rl [])∧R r:=by
  unfold ycW at h;have hS:Sep w no O w (rl [Res.ro (FP.sl cI Al ll cl l)]):=Sep.startl hO [(FP.sl cI Al ll cl l)] ⟨hA0,trivial⟩;refine yap (l:=[.slice Al ll cl,ii v]) func95 rfl ntmps95 zY (zs (zQ (.bool (false)) (yaa (yaf (zs (zQ (ii 0) (yaa (yai ?_))))))));obtain ⟨I2,⟨m0,h0⟩,hr⟩:=h;refine yaz (fun m E ds w'=>∃ i,I2 m i∧ds=[]∧E 0 = .slice Al ll cl∧E 1=(ii v)∧E 5=(ii i)∧Sep w no O w' (rl [Res.ro (FP.sl cI Al ll cl l)])) m0 ⟨_,h0,rfl,rfl,rfl,rfl,hS.sel [0]⟩ ?_;clear h0 hS;rintro m2 E ds w2 ⟨i,h,rfl,H0,H1,H5,hS⟩ ag;replace h:=hr m2 i h;clear hr;refine yaf (zs (zH H5 (zH H0 (zq (yaF (n:=l.length) rfl underlying29 (yaE (hS.rdr 0 rfl))) (zq zL (yaa ?_))))));by_cases hp:i<(l.length:Int)
  · replace h:=h.1 hp;refine zc hp (yag (yaf (yai (zs (zH H0 (zH H5 ?_))))));obtain ⟨hx,h⟩:=h;refine zq (zi underlying29 yaj (yaP (hS.rdr 0 rfl) hx)) (zq (yau (v:=(ii (gi l i.toNat))) rfl underlying3 rfl (rd_1 (hS.rdr 0 rfl) hx (fun q=>yaY q) rfl)) ?_);refine zH H1 (zq zE (yaa ?_));by_cases hp2:(gi l i.toNat)=v
    · replace h:=h.1 hp2;exact zc hp2 (zs (zQ (.bool (true)) (yaa (yak rfl rfl ⟨_,rfl,hS.sel [],h⟩))))
    · replace h:=h.2 hp2;refine zd hp2 (yag (yah (zr (zH H5 ?_))));obtain ⟨hi,h⟩:=h;refine zq (zA hi) (zQ (ii (i+1)) (yaa ?_));obtain ⟨mq,hlt,h⟩:=h;exact ag mq _ _ _ ⟨_,h,rfl,H0,H1,rfl,hS.sel [0]⟩ hlt
  · replace h:=h.2 hp;exact zd hp (yax rfl (zs (zQ (.bool (false)) (yaa (yak rfl rfl ⟨_,rfl,hS.sel [],h⟩)))))
def yfh(a:List Int)(b:List Int)(R:Bool→Prop):Prop :=
(∃ I2:Nat→Int→Prop,(∃ m0,I2 m0 0)∧∀ m2 i,I2 m2 i → 
((i<(a.length:Int) →
((0≤i∧i<(a.length:Int)) ∧
ycW b (gi a i.toNat) (fun r =>
((r=true →
R true) ∧
(¬(r=true) →
(In64 (i+1) ∧
∃ m3,m3<m2∧I2 m3 (i+1))))))) ∧
(¬(i<(a.length:Int)) →
R false)))
theorem pok_r40_meets{O:Nat→Prop}{w:World}{a b Aa la ca Ab lb cb}{R:Bool→Prop}(h:yfh a b R)(hO:∀ k,O k→k<w.heap.size)(hA0:(FP.sl cI Aa la ca a).P O w)(hA1:(FP.sl cI Ab lb cb b).P O w) :
    Calls Tryz.prog 93 #[.slice Aa la ca,.slice Ab lb cb] w fun e w'=>∃ r2,e = .returned (.bool (r2))∧Sep w no O w' (rl [])∧R r2:=by
  unfold yfh at h;have hS:Sep w no O w (rl [Res.ro (FP.sl cI Aa la ca a),Res.ro (FP.sl cI Ab lb cb b)]):=Sep.startl hO [(FP.sl cI Aa la ca a),(FP.sl cI Ab lb cb b)] ⟨hA0,hA1,trivial⟩;refine yap (l:=[.slice Aa la ca,.slice Ab lb cb]) func93 rfl ntmps93 zY (zs (zQ (.bool (false)) (yaa (yaf (zs (zQ (ii 0) (yaa (yai ?_))))))));obtain ⟨I2,⟨m0,h0⟩,hr⟩:=h;refine yaz (fun m E ds w'=>∃ i,I2 m i∧ds=[]∧E 0 = .slice Aa la ca∧E 1 = .slice Ab lb cb∧E 5=(ii i)∧Sep w no O w' (rl [Res.ro (FP.sl cI Aa la ca a),Res.ro (FP.sl cI Ab lb cb b)])) m0 ⟨_,h0,rfl,rfl,rfl,rfl,hS.sel [0,1]⟩ ?_;clear h0 hS;rintro m2 E ds w2 ⟨i,h,rfl,H0,H1,H5,hS⟩ ag;replace h:=hr m2 i h;clear hr;refine yaf (zs (zH H5 (zH H0 (zq (yaF (n:=a.length) rfl underlying29 (yaE (hS.rdr 0 rfl))) (zq zL (yaa ?_))))));by_cases hp:i<(a.length:Int)
  · replace h:=h.1 hp;refine zc hp (yag (yaf (yai (zs (zH H1 (zH H0 (zH H5 ?_)))))));obtain ⟨hx,h⟩:=h;refine zq (zi underlying29 yaj (yaP (hS.rdr 0 rfl) hx)) (zq (yau (v:=(ii (gi a i.toNat))) rfl underlying3 rfl (rd_1 (hS.rdr 0 rfl) hx (fun q=>yaY q) rfl)) ?_);refine zn (yam rfl (am2 rfl rfl) yiQ ((yeF h (yaB _) (hS.rdr 1 rfl)).mono ?_));rintro _ w3 ⟨r,rfl,hC,h⟩;replace hS:=hS.pur hC.pure;refine ⟨_,rfl,?_⟩;refine zb (yaa ?_);by_cases hp2:r=true
    · replace h:=h.1 hp2;exact yar (zC hp2) (zs (zQ (.bool (true)) (yaa (yak rfl rfl ⟨_,rfl,hS.sel [],h⟩))))
    · replace h:=h.2 hp2;refine yat (zC (zI hp2)) (yag (yah (zr (zH H5 ?_))));obtain ⟨hi,h⟩:=h;refine zq (zA hi) (zQ (ii (i+1)) (yaa ?_));obtain ⟨mq,hlt,h⟩:=h;exact ag mq _ _ _ ⟨_,h,rfl,H0,H1,rfl,hS.sel [0,1]⟩ hlt
  · replace h:=h.2 hp;exact zd hp (yax rfl (zs (zQ (.bool (false)) (yaa (yak rfl rfl ⟨_,rfl,hS.sel [],h⟩)))))
def yf0(s:List (List Int))(set2:List Int)(R:Bool→Prop):Prop :=
(∃ I2:Nat→Int→Prop,(∃ m0,I2 m0 0)∧∀ m2 i,I2 m2 i → 
((i<(s.length:Int) →
((0≤i∧i<(s.length:Int)) ∧
yfh (gx s i.toNat) set2 (fun r =>
((r=true →
(In64 (i+1) ∧
∃ m3,m3<m2∧I2 m3 (i+1))) ∧
(¬(r=true) →
R false))))) ∧
(¬(i<(s.length:Int)) →
R true)))
theorem pok_r40_Hits{O:Nat→Prop}{w:World}{s set2 As ls cs Aa Ab Ac}{R:Bool→Prop}(h:yf0 s set2 R)(hO:∀ k,O k→k<w.heap.size)(hA0:(FP.sl (cL cI) As ls cs s).P O w)(hA1:(FP.sl cI Aa Ab Ac set2).P O w) :
    Calls Tryz.prog 45 #[.slice As ls cs,.slice Aa Ab Ac] w fun e w'=>∃ r2,e = .returned (.bool (r2))∧Sep w no O w' (rl [])∧R r2:=by
  unfold yf0 at h;have hS:Sep w no O w (rl [Res.ro (FP.sl (cL cI) As ls cs s),Res.ro (FP.sl cI Aa Ab Ac set2)]):=Sep.startl hO [(FP.sl (cL cI) As ls cs s),(FP.sl cI Aa Ab Ac set2)] ⟨hA0,hA1,trivial⟩;refine yap (l:=[.slice As ls cs,.slice Aa Ab Ac]) func45 rfl ntmps45 zY (zs (zQ (.bool (false)) (yaa (yaf (zs (zQ (ii 0) (yaa (yai ?_))))))));obtain ⟨I2,⟨m0,h0⟩,hr⟩:=h;refine yaz (fun m E ds w'=>∃ i,I2 m i∧ds=[]∧E 0 = .slice As ls cs∧E 1 = .slice Aa Ab Ac∧E 5=(ii i)∧Sep w no O w' (rl [Res.ro (FP.sl (cL cI) As ls cs s),Res.ro (FP.sl cI Aa Ab Ac set2)])) m0 ⟨_,h0,rfl,rfl,rfl,rfl,hS.sel [0,1]⟩ ?_;clear h0 hS;rintro m2 E ds w2 ⟨i,h,rfl,H0,H1,H5,hS⟩ ag;replace h:=hr m2 i h;clear hr;refine yaf (zs (zH H5 (zH H0 (zq (yaF (n:=s.length) rfl underlying25 (yaE (hS.rdr 0 rfl))) (zq zL (yaa ?_))))));by_cases hp:i<(s.length:Int)
  · replace h:=h.1 hp;refine zc hp (yag (yaf (yai (zs (zH H0 (zH H5 ?_))))));obtain ⟨hx,h⟩:=h;refine zq (zi underlying25 yaL (yaP (hS.rdr 0 rfl) hx)) ?_;obtain ⟨A,l,c,hc,hq⟩:=hS.el 0 rfl hx 2 3 rfl rfl (by decide);replace hS:=hq;clear hq;refine zq (yau (v:=(.slice A l c)) rfl underlying29 rfl (hS.clr 3 rfl)) (zH H1 (zn (yam rfl (am2 rfl rfl) enter_93 ((pok_r40_meets h (yaB _) (hS.rdr 2 rfl) (hS.rdr 1 rfl)).mono ?_))));rintro _ w3 ⟨r,rfl,hC,h⟩;replace hS:=hS.pur hC.pure;refine ⟨_,rfl,?_⟩;refine zb (zq (ycX rfl) (yaa ?_));by_cases hp2:r=true
    · replace h:=h.1 hp2;refine yat (zC (zB hp2)) (yag (yah (zr (zH H5 ?_))));obtain ⟨hi,h⟩:=h;refine zq (zA hi) (zQ (ii (i+1)) (yaa ?_));obtain ⟨mq,hlt,h⟩:=h;exact ag mq _ _ _ ⟨_,h,rfl,H0,H1,rfl,hS.sel [0,1]⟩ hlt
    · replace h:=h.2 hp2;exact yar (zC (zB (zI hp2))) (zs (zQ (.bool (false)) (yaa (yak rfl rfl ⟨_,rfl,hS.sel [],h⟩))))
  · replace h:=h.2 hp;exact zd hp (yax rfl (zs (zQ (.bool (true)) (yaa (yak rfl rfl ⟨_,rfl,hS.sel [],h⟩)))))
def yd6(n:Int)(digits:Int)(R:(List Int)→Prop):Prop :=
(∃ I2:Nat→Int→(List Int)→Int→Prop,(∃ m0,I2 m0 digits ([]) 0)∧∀ m2 digits2 out i,I2 m2 digits2 out i → 
((i<n →
((2:Int)≠0 ∧
(((digits2.tmod 2)=1 →
(out.length+1≤1000000000 ∧
(In64 (digits2.tdiv 2) ∧
(In64 (i+1) ∧
∃ m3,m3<m2∧I2 m3 (digits2.tdiv 2) (out++[i]) (i+1))))) ∧
(¬((digits2.tmod 2)=1) →
(In64 (digits2.tdiv 2) ∧
(In64 (i+1) ∧
∃ m4,m4<m2∧I2 m4 (digits2.tdiv 2) out (i+1))))))) ∧
(¬(i<n) →
R out)))
theorem yjJ{O:Nat→Prop}{w:World}{n digits}{R:(List Int)→Prop}(h:yd6 n digits R)(hO:∀ k,O k→k<w.heap.size) :
    Calls Tryz.prog 138 #[ii n,ii digits] w fun e w'=>∃ r Ar lr cr,e = .returned (.slice Ar lr cr)∧Sep w no O w' (rl [Res.own cI 3 Ar lr cr r])∧R r:=by
  unfold yd6 at h;have hS:Sep w no O w (rl []):=Sep.start w hO;refine yap (l:=[ii n,ii digits]) func138 rfl ntmps138 zY (zs (zQ (.slice none 0 0) (yaa (zs (zQ (.slice none 0 0) (yaa (yaf (zs (zQ (ii 0) (yaa (yai ?_)))))))))));replace hS:=hS.nil 0 rfl cI 3;obtain ⟨I2,⟨m0,h0⟩,hr⟩:=h;refine yaz (fun m E ds w'=>∃ digits2 out i Aa Ab Ac,I2 m digits2 out i∧ds=[]∧E 0=(ii n)∧E 1=(ii digits2)∧E 5 = .slice Aa Ab Ac∧E 6=(ii i)∧Sep w no O w' (rl [Res.own cI 3 Aa Ab Ac out])) m0 ⟨_,_,_,_,_,_,h0,rfl,rfl,rfl,rfl,rfl,hS.sel [0]⟩ ?_;clear h0 hS;rintro m2 E ds w2 ⟨digits2,out,i,Aa,Ab,Ac,h,rfl,H0,H1,H5,H6,hS⟩ ag;replace h:=hr m2 digits2 out i h;clear hr;refine yaf (zs (zH H6 (zH H0 (zq zL (yaa ?_)))));by_cases hp:i<n
  · replace h:=h.1 hp;refine zc hp (yag (yaf (yai (yaf (zs (zH H1 ?_))))));obtain ⟨hz,h⟩:=h;refine zq (v_rem rfl rfl hz) (zq zE (yaa ?_));by_cases hp2:(digits2.tmod 2)=1
    · replace h:=h.1 hp2;refine zc hp2 (zr (zH H5 (zH H6 (zn (yaX (l:=[(0,(ii i))]) (cells:=[ii i]) (bp1 rfl) underlying29 yaj rfl rfl ?_)))));intro g w3 hN;replace hS:=hS.litf (n:=1) 1 rfl (fI .i64) hN ([i]:List Int) rfl (by decide) rfl;clear hN;refine zb ?_;obtain ⟨hx,h⟩:=h;refine zn (ygp (c:=cI) rfl rfl underlying29 underlying29 yaj rfl rfl (by decide) hS 0 rfl (hS.yo 1 rfl) hx ?_);clear hS;intro A c w4 hS;refine zb (zQ (.slice A (Ab+1) c) (yaa (zr (zH H1 ?_))));obtain ⟨hi,h⟩:=h;refine zq (v_quo rfl rfl hz hi) (zQ (ii (digits2.tdiv 2)) (yaa (yah (zr (zH H6 ?_)))));obtain ⟨hi2,h⟩:=h;refine zq (zA hi2) (zQ (ii (i+1)) (yaa ?_));obtain ⟨mq,hlt,h⟩:=h;exact ag mq _ _ _ ⟨_,_,_,_,_,_,h,rfl,H0,rfl,rfl,rfl,hS.sel [0]⟩ hlt
    · replace h:=h.2 hp2;refine zd hp2 (yag (zr (zH H1 ?_)));obtain ⟨hi3,h⟩:=h;refine zq (v_quo rfl rfl hz hi3) (zQ (ii (digits2.tdiv 2)) (yaa (yah (zr (zH H6 ?_)))));obtain ⟨hi4,h⟩:=h;refine zq (zA hi4) (zQ (ii (i+1)) (yaa ?_));obtain ⟨mq,hlt,h⟩:=h;exact ag mq _ _ _ ⟨_,_,_,_,_,_,h,rfl,H0,rfl,H5,rfl,hS.sel [0]⟩ hlt
  · replace h:=h.2 hp;exact zd hp (yax rfl (zs (zH H5 (zQ (.slice Aa Ab Ac) (yaa (yak rfl rfl ⟨_,_,_,_,rfl,hS.sel [0],h⟩))))))
def ydn(g:Int)(g2:List E3)(R:(List (List Int))→Prop):Prop :=
(∃ I2:Nat→Int→Int→Prop,(∃ m0,I2 m0 1 0)∧∀ m2 count v,I2 m2 count v → 
((v<g →
(In64 (2*count) ∧
(In64 (v+1) ∧
∃ m3,m3<m2∧I2 m3 (2*count) (v+1)))) ∧
(¬(v<g) →
(∃ I3:Nat→(List (List Int))→Int→Prop,(∃ m0,I3 m0 ([]) 0)∧∀ m4 out k,I3 m4 out k → 
((k<count →
yd6 g k (fun r =>
(out.length+1≤1000000000 ∧
(In64 (k+1) ∧
∃ m5,m5<m4∧I3 m5 (out++[r]) (k+1))))) ∧
(¬(k<count) →
R out))))))
theorem ygD{O:Nat→Prop}{w:World}{g g2 Ag lg cg}{R:(List (List Int))→Prop}(h:ydn g g2 R)(hO:∀ k,O k→k<w.heap.size)(hA0:(FP.sl c3 Ag lg cg g2).P O w) :
    Calls Tryz.prog 108 #[(.agg #[ii g,.slice Ag lg cg])] w fun e w'=>∃ r2 Ar2 lr2 cr2,e = .returned (.slice Ar2 lr2 cr2)∧Sep w no O w' (rl [Res.own (cL cI) 29 Ar2 lr2 cr2 r2])∧R r2:=by
  unfold ydn at h;have hS:Sep w no O w (rl [Res.ro (FP.sl c3 Ag lg cg g2)]):=Sep.startl hO [(FP.sl c3 Ag lg cg g2)] ⟨hA0,trivial⟩;refine yap (l:=[(.agg #[ii g,.slice Ag lg cg])]) func108 rfl ntmps108 zY (zs (zn (ya8 (v:=(.agg #[ii g,.slice Ag lg cg])) rfl ?_)));intro g3 w2 hN;replace hS:=hS.neu 1 [ii g,.slice Ag lg cg] hN;clear hN;refine zb (zQ (.slice none 0 0) (yaa (zs (zQ (ii 1) (yaa (yaf (zs (zQ (ii 0) (yaa (yai ?_))))))))));obtain ⟨I2,⟨m0,h0⟩,hr⟩:=h;refine yaz (fun m E ds w'=>∃ count v,I2 m count v∧ds=[]∧E 1 = .pointer (some ⟨g3,0,none⟩)∧E 3=(ii count)∧E 4=(ii v)∧Sep w no O w' (rl [Res.box 24 g3 [ii g,.slice Ag lg cg],Res.ro (FP.sl c3 Ag lg cg g2)])) m0 ⟨_,_,h0,rfl,rfl,rfl,rfl,hS.sel [1,0]⟩ ?_;clear h0 hS;rintro m2 E ds w3 ⟨count,v,h,rfl,H1,H3,H4,hS⟩ ag;replace h:=hr m2 count v h;clear hr;refine yaf (zs (zH H4 (zq (yan H1 underlying24 rfl yaj) (zq (zl underlying3 (hS.bc 0 0)) (zq zL (yaa ?_))))));by_cases hp:v<g
  · replace h:=h.1 hp;refine zc hp (yag (yaf (yai (zr (zH H3 ?_)))));obtain ⟨hi,h⟩:=h;refine zq (v_mul rfl rfl hi) (zQ (ii (2*count)) (yaa (yah (zr (zH H4 ?_)))));obtain ⟨hi2,h⟩:=h;refine zq (zA hi2) (zQ (ii (v+1)) (yaa ?_));obtain ⟨mq,hlt,h⟩:=h;exact ag mq _ _ _ ⟨_,_,h,rfl,H1,rfl,rfl,hS.sel [0,1]⟩ hlt
  · replace h:=h.2 hp;refine zd hp (yax rfl (zs (zQ (.slice none 0 0) (yaa (yaf (zs (zQ (ii 0) (yaa (yai ?_)))))))));replace hS:=hS.nil 2 rfl (cL cI) 29;obtain ⟨I3,⟨m0,h0⟩,hr⟩:=h;refine yaz (fun m E ds w'=>∃ out k Aa Ab Ac,I3 m out k∧ds=[]∧E 1 = .pointer (some ⟨g3,0,none⟩)∧E 3=(ii count)∧E 5 = .slice Aa Ab Ac∧E 6=(ii k)∧Sep w no O w' (rl [Res.own (cL cI) 29 Aa Ab Ac out,Res.box 24 g3 [ii g,.slice Ag lg cg],Res.ro (FP.sl c3 Ag lg cg g2)])) m0 ⟨_,_,_,_,_,h0,rfl,H1,H3,rfl,rfl,hS.sel [2,0,1]⟩ ?_;clear h0 hS;rintro m4 E ds w4 ⟨out,k,Aa,Ab,Ac,h,rfl,H1,H3,H5,H6,hS⟩ again2;replace h:=hr m4 out k h;clear hr;refine yaf (zs (zH H6 (zH H3 (zq zL (yaa ?_)))));by_cases hp2:k<count
    · replace h:=h.1 hp2;refine zc hp2 (yag (yaf (yai (zr (zH H5 (zq (yan H1 underlying24 rfl yaj) (zq (zl underlying3 (hS.bc 1 0)) (zH H6 (zn (yam rfl (am2 rfl rfl) enter_138 ((yjJ h (yaB _)).mono ?_)))))))))));rintro _ w5 ⟨r,Ar,lr,cr,rfl,hC,h⟩;replace hS:=hS.call1 (hC.widen (yde (ya0 (fI .i64) _ _ _ _ _) ydA) hS.blt) 3 0 rfl;clear hC;refine ⟨_,rfl,?_⟩;refine zb ?_;replace hS:=hS.frz 3 rfl;refine zn (yaX (l:=[(0,(.slice Ar lr cr))]) (cells:=[.slice Ar lr cr]) (bp1 rfl) underlying25 yaL rfl rfl ?_);intro g4 w6 hN;replace hS:=hS.lit (n:=1) (c:=(cL cI)) 4 rfl hN ([r]:List (List Int)) rfl (by decide) ⟨[.slice Ar lr cr],_,rfl,(ro_R (hS.ro 3 rfl)),rfl⟩;clear hN;refine zb ?_;obtain ⟨hx,h⟩:=h;refine zn (ygp (c:=(cL cI)) rfl rfl underlying25 underlying25 yaL rfl rfl (by decide) hS 0 rfl (hS.yo 4 rfl) hx ?_);clear hS;intro A c w7 hS;refine zb (zQ (.slice A (Ab+1) c) (yaa (yah (zr (zH H6 ?_)))));obtain ⟨hi3,h⟩:=h;refine zq (zA hi3) (zQ (ii (k+1)) (yaa ?_));obtain ⟨mq,hlt,h⟩:=h;exact again2 mq _ _ _ ⟨_,_,_,_,_,h,rfl,H1,H3,rfl,rfl,hS.sel [0,1,2]⟩ hlt
    · replace h:=h.2 hp2;exact zd hp2 (yax rfl (zs (zH H5 (zQ (.slice Aa Ab Ac) (yaa (yak rfl rfl ⟨_,_,_,_,rfl,hS.sel [0],h⟩))))))
def ygY(g:Int)(g2:List E3)(set2:List Int)(R:(List Int)→Prop):Prop :=
yd0 g g2 (fun r =>
(∃ I2:Nat→(List Int)→Int→Prop,(∃ m0,I2 m0 ([]) 0)∧∀ m2 out e2,I2 m2 out e2 → 
((e2<(r.length:Int) →
((0≤e2∧e2<(r.length:Int)) ∧
((0≤(0:Int)∧(0:Int)<2) ∧
((0≤(1:Int)∧(1:Int)<2) ∧
ycW set2 ((gx r e2.toNat).1) (fun r2 =>
ycW set2 ((gx r e2.toNat).2) (fun r3 =>
(((r2==r3)=true →
(In64 (e2+1) ∧
∃ m3,m3<m2∧I2 m3 out (e2+1))) ∧
(¬((r2==r3)=true) →
(out.length+1≤1000000000 ∧
(In64 (e2+1) ∧
∃ m4,m4<m2∧I2 m4 (out++[e2]) (e2+1))))))))))) ∧
(¬(e2<(r.length:Int)) →
R out))))
theorem pok_r08_Cut{O:Nat→Prop}{w:World}{g g2 set2 Ag lg cg Ad Ae Af}{R:(List Int)→Prop}(h:ygY g g2 set2 R)(hO:∀ k,O k→k<w.heap.size)(hA0:(FP.sl c3 Ag lg cg g2).P O w)(hA1:(FP.sl cI Ad Ae Af set2).P O w) :
    Calls Tryz.prog 48 #[(.agg #[ii g,.slice Ag lg cg]),.slice Ad Ae Af] w fun e w'=>∃ r4 Ar2 lr2 cr2,e = .returned (.slice Ar2 lr2 cr2)∧Sep w no O w' (rl [Res.own cI 3 Ar2 lr2 cr2 r4])∧R r4:=by
  unfold ygY at h;have hS:Sep w no O w (rl [Res.ro (FP.sl c3 Ag lg cg g2),Res.ro (FP.sl cI Ad Ae Af set2)]):=Sep.startl hO [(FP.sl c3 Ag lg cg g2),(FP.sl cI Ad Ae Af set2)] ⟨hA0,hA1,trivial⟩;refine yap (l:=[(.agg #[ii g,.slice Ag lg cg]),.slice Ad Ae Af]) func48 rfl ntmps48 zY (zs (zn (ya8 (v:=(.agg #[ii g,.slice Ag lg cg])) rfl ?_)));intro g3 w2 hN;replace hS:=hS.neu 2 [ii g,.slice Ag lg cg] hN;clear hN;refine zb (zQ (.slice none 0 0) (yaa (zs (zQ (.slice none 0 0) (yaa (zs (zq (yaq (vs:=[ii g,.slice Ag lg cg]) rfl underlying24 rfl yao ⟨hS.bc 2 0,hS.bc 2 1,trivial⟩) (zn (yam rfl (am1 rfl) enter_96 ((yix h (yaB _) (hS.rdr 0 rfl)).mono ?_))))))))));rintro _ w3 ⟨r,Ar,lr,cr,rfl,hC,h⟩;replace hS:=hS.call1 (hC.widen (yde (ya0 (fP (fI .i64) (fI .i64)) _ _ _ _ _) ydA) hS.blt) 3 0 rfl;clear hC;refine ⟨_,rfl,?_⟩;refine zb (zQ (.slice Ar lr cr) (yaa (yaf (zs (zQ (ii 0) (yaa (yai ?_)))))));replace hS:=hS.nil 4 rfl cI 3;obtain ⟨I2,⟨m0,h0⟩,hr⟩:=h;refine yaz (fun m E ds w'=>∃ out e2 Aa Ab Ac,I2 m out e2∧ds=[]∧E 1 = .slice Ad Ae Af∧E 5 = .slice Aa Ab Ac∧E 6 = .slice Ar lr cr∧E 7=(ii e2)∧Sep w no O w' (rl [Res.own cI 3 Aa Ab Ac out,Res.ro (FP.sl cI Ad Ae Af set2),Res.own c2 116 Ar lr cr r])) m0 ⟨_,_,_,_,_,h0,rfl,rfl,rfl,rfl,rfl,hS.sel [4,1,3]⟩ ?_;clear h0 hS;rintro m2 E ds w4 ⟨out,e2,Aa,Ab,Ac,h,rfl,H1,H5,H6,H7,hS⟩ ag;replace h:=hr m2 out e2 h;clear hr;refine yaf (zs (zH H7 (zH H6 (zq (yaF (n:=r.length) rfl underlying114 (yaE (hS.rdo 2 rfl))) (zq zL (yaa ?_))))));by_cases hp:e2<(r.length:Int)
  · replace h:=h.1 hp;refine zc hp (yag (yaf (yai (yaf (yaT [0,1,2,3,4,5,7,8,9,10,11,12,6,13,14] (fun i=>match i with | 6=>[7,8,9,10,11,12] | _=>[]) yaD (by kernel_rfl) (by kernel_rfl) ?_)))));replace hS:=hS.drew;refine zp (yad H1) (zp (yad H6) (zp (yad H7) ?_));obtain ⟨hx,h⟩:=h;refine zp (zi underlying114 yeD (yaP (hS.rdo 2 rfl) hx)) ?_;obtain ⟨hx2,h⟩:=h;refine zp (yi4 rfl rfl underlying116 yaj hx2) (zp (yau (v:=(ii ((gx r e2.toNat).1))) rfl underlying3 rfl (rd_f (hS.rdo 2 rfl) hx (fun q=>yfY q) 0 rfl)) ?_);refine zp (yad H1) (zp (yad H6) (zp (yad H7) (zp (zi underlying114 yeD (yaP (hS.rdo 2 rfl) hx)) ?_)));obtain ⟨hx3,h⟩:=h;refine zp (yi4 rfl rfl underlying116 yaj hx3) (zp (yau (v:=(ii ((gx r e2.toNat).2))) rfl underlying3 rfl (rd_f (hS.rdo 2 rfl) hx (fun q=>yfY q) 1 rfl)) ?_);refine rp_n rfl rfl rfl rfl (yam rfl (am2 rfl rfl) yiQ ((yeF h (yaB _) (hS.rdr 1 rfl)).mono ?_));rintro _ w5 ⟨r2,rfl,hC,h⟩;replace hS:=hS.pur hC.pure;refine ⟨_,rfl,?_⟩;refine ⟨⟨fun _=>(yau (v:=(ii ((gx r e2.toNat).2))) rfl underlying3 rfl (rd_f (hS.rdo 2 rfl) hx (fun q=>yfY q) 1 rfl)),⟨fun _=>(yi4 rfl rfl underlying116 yaj hx3),⟨fun _=>(zi underlying114 yeD (yaP (hS.rdo 2 rfl) hx)),⟨fun _=>(yad H7),⟨fun _=>(yad H6),⟨fun _=>(yad H1),⟨fun hh=>zZ hh,⟨fun hh=>zZ hh,⟨fun hh=>zZ hh,⟨fun hh=>zZ hh,⟨fun hh=>zZ hh,⟨fun hh=>zZ hh,trivial⟩⟩⟩⟩⟩⟩⟩⟩⟩⟩⟩⟩,?_⟩;refine rp_n rfl rfl rfl rfl (yam rfl (am2 rfl rfl) yiQ ((yeF h (yaB _) (hS.rdr 1 rfl)).mono ?_));rintro _ w6 ⟨r3,rfl,hC,h⟩;replace hS:=hS.pur hC.pure;refine ⟨_,rfl,?_⟩;refine zb (zp (v_bneq rfl rfl underlying4) (yaZ ?_));by_cases hp2:(r2==r3)=true
    · replace h:=h.1 hp2;refine yat (zC (zB hp2)) (yag (yah (zr (zH H7 ?_))));obtain ⟨hi,h⟩:=h;refine zq (zA hi) (zQ (ii (e2+1)) (yaa ?_));obtain ⟨mq,hlt,h⟩:=h;exact ag mq _ _ _ ⟨_,_,_,_,_,h,rfl,H1,H5,H6,rfl,hS.sel [0,1,2]⟩ hlt
    · replace h:=h.2 hp2;refine yar (zC (zB (zI hp2))) (zr (zH H5 (zH H7 (zn (yaX (l:=[(0,(ii e2))]) (cells:=[ii e2]) (bp1 rfl) underlying29 yaj rfl rfl ?_)))));intro g4 w7 hN;replace hS:=hS.litf (n:=1) 3 rfl (fI .i64) hN ([e2]:List Int) rfl (by decide) rfl;clear hN;refine zb ?_;obtain ⟨hx4,h⟩:=h;refine zn (ygp (c:=cI) rfl rfl underlying29 underlying29 yaj rfl rfl (by decide) hS 0 rfl (hS.yo 3 rfl) hx4 ?_);clear hS;intro A c w8 hS;refine zb (zQ (.slice A (Ab+1) c) (yaa (yah (zr (zH H7 ?_)))));obtain ⟨hi2,h⟩:=h;refine zq (zA hi2) (zQ (ii (e2+1)) (yaa ?_));obtain ⟨mq,hlt,h⟩:=h;exact ag mq _ _ _ ⟨_,_,_,_,_,h,rfl,H1,rfl,H6,rfl,hS.sel [0,1,2]⟩ hlt
  · replace h:=h.2 hp;exact zd hp (yax rfl (zs (zH H5 (zQ (.slice Aa Ab Ac) (yaa (yak rfl rfl ⟨_,_,_,_,rfl,hS.sel [0],h⟩))))))
def yeG(a:List Int)(b:List Int)(R:Bool→Prop):Prop :=
(∃ I2:Nat→Int→Prop,(∃ m0,I2 m0 0)∧∀ m2 i,I2 m2 i → 
(∃ J2:Prop,(J2→((0≤i∧i<(a.length:Int)) ∧
((0≤i∧i<(b.length:Int)) ∧
(((gi a i.toNat)=(gi b i.toNat) →
(In64 (i+1) ∧
∃ m3,m3<m2∧I2 m3 (i+1))) ∧
(¬((gi a i.toNat)=(gi b i.toNat)) →
R (decide ((gi a i.toNat)<(gi b i.toNat)))))))) ∧
((i<(a.length:Int) →
((i<(b.length:Int) →
J2) ∧
(¬(i<(b.length:Int)) →
R (decide ((a.length:Int)<(b.length:Int)))))) ∧
(¬(i<(a.length:Int)) →
R (decide ((a.length:Int)<(b.length:Int)))))))
theorem pok_r10_Before{O:Nat→Prop}{w:World}{a b Aa la ca Ab lb cb}{R:Bool→Prop}(h:yeG a b R)(hO:∀ k,O k→k<w.heap.size)(hA0:(FP.sl cI Aa la ca a).P O w)(hA1:(FP.sl cI Ab lb cb b).P O w) :
    Calls Tryz.prog 139 #[.slice Aa la ca,.slice Ab lb cb] w fun e w'=>∃ r,e = .returned (.bool (r))∧Sep w no O w' (rl [])∧R r:=by
  unfold yeG at h;have hS:Sep w no O w (rl [Res.ro (FP.sl cI Aa la ca a),Res.ro (FP.sl cI Ab lb cb b)]):=Sep.startl hO [(FP.sl cI Aa la ca a),(FP.sl cI Ab lb cb b)] ⟨hA0,hA1,trivial⟩;refine yap (l:=[.slice Aa la ca,.slice Ab lb cb]) func139 rfl ntmps139 zY (zs (zQ (.bool (false)) (yaa (yaf (zs (zQ (ii 0) (yaa (yai ?_))))))));obtain ⟨I2,⟨m0,h0⟩,hr⟩:=h;refine yaz (fun m E ds w'=>∃ i,I2 m i∧ds=[]∧E 0 = .slice Aa la ca∧E 1 = .slice Ab lb cb∧E 5=(ii i)∧Sep w no O w' (rl [Res.ro (FP.sl cI Aa la ca a),Res.ro (FP.sl cI Ab lb cb b)])) m0 ⟨_,h0,rfl,rfl,rfl,rfl,hS.sel [0,1]⟩ ?_;clear h0 hS;rintro m2 E ds w2 ⟨i,h,rfl,H0,H1,H5,hS⟩ ag;replace h:=hr m2 i h;clear hr;refine yaf (yaf ?_);obtain ⟨J2,hJ,h⟩:=h;refine yc1 (fun E ds w'=>J2∧ds=[]∧E 0 = .slice Aa la ca∧E 1 = .slice Ab lb cb∧E 5=(ii i)∧Sep w no O w' (rl [Res.ro (FP.sl cI Aa la ca a),Res.ro (FP.sl cI Ab lb cb b)])) ?_ ?_
  · clear h hS;rintro E ds w3 ⟨h,rfl,H0,H1,H5,hS⟩;replace h:=hJ h;refine yaf (yai (yaf (yaT [0,1,2,3,4,5,6,7,8] st0 yaD (by kernel_rfl) (by kernel_rfl) ?_)));replace hS:=hS.drew;refine zp (yad H0) (zp (yad H5) ?_);obtain ⟨hx,h⟩:=h;refine zp (zi underlying29 yaj (yaP (hS.rdr 0 rfl) hx)) (zp (yau (v:=(ii (gi a i.toNat))) rfl underlying3 rfl (rd_1 (hS.rdr 0 rfl) hx (fun q=>yaY q) rfl)) ?_);refine zp (yad H1) (zp (yad H5) ?_);obtain ⟨hx2,h⟩:=h;refine zp (zi underlying29 yaj (yaP (hS.rdr 1 rfl) hx2)) (zp (yau (v:=(ii (gi b i.toNat))) rfl underlying3 rfl (rd_1 (hS.rdr 1 rfl) hx2 (fun q=>yaY q) rfl)) ?_);refine zp zN (yaZ ?_);by_cases hp:(gi a i.toNat)=(gi b i.toNat)
    · replace h:=h.1 hp;refine ze hp (yag (yah (zr (zH H5 ?_))));obtain ⟨hi,h⟩:=h;refine zq (zA hi) (zQ (ii (i+1)) (yaa ?_));obtain ⟨mq,hlt,h⟩:=h;exact ag mq _ _ _ ⟨_,h,rfl,H0,H1,rfl,hS.sel [0,1]⟩ hlt
    · replace h:=h.2 hp;refine zf hp (yaf (yaT [0,1,2,3,4,5,6,7,8,9] st0 yaD (by kernel_rfl) (by kernel_rfl) ?_));replace hS:=hS.drew;refine zp (yad H0) (zp (yad H5) (zp (zi underlying29 yaj (yaP (hS.rdr 0 rfl) hx)) (zp (yau (v:=(ii (gi a i.toNat))) rfl underlying3 rfl (rd_1 (hS.rdr 0 rfl) hx (fun q=>yaY q) rfl)) ?_)));refine zp (yad H1) (zp (yad H5) (zp (zi underlying29 yaj (yaP (hS.rdr 1 rfl) hx2)) (zp (yau (v:=(ii (gi b i.toNat))) rfl underlying3 rfl (rd_1 (hS.rdr 1 rfl) hx2 (fun q=>yaY q) rfl)) ?_)));exact zp zL (zp (za (.bool (decide ((gi a i.toNat)<(gi b i.toNat))))) (yaZ (yak rfl rfl ⟨_,rfl,hS.sel [],h⟩)))
  clear hJ;intro j;refine zr (zH H5 (zH H0 (zq (yaF (n:=a.length) rfl underlying29 (yaE (hS.rdr 0 rfl))) (zq zL (zM (.bool (decide (i<(a.length:Int)))) ?_)))));by_cases hp2:i<(a.length:Int)
  · replace h:=h.1 hp2;refine zW rfl rfl (zT hp2) (yad H5) (zW rfl rfl (zT hp2) (yad H1) (zW rfl rfl (zT hp2) (yaF (n:=b.length) rfl underlying29 (yaE (hS.rdr 1 rfl))) (zW rfl rfl (zT hp2) zL (zq (yas (v:=(.bool (decide (i<(b.length:Int))))) (zT hp2) rfl) (yaa ?_)))));by_cases hp3:i<(b.length:Int)
    · replace h:=h.1 hp3;exact zc hp3 (yag (j _ _ _ ⟨h,rfl,H0,H1,H5,hS.sel [0,1]⟩))
    · replace h:=h.2 hp3;exact zd hp3 (yax rfl (zs (zH H0 (zq (yaF (n:=a.length) rfl underlying29 (yaE (hS.rdr 0 rfl))) (zH H1 (zq (yaF (n:=b.length) rfl underlying29 (yaE (hS.rdr 1 rfl))) (zq zL (zQ (.bool (decide ((a.length:Int)<(b.length:Int)))) (yaa (yak rfl rfl ⟨_,rfl,hS.sel [],h⟩))))))))))
  · replace h:=h.2 hp2;exact zV rfl rfl (zF hp2) (zV rfl rfl (zF hp2) (zV rfl rfl (zF hp2) (zV rfl rfl (zF hp2) (zq (yal (v:=(.bool (false))) (zF hp2) rfl) (yaa (yat rfl (yax rfl (zs (zH H0 (zq (yaF (n:=a.length) rfl underlying29 (yaE (hS.rdr 0 rfl))) (zH H1 (zq (yaF (n:=b.length) rfl underlying29 (yaE (hS.rdr 1 rfl))) (zq zL (zQ (.bool (decide ((a.length:Int)<(b.length:Int)))) (yaa (yak rfl rfl ⟨_,rfl,hS.sel [],h⟩))))))))))))))))
def yel(g:Int)(g2:List E3)(l:List (List Int))(cuts:Bool)(R:Int→(List Int)→Prop):Prop :=
(∃ I2:Nat→Int→(List Int)→Int→Prop,(∃ m0,I2 m0 (-1) ([]) 0)∧∀ m2 best first i,I2 m2 best first i → 
((i<(l.length:Int) →
((0≤i∧i<(l.length:Int)) ∧
(∃ J2:Int→Prop,(∀ (n:Int),J2 n→((best<0 →
(In64 (i+1) ∧
∃ m3,m3<m2∧I2 m3 n (gx l i.toNat) (i+1))) ∧
(¬(best<0) →
((n<best →
(In64 (i+1) ∧
∃ m4,m4<m2∧I2 m4 n (gx l i.toNat) (i+1))) ∧
(¬(n<best) →
((n=best →
yeG (gx l i.toNat) first (fun r =>
((r=true →
(In64 (i+1) ∧
∃ m5,m5<m2∧I2 m5 n (gx l i.toNat) (i+1))) ∧
(¬(r=true) →
(In64 (i+1) ∧
∃ m6,m6<m2∧I2 m6 best first (i+1)))))) ∧
(¬(n=best) →
(In64 (i+1) ∧
∃ m7,m7<m2∧I2 m7 best first (i+1))))))))) ∧
((cuts=true →
ygY g g2 (gx l i.toNat) (fun r2 =>
J2 (r2.length:Int))) ∧
(¬(cuts=true) →
J2 ((gx l i.toNat).length:Int)))))) ∧
(¬(i<(l.length:Int)) →
R best first)))
theorem yhU{O:Nat→Prop}{w:World}{g g2 l cuts Ag lg cg Al ll cl}{R:Int→(List Int)→Prop}(h:yel g g2 l cuts R)(hO:∀ k,O k→k<w.heap.size)(hA0:(FP.sl c3 Ag lg cg g2).P O w)(hA1:(FP.sl (cL cI) Al ll cl l).P O w) :
    Calls Tryz.prog 109 #[(.agg #[ii g,.slice Ag lg cg]),.slice Al ll cl,(.bool (cuts))] w fun e w'=>∃ r3 r4 Ar2 lr2 cr2,e = .returned (.tuple #[ii r3,.slice Ar2 lr2 cr2])∧Sep w no O w' (rl [Res.ro (FP.sl cI Ar2 lr2 cr2 r4)])∧R r3 r4:=by
  unfold yel at h;have hS:Sep w no O w (rl [Res.ro (FP.sl c3 Ag lg cg g2),Res.ro (FP.sl (cL cI) Al ll cl l)]):=Sep.startl hO [(FP.sl c3 Ag lg cg g2),(FP.sl (cL cI) Al ll cl l)] ⟨hA0,hA1,trivial⟩;refine yap (l:=[(.agg #[ii g,.slice Ag lg cg]),.slice Al ll cl,(.bool (cuts))]) func109 rfl ntmps109 zY (zs (zn (ya8 (v:=(.agg #[ii g,.slice Ag lg cg])) rfl ?_)));intro g3 w2 hN;replace hS:=hS.neu 2 [ii g,.slice Ag lg cg] hN;clear hN;refine zb (zQ (ii 0) (zQ (.slice none 0 0) (yaa (zs (zQ (ii (-1)) (yaa (zs (zQ (.slice none 0 0) (yaa (yaf (zs (zQ (ii 0) (yaa (yai ?_))))))))))))));replace hS:=hS.addro 3 rfl _ (yhe cI _ _);obtain ⟨I2,⟨m0,h0⟩,hr⟩:=h;refine yaz (fun m E ds w'=>∃ best first i Aa Ab Ac,I2 m best first i∧ds=[]∧E 1 = .slice Al ll cl∧E 2 = .bool (cuts)∧E 3 = .pointer (some ⟨g3,0,none⟩)∧E 8=(ii best)∧E 9 = .slice Aa Ab Ac∧E 10=(ii i)∧Sep w no O w' (rl [Res.ro (FP.sl cI Aa Ab Ac first),Res.ro (FP.sl (cL cI) Al ll cl l),Res.box 24 g3 [ii g,.slice Ag lg cg],Res.ro (FP.sl c3 Ag lg cg g2)])) m0 ⟨_,_,_,_,_,_,h0,rfl,rfl,rfl,rfl,rfl,rfl,rfl,hS.sel [3,1,2,0]⟩ ?_;clear h0 hS;rintro m2 E ds w3 ⟨best,first,i,Aa,Ab,Ac,h,rfl,H1,H2,H3,H8,H9,H10,hS⟩ ag;replace h:=hr m2 best first i h;clear hr;refine yaf (zs (zH H10 (zH H1 (zq (yaF (n:=l.length) rfl underlying25 (yaE (hS.rdr 1 rfl))) (zq zL (yaa ?_))))));by_cases hp:i<(l.length:Int)
  · replace h:=h.1 hp;refine zc hp (yag (yaf (yai (zs (zH H1 (zH H10 ?_))))));obtain ⟨hx,h⟩:=h;refine zq (zi underlying25 yaL (yaP (hS.rdr 1 rfl) hx)) ?_;obtain ⟨A,l2,c,hc,hq⟩:=hS.el 1 rfl hx 4 5 rfl rfl (by decide);replace hS:=hq;clear hq;refine zq (yau (v:=(.slice A l2 c)) rfl underlying29 rfl (hS.clr 5 rfl)) (zq (yaF (n:=(gx l i.toNat).length) rfl underlying29 (yaE (hS.rdr 4 rfl))) (zQ (ii ((gx l i.toNat).length:Int)) (yaa (yaf (zs (zH H2 (yaa ?_)))))));obtain ⟨J2,hJ,h⟩:=h;refine yi2 (fun E ds w'=>∃ n,J2 n∧ds=[]∧E 1 = .slice Al ll cl∧E 2 = .bool (cuts)∧E 3 = .pointer (some ⟨g3,0,none⟩)∧E 8=(ii best)∧E 9 = .slice Aa Ab Ac∧E 10=(ii i)∧E 11=(ii n)∧Sep w no O w' (rl [Res.ro (FP.sl (cL cI) Al ll cl l),Res.box 24 g3 [ii g,.slice Ag lg cg],Res.ro (FP.sl c3 Ag lg cg g2),Res.ro (FP.sl cI Aa Ab Ac first)])) ?_ ?_
    · clear h hS;rintro E ds w4 ⟨n,h,rfl,H1,H2,H3,H8,H9,H10,H11,hS⟩;replace h:=hJ n h;refine zs (zH H8 (zq zL (zM (.bool (decide (best<0))) ?_)));by_cases hp2:best<0
      · replace h:=h.1 hp2;refine zV rfl rfl (zT hp2) (zV rfl rfl (zT hp2) (zV rfl rfl (zT hp2) (zq (yas (v:=(.bool (true))) (zT hp2) rfl) (zM (.bool (true)) (zU (zU (zU (zU (zX (zX (zX (zX (zX (zX (zU (zq (yas (v:=(.bool (true))) rfl rfl) (yaa (yar rfl (yaT [0,1,2,3,4,5,6] st0 yaD (by kernel_rfl) (by kernel_rfl) ?_)))))))))))))))))));replace hS:=hS.drew;refine zp (yad H11) (zp (yad H1) (zp (yad H10) (zp (zi underlying25 yaL (yaP (hS.rdr 0 rfl) hx)) ?_)));obtain ⟨A2,l3,c4,hc2,hq⟩:=hS.el 0 rfl hx 4 5 rfl rfl (by decide);replace hS:=hq;clear hq;refine zp (yau (v:=(.slice A2 l3 c4)) rfl underlying29 rfl (hS.clr 5 rfl)) (zp (za (ii n)) (zp (za (.slice A2 l3 c4)) (yaZ (yah (zr (zH H10 ?_))))));obtain ⟨hi,h⟩:=h;refine zq (zA hi) (zQ (ii (i+1)) (yaa ?_));obtain ⟨mq,hlt,h⟩:=h;exact ag mq _ _ _ ⟨_,_,_,_,_,_,h,rfl,H1,H2,H3,rfl,rfl,rfl,hS.sel [4,0,1,2]⟩ hlt
      · replace h:=h.2 hp2;refine zW rfl rfl (zF hp2) (yad H11) (zW rfl rfl (zF hp2) (yad H8) (zW rfl rfl (zF hp2) zL (zq (yal (v:=(.bool (decide (n<best)))) (zF hp2) rfl) (zM (.bool (decide (n<best))) ?_))));by_cases hp3:n<best
        · replace h:=h.1 hp3;refine zV rfl rfl (zT hp3) (zV rfl rfl (zT hp3) (zV rfl rfl (zT hp3) (zV rfl rfl (zT hp3) (zX (zX (zX (zX (zX (zX (zV rfl rfl (zT hp3) (zq (yas (v:=(.bool (true))) (zT hp3) rfl) (yaa (yar rfl (yaT [0,1,2,3,4,5,6] st0 yaD (by kernel_rfl) (by kernel_rfl) ?_))))))))))))));replace hS:=hS.drew;refine zp (yad H11) (zp (yad H1) (zp (yad H10) (zp (zi underlying25 yaL (yaP (hS.rdr 0 rfl) hx)) ?_)));obtain ⟨A3,l4,c5,hc3,hq⟩:=hS.el 0 rfl hx 4 5 rfl rfl (by decide);replace hS:=hq;clear hq;refine zp (yau (v:=(.slice A3 l4 c5)) rfl underlying29 rfl (hS.clr 5 rfl)) (zp (za (ii n)) (zp (za (.slice A3 l4 c5)) (yaZ (yah (zr (zH H10 ?_))))));obtain ⟨hi2,h⟩:=h;refine zq (zA hi2) (zQ (ii (i+1)) (yaa ?_));obtain ⟨mq,hlt,h⟩:=h;exact ag mq _ _ _ ⟨_,_,_,_,_,_,h,rfl,H1,H2,H3,rfl,rfl,rfl,hS.sel [4,0,1,2]⟩ hlt
        · replace h:=h.2 hp3;refine zW rfl rfl (zF hp3) (yad H11) (zW rfl rfl (zF hp3) (yad H8) (zW rfl rfl (zF hp3) zE (zW rfl rfl (zF hp3) (zm (.bool (decide (n=best)))) ?_)));by_cases hp4:n=best
          · replace h:=h.1 hp4;refine zW rfl rfl (zT hp4) (yad H1) (zW rfl rfl (zT hp4) (yad H10) (zW rfl rfl (zT hp4) (zi underlying25 yaL (yaP (hS.rdr 0 rfl) hx)) ?_));obtain ⟨A4,l5,c6,hc4,hq⟩:=hS.el 0 rfl hx 4 5 rfl rfl (by decide);replace hS:=hq;clear hq;refine zW rfl rfl (zT hp4) (yau (v:=(.slice A4 l5 c6)) rfl underlying29 rfl (hS.clr 5 rfl)) (zW rfl rfl (zT hp4) (yad H9) (rl_n (yae rfl (yac rfl (zT hp4))) rfl rfl rfl (yam rfl (am2 rfl rfl) enter_139 ((pok_r10_Before h (yaB _) (hS.rdr 4 rfl) (hS.rdr 3 rfl)).mono ?_))));rintro _ w5 ⟨r,rfl,hC,h⟩;replace hS:=hS.pur hC.pure;refine ⟨_,rfl,?_⟩;refine zb (zW rfl rfl (zF hp3) (yas (v:=(.bool (r))) (zT hp4) rfl) (zq (yal (v:=(.bool (r))) (zF hp3) rfl) (yaa ?_)));by_cases hp5:r=true
            · replace h:=h.1 hp5;refine yar (zC hp5) (yaT [0,1,2,3,4,5,6] st0 yaD (by kernel_rfl) (by kernel_rfl) ?_);replace hS:=hS.drew;refine zp (yad H11) (zp (yad H1) (zp (yad H10) (zp (zi underlying25 yaL (yaP (hS.rdr 0 rfl) hx)) ?_)));obtain ⟨A5,l6,c7,hc5,hq⟩:=hS.el 0 rfl hx 6 7 rfl rfl (by decide);replace hS:=hq;clear hq;refine zp (yau (v:=(.slice A5 l6 c7)) rfl underlying29 rfl (hS.clr 7 rfl)) (zp (za (ii n)) (zp (za (.slice A5 l6 c7)) (yaZ (yah (zr (zH H10 ?_))))));obtain ⟨hi3,h⟩:=h;refine zq (zA hi3) (zQ (ii (i+1)) (yaa ?_));obtain ⟨mq,hlt,h⟩:=h;exact ag mq _ _ _ ⟨_,_,_,_,_,_,h,rfl,H1,H2,H3,rfl,rfl,rfl,hS.sel [6,0,1,2]⟩ hlt
            · replace h:=h.2 hp5;refine yat (zC (zI hp5)) (yag (yah (zr (zH H10 ?_))));obtain ⟨hi4,h⟩:=h;refine zq (zA hi4) (zQ (ii (i+1)) (yaa ?_));obtain ⟨mq,hlt,h⟩:=h;exact ag mq _ _ _ ⟨_,_,_,_,_,_,h,rfl,H1,H2,H3,H8,H9,rfl,hS.sel [3,0,1,2]⟩ hlt
          · replace h:=h.2 hp4;refine zV rfl rfl (zF hp4) (zV rfl rfl (zF hp4) (zV rfl rfl (zF hp4) (zV rfl rfl (zF hp4) (zV rfl rfl (zF hp4) (zV rfl rfl (zF hp4) (zW rfl rfl (zF hp3) (yal (v:=(.bool (false))) (zF hp4) rfl) (zq (yal (v:=(.bool (false))) (zF hp3) rfl) (yaa (yat rfl (yag (yah (zr (zH H10 ?_)))))))))))));obtain ⟨hi5,h⟩:=h;refine zq (zA hi5) (zQ (ii (i+1)) (yaa ?_));obtain ⟨mq,hlt,h⟩:=h;exact ag mq _ _ _ ⟨_,_,_,_,_,_,h,rfl,H1,H2,H3,H8,H9,rfl,hS.sel [3,0,1,2]⟩ hlt
    clear hJ;intro j;by_cases hp6:cuts=true
    · replace h:=h.1 hp6;refine yar (zC hp6) (yaT [0,1,2,3,4,5,6,7] st0 yaD (by kernel_rfl) (by kernel_rfl) ?_);replace hS:=hS.drew;refine zp (yaq (vs:=[ii g,.slice Ag lg cg]) H3 underlying24 rfl yao ⟨hS.bc 2 0,hS.bc 2 1,trivial⟩) (zp (yad H1) (zp (yad H10) (zp (zi underlying25 yaL (yaP (hS.rdr 1 rfl) hx)) ?_)));obtain ⟨A6,l7,c8,hc6,hq⟩:=hS.el 1 rfl hx 6 7 rfl rfl (by decide);replace hS:=hq;clear hq;refine zp (yau (v:=(.slice A6 l7 c8)) rfl underlying29 rfl (hS.clr 7 rfl)) (rp_n rfl rfl rfl rfl (yam rfl (am2 rfl rfl) enter_48 ((pok_r08_Cut h (yaB _) (hS.rdr 3 rfl) (hS.rdr 6 rfl)).mono ?_)));rintro _ w6 ⟨r2,Ar,lr,cr,rfl,hC,h⟩;replace hS:=hS.call1 (hC.widen (yde (ya0 (fI .i64) _ _ _ _ _) ydA) hS.blt) 8 0 rfl;clear hC;refine ⟨_,rfl,?_⟩;exact zb (zp (yaF (n:=r2.length) rfl underlying29 (yaE (hS.rdo 8 rfl))) (zp (za (ii (r2.length:Int))) (yaZ (j _ _ _ ⟨_,h,rfl,H1,H2,H3,H8,H9,H10,rfl,hS.sel [1,2,3,0]⟩))))
    · replace h:=h.2 hp6;exact yat (zC (zI hp6)) (yag (j _ _ _ ⟨_,h,rfl,H1,H2,H3,H8,H9,H10,rfl,hS.sel [1,2,3,0]⟩))
  · replace h:=h.2 hp;exact zd hp (yax rfl (zs (zH H8 (zH H9 (zQ (ii best) (zQ (.slice Aa Ab Ac) (yaa (yaG rfl rfl rfl ⟨_,_,_,_,_,rfl,hS.sel [0],h⟩))))))))
def yfR(g:Int)(g2:List E3)(s:List (List Int))(R:Int→(List Int)→Prop):Prop :=
ydn g g2 (fun r =>
(∃ I2:Nat→(List (List Int))→Int→Prop,(∃ m0,I2 m0 ([]) 0)∧∀ m2 l i,I2 m2 l i → 
((i<(r.length:Int) →
((0≤i∧i<(r.length:Int)) ∧
yf0 s (gx r i.toNat) (fun r2 =>
((r2=true →
(l.length+1≤1000000000 ∧
(In64 (i+1) ∧
∃ m3,m3<m2∧I2 m3 (l++[(gx r i.toNat)]) (i+1)))) ∧
(¬(r2=true) →
(In64 (i+1) ∧
∃ m4,m4<m2∧I2 m4 l (i+1))))))) ∧
(¬(i<(r.length:Int)) →
yel g g2 l false (fun r3 r4 =>
R r3 r4)))))
theorem yje{O:Nat→Prop}{w:World}{g g2 s Ag lg cg As ls cs}{R:Int→(List Int)→Prop}(h:yfR g g2 s R)(hO:∀ k,O k→k<w.heap.size)(hA0:(FP.sl c3 Ag lg cg g2).P O w)(hA1:(FP.sl (cL cI) As ls cs s).P O w) :
    Calls Tryz.prog 61 #[(.agg #[ii g,.slice Ag lg cg]),.slice As ls cs] w fun e w'=>∃ r5 r6 Ar3 lr3 cr3,e = .returned (.tuple #[ii r5,.slice Ar3 lr3 cr3])∧Sep w no O w' (rl [Res.ro (FP.sl cI Ar3 lr3 cr3 r6)])∧R r5 r6:=by
  unfold yfR at h;have hS:Sep w no O w (rl [Res.ro (FP.sl c3 Ag lg cg g2),Res.ro (FP.sl (cL cI) As ls cs s)]):=Sep.startl hO [(FP.sl c3 Ag lg cg g2),(FP.sl (cL cI) As ls cs s)] ⟨hA0,hA1,trivial⟩;refine yap (l:=[(.agg #[ii g,.slice Ag lg cg]),.slice As ls cs]) func61 rfl ntmps61 zY (zs (zn (ya8 (v:=(.agg #[ii g,.slice Ag lg cg])) rfl ?_)));intro g3 w2 hN;replace hS:=hS.neu 2 [ii g,.slice Ag lg cg] hN;clear hN;refine zb (zQ (ii 0) (zQ (.slice none 0 0) (yaa (zs (zq (yaq (vs:=[ii g,.slice Ag lg cg]) rfl underlying24 rfl yao ⟨hS.bc 2 0,hS.bc 2 1,trivial⟩) (zn (yam rfl (am1 rfl) enter_108 ((ygD h hS.blt (hS.ro 0 rfl)).mono ?_))))))));rintro _ w3 ⟨r,Ar,lr,cr,rfl,hC,h⟩;replace hS:=hS.call1 hC 3 0 rfl;clear hC;refine ⟨_,rfl,?_⟩;refine zb (zQ (.slice Ar lr cr) (yaa (zs (zQ (.slice none 0 0) (yaa (yaf (zs (zQ (ii 0) (yaa (yai ?_))))))))));replace hS:=hS.nil 4 rfl (cL cI) 29;obtain ⟨I2,⟨m0,h0⟩,hr⟩:=h;refine yaz (fun m E ds w'=>∃ l i Al ll cl,I2 m l i∧ds=[]∧E 1 = .slice As ls cs∧E 2 = .pointer (some ⟨g3,0,none⟩)∧E 6 = .slice Ar lr cr∧E 7 = .slice Al ll cl∧E 8=(ii i)∧Sep w no O w' (rl [Res.own (cL cI) 29 Al ll cl l,Res.ro (FP.sl (cL cI) As ls cs s),Res.box 24 g3 [ii g,.slice Ag lg cg],Res.ro (FP.sl c3 Ag lg cg g2),Res.own (cL cI) 29 Ar lr cr r])) m0 ⟨_,_,_,_,_,h0,rfl,rfl,rfl,rfl,rfl,rfl,hS.sel [4,1,2,0,3]⟩ ?_;clear h0 hS;rintro m2 E ds w4 ⟨l,i,Al,ll,cl,h,rfl,H1,H2,H6,H7,H8,hS⟩ ag;replace h:=hr m2 l i h;clear hr;refine yaf (zs (zH H8 (zH H6 (zq (yaF (n:=r.length) rfl underlying25 (yaE (hS.rdo 4 rfl))) (zq zL (yaa ?_))))));by_cases hp:i<(r.length:Int)
  · replace h:=h.1 hp;refine zc hp (yag (yaf (yai (zs (zH H1 (zH H6 (zH H8 ?_)))))));obtain ⟨hx,h⟩:=h;refine zq (zi underlying25 yaL (yaP (hS.rdo 4 rfl) hx)) ?_;obtain ⟨A,l2,c,hc,hq⟩:=hS.elo 4 rfl hx 5 rfl;replace hS:=hq;clear hq;refine zq (yau (v:=(.slice A l2 c)) rfl underlying29 rfl hc) (zn (yam rfl (am2 rfl rfl) enter_45 ((pok_r40_Hits h (yaB _) (hS.rdr 1 rfl) (hS.rdr 5 rfl)).mono ?_)));rintro _ w5 ⟨r2,rfl,hC,h⟩;replace hS:=hS.pur hC.pure;refine ⟨_,rfl,?_⟩;refine zb (yaa ?_);by_cases hp2:r2=true
    · replace h:=h.1 hp2;refine yar (zC hp2) (zr (zH H7 (zH H6 (zH H8 (zq (zi underlying25 yaL (yaP (hS.rdo 4 rfl) hx)) ?_)))));obtain ⟨A2,l3,c4,hc2,hq⟩:=hS.elo 4 rfl hx 6 rfl;replace hS:=hq;clear hq;refine zq (yau (v:=(.slice A2 l3 c4)) rfl underlying29 rfl hc2) (zn (yaX (l:=[(0,(.slice A2 l3 c4))]) (cells:=[.slice A2 l3 c4]) (bp1 rfl) underlying25 yaL rfl rfl ?_));intro g4 w6 hN;replace hS:=hS.lit (n:=1) (c:=(cL cI)) 7 rfl hN ([(gx r i.toNat)]:List (List Int)) rfl (by decide) ⟨[.slice A2 l3 c4],_,rfl,(ro_R (hS.ro 6 rfl)),rfl⟩;clear hN;refine zb ?_;obtain ⟨hx2,h⟩:=h;refine zn (ygp (c:=(cL cI)) rfl rfl underlying25 underlying25 yaL rfl rfl (by decide) hS 0 rfl (hS.yo 7 rfl) hx2 ?_);clear hS;intro A3 c5 w7 hS;refine zb (zQ (.slice A3 (ll+1) c5) (yaa (yah (zr (zH H8 ?_)))));obtain ⟨hi,h⟩:=h;refine zq (zA hi) (zQ (ii (i+1)) (yaa ?_));obtain ⟨mq,hlt,h⟩:=h;exact ag mq _ _ _ ⟨_,_,_,_,_,h,rfl,H1,H2,H6,rfl,rfl,hS.sel [0,1,2,3,4]⟩ hlt
    · replace h:=h.2 hp2;refine yat (zC (zI hp2)) (yag (yah (zr (zH H8 ?_))));obtain ⟨hi2,h⟩:=h;refine zq (zA hi2) (zQ (ii (i+1)) (yaa ?_));obtain ⟨mq,hlt,h⟩:=h;exact ag mq _ _ _ ⟨_,_,_,_,_,h,rfl,H1,H2,H6,H7,rfl,hS.sel [0,1,2,3,4]⟩ hlt
  · replace h:=h.2 hp;refine zd hp (yax rfl (zs (zq (yaq (vs:=[ii g,.slice Ag lg cg]) H2 underlying24 rfl yao ⟨hS.bc 2 0,hS.bc 2 1,trivial⟩) (zH H7 ?_))));replace hS:=hS.frz 0 rfl;refine zn (yam rfl (am3 rfl rfl rfl) enter_109 ((yhU h hS.blt (hS.ro 3 rfl) (hS.ro 0 rfl)).mono ?_));rintro _ w8 ⟨r3,r4,Ar2,lr2,cr2,rfl,hC,h⟩;replace hS:=hS.call1 hC 5 0 rfl;clear hC;refine ⟨_,rfl,?_⟩;exact zb (zq (zx (ii r3)) (zq (zx (.slice Ar2 lr2 cr2)) (zQ (ii r3) (zQ (.slice Ar2 lr2 cr2) (yaa (yaG rfl rfl rfl ⟨_,_,_,_,_,rfl,hS.sel [5],h⟩))))))
def yfc(g:Int)(g2:List E3)(s:List (List Int))(set2:List Int)(R:Bool→Prop):Prop :=
(∃ I2:Nat→Bool→Bool→Int→Prop,(∃ m0,I2 m0 false false 0)∧∀ m2 in2 out i,I2 m2 in2 out i → 
((i<(s.length:Int) →
(∃ I3:Nat→Int→Int→Prop,(∃ m0,I3 m0 0 0)∧∀ m3 k j,I3 m3 k j → 
((0≤i∧i<(s.length:Int)) ∧
((j<((gx s i.toNat).length:Int) →
((0≤j∧j<((gx s i.toNat).length:Int)) ∧
ycW set2 (gi (gx s i.toNat) j.toNat) (fun r =>
((r=true →
(In64 (k+1) ∧
(In64 (j+1) ∧
∃ m4,m4<m3∧I3 m4 (k+1) (j+1)))) ∧
(¬(r=true) →
(In64 (j+1) ∧
∃ m5,m5<m3∧I3 m5 k (j+1))))))) ∧
(¬(j<((gx s i.toNat).length:Int)) →
((in2=true →
((out=true →
(In64 (i+1) ∧
∃ m6,m6<m2∧I2 m6 true true (i+1))) ∧
(¬(out=true) →
(In64 (i+1) ∧
∃ m7,m7<m2∧I2 m7 true (decide (k=0)) (i+1))))) ∧
(¬(in2=true) →
((out=true →
(In64 (i+1) ∧
∃ m8,m8<m2∧I2 m8 (decide (k=((gx s i.toNat).length:Int))) true (i+1))) ∧
(¬(out=true) →
(In64 (i+1) ∧
∃ m9,m9<m2∧I2 m9 (decide (k=((gx s i.toNat).length:Int))) (decide (k=0)) (i+1))))))))))) ∧
(¬(i<(s.length:Int)) →
((in2=true →
R out) ∧
(¬(in2=true) →
R false)))))
theorem pok_r40_Parts{O:Nat→Prop}{w:World}{g g2 s set2 Ag lg cg As ls cs Aa Ab Ac}{R:Bool→Prop}(h:yfc g g2 s set2 R)(hO:∀ k,O k→k<w.heap.size)(hA0:(FP.sl c3 Ag lg cg g2).P O w)(hA1:(FP.sl (cL cI) As ls cs s).P O w)(hA2:(FP.sl cI Aa Ab Ac set2).P O w) :
    Calls Tryz.prog 47 #[(.agg #[ii g,.slice Ag lg cg]),.slice As ls cs,.slice Aa Ab Ac] w fun e w'=>∃ r2,e = .returned (.bool (r2))∧Sep w no O w' (rl [])∧R r2:=by
  unfold yfc at h;have hS:Sep w no O w (rl [Res.ro (FP.sl c3 Ag lg cg g2),Res.ro (FP.sl (cL cI) As ls cs s),Res.ro (FP.sl cI Aa Ab Ac set2)]):=Sep.startl hO [(FP.sl c3 Ag lg cg g2),(FP.sl (cL cI) As ls cs s),(FP.sl cI Aa Ab Ac set2)] ⟨hA0,hA1,hA2,trivial⟩;refine yap (l:=[(.agg #[ii g,.slice Ag lg cg]),.slice As ls cs,.slice Aa Ab Ac]) func47 rfl ntmps47 zY (zs (zn (ya8 (v:=(.agg #[ii g,.slice Ag lg cg])) rfl ?_)));intro g3 w2 hN;replace hS:=hS.neu 3 [ii g,.slice Ag lg cg] hN;clear hN;refine zb (zQ (.bool (false)) (yaa (zs (zQ (.bool (false)) (zQ (.bool (false)) (yaa (yaf (zs (zQ (ii 0) (yaa (yai ?_)))))))))));obtain ⟨I2,⟨m0,h0⟩,hr⟩:=h;refine yaz (fun m E ds w'=>∃ in2 out i,I2 m in2 out i∧ds=[]∧E 1 = .slice As ls cs∧E 2 = .slice Aa Ab Ac∧E 7 = .bool (in2)∧E 8 = .bool (out)∧E 9=(ii i)∧Sep w no O w' (rl [Res.ro (FP.sl (cL cI) As ls cs s),Res.ro (FP.sl cI Aa Ab Ac set2)])) m0 ⟨_,_,_,h0,rfl,rfl,rfl,rfl,rfl,rfl,hS.sel [1,2]⟩ ?_;clear h0 hS;rintro m2 E ds w3 ⟨in2,out,i,h,rfl,H1,H2,H7,H8,H9,hS⟩ ag;replace h:=hr m2 in2 out i h;clear hr;refine yaf (zs (zH H9 (zH H1 (zq (yaF (n:=s.length) rfl underlying25 (yaE (hS.rdr 0 rfl))) (zq zL (yaa ?_))))));by_cases hp:i<(s.length:Int)
  · replace h:=h.1 hp;refine zc hp (yag (yaf (yai (zs (zQ (ii 0) (yaa (yaf (zs (zQ (ii 0) (yaa (yai ?_)))))))))));obtain ⟨I3,⟨m0,h0⟩,hr⟩:=h;refine yaz (fun m E ds w'=>∃ k j,I3 m k j∧ds=[]∧E 1 = .slice As ls cs∧E 2 = .slice Aa Ab Ac∧E 7 = .bool (in2)∧E 8 = .bool (out)∧E 9=(ii i)∧E 10=(ii k)∧E 11=(ii j)∧Sep w no O w' (rl [Res.ro (FP.sl (cL cI) As ls cs s),Res.ro (FP.sl cI Aa Ab Ac set2)])) m0 ⟨_,_,h0,rfl,H1,H2,H7,H8,H9,rfl,rfl,hS.sel [0,1]⟩ ?_;clear h0 hS;rintro m3 E ds w4 ⟨k,j,h,rfl,H1,H2,H7,H8,H9,H10,H11,hS⟩ again2;replace h:=hr m3 k j h;clear hr;refine yaf (zs (zH H11 (zH H1 (zH H9 ?_))));obtain ⟨hx,h⟩:=h;refine zq (zi underlying25 yaL (yaP (hS.rdr 0 rfl) hx)) ?_;obtain ⟨A,l,c,hc,hq⟩:=hS.el 0 rfl hx 2 3 rfl rfl (by decide);replace hS:=hq;clear hq;refine zq (yau (v:=(.slice A l c)) rfl underlying29 rfl (hS.clr 3 rfl)) (zq (yaF (n:=(gx s i.toNat).length) rfl underlying29 (yaE (hS.rdr 2 rfl))) (zq zL (yaa ?_)));by_cases hp2:j<((gx s i.toNat).length:Int)
    · replace h:=h.1 hp2;refine zc hp2 (yag (yaf (yai (zs (zH H2 (zH H1 (zH H9 (zq (zi underlying25 yaL (yaP (hS.rdr 0 rfl) hx)) ?_))))))));obtain ⟨A2,l2,c4,hc2,hq⟩:=hS.el 0 rfl hx 4 5 rfl rfl (by decide);replace hS:=hq;clear hq;refine zq (yau (v:=(.slice A2 l2 c4)) rfl underlying29 rfl (hS.clr 5 rfl)) (zH H11 ?_);obtain ⟨hx2,h⟩:=h;refine zq (zi underlying29 yaj (yaP (hS.rdr 4 rfl) hx2)) (zq (yau (v:=(ii (gi (gx s i.toNat) j.toNat))) rfl underlying3 rfl (rd_1 (hS.rdr 4 rfl) hx2 (fun q=>yaY q) rfl)) ?_);refine zn (yam rfl (am2 rfl rfl) yiQ ((yeF h (yaB _) (hS.rdr 1 rfl)).mono ?_));rintro _ w5 ⟨r,rfl,hC,h⟩;replace hS:=hS.pur hC.pure;refine ⟨_,rfl,?_⟩;refine zb (yaa ?_);by_cases hp3:r=true
      · replace h:=h.1 hp3;refine yar (zC hp3) (zr (zH H10 ?_));obtain ⟨hi,h⟩:=h;refine zq (zA hi) (zQ (ii (k+1)) (yaa (yah (zr (zH H11 ?_)))));obtain ⟨hi2,h⟩:=h;refine zq (zA hi2) (zQ (ii (j+1)) (yaa ?_));obtain ⟨mq,hlt,h⟩:=h;exact again2 mq _ _ _ ⟨_,_,h,rfl,H1,H2,H7,H8,H9,rfl,rfl,hS.sel [0,1]⟩ hlt
      · replace h:=h.2 hp3;refine yat (zC (zI hp3)) (yag (yah (zr (zH H11 ?_))));obtain ⟨hi3,h⟩:=h;refine zq (zA hi3) (zQ (ii (j+1)) (yaa ?_));obtain ⟨mq,hlt,h⟩:=h;exact again2 mq _ _ _ ⟨_,_,h,rfl,H1,H2,H7,H8,H9,H10,rfl,hS.sel [0,1]⟩ hlt
    · replace h:=h.2 hp2;refine zd hp2 (yax rfl (zs (zH H7 (zM (.bool (in2)) ?_))));by_cases hp4:in2=true
      · replace h:=h.1 hp4;refine zV rfl rfl (zC hp4) (zV rfl rfl (zC hp4) (zV rfl rfl (zC hp4) (zV rfl rfl (zC hp4) (zV rfl rfl (zC hp4) (zV rfl rfl (zC hp4) (zV rfl rfl (zC hp4) (zq (yas (v:=(.bool (true))) (zC hp4) rfl) (zQ (.bool (true)) (yaa (zr (zH H8 (zM (.bool (out)) ?_))))))))))));by_cases hp5:out=true
        · replace h:=h.1 hp5;refine zV rfl rfl (zC hp5) (zV rfl rfl (zC hp5) (zq (yas (v:=(.bool (true))) (zC hp5) rfl) (zQ (.bool (true)) (yaa (yah (zr (zH H9 ?_)))))));obtain ⟨hi4,h⟩:=h;refine zq (zA hi4) (zQ (ii (i+1)) (yaa ?_));obtain ⟨mq,hlt,h⟩:=h;exact ag mq _ _ _ ⟨_,_,_,h,rfl,H1,H2,rfl,rfl,rfl,hS.sel [0,1]⟩ hlt
        · replace h:=h.2 hp5;refine zW rfl rfl (zC (zI hp5)) (yad H10) (zW rfl rfl (zC (zI hp5)) zE (zq (yal (v:=(.bool (decide (k=0)))) (zC (zI hp5)) rfl) (zQ (.bool (decide (k=0))) (yaa (yah (zr (zH H9 ?_)))))));obtain ⟨hi5,h⟩:=h;refine zq (zA hi5) (zQ (ii (i+1)) (yaa ?_));obtain ⟨mq,hlt,h⟩:=h;exact ag mq _ _ _ ⟨_,_,_,h,rfl,H1,H2,rfl,rfl,rfl,hS.sel [0,1]⟩ hlt
      · replace h:=h.2 hp4;refine zW rfl rfl (zC (zI hp4)) (yad H10) (zW rfl rfl (zC (zI hp4)) (yad H1) (zW rfl rfl (zC (zI hp4)) (yad H9) (zW rfl rfl (zC (zI hp4)) (zi underlying25 yaL (yaP (hS.rdr 0 rfl) hx)) ?_)));obtain ⟨A3,l3,c5,hc3,hq⟩:=hS.el 0 rfl hx 4 5 rfl rfl (by decide);replace hS:=hq;clear hq;refine zW rfl rfl (zC (zI hp4)) (yau (v:=(.slice A3 l3 c5)) rfl underlying29 rfl (hS.clr 5 rfl)) (zW rfl rfl (zC (zI hp4)) (yaF (n:=(gx s i.toNat).length) rfl underlying29 (yaE (hS.rdr 4 rfl))) (zW rfl rfl (zC (zI hp4)) zE (zq (yal (v:=(.bool (decide (k=((gx s i.toNat).length:Int))))) (zC (zI hp4)) rfl) (zQ (.bool (decide (k=((gx s i.toNat).length:Int)))) (yaa (zr (zH H8 (zM (.bool (out)) ?_))))))));by_cases hp6:out=true
        · replace h:=h.1 hp6;refine zV rfl rfl (zC hp6) (zV rfl rfl (zC hp6) (zq (yas (v:=(.bool (true))) (zC hp6) rfl) (zQ (.bool (true)) (yaa (yah (zr (zH H9 ?_)))))));obtain ⟨hi6,h⟩:=h;refine zq (zA hi6) (zQ (ii (i+1)) (yaa ?_));obtain ⟨mq,hlt,h⟩:=h;exact ag mq _ _ _ ⟨_,_,_,h,rfl,H1,H2,rfl,rfl,rfl,hS.sel [0,1]⟩ hlt
        · replace h:=h.2 hp6;refine zW rfl rfl (zC (zI hp6)) (yad H10) (zW rfl rfl (zC (zI hp6)) zE (zq (yal (v:=(.bool (decide (k=0)))) (zC (zI hp6)) rfl) (zQ (.bool (decide (k=0))) (yaa (yah (zr (zH H9 ?_)))))));obtain ⟨hi7,h⟩:=h;refine zq (zA hi7) (zQ (ii (i+1)) (yaa ?_));obtain ⟨mq,hlt,h⟩:=h;exact ag mq _ _ _ ⟨_,_,_,h,rfl,H1,H2,rfl,rfl,rfl,hS.sel [0,1]⟩ hlt
  · replace h:=h.2 hp;refine zd hp (yax rfl (zs (zH H7 (zM (.bool (in2)) ?_))));by_cases hp7:in2=true
    · replace h:=h.1 hp7;exact zW rfl rfl (zC hp7) (yad H8) (zq (yas (v:=(.bool (out))) (zC hp7) rfl) (zQ (.bool (out)) (yaa (yak rfl rfl ⟨_,rfl,hS.sel [],h⟩))))
    · replace h:=h.2 hp7;exact zV rfl rfl (zC (zI hp7)) (zq (yal (v:=(.bool (false))) (zC (zI hp7)) rfl) (zQ (.bool (false)) (yaa (yak rfl rfl ⟨_,rfl,hS.sel [],h⟩))))
def ycC(g:Int)(g2:List E3)(s:List (List Int))(R:Int→(List Int)→Prop):Prop :=
ydn g g2 (fun r =>
(∃ I2:Nat→(List (List Int))→Int→Prop,(∃ m0,I2 m0 ([]) 0)∧∀ m2 l i,I2 m2 l i → 
((i<(r.length:Int) →
((0≤i∧i<(r.length:Int)) ∧
yfc g g2 s (gx r i.toNat) (fun r2 =>
((r2=true →
(l.length+1≤1000000000 ∧
(In64 (i+1) ∧
∃ m3,m3<m2∧I2 m3 (l++[(gx r i.toNat)]) (i+1)))) ∧
(¬(r2=true) →
(In64 (i+1) ∧
∃ m4,m4<m2∧I2 m4 l (i+1))))))) ∧
(¬(i<(r.length:Int)) →
yel g g2 l true (fun r3 r4 =>
R r3 r4)))))
theorem yfH{O:Nat→Prop}{w:World}{g g2 s Ag lg cg As ls cs}{R:Int→(List Int)→Prop}(h:ycC g g2 s R)(hO:∀ k,O k→k<w.heap.size)(hA0:(FP.sl c3 Ag lg cg g2).P O w)(hA1:(FP.sl (cL cI) As ls cs s).P O w) :
    Calls Tryz.prog 67 #[(.agg #[ii g,.slice Ag lg cg]),.slice As ls cs] w fun e w'=>∃ r5 r6 Ar3 lr3 cr3,e = .returned (.tuple #[ii r5,.slice Ar3 lr3 cr3])∧Sep w no O w' (rl [Res.ro (FP.sl cI Ar3 lr3 cr3 r6)])∧R r5 r6:=by
  unfold ycC at h;have hS:Sep w no O w (rl [Res.ro (FP.sl c3 Ag lg cg g2),Res.ro (FP.sl (cL cI) As ls cs s)]):=Sep.startl hO [(FP.sl c3 Ag lg cg g2),(FP.sl (cL cI) As ls cs s)] ⟨hA0,hA1,trivial⟩;refine yap (l:=[(.agg #[ii g,.slice Ag lg cg]),.slice As ls cs]) func67 rfl ntmps67 zY (zs (zn (ya8 (v:=(.agg #[ii g,.slice Ag lg cg])) rfl ?_)));intro g3 w2 hN;replace hS:=hS.neu 2 [ii g,.slice Ag lg cg] hN;clear hN;refine zb (zQ (ii 0) (zQ (.slice none 0 0) (yaa (zs (zq (yaq (vs:=[ii g,.slice Ag lg cg]) rfl underlying24 rfl yao ⟨hS.bc 2 0,hS.bc 2 1,trivial⟩) (zn (yam rfl (am1 rfl) enter_108 ((ygD h hS.blt (hS.ro 0 rfl)).mono ?_))))))));rintro _ w3 ⟨r,Ar,lr,cr,rfl,hC,h⟩;replace hS:=hS.call1 hC 3 0 rfl;clear hC;refine ⟨_,rfl,?_⟩;refine zb (zQ (.slice Ar lr cr) (yaa (zs (zQ (.slice none 0 0) (yaa (yaf (zs (zQ (ii 0) (yaa (yai ?_))))))))));replace hS:=hS.nil 4 rfl (cL cI) 29;obtain ⟨I2,⟨m0,h0⟩,hr⟩:=h;refine yaz (fun m E ds w'=>∃ l i Al ll cl,I2 m l i∧ds=[]∧E 1 = .slice As ls cs∧E 2 = .pointer (some ⟨g3,0,none⟩)∧E 6 = .slice Ar lr cr∧E 7 = .slice Al ll cl∧E 8=(ii i)∧Sep w no O w' (rl [Res.own (cL cI) 29 Al ll cl l,Res.ro (FP.sl (cL cI) As ls cs s),Res.box 24 g3 [ii g,.slice Ag lg cg],Res.ro (FP.sl c3 Ag lg cg g2),Res.own (cL cI) 29 Ar lr cr r])) m0 ⟨_,_,_,_,_,h0,rfl,rfl,rfl,rfl,rfl,rfl,hS.sel [4,1,2,0,3]⟩ ?_;clear h0 hS;rintro m2 E ds w4 ⟨l,i,Al,ll,cl,h,rfl,H1,H2,H6,H7,H8,hS⟩ ag;replace h:=hr m2 l i h;clear hr;refine yaf (zs (zH H8 (zH H6 (zq (yaF (n:=r.length) rfl underlying25 (yaE (hS.rdo 4 rfl))) (zq zL (yaa ?_))))));by_cases hp:i<(r.length:Int)
  · replace h:=h.1 hp;refine zc hp (yag (yaf (yai (yaf (yaT [0,1,2,3,4,5,6] st0 yaD (by kernel_rfl) (by kernel_rfl) ?_)))));replace hS:=hS.drew;refine zp (yaq (vs:=[ii g,.slice Ag lg cg]) H2 underlying24 rfl yao ⟨hS.bc 2 0,hS.bc 2 1,trivial⟩) (zp (yad H1) (zp (yad H6) (zp (yad H8) ?_)));obtain ⟨hx,h⟩:=h;refine zp (zi underlying25 yaL (yaP (hS.rdo 4 rfl) hx)) ?_;obtain ⟨A,l2,c,hc,hq⟩:=hS.elo 4 rfl hx 5 rfl;replace hS:=hq;clear hq;refine zp (yau (v:=(.slice A l2 c)) rfl underlying29 rfl hc) (rp_n rfl rfl rfl rfl (yam rfl (am3 rfl rfl rfl) enter_47 ((pok_r40_Parts h (yaB _) (hS.rdr 3 rfl) (hS.rdr 1 rfl) (hS.rdr 5 rfl)).mono ?_)));rintro _ w5 ⟨r2,rfl,hC,h⟩;replace hS:=hS.pur hC.pure;refine ⟨_,rfl,?_⟩;refine zb (yaZ ?_);by_cases hp2:r2=true
    · replace h:=h.1 hp2;refine yar (zC hp2) (zr (zH H7 (zH H6 (zH H8 (zq (zi underlying25 yaL (yaP (hS.rdo 4 rfl) hx)) ?_)))));obtain ⟨A2,l3,c4,hc2,hq⟩:=hS.elo 4 rfl hx 6 rfl;replace hS:=hq;clear hq;refine zq (yau (v:=(.slice A2 l3 c4)) rfl underlying29 rfl hc2) (zn (yaX (l:=[(0,(.slice A2 l3 c4))]) (cells:=[.slice A2 l3 c4]) (bp1 rfl) underlying25 yaL rfl rfl ?_));intro g4 w6 hN;replace hS:=hS.lit (n:=1) (c:=(cL cI)) 7 rfl hN ([(gx r i.toNat)]:List (List Int)) rfl (by decide) ⟨[.slice A2 l3 c4],_,rfl,(ro_R (hS.ro 6 rfl)),rfl⟩;clear hN;refine zb ?_;obtain ⟨hx2,h⟩:=h;refine zn (ygp (c:=(cL cI)) rfl rfl underlying25 underlying25 yaL rfl rfl (by decide) hS 0 rfl (hS.yo 7 rfl) hx2 ?_);clear hS;intro A3 c5 w7 hS;refine zb (zQ (.slice A3 (ll+1) c5) (yaa (yah (zr (zH H8 ?_)))));obtain ⟨hi,h⟩:=h;refine zq (zA hi) (zQ (ii (i+1)) (yaa ?_));obtain ⟨mq,hlt,h⟩:=h;exact ag mq _ _ _ ⟨_,_,_,_,_,h,rfl,H1,H2,H6,rfl,rfl,hS.sel [0,1,2,3,4]⟩ hlt
    · replace h:=h.2 hp2;refine yat (zC (zI hp2)) (yag (yah (zr (zH H8 ?_))));obtain ⟨hi2,h⟩:=h;refine zq (zA hi2) (zQ (ii (i+1)) (yaa ?_));obtain ⟨mq,hlt,h⟩:=h;exact ag mq _ _ _ ⟨_,_,_,_,_,h,rfl,H1,H2,H6,H7,rfl,hS.sel [0,1,2,3,4]⟩ hlt
  · replace h:=h.2 hp;refine zd hp (yax rfl (zs (zq (yaq (vs:=[ii g,.slice Ag lg cg]) H2 underlying24 rfl yao ⟨hS.bc 2 0,hS.bc 2 1,trivial⟩) (zH H7 ?_))));replace hS:=hS.frz 0 rfl;refine zn (yam rfl (am3 rfl rfl rfl) enter_109 ((yhU h hS.blt (hS.ro 3 rfl) (hS.ro 0 rfl)).mono ?_));rintro _ w8 ⟨r3,r4,Ar2,lr2,cr2,rfl,hC,h⟩;replace hS:=hS.call1 hC 5 0 rfl;clear hC;refine ⟨_,rfl,?_⟩;exact zb (zq (zx (ii r3)) (zq (zx (.slice Ar2 lr2 cr2)) (zQ (ii r3) (zQ (.slice Ar2 lr2 cr2) (yaa (yaG rfl rfl rfl ⟨_,_,_,_,_,rfl,hS.sel [5],h⟩))))))
def yga(g:Int)(g2:List E3)(s:List (List Int))(R:Int→Prop):Prop :=
yfR g g2 s (fun r r2 =>
ycC g g2 s (fun r3 r4 =>
((0≤r3 →
((r3<r →
R r3) ∧
(¬(r3<r) →
R r))) ∧
(¬(0≤r3) →
R r))))
theorem pok_r40_Size{O:Nat→Prop}{w:World}{g g2 s Ag lg cg As ls cs}{R:Int→Prop}(h:yga g g2 s R)(hO:∀ k,O k→k<w.heap.size)(hA0:(FP.sl c3 Ag lg cg g2).P O w)(hA1:(FP.sl (cL cI) As ls cs s).P O w) :
    Calls Tryz.prog 68 #[(.agg #[ii g,.slice Ag lg cg]),.slice As ls cs] w fun e w'=>∃ r5,e = .returned (ii r5)∧Sep w no O w' (rl [])∧R r5:=by
  unfold yga at h;have hS:Sep w no O w (rl [Res.ro (FP.sl c3 Ag lg cg g2),Res.ro (FP.sl (cL cI) As ls cs s)]):=Sep.startl hO [(FP.sl c3 Ag lg cg g2),(FP.sl (cL cI) As ls cs s)] ⟨hA0,hA1,trivial⟩;refine yap (l:=[(.agg #[ii g,.slice Ag lg cg]),.slice As ls cs]) func68 rfl ntmps68 zY (zs (zn (ya8 (v:=(.agg #[ii g,.slice Ag lg cg])) rfl ?_)));intro g3 w2 hN;replace hS:=hS.neu 2 [ii g,.slice Ag lg cg] hN;clear hN;refine zb (zQ (ii 0) (yaa (zs (zq (yaq (vs:=[ii g,.slice Ag lg cg]) rfl underlying24 rfl yao ⟨hS.bc 2 0,hS.bc 2 1,trivial⟩) (zM (.slice As ls cs) (zn (yam rfl (am2 rfl rfl) enter_61 ((yje h hS.blt (hS.ro 0 rfl) (hS.ro 1 rfl)).mono ?_))))))));rintro _ w3 ⟨r,r2,Ar,lr,cr,rfl,hC,h⟩;replace hS:=hS.call1 hC 3 0 rfl;clear hC;refine ⟨_,rfl,?_⟩;refine zb (zM (.tuple #[ii r,.slice Ar lr cr]) (zq (zx (ii r)) (zq (zx (.slice Ar lr cr)) (zQ (ii r) (zQ (.slice Ar lr cr) (yaa (zs (zq (yaq (vs:=[ii g,.slice Ag lg cg]) rfl underlying24 rfl yao ⟨hS.bc 2 0,hS.bc 2 1,trivial⟩) (zM (.slice As ls cs) (zn (yam rfl (am2 rfl rfl) enter_67 ((yfH h hS.blt (hS.ro 0 rfl) (hS.ro 1 rfl)).mono ?_))))))))))));rintro _ w4 ⟨r3,r4,Ar2,lr2,cr2,rfl,hC,h⟩;replace hS:=hS.call1 hC 4 0 rfl;clear hC;refine ⟨_,rfl,?_⟩;refine zb (zM (.tuple #[ii r3,.slice Ar2 lr2 cr2]) (zq (zx (ii r3)) (zq (zx (.slice Ar2 lr2 cr2)) (zQ (ii r3) (zQ (.slice Ar2 lr2 cr2) (yaa (yaf (zs (zM (ii r3) (zq (yiF rfl rfl) (zM (.bool (decide (0≤r3))) ?_)))))))))));by_cases hp:0≤r3
  · replace h:=h.1 hp;refine zW rfl rfl (zT hp) (zm (ii r3)) (zW rfl rfl (zT hp) (zm (ii r)) (zW rfl rfl (zT hp) zL (zq (yas (v:=(.bool (decide (r3<r)))) (zT hp) rfl) (yaa ?_))));by_cases hp2:r3<r
    · replace h:=h.1 hp2;exact zc hp2 (zs (zM (ii r3) (zQ (ii r3) (yaa (yak rfl rfl ⟨_,rfl,hS.sel [],h⟩)))))
    · replace h:=h.2 hp2;exact zd hp2 (yag (zs (zM (ii r) (zQ (ii r) (yaa (yak rfl rfl ⟨_,rfl,hS.sel [],h⟩))))))
  · replace h:=h.2 hp;exact zV rfl rfl (zF hp) (zV rfl rfl (zF hp) (zV rfl rfl (zF hp) (zq (yal (v:=(.bool (false))) (zF hp) rfl) (yaa (yat rfl (yag (zs (zM (ii r) (zQ (ii r) (yaa (yak rfl rfl ⟨_,rfl,hS.sel [],h⟩)))))))))))
def ykf(g:Int)(g2:List E3)(d:List Int)(R:Bool→Prop):Prop :=
ykk g g2 d 1 (fun r r2 =>
R (!(r2)))
theorem pok_r40_Moves{O:Nat→Prop}{w:World}{g g2 d Ag lg cg Ad ld cd}{R:Bool→Prop}(h:ykf g g2 d R)(hO:∀ k,O k→k<w.heap.size)(hA0:(FP.sl c3 Ag lg cg g2).P O w)(hA1:(FP.sl cI Ad ld cd d).P O w) :
    Calls Tryz.prog 87 #[(.agg #[ii g,.slice Ag lg cg]),.slice Ad ld cd] w fun e w'=>∃ r3,e = .returned (.bool (r3))∧Sep w no O w' (rl [])∧R r3:=by
  unfold ykf at h;have hS:Sep w no O w (rl [Res.ro (FP.sl c3 Ag lg cg g2),Res.ro (FP.sl cI Ad ld cd d)]):=Sep.startl hO [(FP.sl c3 Ag lg cg g2),(FP.sl cI Ad ld cd d)] ⟨hA0,hA1,trivial⟩;refine yap (l:=[(.agg #[ii g,.slice Ag lg cg]),.slice Ad ld cd]) func87 rfl ntmps87 zY (zs (zn (ya8 (v:=(.agg #[ii g,.slice Ag lg cg])) rfl ?_)));intro g3 w2 hN;replace hS:=hS.neu 2 [ii g,.slice Ag lg cg] hN;clear hN;refine zb (zQ (.bool (false)) (yaa (zs (zq (yaq (vs:=[ii g,.slice Ag lg cg]) rfl underlying24 rfl yao ⟨hS.bc 2 0,hS.bc 2 1,trivial⟩) (zM (.slice Ad ld cd) (zn (yam rfl (am3 rfl rfl rfl) enter_129 ((pok_r38_Fails h hS.blt (hS.ro 0 rfl) (hS.ro 1 rfl)).mono ?_))))))));rintro _ w3 ⟨r,r2,Ar,lr,cr,rfl,hC,h⟩;replace hS:=hS.call1 hC 3 0 rfl;clear hC;refine ⟨_,rfl,?_⟩;exact zb (zM (.tuple #[.slice Ar lr cr,(.bool (r2))]) (zq (zx (.slice Ar lr cr)) (zq (zx (.bool (r2))) (zQ (.slice Ar lr cr) (zQ (.bool (r2)) (yaa (zs (zM (.bool (r2)) (zq (ycX rfl) (zQ (.bool (!(r2))) (yaa (yak rfl rfl ⟨_,rfl,hS.sel [],h⟩))))))))))))
def ykV(g:Int)(g2:List E3)(k:Int)(d:List Int)(s:List (List Int))(R:Bool→Int→Prop):Prop :=
ybd g g2 (fun r =>
((r=0 →
ycG d g (fun r2 =>
((r2=0 →
ybM g g2 s (fun r3 r4 =>
((r4=0 →
ych d (fun r5 r6 =>
((r6=0 →
(∃ J2:Prop,(J2→ycl g g2 d 1 (fun r7 r8 =>
R r7 r8)) ∧
((r5=k →
((r3<k →
R false 0) ∧
(¬(r3<k) →
J2))) ∧
(¬(r5=k) →
R false 0)))) ∧
(¬(r6=0) →
R false r6)))) ∧
(¬(r4=0) →
R false r4)))) ∧
(¬(r2=0) →
R false r2)))) ∧
(¬(r=0) →
R false r)))
theorem yk1{O:Nat→Prop}{w:World}{g g2 k d s Ag lg cg Ad ld cd As ls cs}{R:Bool→Int→Prop}(h:ykV g g2 k d s R)(hO:∀ k,O k→k<w.heap.size)(hA0:(FP.sl c3 Ag lg cg g2).P O w)(hA1:(FP.sl cI Ad ld cd d).P O w)(hA2:(FP.sl (cL cI) As ls cs s).P O w) :
    Calls Tryz.prog 39 #[(.agg #[ii g,.slice Ag lg cg]),ii k,.slice Ad ld cd,.slice As ls cs] w fun e w'=>∃ r9 r10,e = .returned (.tuple #[(.bool (r9)),ii r10])∧Sep w no O w' (rl [])∧R r9 r10:=by
  unfold ykV at h;have hS:Sep w no O w (rl [Res.ro (FP.sl c3 Ag lg cg g2),Res.ro (FP.sl cI Ad ld cd d),Res.ro (FP.sl (cL cI) As ls cs s)]):=Sep.startl hO [(FP.sl c3 Ag lg cg g2),(FP.sl cI Ad ld cd d),(FP.sl (cL cI) As ls cs s)] ⟨hA0,hA1,hA2,trivial⟩;refine yap (l:=[(.agg #[ii g,.slice Ag lg cg]),ii k,.slice Ad ld cd,.slice As ls cs]) func39 rfl ntmps39 zY (zs (zn (ya8 (v:=(.agg #[ii g,.slice Ag lg cg])) rfl ?_)));intro g3 w2 hN;replace hS:=hS.neu 3 [ii g,.slice Ag lg cg] hN;clear hN;refine zb (zQ (.bool (false)) (zQ (ii 0) (yaa (yaf (zs (zq (yaq (vs:=[ii g,.slice Ag lg cg]) rfl underlying24 rfl yao ⟨hS.bc 3 0,hS.bc 3 1,trivial⟩) (zn (yam rfl (am1 rfl) yhH ((ybP h (yaB _) (hS.rdr 0 rfl)).mono ?_)))))))));rintro _ w3 ⟨r,rfl,hC,h⟩;replace hS:=hS.pur hC.pure;refine ⟨_,rfl,?_⟩;refine zb (zQ (ii r) (yaa (zs (zM (ii r) (zq zN (yaa ?_))))));by_cases hp:r=0
  · replace h:=h.1 hp;refine ze hp (yag (yaf (zs (zM (.slice Ad ld cd) (zq (yan rfl underlying24 rfl yaj) (zq (zl underlying3 (hS.bc 3 0)) (zn (yam rfl (am2 rfl rfl) yiX ((ygB h (yaB _) (hS.rdr 1 rfl)).mono ?_)))))))));rintro _ w4 ⟨r2,rfl,hC,h⟩;replace hS:=hS.pur hC.pure;refine ⟨_,rfl,?_⟩;refine zb (zQ (ii r2) (yaa (zs (zM (ii r2) (zq zN (yaa ?_))))));by_cases hp2:r2=0
    · replace h:=h.1 hp2;refine ze hp2 (yag (zs (zq (yaq (vs:=[ii g,.slice Ag lg cg]) rfl underlying24 rfl yao ⟨hS.bc 3 0,hS.bc 3 1,trivial⟩) (zM (.slice As ls cs) (zn (yam rfl (am2 rfl rfl) enter_18 ((yff h (yaB _) (hS.rdr 0 rfl) (hS.rdr 2 rfl)).mono ?_)))))));rintro _ w5 ⟨r3,r4,rfl,hC,h⟩;replace hS:=hS.pur hC.pure;refine ⟨_,rfl,?_⟩;refine zb (zM (.tuple #[ii r3,ii r4]) (zq (zx (ii r3)) (zq (zx (ii r4)) (zQ (ii r3) (zQ (ii r4) (yaa (yaf (zs (zM (ii r4) (zq zN (yaa ?_)))))))))));by_cases hp3:r4=0
      · replace h:=h.1 hp3;refine ze hp3 (yag (zs (zM (.slice Ad ld cd) (zn (yam rfl (am1 rfl) enter_86 ((ygh h (yaB _) (hS.rdr 1 rfl)).mono ?_))))));rintro _ w6 ⟨r5,r6,rfl,hC,h⟩;replace hS:=hS.pur hC.pure;refine ⟨_,rfl,?_⟩;refine zb (zM (.tuple #[ii r5,ii r6]) (zq (zx (ii r5)) (zq (zx (ii r6)) (zQ (ii r5) (zQ (ii r6) (yaa (yaf (zs (zM (ii r6) (zq zN (yaa ?_)))))))))));by_cases hp4:r6=0
        · replace h:=h.1 hp4;refine ze hp4 (yag (yaf (yaf ?_)));obtain ⟨J2,hJ,h⟩:=h;refine yc1 (fun E ds w'=>J2∧ds=[]∧E 2 = .slice Ad ld cd∧E 4 = .pointer (some ⟨g3,0,none⟩)∧Sep w no O w' (rl [Res.ro (FP.sl cI Ad ld cd d),Res.box 24 g3 [ii g,.slice Ag lg cg],Res.ro (FP.sl c3 Ag lg cg g2)])) ?_ ?_
          · clear h hS;rintro E ds w7 ⟨h,rfl,H2,H4,hS⟩;replace h:=hJ h;refine zs (zq (yaq (vs:=[ii g,.slice Ag lg cg]) H4 underlying24 rfl yao ⟨hS.bc 1 0,hS.bc 1 1,trivial⟩) (zH H2 (zn (yam rfl (am3 rfl rfl rfl) enter_74 ((yiI h (yaB _) (hS.rdr 2 rfl) (hS.rdr 0 rfl)).mono ?_)))));rintro _ w8 ⟨r7,r8,rfl,hC,h⟩;replace hS:=hS.pur hC.pure;refine ⟨_,rfl,?_⟩;exact zb (zq (zx (.bool (r7))) (zq (zx (ii r8)) (zQ (.bool (r7)) (zQ (ii r8) (yaa (yaG rfl rfl rfl ⟨_,_,rfl,hS.sel [],h⟩))))))
          clear hJ;intro j;refine zr (zM (ii r5) (zM (ii k) (zq zN (zM (.bool (!(decide (r5=k)))) ?_))));by_cases hp5:r5=k
          · replace h:=h.1 hp5;refine zW rfl rfl (zC (zB (decide_eq_true hp5))) (zm (ii r3)) (zW rfl rfl (zC (zB (decide_eq_true hp5))) (zm (ii k)) (zW rfl rfl (zC (zB (decide_eq_true hp5))) zL (zq (yal (v:=(.bool (decide (r3<k)))) (zC (zB (decide_eq_true hp5))) rfl) (yaa ?_))));by_cases hp6:r3<k
            · replace h:=h.1 hp6;exact zc hp6 (zs (zQ (.bool (false)) (zQ (ii 0) (yaa (yaG rfl rfl rfl ⟨_,_,rfl,hS.sel [],h⟩)))))
            · replace h:=h.2 hp6;exact zd hp6 (yag (j _ _ _ ⟨h,rfl,rfl,rfl,hS.sel [1,3,0]⟩))
          · replace h:=h.2 hp5;exact zV rfl rfl (zC (zB (decide_eq_false hp5))) (zV rfl rfl (zC (zB (decide_eq_false hp5))) (zV rfl rfl (zC (zB (decide_eq_false hp5))) (zq (yas (v:=(.bool (true))) (zC (zB (decide_eq_false hp5))) rfl) (yaa (yar rfl (zs (zQ (.bool (false)) (zQ (ii 0) (yaa (yaG rfl rfl rfl ⟨_,_,rfl,hS.sel [],h⟩))))))))))
        · replace h:=h.2 hp4;exact zf hp4 (zs (zM (ii r6) (zQ (.bool (false)) (zQ (ii r6) (yaa (yaG rfl rfl rfl ⟨_,_,rfl,hS.sel [],h⟩))))))
      · replace h:=h.2 hp3;exact zf hp3 (zs (zM (ii r4) (zQ (.bool (false)) (zQ (ii r4) (yaa (yaG rfl rfl rfl ⟨_,_,rfl,hS.sel [],h⟩))))))
    · replace h:=h.2 hp2;exact zf hp2 (zs (zM (ii r2) (zQ (.bool (false)) (zQ (ii r2) (yaa (yaG rfl rfl rfl ⟨_,_,rfl,hS.sel [],h⟩))))))
  · replace h:=h.2 hp;exact zf hp (zs (zM (ii r) (zQ (.bool (false)) (zQ (ii r) (yaa (yaG rfl rfl rfl ⟨_,_,rfl,hS.sel [],h⟩))))))
def ylV(g:Int)(g2:List E3)(k:Int)(d:List Int)(s:List (List Int))(R:Bool→Int→Prop):Prop :=
yeH g g2 (fun r =>
((r=0 →
ykC d g (fun r2 =>
((r2=0 →
yf1 g g2 s (fun r3 =>
((r3=0 →
ykg d (fun r4 =>
((r4=k →
ykf g g2 d (fun r5 =>
((r5=true →
yga g g2 s (fun r6 =>
R (decide (k≤r6)) 0)) ∧
(¬(r5=true) →
R false 0)))) ∧
(¬(r4=k) →
R false 0)))) ∧
(¬(r3=0) →
R false r3)))) ∧
(¬(r2=0) →
R false r2)))) ∧
(¬(r=0) →
R false r)))
theorem pok_r40_Verify{O:Nat→Prop}{w:World}{g g2 k d s Ag lg cg Ad ld cd As ls cs}{R:Bool→Int→Prop}(h:ylV g g2 k d s R)(hO:∀ k,O k→k<w.heap.size)(hA0:(FP.sl c3 Ag lg cg g2).P O w)(hA1:(FP.sl cI Ad ld cd d).P O w)(hA2:(FP.sl (cL cI) As ls cs s).P O w) :
    Calls Tryz.prog 40 #[(.agg #[ii g,.slice Ag lg cg]),ii k,.slice Ad ld cd,.slice As ls cs] w fun e w'=>∃ r7 r8,e = .returned (.tuple #[(.bool (r7)),ii r8])∧Sep w no O w' (rl [])∧R r7 r8:=by
  unfold ylV at h;have hS:Sep w no O w (rl [Res.ro (FP.sl c3 Ag lg cg g2),Res.ro (FP.sl cI Ad ld cd d),Res.ro (FP.sl (cL cI) As ls cs s)]):=Sep.startl hO [(FP.sl c3 Ag lg cg g2),(FP.sl cI Ad ld cd d),(FP.sl (cL cI) As ls cs s)] ⟨hA0,hA1,hA2,trivial⟩;refine yap (l:=[(.agg #[ii g,.slice Ag lg cg]),ii k,.slice Ad ld cd,.slice As ls cs]) func40 rfl ntmps40 zY (zs (zn (ya8 (v:=(.agg #[ii g,.slice Ag lg cg])) rfl ?_)));intro g3 w2 hN;replace hS:=hS.neu 3 [ii g,.slice Ag lg cg] hN;clear hN;refine zb (zQ (.bool (false)) (zQ (ii 0) (yaa (yaf (zs (zq (yaq (vs:=[ii g,.slice Ag lg cg]) rfl underlying24 rfl yao ⟨hS.bc 3 0,hS.bc 3 1,trivial⟩) (zn (yam rfl (am1 rfl) enter_43 ((yj3 h (yaB _) (hS.rdr 0 rfl)).mono ?_)))))))));rintro _ w3 ⟨r,rfl,hC,h⟩;replace hS:=hS.pur hC.pure;refine ⟨_,rfl,?_⟩;refine zb (zQ (ii r) (yaa (zs (zM (ii r) (zq zN (yaa ?_))))));by_cases hp:r=0
  · replace h:=h.1 hp;refine ze hp (yag (yaf (zs (zM (.slice Ad ld cd) (zq (yan rfl underlying24 rfl yaj) (zq (zl underlying3 (hS.bc 3 0)) (zn (yam rfl (am2 rfl rfl) enter_31 ((ylZ h (yaB _) (hS.rdr 1 rfl)).mono ?_)))))))));rintro _ w4 ⟨r2,rfl,hC,h⟩;replace hS:=hS.pur hC.pure;refine ⟨_,rfl,?_⟩;refine zb (zQ (ii r2) (yaa (zs (zM (ii r2) (zq zN (yaa ?_))))));by_cases hp2:r2=0
    · replace h:=h.1 hp2;refine ze hp2 (yag (yaf (zs (zq (yaq (vs:=[ii g,.slice Ag lg cg]) rfl underlying24 rfl yao ⟨hS.bc 3 0,hS.bc 3 1,trivial⟩) (zM (.slice As ls cs) (zn (yam rfl (am2 rfl rfl) enter_28 ((ylo h (yaB _) (hS.rdr 0 rfl) (hS.rdr 2 rfl)).mono ?_))))))));rintro _ w5 ⟨r3,rfl,hC,h⟩;replace hS:=hS.pur hC.pure;refine ⟨_,rfl,?_⟩;refine zb (zQ (ii r3) (yaa (zs (zM (ii r3) (zq zN (yaa ?_))))));by_cases hp3:r3=0
      · replace h:=h.1 hp3;refine ze hp3 (yag (zs (zM (.slice Ad ld cd) (zn (yam rfl (am1 rfl) enter_30 ((ykK h (yaB _) (hS.rdr 1 rfl)).mono ?_))))));rintro _ w6 ⟨r4,rfl,hC,h⟩;replace hS:=hS.pur hC.pure;refine ⟨_,rfl,?_⟩;refine zb (zM (ii k) (zq zE (zM (.bool (decide (r4=k))) ?_)));by_cases hp4:r4=k
        · replace h:=h.1 hp4;refine zW rfl rfl (zT hp4) (yaq (vs:=[ii g,.slice Ag lg cg]) rfl underlying24 rfl yao ⟨hS.bc 3 0,hS.bc 3 1,trivial⟩) (zW rfl rfl (zT hp4) (zm (.slice Ad ld cd)) (rl_n (yae rfl (yac rfl (zT hp4))) rfl rfl rfl (yam rfl (am2 rfl rfl) enter_87 ((pok_r40_Moves h (yaB _) (hS.rdr 0 rfl) (hS.rdr 1 rfl)).mono ?_))));rintro _ w7 ⟨r5,rfl,hC,h⟩;replace hS:=hS.pur hC.pure;refine ⟨_,rfl,?_⟩;refine zb (zq (yas (v:=(.bool (r5))) (zT hp4) rfl) (zM (.bool (r5)) ?_));by_cases hp5:r5=true
          · replace h:=h.1 hp5;refine zW rfl rfl (zC hp5) (yaq (vs:=[ii g,.slice Ag lg cg]) rfl underlying24 rfl yao ⟨hS.bc 3 0,hS.bc 3 1,trivial⟩) (zW rfl rfl (zC hp5) (zm (.slice As ls cs)) (rl_n (yae rfl (yac rfl (zC hp5))) rfl rfl rfl (yam rfl (am2 rfl rfl) enter_68 ((pok_r40_Size h (yaB _) (hS.rdr 0 rfl) (hS.rdr 2 rfl)).mono ?_))));rintro _ w8 ⟨r6,rfl,hC,h⟩;replace hS:=hS.pur hC.pure;refine ⟨_,rfl,?_⟩;exact zb (zW rfl rfl (zC hp5) (zm (ii k)) (zW rfl rfl (zC hp5) (yiF rfl rfl) (zq (yas (v:=(.bool (decide (k≤r6)))) (zC hp5) rfl) (zQ (.bool (decide (k≤r6))) (zQ (ii 0) (yaa (yaG rfl rfl rfl ⟨_,_,rfl,hS.sel [],h⟩)))))))
          · replace h:=h.2 hp5;exact zV rfl rfl (zC (zI hp5)) (zV rfl rfl (zC (zI hp5)) (zV rfl rfl (zC (zI hp5)) (zV rfl rfl (zC (zI hp5)) (zV rfl rfl (zC (zI hp5)) (zq (yal (v:=(.bool (false))) (zC (zI hp5)) rfl) (zQ (.bool (false)) (zQ (ii 0) (yaa (yaG rfl rfl rfl ⟨_,_,rfl,hS.sel [],h⟩)))))))))
        · replace h:=h.2 hp4;exact zV rfl rfl (zF hp4) (zV rfl rfl (zF hp4) (zV rfl rfl (zF hp4) (zq (yal (v:=(.bool (false))) (zF hp4) rfl) (zM (.bool (false)) (zU (zU (zU (zU (zU (zq (yal (v:=(.bool (false))) rfl rfl) (zQ (.bool (false)) (zQ (ii 0) (yaa (yaG rfl rfl rfl ⟨_,_,rfl,hS.sel [],h⟩))))))))))))))
      · replace h:=h.2 hp3;exact zf hp3 (zs (zM (ii r3) (zQ (.bool (false)) (zQ (ii r3) (yaa (yaG rfl rfl rfl ⟨_,_,rfl,hS.sel [],h⟩))))))
    · replace h:=h.2 hp2;exact zf hp2 (zs (zM (ii r2) (zQ (.bool (false)) (zQ (ii r2) (yaa (yaG rfl rfl rfl ⟨_,_,rfl,hS.sel [],h⟩))))))
  · replace h:=h.2 hp;exact zf hp (zs (zM (ii r) (zQ (.bool (false)) (zQ (ii r) (yaa (yaG rfl rfl rfl ⟨_,_,rfl,hS.sel [],h⟩))))))
end Go.Proofs.YtadpnlimiblniaaGreat



namespace Go.Proofs.YtadpnlimiblniaaGreat
open Go Go.RowKit Go.Shelf Go.Proofs.Tryz
def cellJ(T:List (List Int))(k j:Nat):Option E3:=if 0<gi (gx T k) (k+j) then some ((k:Int),((k+j:Nat):Int),gi (gx T k) (k+j)) else none
def rowJ(d:Nat)(T:List (List Int))(k:Nat):List E3:=(List.range (d-k)).filterMap (cellJ T k)
def yf2(d:Nat)(T:List (List Int)):List E3:=(List.range d).flatMap (rowJ d T)
theorem p_r08_Joined{d:Nat}(hd:d≤12){T:List (List Int)}(hT:T.length=d)(hr:∀ a,a<d→(gx T a).length=d){R:Int→List E3→Prop}(h:R d (yf2 d T)):yeJ d T R:=by
  refine ⟨fun m a g=>∃ k:Nat,a=k∧k+m=d∧g=(List.range k).flatMap (rowJ d T)∧g.length≤k*12,⟨d,0,rfl,by omega,rfl,by simp⟩,?_⟩
  rintro m a g ⟨k,rfl,hk,rfl,hl⟩
  refine ⟨fun hlt=>?_,fun hge=>?_⟩
  · refine ⟨fun m b g4=>∃ j:Nat,b=((k+j:Nat):Int)∧k+j+m=d∧g4=(List.range k).flatMap (rowJ d T)++(List.range j).filterMap (cellJ T k)∧g4.length≤k*12+j,⟨d-k,0,by simp,by omega,by simp,by simpa using hl⟩,?_⟩
    rintro m' b g4 ⟨j,rfl,hj,rfl,hl4⟩
    refine ⟨fun hb=>?_,fun hb=>?_⟩
    · have hrow:=hr k (by omega)
      refine ⟨⟨by omega,by omega⟩,⟨by omega,by rw [Int.toNat_natCast,hrow];omega⟩,?_⟩
      rw [Int.toNat_natCast,Int.toNat_natCast]
      refine ⟨fun hp=>⟨by omega,⟨by omega,by omega⟩,m'-1,by omega,j+1,by omega,by omega,?_,?_⟩,fun hp=>⟨⟨by omega,by omega⟩,m'-1,by omega,j+1,by omega,by omega,?_,by omega⟩⟩
      · rw [List.range_succ,List.filterMap_append,List.append_assoc]
        simp [cellJ,hp]
      · rw [List.length_append,List.length_singleton];omega
      · rw [List.range_succ,List.filterMap_append]
        simp [cellJ,hp]
    · have hj2:j=d-k:=by omega
      subst hj2
      refine ⟨⟨by omega,by omega⟩,m-1,by omega,k+1,by omega,by omega,?_,by omega⟩
      rw [List.range_succ,List.flatMap_append]
      simp [rowJ]
  · have:k=d:=by omega
    subst this
    exact h
def isE(a b:Int)(e:Int×Int):Bool:=decide (mnF e.1 e.2=a∧mxF e.1 e.2=b)
def cntE(l:List (Int×Int))(a b:Int):Int:=(l.countP (isE a b):Int)
def rowT(d:Nat)(l:List (Int×Int))(a:Nat):List Int:=(List.range d).map fun (b:Nat)=>cntE l (a:Int) (b:Int)
def tabE(d:Nat)(l:List (Int×Int)):List (List Int):=(List.range d).map (rowT d l)
theorem rowT_len(d:Nat)(l:List (Int×Int))(a:Nat):(rowT d l a).length=d:=by simp [rowT]
theorem tabE_len(d:Nat)(l:List (Int×Int)):(tabE d l).length=d:=by simp [tabE]
theorem gx_tabE{d:Nat}{l:List (Int×Int)}{a:Nat}(h:a<d):gx (tabE d l) a=rowT d l a:=by
  rw [yc3 (by rw [tabE_len];exact h)];simp [tabE]
theorem gi_rowT{d:Nat}{l:List (Int×Int)}{a b:Nat}(h:b<d):gi (rowT d l a) b=cntE l a b:=by
  rw [yaN (by rw [rowT_len];exact h)];simp [rowT]
structure BagOk(d:Nat)(l:List (Int×Int))(M:List (List Int×Int)):Prop where
  key:KOk 2 M
  at_:∀ p∈M,∃ a b:Nat,a≤b∧b<d∧p.1=[(a:Int),(b:Int)]∧p.2=cntE l a b∧0<p.2
  get:∀ a b:Int,(mget M [a,b]).getD 0=cntE l a b
  len:M.length≤l.length
theorem BagOk.nil(d:Nat):BagOk d [] []:=⟨KOk.nil 2,fun p h=>by simp at h,fun a b=>by simp [mget,cntE],Nat.le_refl _⟩
theorem keyOk2{d a b:Nat}(hd:d≤12)(h1:a≤b)(h2:b<d):yia 2 [(a:Int),(b:Int)]:=by
  refine ⟨rfl,fun x hx=>?_⟩
  simp only [List.mem_cons,List.not_mem_nil,or_false] at hx
  rcases hx with rfl | rfl <;> exact ⟨by omega,by omega⟩
def eM(p:List Int×Int):E3:=(gi p.1 0,gi p.1 1,p.2)
theorem nodupN_le:∀ {l K:List Nat},l.Nodup→(∀ x∈l,x∈K)→l.length≤K.length
  | [],K,_,_=>Nat.zero_le _
  | a::t,K,hn,hs=>by
    rw [List.nodup_cons] at hn
    have ha:a∈K:=hs a (by simp)
    have h2:=nodupN_le (l:=t) (K:=K.erase a) hn.2 fun x hx=>(List.mem_erase_of_ne (by rintro rfl;exact hn.1 hx)).2 (hs x (by simp [hx]))
    rw [List.length_erase_of_mem ha] at h2
    have:0<K.length:=List.length_pos_of_mem ha
    rw [List.length_cons];omega
theorem seen_lt{n j:Nat}{seen:List Nat}(hn:seen.Nodup)(hs:∀ x∈seen,x<n)(hj:j<n)(hnj:j∉seen):seen.length<n:=by
  have:=nodupN_le (l:=j::seen) (K:=List.range n) (List.nodup_cons.2 ⟨hnj,hn⟩) fun x hx=>by
    rcases List.mem_cons.1 hx with rfl | hx
    · exact List.mem_range.2 hj
    · exact List.mem_range.2 (hs x hx)
  simp at this;omega
theorem yji{d:Nat}{l:List (Int×Int)}{x:E3} : x∈yf2 d (tabE d l)↔∃ a b:Nat,a≤b∧b<d∧0<cntE l a b∧x=((a:Int),(b:Int),cntE l a b):=by
  unfold yf2
  simp only [List.mem_flatMap,List.mem_range,rowJ,List.mem_filterMap]
  constructor
  · rintro ⟨a,ha,j,hj,hx⟩
    unfold cellJ at hx
    rw [gx_tabE ha,gi_rowT (by omega)] at hx
    split at hx
    · rename_i hp
      exact ⟨a,a+j,by omega,by omega,hp,(Option.some.inj hx).symm⟩
    · cases hx
  · rintro ⟨a,b,h1,h2,h3,rfl⟩
    refine ⟨a,by omega,b-a,by omega,?_⟩
    unfold cellJ
    rw [gx_tabE (by omega),gi_rowT (by omega),show a+(b-a)=b by omega,if_pos h3]
def ltE(x y:E3):Prop:=x.1<y.1∨x.1=y.1∧x.2.1<y.2.1
theorem ygS{d:Nat}{T:List (List Int)} : (yf2 d T).Pairwise ltE:=by
  unfold yf2
  rw [List.pairwise_flatMap]
  refine ⟨fun a _=>?_,?_⟩
  · unfold rowJ
    refine List.Pairwise.filterMap (R:=fun a b=>a<b) (S:=ltE) (cellJ T a) ?_ List.pairwise_lt_range
    intro x y hxy u hu v hv
    unfold cellJ at hu hv
    split at hu
    · split at hv
      · cases hu;cases hv
        refine .inr ⟨rfl,?_⟩
        show ((a+x:Nat):Int)<((a+y:Nat):Int)
        omega
      · cases hv
    · cases hu
  · refine List.pairwise_lt_range.imp ?_
    intro a b hab u hu v hv
    simp only [rowJ,List.mem_filterMap] at hu hv
    obtain ⟨x,_,hu⟩:=hu
    obtain ⟨y,_,hv⟩:=hv
    unfold cellJ at hu hv
    split at hu
    · split at hv
      · cases hu;cases hv
        refine .inl ?_
        show (a:Int)<(b:Int)
        omega
      · cases hv
    · cases hu
theorem BagOk.mem{d:Nat}{l:List (Int×Int)}{M:List (List Int×Int)}(h:BagOk d l M)(x:E3):x∈M.map eM↔x∈yf2 d (tabE d l):=by
  rw [yji,List.mem_map]
  constructor
  · rintro ⟨p,hp,rfl⟩
    obtain ⟨a,b,h1,h2,h3,h4,h5⟩:=h.at_ p hp
    exact ⟨a,b,h1,h2,by rw [←h4];exact h5,by unfold eM;rw [h3,h4];rfl⟩
  · rintro ⟨a,b,h1,h2,h3,rfl⟩
    have hg:=h.get a b
    cases hq:mget M [(a:Int),(b:Int)] with
    | none=>rw [hq] at hg;simp at hg;omega
    | some v =>
      rw [hq] at hg
      have hg:v=cntE l a b:=hg
      exact ⟨_,yiR hq,by unfold eM;rw [hg];rfl⟩
theorem BagOk.nodup{d:Nat}{l:List (Int×Int)}{M:List (List Int×Int)}(h:BagOk d l M):(M.map eM).Nodup:=by
  unfold List.Nodup
  rw [List.pairwise_map]
  refine h.key.1.imp_of_mem ?_
  intro p q hp hq hne he
  obtain ⟨a,b,_,_,h3,_,_⟩:=h.at_ p hp
  obtain ⟨a',b',_,_,h3',_,_⟩:=h.at_ q hq
  apply hne
  unfold eM at he
  rw [h3,h3'] at he ⊢
  have e1:(a:Int)=a':=congrArg Prod.fst he
  have e2:(b:Int)=b':=congrArg (fun z:E3=>z.2.1) he
  rw [e1,e2]
theorem sorted_unique{d:Nat}{T:List (List Int)}{zs:List E3}(hp:zs.Perm (yf2 d T))(hs:zs.Pairwise (fun a b=>¬ydR b.1 b.2.1 a.1 a.2.1<0)):zs=yf2 d T:=by
  have hsd:=ygS (d:=d) (T:=T)
  have hJ:(yf2 d T).Pairwise (fun a b:E3=>¬ydR b.1 b.2.1 a.1 a.2.1<0):=hsd.imp fun {a b} h=>by
    rw [yf4]
    unfold ltE at h
    omega
  refine List.Perm.eq_of_pairwise (le:=fun a b:E3=>¬ydR b.1 b.2.1 a.1 a.2.1<0) (fun a b ha hb h1 h2=>?_) hs hJ hp
  rw [yf4] at h1 h2
  have ha:=hp.subset ha
  have e:a.1=b.1∧a.2.1=b.2.1:=by omega
  rcases Classical.em (a=b) with q | q
  · exact q
  · exfalso
    have key:∀ x y:E3,x∈yf2 d T→y∈yf2 d T→x≠y→x.1=y.1∧x.2.1=y.2.1→False:=by
      intro x y hx hy hne he
      have p1:(yf2 d T).Pairwise (fun x y:E3=>x≠y→¬(x.1=y.1∧x.2.1=y.2.1)):=hsd.imp fun {a b} h _ he=>by unfold ltE at h;omega
      have p2:(yf2 d T).Pairwise (flip fun x y:E3=>x≠y→¬(x.1=y.1∧x.2.1=y.2.1)):=hsd.imp fun {a b} h=>by
        show b≠a→¬(b.1=a.1∧b.2.1=a.2.1)
        intro _ he;unfold ltE at h;omega
      have:=List.Pairwise.forall_of_forall_of_flip (R:=fun x y:E3=>x≠y→¬(x.1=y.1∧x.2.1=y.2.1)) (fun z _ h=>absurd rfl h) p1 p2
      exact this hx hy hne he
    exact key a b ha hb q e
theorem p_bag_graph{d:Nat}{l:List (Int×Int)}{M:List (List Int×Int)}(h:BagOk d l M)(hn:l.length≤4096){R:Int→List E3→Prop}(hR:R d (yf2 d (tabE d l))):ycK M d R:=by
  have hML:=h.len
  refine ⟨fun m g seen=>seen.Nodup∧(∀ j∈seen,j<M.length)∧g=seen.map (fun j=>eM (M.getD j default))∧m+seen.length=M.length,⟨M.length,List.nodup_nil,by simp,rfl,by simp⟩,?_⟩
  rintro m g seen ⟨h1,h2,rfl,h3⟩
  refine ⟨h.key,fun j ka kb kv hj hns=>?_,fun hall=>?_⟩
  · have hjl:j<M.length:=(List.getElem?_eq_some_iff.1 hj).1
    have hlt:=seen_lt h1 h2 hjl hns
    refine ⟨by rw [List.length_map];omega,m-1,by omega,?_,?_,?_,?_⟩
    · rw [List.nodup_append]
      exact ⟨h1,by simp,fun a ha b hb=>by rw [List.mem_singleton] at hb;subst hb;exact fun q=>hns (q▸ha)⟩
    · intro x hx
      rcases List.mem_append.1 hx with hx | hx
      · exact h2 x hx
      · rw [List.mem_singleton] at hx;subst hx;exact hjl
    · rw [List.map_append]
      simp [List.getD_eq_getElem?_getD,hj,eM,gi]
    · rw [List.length_append,List.length_singleton];omega
  · have hp:seen.Perm (List.range M.length):=(List.perm_ext_iff_of_nodup h1 List.nodup_range).2 fun a=>⟨fun q=>List.mem_range.2 (h2 a q),fun q=>hall a (List.mem_range.1 q)⟩
    have he:(List.range M.length).map (fun j=>eM (M.getD j default))=M.map eM:=by
      apply List.ext_getElem?
      intro k
      by_cases hk:k<M.length
      · simp [hk,List.getD_eq_getElem?_getD]
      · simp [hk]
    have hp2:(seen.map fun j=>eM (M.getD j default)).Perm (yf2 d (tabE d l)):=by
      refine (hp.map _).trans ?_
      rw [he]
      exact (List.perm_ext_iff_of_nodup h.nodup (ygS.imp fun {a b} q=>by rintro rfl;unfold ltE at q;omega)).2 h.mem
    refine ⟨by rw [List.length_map];have:=seen.length;omega,fun zs hz hs=>?_⟩
    rw [sorted_unique (hz.trans hp2) hs]
    exact hR
def EndsOk(d:Nat)(l:List (Int×Int)):Prop:=∀ e∈l,(0≤e.1∧e.1<d)∧0≤e.2∧e.2<d
def made(d:Nat)(l:List (Int×Int)):List E3:=yf2 d (tabE d l)
theorem gchk_zero{n:Int} : ∀ (es:List E3) (a b:Int),(∀ x∈es,(0≤x.1∧x.1<n)∧(0≤x.2.1∧x.2.1<n)∧1≤x.2.2∧x.2.2≤50∧x.1≤x.2.1)→es.Pairwise ltE→(∀ x∈es,ydR a b x.1 x.2.1<0)→gchk n a b es=0
  | [],_,_,_,_,_=>rfl
  | x::t,a,b,h,hp,h0=>by
    have hx:=h x (by simp)
    rw [gchk,if_pos ⟨hx.1,hx.2.1,hx.2.2.1,hx.2.2.2.1⟩,if_pos ⟨hx.2.2.2.2,h0 x (by simp)⟩]
    rw [List.pairwise_cons] at hp
    exact gchk_zero t _ _ (fun y hy=>h y (by simp [hy])) hp.2 fun y hy=>yf4.2 (by have:=hp.1 y hy;unfold ltE at this;exact this)
theorem made_ok{d:Nat}(h1:1≤d)(hd:d≤12){l:List (Int×Int)}(hm:∀ a b,cntE l a b≤50):yav d (made d l)=0:=by
  unfold yav
  rw [if_pos (by omega)]
  refine gchk_zero _ _ _ (fun x hx=>?_) ygS fun x hx=>?_
  · obtain ⟨a,b,h2,h3,h4,rfl⟩:=yji.1 hx
    have:=hm a b
    simp only
    omega
  · obtain ⟨a,b,h2,h3,h4,rfl⟩:=yji.1 hx
    exact yf4.2 (.inl (by simp only;omega))
theorem mn_nat{d:Nat}{e:Int×Int}(h:(0≤e.1∧e.1<d)∧0≤e.2∧e.2<d):∃ a b:Nat,mnF e.1 e.2=a∧mxF e.1 e.2=b∧a≤b∧b<d:=by
  refine ⟨(mnF e.1 e.2).toNat,(mxF e.1 e.2).toNat,?_,?_,?_,?_⟩ <;> simp only [mnF,mxF] <;> (try split) <;> (try split) <;> omega
def Joins(l:List (Int×Int))(v u:Nat):Prop:=((v:Int),(u:Int))∈l∨((u:Int),(v:Int))∈l
def ydU(n:Int)(l:List Int)(i:Nat):Int:=if 0≤gi l i∧gi l i<n then (if 0<i∧gi l i≤gi l (i-1) then 9 else 0) else 2
def subR(n:Int)(l:List Int):Nat→Nat→Int
  | 0,_=>0
  | k+1,i=>if ydU n l i=0 then subR n l k (i+1) else ydU n l i
def subF(n:Int)(l:List Int):Int:=subR n l l.length 0
theorem subR_zero{n:Int}{l:List Int} : ∀ (k i:Nat),subR n l k i=0↔∀ j,i≤j→j<i+k→ydU n l j=0
  | 0,i=>by simp [subR];intro j h1 h2;omega
  | k+1,i=>by
    rw [subR]
    by_cases c:ydU n l i=0
    · rw [if_pos c,subR_zero k (i+1)]
      refine ⟨fun h j h1 h2=>?_,fun h j h1 h2=>h j (by omega) (by omega)⟩
      by_cases e:j=i
      · rw [e];exact c
      · exact h j (by omega) (by omega)
    · rw [if_neg c]
      exact ⟨fun h=>absurd h c,fun h=>absurd (h i (Nat.le_refl _) (by omega)) c⟩
theorem subF_zero{n:Int}{l:List Int} : subF n l=0↔(∀ k,k<l.length→0≤gi l k∧gi l k<n)∧∀ k,k+1<l.length→gi l k<gi l (k+1):=by
  unfold subF
  rw [subR_zero]
  constructor
  · intro h
    refine ⟨fun k hk=>?_,fun k hk=>?_⟩
    · have:=h k (by omega) (by omega)
      unfold ydU at this
      split at this
      · assumption
      · cases this
    · have:=h (k+1) (by omega) (by omega)
      unfold ydU at this
      split at this
      · split at this
        · cases this
        · rename_i c
          exact Int.not_le.1 fun q=>c ⟨by omega,by simpa using q⟩
      · cases this
  · rintro ⟨h1,h2⟩ j _ hj
    unfold ydU
    rw [if_pos (h1 j (by omega)),if_neg]
    rintro ⟨q1,q2⟩
    obtain ⟨i,rfl⟩:∃ i,j=i+1:=⟨j-1,by omega⟩
    have:=h2 i (by omega)
    rw [Nat.add_sub_cancel] at q2;omega
theorem sub_pre{n:Int}{l:List Int}{j:Nat}(h:∀ i,i<j→ydU n l i=0):∀ i,i<j→(i:Int)≤gi l i∧gi l i<n:=by
  intro i
  induction i with
  | zero =>
    intro hi
    have:=h 0 hi
    unfold ydU at this
    split at this
    · rename_i c;exact ⟨c.1,c.2⟩
    · cases this
  | succ i ih =>
    intro hi
    have h1:=ih (by omega)
    have:=h (i+1) hi
    unfold ydU at this
    split at this
    · rename_i c
      split at this
      · cases this
      · rename_i c2
        have:¬gi l (i+1)≤gi l i:=fun q=>c2 ⟨by omega,by simpa using q⟩
        exact ⟨by omega,c.2⟩
    · cases this
theorem ylp{n:Int}{es:List E3}{l:List Int}{R:Int→Prop}(hn:n≤1000)(h:R (subF n l)):yeQ n es l R:=by
  refine ⟨fun m v=>∃ j:Nat,v=j∧j+m=l.length∧subF n l=subR n l m j∧∀ i,i<j→ydU n l i=0,⟨l.length,0,rfl,by omega,rfl,fun i hi=>by omega⟩,?_⟩
  rintro m v ⟨j,rfl,hj,he,hpre⟩
  have hjn:j≤1001:=by
    by_cases e:j=0
    · omega
    · have:=sub_pre hpre (j-1) (by omega);omega
  rw [he] at h
  refine ⟨fun hlt=>⟨⟨by omega,hlt⟩,ygK ⟨fun q=>?_,fun q=>?_⟩⟩,fun q=>?_⟩
  · have q:=of_decide_eq_true q
    obtain ⟨m,rfl⟩:∃ i,m=i+1:=⟨m-1,by omega⟩
    rw [Int.toNat_natCast] at q ⊢
    rw [subR] at h he
    have e1:((j:Int)-1).toNat=j-1:=by omega
    rw [e1]
    have nx:ydU n l j=0→In64 ((j:Int)+1)∧∃ m3,m3<m+1∧∃ j_1:Nat,(j:Int)+1=j_1∧j_1+m3=l.length∧subF n l=subR n l m3 j_1∧∀ i,i<j_1→ydU n l i=0:=fun z=>by
      rw [if_pos z] at he
      exact ⟨⟨by omega,by omega⟩,m,by omega,j+1,by omega,by omega,he,fun i hi=>by
        by_cases e:i=j
        · rw [e];exact z
        · exact hpre i (by omega)⟩
    refine ⟨fun h0=>⟨⟨by omega,by omega⟩,⟨by omega,by omega⟩,fun h9=>?_,fun h9=>nx ?_⟩,fun h0=>nx ?_⟩
    · have:ydU n l j=9:=by unfold ydU;rw [if_pos q,if_pos ⟨by omega,h9⟩]
      rw [this] at h;exact h
    · unfold ydU;rw [if_pos q,if_neg (fun z=>h9 z.2)]
    · unfold ydU;rw [if_pos q,if_neg (fun z=>h0 (by omega))]
  · have q:¬(0≤gi l j∧gi l j<n):=fun z=>q (decide_eq_true (by rw [Int.toNat_natCast];exact z))
    obtain ⟨m,rfl⟩:∃ i,m=i+1:=⟨m-1,by omega⟩
    have:ydU n l j=2:=by unfold ydU;rw [if_neg q]
    rw [subR,this] at h;exact h
  · have:m=0:=by omega
    subst this;exact h
theorem yjj{n v:Int}{R:Bool→Prop}(h:R (decide (0≤v∧v<n))):ybx n v R:=by
  refine ⟨fun q=>?_,fun q=>?_⟩
  · rw [show decide (0≤v∧v<n)=decide (v<n) from by simp [q]] at h;exact h
  · rw [show decide (0≤v∧v<n)=false from by simp [q]] at h;exact h
theorem p_graph_Subset' {n:Int}{es:List E3}{l:List Int}{R:Int→Prop}(hel:es.length≤1000000000)(hn:n≤1000)(hg:yav n es=0)(h:R (subF n l)):ybz n es l R:=by
  refine ydK hel ⟨fun _=>?_,fun q=>absurd hg q⟩
  refine ⟨fun m v=>∃ j:Nat,v=j∧j+m=l.length∧subF n l=subR n l m j∧∀ i,i<j→ydU n l i=0,⟨l.length,0,rfl,by omega,rfl,fun i hi=>by omega⟩,?_⟩
  rintro m v ⟨j,rfl,hj,he,hpre⟩
  have hjn:j≤1001:=by
    by_cases e:j=0
    · omega
    · have:=sub_pre hpre (j-1) (by omega);omega
  rw [he] at h
  refine ⟨fun hlt=>⟨⟨by omega,hlt⟩,yjj ⟨fun q=>?_,fun q=>?_⟩⟩,fun q=>?_⟩
  · have q:=of_decide_eq_true q
    obtain ⟨m,rfl⟩:∃ i,m=i+1:=⟨m-1,by omega⟩
    rw [Int.toNat_natCast] at q ⊢
    rw [subR] at h he
    have e1:((j:Int)-1).toNat=j-1:=by omega
    rw [e1]
    have nx:ydU n l j=0→In64 ((j:Int)+1)∧∃ m3,m3<m+1∧∃ j_1:Nat,(j:Int)+1=j_1∧j_1+m3=l.length∧subF n l=subR n l m3 j_1∧∀ i,i<j_1→ydU n l i=0:=fun z=>by
      rw [if_pos z] at he
      exact ⟨⟨by omega,by omega⟩,m,by omega,j+1,by omega,by omega,he,fun i hi=>by
        by_cases e:i=j
        · rw [e];exact z
        · exact hpre i (by omega)⟩
    refine ⟨fun h0=>⟨⟨by omega,by omega⟩,⟨by omega,by omega⟩,fun h9=>?_,fun h9=>nx ?_⟩,fun h0=>nx ?_⟩
    · have:ydU n l j=9:=by unfold ydU;rw [if_pos q,if_pos ⟨by omega,h9⟩]
      rw [this] at h;exact h
    · unfold ydU;rw [if_pos q,if_neg (fun z=>h9 z.2)]
    · unfold ydU;rw [if_pos q,if_neg (fun z=>h0 (by omega))]
  · have q:¬(0≤gi l j∧gi l j<n):=fun z=>q (decide_eq_true (by rw [Int.toNat_natCast];exact z))
    obtain ⟨m,rfl⟩:∃ i,m=i+1:=⟨m-1,by omega⟩
    have:ydU n l j=2:=by unfold ydU;rw [if_neg q]
    rw [subR,this] at h;exact h
  · have:m=0:=by omega
    subst this;exact h
def btwF(es:List E3)(a b:Int):Int:=((es.find? fun x=>decide (x.1=a∧x.2.1=b)).map (·.2.2)).getD 0
theorem gchk_pairI{n:Int} : ∀ (es:List E3) (a b:Int),gchk n a b es=0→(∀ x∈es,a<x.1∨a=x.1∧b<x.2.1)∧es.Pairwise ltE
  | [],_,_,_=>⟨fun x hx=>by simp at hx,List.Pairwise.nil⟩
  | y::t,a,b,h=>by
    rw [gchk] at h
    split at h
    case isFalse=>cases h
    split at h
    case isFalse=>cases h
    rename_i h2
    obtain ⟨i1,i2⟩:=gchk_pairI t _ _ h
    have hp:=(yh6 _ _ _ _).1 h2.2
    refine ⟨fun x hx=>?_,List.pairwise_cons.2 ⟨fun x hx=>?_,i2⟩⟩
    · rcases List.mem_cons.1 hx with rfl | hx
      · exact hp
      · have:=i1 x hx;omega
    · exact i1 x hx
structure NrmE(n:Nat)(es:List E3):Prop where
  g:yav n es=0
  p:es.Pairwise ltE
  le:∀ x∈es,x.1≤x.2.1
  ok:EOk n es
theorem nrm_of{n:Nat}{es:List E3}(hg:yav n es=0):NrmE n es :=
  ⟨hg,(gchk_pairI es _ _ (ydZ hg)).2,fun x hx=>(gchk_lt es _ _ (ydZ hg) x hx).2,(ybW hg).1⟩
theorem yjk(x:E3)(es:List E3)(a b:Int):btwF (x::es) a b=if x.1=a∧x.2.1=b then x.2.2 else btwF es a b:=by
  unfold btwF
  rw [List.find?_cons]
  by_cases h:x.1=a∧x.2.1=b
  · rw [if_pos h,decide_eq_true h];rfl
  · rw [if_neg h,decide_eq_false h]
theorem btwF_none{es:List E3}{a b:Int}(h:∀ x∈es,¬(x.1=a∧x.2.1=b)):btwF es a b=0:=by
  induction es with
  | nil=>rfl
  | cons x t ih=>rw [yjk,if_neg (h x (by simp)),ih fun y hy=>h y (by simp [hy])]
theorem btwF_le{n:Nat}{es:List E3}(h:EOk n es)(a b:Int):0≤btwF es a b∧btwF es a b≤50:=by
  induction es with
  | nil=>exact ⟨Int.le_refl _,by show (0:Int)≤50;omega⟩
  | cons x t ih =>
    rw [yjk]
    have:=h x (by simp)
    split
    · omega
    · exact ih fun y hy=>h y (by simp [hy])
structure SetOk(n:Nat)(l:List Int):Prop where
  r:∀ k,k<l.length→0≤gi l k∧gi l k<n
  s:∀ j k,j<k→k<l.length→gi l j<gi l k
theorem yiY{n:Nat}{l:List Int}(h:subF n l=0):SetOk n l:=by
  obtain ⟨h1,h2⟩:=subF_zero.1 h
  refine ⟨h1,fun j k hjk hk=>?_⟩
  induction k with
  | zero=>omega
  | succ k ih =>
    by_cases e:j=k
    · subst e;exact h2 j hk
    · have:=ih (by omega) (by omega);have:=h2 k hk;omega
theorem setOk_sub{n:Nat}{l:List Int}(h:SetOk n l):subF n l=0:=subF_zero.2 ⟨h.r,fun k hk=>h.s k (k+1) (by omega) hk⟩
section
variable {n : Nat} {l : List Int} (h : SetOk n l)
include h
theorem SetOk.ge{k:Nat}(hk:k<l.length):(k:Int)≤gi l k:=by
  induction k with
  | zero=>exact (h.r 0 hk).1
  | succ k ih=>have:=ih (by omega);have:=h.s k (k+1) (by omega) hk;omega
theorem SetOk.len:l.length≤n:=by
  by_cases e:l.length=0
  · omega
  · have h1:=h.ge (k:=l.length-1) (by omega);have h2:=h.r (l.length-1) (by omega);omega
theorem SetOk.inj{j k:Nat}(hj:j<l.length)(hk:k<l.length)(e:gi l j=gi l k):j=k:=by
  rcases Nat.lt_trichotomy j k with q | q | q
  · have:=h.s j k q hk;omega
  · exact q
  · have:=h.s k j q hj;omega
theorem SetOk.idx{k:Nat}(hk:k<l.length):l.idxOf (gi l k)=k:=by
  have hm:gi l k∈l:=by rw [yaN hk];exact List.getElem_mem hk
  have hi:=List.idxOf_lt_length_of_mem hm
  refine h.inj hi hk ?_
  rw [yaN hi,List.getElem_idxOf]
omit h in
theorem yjb{v:Int}(hm:v∈l):l.idxOf v<l.length∧gi l (l.idxOf v)=v:=by
  have hi:=List.idxOf_lt_length_of_mem hm
  exact ⟨hi,by rw [yaN hi,List.getElem_idxOf]⟩
omit h in
theorem yjo{k:Nat}(hk:k<l.length):gi l k∈l:=by rw [yaN hk];exact List.getElem_mem hk
theorem SetOk.mono{a b:Int}(ha:a∈l)(hb:b∈l)(hab:a≤b):l.idxOf a≤l.idxOf b:=by
  obtain ⟨h1,h2⟩:=yjb ha;obtain ⟨h3,h4⟩:=yjb hb
  refine Nat.not_lt.1 fun q=>?_
  have:=h.s _ _ q h1;omega
end
def indX(l:List Int)(x:E3):List (Int×Int):=if x.1∈l∧x.2.1∈l then List.replicate x.2.2.toNat ((l.idxOf x.1:Int),(l.idxOf x.2.1:Int)) else []
def indL(es:List E3)(l:List Int):List (Int×Int):=es.flatMap (indX l)
theorem yiM(l l':List (Int×Int))(a b:Int):cntE (l++l') a b=cntE l a b+cntE l' a b:=by
  unfold cntE;rw [List.countP_append];omega
theorem yi0(e:Int×Int)(m:Nat)(a b:Int):cntE (List.replicate m e) a b=if mnF e.1 e.2=a∧mxF e.1 e.2=b then (m:Int) else 0:=by
  unfold cntE isE
  rw [List.countP_replicate]
  by_cases c:mnF e.1 e.2=a∧mxF e.1 e.2=b
  · rw [if_pos (decide_eq_true c),if_pos c]
  · rw [if_neg (by simpa using c),if_neg c];rfl
theorem cntE_lt(L:List (Int×Int)){a b:Int}(h:b<a):cntE L a b=0:=by
  unfold cntE
  have:L.countP (isE a b)=0:=by
    rw [List.countP_eq_zero]
    intro e _ he
    have he:=of_decide_eq_true he
    have:mnF e.1 e.2≤mxF e.1 e.2:=by unfold mnF mxF;split <;> split <;> omega
    omega
  omega
theorem mn_nn{a b:Nat}(h:a≤b):mnF (a:Int) b=a∧mxF (a:Int) b=b:=by
  unfold mnF mxF
  by_cases e:a=b
  · subst e;simp
  · rw [if_neg (by omega),if_pos (by omega)];exact ⟨rfl,rfl⟩
section
variable {n : Nat} {l : List Int} (h : SetOk n l)
include h
theorem cnt_indX{x:E3}(hx:x.1≤x.2.1∧0≤x.2.2){a b:Nat}(ha:a<l.length)(hb:b<l.length):cntE (indX l x) a b=if x.1=gi l a∧x.2.1=gi l b then x.2.2 else 0:=by
  unfold indX
  by_cases c:x.1∈l∧x.2.1∈l
  · obtain ⟨m1,m2⟩:=mn_nn (h.mono c.1 c.2 hx.1)
    rw [if_pos c,yi0,m1,m2]
    obtain ⟨a1,a2⟩:=yjb c.1;obtain ⟨b1,b2⟩:=yjb c.2
    by_cases q:x.1=gi l a∧x.2.1=gi l b
    · rw [if_pos q,if_pos ⟨by rw [q.1,h.idx ha],by rw [q.2,h.idx hb]⟩];omega
    · rw [if_neg q,if_neg]
      rintro ⟨z1,z2⟩
      refine q ⟨?_,?_⟩
      · rw [←a2,show l.idxOf x.1=a by omega]
      · rw [←b2,show l.idxOf x.2.1=b by omega]
  · rw [if_neg c,if_neg]
    · rfl
    · rintro ⟨z1,z2⟩
      exact c ⟨by rw [z1];exact yjo ha,by rw [z2];exact yjo hb⟩
theorem ykL{es:List E3}(hp:es.Pairwise ltE)(hx:∀ x∈es,x.1≤x.2.1∧0≤x.2.2){a b:Nat}(ha:a<l.length)(hb:b<l.length):cntE (indL es l) a b=btwF es (gi l a) (gi l b):=by
  induction es with
  | nil=>rfl
  | cons x t ih =>
    have hp:=List.pairwise_cons.1 hp
    show cntE (indX l x++indL t l) a b=_
    rw [yiM,cnt_indX h (hx x (by simp)) ha hb,yjk,ih hp.2 fun y hy=>hx y (by simp [hy])]
    split
    · rename_i q
      rw [btwF_none fun y hy z=>by have:=hp.1 y hy;unfold ltE at this;omega];omega
    · omega
omit h in
theorem ind_ends{es:List E3} : EndsOk l.length (indL es l):=fun e he=>by
  obtain ⟨x,hx,he⟩:=List.mem_flatMap.1 he
  unfold indX at he
  split at he
  · rename_i c
    rw [(List.mem_replicate.1 he).2]
    have:=List.idxOf_lt_length_of_mem c.1;have:=List.idxOf_lt_length_of_mem c.2
    simp only;omega
  · simp at he
theorem ind_le50{es:List E3}(hN:NrmE n es)(a b:Int):cntE (indL es l) a b≤50:=by
  by_cases q:0<cntE (indL es l) a b
  · have q2:=q
    unfold cntE at q2
    obtain ⟨e,he,hp⟩:=List.countP_pos_iff.1 (show 0<(indL es l).countP (isE a b) by omega)
    obtain ⟨z1,z2⟩:=of_decide_eq_true hp
    obtain ⟨a',b',h1,h2,h3,h4⟩:=mn_nat (ind_ends e he)
    rw [←z1,←z2,h1,h2,ykL h hN.p (fun x hx=>⟨hN.le x hx,by have:=hN.ok x hx;omega⟩) (by omega) h4]
    exact (btwF_le hN.ok _ _).2
  · omega
omit h in
theorem ind_len{es:List E3}(hE:EOk n es):(indL es l).length≤50*es.length:=by
  induction es with
  | nil=>simp [indL]
  | cons x t ih =>
    show (indX l x++indL t l).length≤_
    have:=ih fun y hy=>hE y (by simp [hy])
    have hx:=hE x (by simp)
    rw [List.length_append,List.length_cons]
    have:(indX l x).length≤50:=by
      unfold indX;split
      · rw [List.length_replicate];omega
      · simp
    omega
theorem ind_ok{es:List E3}(hN:NrmE n es)(hn:n≤12)(hne:l≠[]):yav l.length (made l.length (indL es l))=0 :=
  made_ok (by cases l with | nil=>exact absurd rfl hne | cons=>simp) (by have:=h.len;omega) (ind_le50 h hN)
end
theorem BagOk.putm{d:Nat}{L:List (Int×Int)}{M:List (List Int×Int)}(h:BagOk d L M)(hd:d≤12){e:Int×Int}{a b m:Nat}(h1:a≤b)(h2:b<d)(ha:mnF e.1 e.2=a)(hb:mxF e.1 e.2=b)(hm:1≤m)(h0:cntE L a b=0):BagOk d (L++List.replicate m e) (mput M [(a:Int),(b:Int)] m):=by
  have hk:=h.key.put (keyOk2 hd h1 h2) (m:Int)
  refine ⟨hk,fun p hp=>?_,fun x y=>?_,by have:=h.len;rw [yjB,List.length_append,List.length_replicate];split <;> omega⟩
  · obtain ⟨j,hj⟩:=List.getElem?_of_mem hp
    have hg:=mget_at hk.1 (k:=p.1) (v:=p.2) hj
    rw [yh0] at hg
    by_cases q:[(a:Int),(b:Int)]=p.1
    · rw [if_pos q] at hg
      refine ⟨a,b,h1,h2,q.symm,?_,?_⟩
      · rw [yiM,yi0,if_pos ⟨ha,hb⟩,h0,Int.zero_add];exact (Option.some.inj hg).symm
      · rw [←Option.some.inj hg];omega
    · rw [if_neg q] at hg
      obtain ⟨x,y,h3,h4,h5,h6,h7⟩:=h.at_ _ (yiR hg)
      refine ⟨x,y,h3,h4,h5,?_,h7⟩
      rw [yiM,yi0,if_neg,Int.add_zero]
      · exact h6
      · rintro ⟨q1,q2⟩
        rw [ha] at q1;rw [hb] at q2
        have h5:p.1=[(x:Int),(y:Int)]:=h5
        exact q (by rw [h5,q1,q2])
  · rw [yh0,yiM,yi0,ha,hb,←h.get x y]
    by_cases q:(a:Int)=x∧(b:Int)=y
    · rw [if_pos (by rw [q.1,q.2]),if_pos q,h.get x y,←q.1,←q.2,h0];simp
    · rw [if_neg (fun z=>q (by simpa using z)),if_neg q,Int.add_zero]
theorem indL_take{es:List E3}{l:List Int}{k:Nat}(hk:k<es.length):indL (es.take (k+1)) l=indL (es.take k) l++indX l (ge es k):=by
  unfold indL
  rw [List.take_add_one,List.getElem?_eq_getElem hk,yc4 hk,List.flatMap_append]
  simp
theorem yht{l:List Int}(hl:l.length≤1000){v:Int}{R:Int→Prop}(h1:v∈l→R (l.idxOf v))(h2:v∉l→R (-1))(hs:∀ k,k<l.length→l.idxOf (gi l k)=k):ybY v l R:=by
  refine yhd (by omega) (fun k hk e=>?_) (fun h=>?_)
  · have:=h1 (by rw [←e];exact yjo hk)
    rw [←e,hs k hk] at this;exact this
  · refine h2 fun hm=>?_
    obtain ⟨h3,h4⟩:=yjb hm
    exact h _ h3 h4
theorem p_graph_moved{n:Nat}{es:List E3}{l:List Int}(hN:NrmE n es)(hn:n≤12)(hs:SetOk n l)(hne:l≠[])(hl:es.length≤40){m:Int}{R:Int→List E3→Prop}(h:R (l.length:Nat) (made l.length (indL es l))) :
    yd7 m es ((l.length:Nat):Int) (fun x R=>ybY x l R) R:=by
  have hlen:=hs.len
  refine ⟨fun m v M=>∃ k:Nat,v=k∧k+m=es.length∧BagOk l.length (indL (es.take k) l) M,⟨es.length,0,rfl,by omega,BagOk.nil _⟩,?_⟩
  rintro m' v M ⟨k,rfl,hm',hB⟩
  refine ⟨fun hlt=>⟨⟨by omega,hlt⟩,?_⟩,fun hge=>?_⟩
  · have hk:k<es.length:=by omega
    rw [Int.toNat_natCast]
    have hx:ge es k∈es:=by rw [yc4 hk];exact List.getElem_mem hk
    have hox:=hN.ok _ hx
    have hT:=indL_take (l:=l) hk
    have nx:indX l (ge es k)=[]→In64 ((k:Int)+1)∧∃ m5,m5<m'∧∃ k2:Nat,(k:Int)+1=k2∧k2+m5=es.length∧BagOk l.length (indL (es.take k2) l) M:=fun e=>by
      refine ⟨⟨by omega,by omega⟩,m'-1,by omega,k+1,by omega,by omega,?_⟩
      show BagOk l.length (indL (es.take (k+1)) l) M
      rw [hT,e,List.append_nil];exact hB
    refine yht (by omega) (fun c1=>?_) (fun c1=>?_) fun _=>hs.idx
    · refine yht (by omega) (fun c2=>?_) (fun c2=>?_) fun _=>hs.idx
      · refine ⟨True,fun _=>?_,fun _=>⟨fun _=>trivial,fun q=>by omega⟩,fun q=>by omega⟩
        obtain ⟨e1,e2⟩:=mn_nn (hs.mono c1 c2 (hN.le _ hx))
        obtain ⟨a1,a2⟩:=yjb c1;obtain ⟨b1,b2⟩:=yjb c2
        unfold ydP
        rw [e1,e2]
        refine ⟨hB.key,keyOk2 (by omega) (hs.mono c1 c2 (hN.le _ hx)) b1,⟨by omega,by omega⟩,m'-1,by omega,k+1,by omega,by omega,?_⟩
        have e3:indX l (ge es k)=List.replicate (ge es k).2.2.toNat ((l.idxOf (ge es k).1:Int),(l.idxOf (ge es k).2.1:Int)):=by unfold indX;rw [if_pos ⟨c1,c2⟩]
        show BagOk l.length (indL (es.take (k+1)) l) _
        rw [hT,e3]
        have:=hB.putm (by omega) (e:=((l.idxOf (ge es k).1:Int),(l.idxOf (ge es k).2.1:Int))) (hs.mono c1 c2 (hN.le _ hx)) b1 e1 e2 (m:=(ge es k).2.2.toNat) (by omega) (by
          rw [ykL hs (hN.p.sublist (List.take_sublist k es)) (fun x hx=>by have hx:=List.mem_of_mem_take hx;exact ⟨hN.le x hx,by have:=hN.ok x hx;omega⟩) a1 b1,a2,b2]
          refine btwF_none fun y hy z=>?_
          obtain ⟨j,hj,ej⟩:=List.mem_iff_getElem.1 hy
          rw [List.length_take] at hj
          have hlt:=(List.pairwise_iff_getElem.1 hN.p) j k (by omega) hk (by omega)
          rw [List.getElem_take] at ej
          rw [ej,←yc4 hk] at hlt
          unfold ltE at hlt;omega)
        rw [Int.toNat_of_nonneg (by omega)] at this
        exact this
      · have e:indX l (ge es k)=[]:=by unfold indX;rw [if_neg (fun z=>c2 z.2)]
        exact ⟨False,fun q=>q.elim,fun _=>⟨fun q=>by omega,fun _=>nx e⟩,fun q=>by omega⟩
    · have e:indX l (ge es k)=[]:=by unfold indX;rw [if_neg (fun z=>c1 z.1)]
      refine yht (R:=fun r2=>_) (by omega) (fun c2=>?_) (fun c2=>?_) fun _=>hs.idx
      · exact ⟨False,fun q=>q.elim,fun q=>by omega,fun _=>nx e⟩
      · exact ⟨False,fun q=>q.elim,fun q=>by omega,fun _=>nx e⟩
  · have hk2:k=es.length:=by omega
    rw [hk2,List.take_length] at hB
    exact p_bag_graph hB (by have:=ind_len (l:=l) hN.ok;omega) h
theorem yjE{n:Nat}{es:List E3}{l:List Int}(hN:NrmE n es)(hn:n≤12)(hl:es.length≤40){R:Int→List E3→Int→Prop}(h1:subF n l≠0→R 0 [] (subF n l))(h2:subF n l=0→l=[]→R 0 [] 14)
    (h3:subF n l=0→l≠[]→R (l.length:Nat) (made l.length (indL es l)) 0):ydp (n:Int) es l R:=by
  refine p_graph_Subset' (by omega) (by omega) hN.g ⟨fun c=>⟨fun q=>h2 c (List.length_eq_zero_iff.1 (by omega)),fun q=>?_⟩,fun c=>h1 c⟩
  have hne:l≠[]:=by rintro rfl;exact q rfl
  exact p_graph_moved hN hn (yiY c) hne hl (h3 c hne)
def tabG(d:Nat)(f:Nat→Nat→Int):List (List Int):=(List.range d).map fun a=>(List.range d).map (f a)
theorem tabG_len(d:Nat)(f:Nat→Nat→Int):(tabG d f).length=d:=by simp [tabG]
theorem gx_tabG{d:Nat}{f:Nat→Nat→Int}{a:Nat}(ha:a<d):gx (tabG d f) a=(List.range d).map (f a):=by
  rw [yc3 (by rw [tabG_len];exact ha)];simp [tabG]
theorem ygW{d:Nat}{f g:Nat→Nat→Int}(h:∀ a b,a<d→b<d→f a b=g a b):tabG d f=tabG d g:=by
  unfold tabG
  refine List.map_congr_left fun a ha=>List.map_congr_left fun b hb=>h a b (List.mem_range.1 ha) (List.mem_range.1 hb)
theorem tabG_set{d:Nat}{f:Nat→Nat→Int}{a b:Nat}(ha:a<d)(hb:b<d)(v:Int):(tabG d f).set a ((gx (tabG d f) a).set b v)=tabG d (fun x y=>if x=a∧y=b then v else f x y):=by
  rw [gx_tabG ha]
  apply List.ext_getElem?
  intro k
  rw [List.getElem?_set,tabG_len]
  by_cases hk:a=k
  · subst hk
    rw [if_pos rfl,if_pos ha]
    simp only [tabG,List.getElem?_map,List.getElem?_range ha,Option.map_some]
    congr 1
    apply List.ext_getElem?
    intro j
    rw [List.getElem?_set,List.length_map,List.length_range]
    by_cases hj:b=j
    · subst hj
      rw [if_pos rfl,if_pos hb]
      simp [hb]
    · rw [if_neg hj]
      by_cases hjd:j<d
      · simp [hjd,Ne.symm hj]
      · simp [hjd]
  · rw [if_neg hk]
    by_cases hkd:k<d
    · simp only [tabG,List.getElem?_map,List.getElem?_range hkd,Option.map_some]
      congr 1
      refine List.map_congr_left fun j _=>?_
      rw [if_neg (fun z=>hk z.1.symm)]
    · simp [tabG,hkd]
theorem tabG_zero(d:Nat):List.replicate d (List.replicate d (0:Int))=tabG d fun _ _=>0:=by
  unfold tabG
  rw [List.map_const',List.map_const',List.length_range]
theorem tabG_E{es:List E3}{n:Nat}{l:List Int}(hN:NrmE n es)(hs:SetOk n l):tabG l.length (fun a b=>if a<l.length∧a≤b then btwF es (gi l a) (gi l b) else 0)=tabE l.length (indL es l):=by
  unfold tabG tabE rowT
  refine List.map_congr_left fun a ha=>List.map_congr_left fun b hb=>?_
  have ha:=List.mem_range.1 ha;have hb:=List.mem_range.1 hb
  show (if a<l.length∧a≤b then btwF es (gi l a) (gi l b) else 0)=cntE (indL es l) a b
  by_cases c:a≤b
  · rw [if_pos ⟨ha,c⟩,ykL hs hN.p (fun x hx=>⟨hN.le x hx,by have:=hN.ok x hx;omega⟩) ha hb]
  · rw [if_neg (fun z=>c z.2),cntE_lt];omega
theorem p_r08_Induced{n:Nat}{es:List E3}{l:List Int}(hN:NrmE n es)(hn:n≤12)(hs:SetOk n l)(hl:es.length≤40){R:Int→List E3→Prop}(h:R (l.length:Nat) (made l.length (indL es l))):yd9 (n:Int) es l R:=by
  have hlen:=hs.len
  refine ⟨⟨by omega,by omega⟩,fun m v T=>∃ i:Nat,v=i∧i+m=l.length∧T=tabG l.length (fun a b=>if a<i∧a≤b then btwF es (gi l a) (gi l b) else 0),⟨l.length,0,rfl,by omega,?_⟩,?_⟩
  · rw [Int.toNat_natCast,tabG_zero]
    exact ygW fun a b _ _=>by rw [if_neg (fun z=>by omega)]
  rintro m v T ⟨i,rfl,hm,rfl⟩
  refine ⟨fun hlt=>?_,fun hge=>?_⟩
  · have hi:i<l.length:=by omega
    refine ⟨fun m v T=>∃ k:Nat,v=k∧k+m=l.length∧i≤k∧T=tabG l.length (fun a b=>if (a<i∨a=i∧b<k)∧a≤b then btwF es (gi l a) (gi l b) else 0),⟨l.length-i,i,rfl,by omega,Nat.le_refl _,?_⟩,?_⟩
    · refine ygW fun a b _ _=>?_
      by_cases c:a<i∧a≤b
      · rw [if_pos c,if_pos ⟨.inl c.1,c.2⟩]
      · rw [if_neg c,if_neg (fun z=>by omega)]
    rintro m' v T ⟨k,rfl,hm',hik,rfl⟩
    refine ⟨fun hlt2=>?_,fun hge2=>?_⟩
    · have hk:k<l.length:=by omega
      rw [Int.toNat_natCast,Int.toNat_natCast,tabG_len,gx_tabG hi,List.length_map,List.length_range]
      refine ⟨⟨by omega,by omega⟩,⟨by omega,by omega⟩,⟨by omega,by omega⟩,p_r08_Between' (by omega) ⟨⟨by omega,by omega⟩,⟨by omega,by omega⟩,m'-1,by omega,k+1,by omega,by omega,by omega,?_⟩⟩
      have hle:gi l i≤gi l k:=by
        by_cases e:i=k
        · rw [e];exact Int.le_refl _
        · exact Int.le_of_lt (hs.s i k (by omega) hk)
      have e1:mnF (gi l i) (gi l k)=gi l i:=by unfold mnF;rw [if_neg (by omega)]
      have e2:mxF (gi l i) (gi l k)=gi l k:=by unfold mxF;split <;> omega
      rw [e1,e2,←gx_tabG (f:=fun a b=>if (a<i∨a=i∧b<k)∧a≤b then btwF es (gi l a) (gi l b) else 0) hi,tabG_set hi hk]
      refine ygW fun a b ha hb=>?_
      by_cases c:a=i∧b=k
      · rw [if_pos c,if_pos ⟨.inr ⟨c.1,by omega⟩,by omega⟩,c.1,c.2];rfl
      · rw [if_neg c]
        by_cases c2:(a<i∨a=i∧b<k)∧a≤b
        · rw [if_pos c2,if_pos ⟨by omega,c2.2⟩]
        · rw [if_neg c2,if_neg (fun z=>by omega)]
    · refine ⟨⟨by omega,by omega⟩,m-1,by omega,i+1,by omega,by omega,?_⟩
      refine ygW fun a b ha hb=>?_
      by_cases c2:(a<i∨a=i∧b<k)∧a≤b
      · rw [if_pos c2,if_pos ⟨by omega,c2.2⟩]
      · rw [if_neg c2,if_neg (fun z=>by omega)]
  · have e:i=l.length:=by omega
    subst e
    rw [tabG_E hN hs]
    exact p_r08_Joined (by omega) (tabE_len _ _) (fun a ha=>by rw [gx_tabE ha,rowT_len]) h
theorem p_sets_from{n:Nat}{L:List (List Int)}(hn:n≤1000):∀ (k:Nat) (s:List Int) (pre:List (List Int)) {R:List (List Int)→Bool→List Int→Prop},k≤n→s.length+k≤1000→(pre++s::subG n k s) <+: L→R (pre++s::subG n k s) true s →
    ∀ fu,k<fu→ybs (· <+: L) fu ((n-k:Nat):Int) s n pre R:=by
  intro k
  induction k using Nat.strongRecOn with
  | _ k ih =>
    intro s pre R hk hs hp hR fu hfu
    obtain ⟨fu,rfl⟩:∃ f,fu=f+1:=⟨fu-1,by omega⟩
    rw [show ybs (· <+: L) (fu+1)=fun v cap cap2 pre R=>yb4 (· <+: L) (ybs (· <+: L) fu) v cap cap2 pre R from rfl]
    have hp0:(pre++[s]) <+: L:=by
      refine List.IsPrefix.trans ?_ hp
      exact ⟨subG n k s,by simp⟩
    refine ⟨hp0,?_,trivial⟩
    refine ⟨fun m pre2 v2 v3=>∃ j,m=j∧j≤k∧v2=((n-j:Nat):Int)∧v3=s∧pre2++subG n j s=pre++s::subG n k s,⟨k,k,rfl,Nat.le_refl _,rfl,rfl,by simp⟩,?_⟩
    rintro m2 pre2 _ _ ⟨j,rfl,hj,rfl,rfl,he⟩
    refine ⟨fun hlt=>?_,fun hge=>?_⟩
    · obtain ⟨j,rfl⟩:∃ i,m2=i+1:=⟨m2-1,by omega⟩
      refine ⟨by omega,⟨by omega,by omega⟩,?_⟩
      have e1:((n-(j+1):Nat):Int)+1=((n-j:Nat):Int):=by omega
      rw [e1]
      refine ih j (by omega) _ _ (by omega) (by simp;omega) ?_ ?_ fu (by omega)
      · refine List.IsPrefix.trans ?_ hp
        rw [←he,subG]
        exact ⟨_,List.append_assoc _ _ _⟩
      · refine ⟨fun _=>⟨⟨by rw [List.length_append,List.length_singleton];omega,by rw [List.length_append,List.length_singleton];omega⟩,⟨by rw [List.length_append,List.length_singleton];omega,by omega⟩,j,by omega,j,rfl,by omega,rfl,?_,?_⟩,fun q=>absurd rfl q⟩
        · simp
        · rw [←he,subG];simp
    · have:m2=0:=by omega
      subst this
      rw [subG,List.append_nil] at he
      rw [he];exact hR
theorem p_sets_1{n:Nat}(hn:n≤500):yb0 (n:Int) (· <+: yeV n) (· = yeV n):=by
  refine ⟨n+1,?_⟩
  have h:=p_sets_from (n:=n) (L:=yeV n) (by omega) n [] [] (R:=fun pre _ _=>pre=yeV n) (Nat.le_refl _) (by simp;omega) (by rw [List.nil_append];exact List.prefix_refl _) rfl (n+1) (by omega)
  rw [Nat.sub_self] at h
  exact h
theorem yhZ{s:List Int}{R:List Int→Prop}(hl:s.length≤1000000000)(h:R s):ybc s R:=by
  intro nil hnil
  refine ⟨fun q=>?_,fun q=>⟨by omega,by simpa using h⟩⟩
  rw [hnil q] at h;exact h
theorem p_least{n:Nat}(hn:n≤500){F:List Int→(Int→Bool→Prop)→Prop}{val:List Int→Int×Bool}(hF:∀ y∈yeV n,y.length≤1000000000∧∀ R':Int→Bool→Prop,R' (val y).1 (val y).2→F y R'){R:Int→List Int→Prop}
    (h:R (lstF val (yeV n) (-1,[])).1 (lstF val (yeV n) (-1,[])).2):yc2 (n:Int) F R:=by
  show ∃ Pr Rr:List (List Int)→Prop,_
  refine ⟨_,_,p_sets_1 hn,fun pre best first=>(best,first)=lstF val pre (-1,[]),rfl,?_,?_⟩
  · intro pre y best first hI hPr
    have hy:y∈yeV n:=hPr.subset (by simp)
    obtain ⟨hl,hf⟩:=hF y hy
    have hs:=yhX val pre y (-1,[])
    have hI:(best,first)=lstF val pre (-1,[]):=hI
    rw [←hI] at hs
    refine hf _ ⟨fun q=>⟨fun q2=>yhZ hl ?_,fun q2=>⟨fun q3=>yhZ hl ?_,fun q3=>?_⟩⟩,fun q=>?_⟩
    · exact (hs.trans (if_pos ⟨q, .inl q2⟩)).symm
    · exact (hs.trans (if_pos ⟨q, .inr q3⟩)).symm
    · exact (hs.trans (if_neg (fun z=>z.2.elim q2 q3))).symm
    · exact (hs.trans (if_neg (fun z=>q z.1))).symm
  · intro ys best first hI hR
    have hR:ys=yeV n:=hR
    subst hR
    have hI:(best,first)=lstF val (yeV n) (-1,[]):=hI
    rw [←hI] at h
    exact h
theorem p_anyS{s:List Int}{F:Int→(Bool→Prop)→Prop}{p:Int→Bool}{R:Bool→Prop}(hl:s.length≤1000000000)(hF:∀ x∈s,∀ R':Bool→Prop,R' (p x)→F x R')(h:R (s.any p)):yba s F R:=by
  refine ⟨fun m v=>∃ k:Nat,v=k∧k+m=s.length∧s.any p=(s.drop k).any p,⟨s.length,0,rfl,by omega,rfl⟩,?_⟩
  rintro m v ⟨k,rfl,hm,he⟩
  refine ⟨fun hlt=>?_,fun hge=>?_⟩
  · have hk:k<s.length:=by omega
    rw [Int.toNat_natCast]
    rw [List.drop_eq_getElem_cons hk,List.any_cons,←yaN hk] at he
    refine ⟨⟨by omega,hlt⟩,hF _ (yjo hk) _ ⟨fun c=>?_,fun c=>?_⟩⟩
    · rw [he,c,Bool.true_or] at h
      show R (decide (0≤(k:Int)))
      rw [decide_eq_true (by omega)];exact h
    · have c:p (gi s k)=false:=by simpa using c
      rw [c,Bool.false_or] at he
      exact ⟨⟨by omega,by omega⟩,m-1,by omega,k+1,by omega,by omega,he⟩
  · have:k=s.length:=by omega
    rw [he,this,List.drop_length] at h;exact h
theorem ygu{s:List (List Int)}{k:Nat}(hk:k<s.length):gx s k∈s:=by rw [yc3 hk];exact List.getElem_mem hk
theorem p_anySS{s:List (List Int)}{F:List Int→(Bool→Prop)→Prop}{p:List Int→Bool}{R:Bool→Prop}(hl:s.length≤1000000000)(hF:∀ x∈s,∀ R':Bool→Prop,R' (p x)→F x R')(h:R (s.any p)):yaU s F R:=by
  refine ⟨fun m v=>∃ k:Nat,v=k∧k+m=s.length∧s.any p=(s.drop k).any p,⟨s.length,0,rfl,by omega,rfl⟩,?_⟩
  rintro m v ⟨k,rfl,hm,he⟩
  refine ⟨fun hlt=>?_,fun hge=>?_⟩
  · have hk:k<s.length:=by omega
    rw [Int.toNat_natCast]
    rw [List.drop_eq_getElem_cons hk,List.any_cons,←yc3 hk] at he
    refine ⟨⟨by omega,hlt⟩,hF _ (ygu hk) _ ⟨fun c=>?_,fun c=>?_⟩⟩
    · rw [he,c,Bool.true_or] at h
      show R (decide (0≤(k:Int)))
      rw [decide_eq_true (by omega)];exact h
    · have c:p (gx s k)=false:=by simpa using c
      rw [c,Bool.false_or] at he
      exact ⟨⟨by omega,by omega⟩,m-1,by omega,k+1,by omega,by omega,he⟩
  · have:k=s.length:=by omega
    rw [he,this,List.drop_length] at h;exact h
theorem yfT{l:List Int}{v:Int}{R:Bool→Prop}(hl:l.length≤1000000000)(h:R (decide (v∈l))):ycW l v R:=by
  refine ⟨fun m i=>∃ k:Nat,i=k∧k+m=l.length∧(v∈l↔v∈l.drop k),⟨l.length,0,rfl,by omega,by simp⟩,?_⟩
  rintro m i ⟨k,rfl,hm,he⟩
  refine ⟨fun hlt=>?_,fun hge=>?_⟩
  · have hk:k<l.length:=by omega
    rw [List.drop_eq_getElem_cons hk,List.mem_cons,←yaN hk] at he
    rw [Int.toNat_natCast]
    refine ⟨⟨by omega,hlt⟩,fun c=>?_,fun c=>⟨⟨by omega,by omega⟩,m-1,by omega,k+1,by omega,by omega,?_⟩⟩
    · rw [decide_eq_true (he.2 (.inl c.symm))] at h;exact h
    · exact ⟨fun z=>(he.1 z).resolve_left fun q=>c q.symm,fun z=>he.2 (.inr z)⟩
  · have:k=l.length:=by omega
    rw [this,List.drop_length] at he
    rw [decide_eq_false (fun z=>by simpa using he.1 z)] at h;exact h
def ygL(egg set:List Int):Bool:=egg.any fun v=>decide (v∈set)
def covB(set egg:List Int):Bool:=!(egg.any fun v=>!decide (v∈set))
def hitB(s:List (List Int))(set:List Int):Bool:=!(s.any fun egg=>!ygL egg set)
def parB(s:List (List Int))(set:List Int):Bool:=(s.any fun egg=>covB set egg)&&s.any fun egg=>!ygL egg set
theorem ygf{set egg:List Int}{R:Bool→Prop}(hs:set.length≤1000000000)(he:egg.length≤1000000000)(h:R (ygL egg set)):ycf set egg R :=
  p_anyS he (fun x _ R' h'=>yc8 hs h') h
theorem yib{set egg:List Int}{R:Bool→Prop}(hs:set.length≤1000000000)(he:egg.length≤1000000000)(h:R (covB set egg)):ycM set egg R :=
  p_anyS (p:=fun v=>!decide (v∈set)) he (fun x _ R' h'=>yc8 hs h') h
theorem p_Hitting_1{set:List Int}{s:List (List Int)}{R:Int→Bool→Prop}(hs:set.length≤1000000000)(hl:s.length≤1000000000)(he:∀ e∈s,e.length≤1000000000)(h:R (set.length:Nat) (hitB s set)):yb1 set s R :=
  p_anySS (p:=fun egg=>!ygL egg set) hl (fun x hx R' h'=>ygf hs (he x hx) h') h
theorem p_r40_meets{a b:List Int}{R:Bool→Prop}(ha:a.length≤1000000000)(hb:b.length≤1000000000)(h:R (ygL a b)):yfh a b R:=by
  refine ⟨fun m i=>∃ k:Nat,i=k∧k+m=a.length∧ygL a b=ygL (a.drop k) b,⟨a.length,0,rfl,by omega,rfl⟩,?_⟩
  rintro m i ⟨k,rfl,hm,he⟩
  refine ⟨fun hlt=>?_,fun hge=>?_⟩
  · have hk:k<a.length:=by omega
    rw [List.drop_eq_getElem_cons hk] at he
    unfold ygL at he
    rw [List.any_cons,←yaN hk] at he
    rw [Int.toNat_natCast]
    refine ⟨⟨by omega,hlt⟩,yfT hb ⟨fun c=>?_,fun c=>⟨⟨by omega,by omega⟩,m-1,by omega,k+1,by omega,by omega,?_⟩⟩⟩
    · rw [c,Bool.true_or] at he
      unfold ygL at h;rw [he] at h;exact h
    · rw [show decide (gi a k∈b)=false by simpa using c,Bool.false_or] at he
      exact he
  · have:k=a.length:=by omega
    rw [he,this,List.drop_length] at h;exact h
theorem p_r40_Hits{s:List (List Int)}{set:List Int}{R:Bool→Prop}(hl:s.length≤1000000000)(hs:set.length≤1000000000)(he:∀ e∈s,e.length≤1000000000)(h:R (hitB s set)):yf0 s set R:=by
  refine ⟨fun m i=>∃ k:Nat,i=k∧k+m=s.length∧hitB s set=hitB (s.drop k) set,⟨s.length,0,rfl,by omega,rfl⟩,?_⟩
  rintro m i ⟨k,rfl,hm,hinv⟩
  refine ⟨fun hlt=>?_,fun hge=>?_⟩
  · have hk:k<s.length:=by omega
    rw [List.drop_eq_getElem_cons hk] at hinv
    unfold hitB at hinv
    rw [List.any_cons,←yc3 hk] at hinv
    rw [Int.toNat_natCast]
    refine ⟨⟨by omega,hlt⟩,p_r40_meets (he _ (ygu hk)) hs ⟨fun c=>⟨⟨by omega,by omega⟩,m-1,by omega,k+1,by omega,by omega,?_⟩,fun c=>?_⟩⟩
    · rw [c,Bool.not_true,Bool.false_or] at hinv
      exact hinv
    · rw [show ygL (gx s k) set=false by simpa using c,Bool.not_false,Bool.true_or,Bool.not_true] at hinv
      unfold hitB at h;rw [hinv] at h;exact h
  · have:k=s.length:=by omega
    rw [hinv,this,List.drop_length] at h;exact h
def cntIn(set egg:List Int):Nat:=egg.countP fun v=>decide (v∈set)
theorem cov_cnt(set egg:List Int):covB set egg=decide (((cntIn set egg:Nat):Int)=(egg.length:Nat)):=by
  unfold covB cntIn
  by_cases c:∃ v∈egg,v∉set
  · obtain ⟨v,h1,h2⟩:=c
    have h3:(egg.any fun v=>!decide (v∈set))=true:=List.any_eq_true.2 ⟨v,h1,by simpa using h2⟩
    rw [h3,Bool.not_true,eq_comm]
    refine decide_eq_false fun q=>?_
    have:=(List.countP_eq_length (p:=fun v=>decide (v∈set))).1 (by omega) v h1
    exact h2 (of_decide_eq_true this)
  · have h3:(egg.any fun v=>!decide (v∈set))=false:=by
      rw [Bool.eq_false_iff];intro q
      obtain ⟨v,h1,h2⟩:=List.any_eq_true.1 q
      exact c ⟨v,h1,by simpa using h2⟩
    rw [h3,Bool.not_false,eq_comm]
    refine decide_eq_true ?_
    rw [(List.countP_eq_length (p:=fun v=>decide (v∈set))).2 fun v hv=>decide_eq_true (Classical.byContradiction fun q=>c ⟨v,hv,q⟩)]
theorem meet_cnt(set egg:List Int):(!ygL egg set)=decide (((cntIn set egg:Nat):Int)=0):=by
  unfold ygL cntIn
  by_cases c:∃ v∈egg,v∈set
  · obtain ⟨v,h1,h2⟩:=c
    have h3:(egg.any fun v=>decide (v∈set))=true:=List.any_eq_true.2 ⟨v,h1,by simpa using h2⟩
    rw [h3,Bool.not_true,eq_comm]
    refine decide_eq_false fun q=>?_
    have:=(List.countP_eq_zero (p:=fun v=>decide (v∈set))).1 (by omega) v h1
    exact this (decide_eq_true h2)
  · have h3:(egg.any fun v=>decide (v∈set))=false:=by
      rw [Bool.eq_false_iff];intro q
      obtain ⟨v,h1,h2⟩:=List.any_eq_true.1 q
      exact c ⟨v,h1,by simpa using h2⟩
    rw [h3,Bool.not_false,eq_comm]
    refine decide_eq_true ?_
    rw [(List.countP_eq_zero (p:=fun v=>decide (v∈set))).2 fun v hv z=>c ⟨v,hv,by simpa using z⟩];rfl
theorem p_r40_Parts{n:Int}{es:List E3}{s:List (List Int)}{set:List Int}{R:Bool→Prop}(hl:s.length≤1000000000)(hs:set.length≤1000000000)(he:∀ e∈s,e.length≤1000000000)(h:R (parB s set)):yfc n es s set R:=by
  refine ⟨fun m a b i=>∃ k:Nat,i=k∧k+m=s.length∧(s.any fun egg=>covB set egg)=(a || (s.drop k).any fun egg=>covB set egg)∧(s.any fun egg=>!ygL egg set)=(b || (s.drop k).any fun egg=>!ygL egg set),⟨s.length,0,rfl,by omega,rfl,rfl⟩,?_⟩
  rintro m a b i ⟨k,rfl,hm,ha,hb⟩
  refine ⟨fun hlt=>?_,fun hge=>?_⟩
  · have hk:k<s.length:=by omega
    rw [List.drop_eq_getElem_cons hk,List.any_cons,←yc3 hk] at ha hb
    have hel:=he _ (ygu hk)
    refine ⟨fun m c j=>∃ q:Nat,j=q∧q+m=(gx s k).length∧c+((gx s k).drop q).countP (fun v=>decide (v∈set))=(cntIn set (gx s k):Nat)∧0≤c∧c≤q,⟨(gx s k).length,0,rfl,by omega,by simp [cntIn],by omega,by omega⟩,?_⟩
    rintro m' c j ⟨q,rfl,hm',hc,hc0,hcq⟩
    rw [Int.toNat_natCast]
    refine ⟨⟨by omega,hlt⟩,fun hlt2=>?_,fun hge2=>?_⟩
    · have hq:q<(gx s k).length:=by omega
      rw [List.drop_eq_getElem_cons hq,List.countP_cons,←yaN hq] at hc
      rw [Int.toNat_natCast]
      refine ⟨⟨by omega,hlt2⟩,yfT hs ⟨fun z=>⟨⟨by omega,by omega⟩,⟨by omega,by omega⟩,m'-1,by omega,q+1,by omega,by omega,?_,by omega,by omega⟩,fun z=>⟨⟨by omega,by omega⟩,m'-1,by omega,q+1,by omega,by omega,?_,by omega,by omega⟩⟩⟩
      · rw [if_pos z] at hc;omega
      · rw [if_neg z] at hc;omega
    · have:q=(gx s k).length:=by omega
      rw [this,List.drop_length] at hc
      have hc:c=(cntIn set (gx s k):Nat):=by simpa using hc
      rw [cov_cnt,←hc] at ha
      rw [meet_cnt,←hc] at hb
      have fin:∀ a' b':Bool,a'=(a || decide (c=((gx s k).length:Nat)))→b'=(b || decide (c=0))→In64 ((k:Int)+1)∧∃ m6,m6<m∧∃ k_1:Nat,(k:Int)+1=k_1∧k_1+m6=s.length∧(s.any fun egg=>covB set egg)=(a' || (s.drop k_1).any fun egg=>covB set egg)∧(s.any fun egg=>!ygL egg set)=(b' || (s.drop k_1).any fun egg=>!ygL egg set):=fun a' b' e1 e2 =>
        ⟨⟨by omega,by omega⟩,m-1,by omega,k+1,by omega,by omega,by rw [ha,e1,Bool.or_assoc],by rw [hb,e2,Bool.or_assoc]⟩
      refine ⟨fun za=>⟨fun zb=>fin _ _ (by rw [za,Bool.true_or]) (by rw [zb,Bool.true_or]),fun zb=>fin _ _ (by rw [za,Bool.true_or]) (by rw [show b=false by simpa using zb,Bool.false_or])⟩,fun za=>⟨fun zb=>fin _ _ (by rw [show a=false by simpa using za,Bool.false_or]) (by rw [zb,Bool.true_or]),fun zb=>fin _ _ (by rw [show a=false by simpa using za,Bool.false_or]) (by rw [show b=false by simpa using zb,Bool.false_or])⟩⟩
  · have:k=s.length:=by omega
    rw [this,List.drop_length] at ha hb
    rw [List.any_nil,Bool.or_false] at ha hb
    unfold parB at h
    rw [ha,hb] at h
    exact ⟨fun z=>by rw [z,Bool.true_and] at h;exact h,fun z=>by rw [show a=false by simpa using z,Bool.false_and] at h;exact h⟩
def cutN(es:List E3)(set:List Int):Nat:=(yeK es).countP fun p=>decide (p.1∈set) != decide (p.2∈set)
theorem sF_endsI:∀ es:List E3,(sF es).map (fun x=>(x.1,x.2.1))=yeK es
  | []=>rfl
  | x::t=>by
    have e:yeK (x::t)=List.replicate x.2.2.toNat (x.1,x.2.1)++yeK t:=by unfold yeK;rw [List.flatMap_cons]
    rw [sF,e,List.map_append,List.map_replicate,sF_endsI t]
theorem p_graph_Cut{n:Nat}{es:List E3}{set:List Int}{R:List Int→Int→Prop}(hN:NrmE n es)(hn:n≤12)(hl:es.length≤40)(hs:SetOk n set)(h:∀ out:List Int,out.length=cutN es set→R out 0):yfi (n:Int) es set R:=by
  have hlen:=hs.len
  refine p_graph_Subset' (by omega) (by omega) hN.g ⟨fun _=>?_,fun q=>absurd (setOk_sub hs) q⟩
  show ∃ Pr Rr:List (Int×Int×Int)→Prop,_
  refine ⟨_,_,yd3 hN.ok (by omega),fun pre out=>out.length=pre.countP fun y=>decide (y.2.1∈set) != decide (y.2.2∈set),rfl,?_,?_⟩
  · rintro pre e a b out hI hPr
    have hI:out.length=pre.countP fun y=>decide (y.2.1∈set) != decide (y.2.2∈set):=hI
    have hPr:(pre++[(e,a,b)]).map gmap <+: sF es:=hPr
    have h2:=hPr.length_le
    have h3:=sF_few hN.ok
    have h4:pre.countP (fun y=>decide (y.2.1∈set) != decide (y.2.2∈set))≤pre.length:=List.countP_le_length
    rw [List.length_map,List.length_append] at h2
    simp only [List.length_singleton] at h2
    refine yc8 (by omega) (yc8 (by omega) ⟨fun q=>?_,fun q=>⟨by omega,?_⟩⟩)
    · show out.length=List.countP _ (pre++[(e,a,b)])
      rw [List.countP_append,List.countP_singleton,if_neg (by simpa using q),hI];rfl
    · show (out++[e]).length=List.countP _ (pre++[(e,a,b)])
      rw [List.countP_append,List.countP_singleton,if_pos (by simpa using q),List.length_append,hI];rfl
  · rintro ys out hI hR
    have hI:out.length=ys.countP fun y=>decide (y.2.1∈set) != decide (y.2.2∈set):=hI
    have hR:ys.map gmap=sF es:=hR
    refine h out ?_
    unfold cutN
    rw [hI,←sF_endsI,←hR,List.map_map,List.countP_map];rfl
theorem p_r08_Cut{n:Int}{es:List E3}{set:List Int}{R:List Int→Prop}(hE:∀ x∈es,1≤x.2.2∧x.2.2≤50)(hl:es.length≤40)(hs:set.length≤1000000000)(h:∀ out:List Int,out.length=cutN es set→R out):ygY n es set R:=by
  refine p_r08_Ends (by omega) hE ?_
  have hlen:=(ye6 es hE).2
  refine ⟨fun m out i=>∃ k:Nat,i=k∧k+m=(yeK es).length∧out.length≤k∧out.length+((yeK es).drop k).countP (fun p=>decide (p.1∈set) != decide (p.2∈set))=cutN es set,⟨(yeK es).length,0,rfl,by omega,by simp,by simp [cutN]⟩,?_⟩
  rintro m out i ⟨k,rfl,hm,hok,hc⟩
  refine ⟨fun hlt=>?_,fun hge=>?_⟩
  · have hk:k<(yeK es).length:=by omega
    rw [List.drop_eq_getElem_cons hk,List.countP_cons,←yc3 hk] at hc
    rw [Int.toNat_natCast]
    refine ⟨⟨by omega,hlt⟩,⟨by omega,by omega⟩,⟨by omega,by omega⟩,yfT hs (yfT hs ⟨fun q=>⟨⟨by omega,by omega⟩,m-1,by omega,k+1,by omega,by omega,by omega,?_⟩,fun q=>⟨by omega,⟨by omega,by omega⟩,m-1,by omega,k+1,by omega,by omega,by simp;omega,?_⟩⟩)⟩
    · rw [if_neg (by simpa using q)] at hc;omega
    · rw [if_pos (by simpa using q)] at hc
      rw [List.length_append,List.length_singleton];omega
  · have:k=(yeK es).length:=by omega
    rw [this,List.drop_length] at hc
    exact h out (by simpa using hc)
def eggE(n:Int)(es:List E3)(l:List Int):Int :=
  if subF n l=0 then (if l=[] then 14 else if ydD (l.length:Nat) (made l.length (indL es l))=true then 0 else 13) else subF n l
def yjn(n:Int)(es:List E3):List (List Int)→Int
  | []=>0
  | l::t=>if eggE n es l=0 then yjn n es t else eggE n es l
def ylc(n:Int)(es:List E3)(s:List (List Int)):Int:=if 256<s.length then 5 else yjn n es s
def chkE(n:Int)(es:List E3)(s:List (List Int)):Int:=if yaS n es=0 then ylc n es s else yaS n es
theorem yid{n:Int}{es:List E3} : ∀ {s:List (List Int)},yjn n es s=0↔∀ l∈s,eggE n es l=0
  | []=>by simp [yjn]
  | l::t=>by
    rw [yjn]
    by_cases c:eggE n es l=0
    · rw [if_pos c,yid];simp [c]
    · rw [if_neg c];simp [c]
theorem ybn{n:Int}{es:List E3}(h:yaS n es=0):yav n es=0∧ydD n es=true:=by
  unfold yaS at h
  split at h
  · rename_i c
    split at h
    · rename_i c2;exact ⟨c,c2⟩
    · cases h
  · rename_i c;exact absurd h c
theorem ycH{n:Int}{es:List E3}(h:yav n es=0):∃ k:Nat,n=k∧1≤k∧k≤12:=by
  have hn:(1:Int)≤n∧n≤12:=by
    unfold yav at h;split at h
    · assumption
    · cases h
  exact ⟨n.toNat,by omega,by omega,by omega⟩
theorem ycg{n:Int}{es:List E3}{R:Int→Prop}(hl:es.length≤1000000000)(h:R (yaS n es)):ybd n es R:=by
  refine ⟨hl,fun c=>⟨fun q=>?_,fun q=>?_⟩,fun c=>?_⟩
  · have q:=of_decide_eq_true q
    unfold yaS at h;rw [if_pos q.1,if_pos q.2] at h;exact h
  · unfold yaS at h;rw [if_pos c,if_neg (fun z=>q (decide_eq_true ⟨c,z⟩))] at h;exact h
  · unfold yaS at h;rw [if_neg c] at h;exact h
theorem yj7{n:Int}{es:List E3}{R:Int→Prop}(hl:es.length≤1000000000)(h:R (yaS n es)):yeH n es R:=by
  refine yjC hl ⟨fun c=>?_,fun c=>?_⟩
  · obtain ⟨k,rfl,_,_⟩:=ycH c
    refine ygT hl c ⟨fun q=>?_,fun q=>?_⟩
    · unfold yaS at h;rw [if_pos c,if_pos q] at h;exact h
    · unfold yaS at h;rw [if_pos c,if_neg q] at h;exact h
  · unfold yaS at h;rw [if_neg c] at h;exact h
theorem joined_ind{n:Nat}{es:List E3}{l:List Int}(hN:NrmE n es)(hn:n≤12)(hs:SetOk n l)(hne:l≠[]):yaS (l.length:Nat) (made l.length (indL es l))=if ydD (l.length:Nat) (made l.length (indL es l))=true then 0 else 13:=by
  unfold yaS;rw [if_pos (ind_ok hs hN hn hne)]
theorem made_len{d:Nat}{L:List (Int×Int)}(hd:d≤12):(made d L).length≤1000:=by
  have:(yf2 d (tabE d L)).length≤d*d:=by
    unfold yf2
    have:∀ m,((List.range m).flatMap (rowJ d (tabE d L))).length≤m*d:=fun m=>by
      induction m with
      | zero=>simp
      | succ m ih =>
        rw [List.range_succ,List.flatMap_append,List.length_append]
        have:((List.flatMap (rowJ d (tabE d L)) [m])).length≤d:=by
          rw [List.flatMap_singleton]
          unfold rowJ
          refine Nat.le_trans (List.length_filterMap_le _ _) ?_
          rw [List.length_range];omega
        rw [Nat.add_mul];omega
    exact this d
  have h2:d*d≤12*12:=Nat.mul_le_mul hd hd
  show (yf2 d (tabE d L)).length≤1000
  omega
theorem yer{n:Int}{es:List E3}{s:List (List Int)}{R:Int→Prop}(hl:es.length≤40)(h:R (chkE n es s)):ybN n es s R:=by
  refine ycg (by omega) ⟨fun c=>⟨fun q=>?_,fun q=>?_⟩,fun c=>?_⟩
  · unfold chkE ylc at h;rw [if_pos c,if_pos (by omega)] at h;exact h
  · unfold chkE ylc at h;rw [if_pos c,if_neg (by omega)] at h
    obtain ⟨k,rfl,hk1,hk12⟩:=ycH (ybn c).1
    have hN:=nrm_of (ybn c).1
    refine ⟨fun m v=>∃ i:Nat,v=i∧i+m=s.length∧yjn k es s=yjn k es (s.drop i),⟨s.length,0,rfl,by omega,rfl⟩,?_⟩
    rintro m v ⟨i,rfl,hm,he⟩
    refine ⟨fun hlt=>?_,fun hge=>?_⟩
    · have hi:i<s.length:=by omega
      rw [List.drop_eq_getElem_cons hi,yjn,←yc3 hi] at he
      rw [Int.toNat_natCast]
      refine ⟨⟨by omega,hlt⟩,p_graph_Subset' (by omega) (by omega) hN.g ⟨fun c1=>?_,fun c1=>?_⟩⟩
      · have hs:=yiY c1
        refine yjE hN hk12 hl (fun q=>absurd c1 q) (fun _ e=>?_) (fun _ hne=>?_)
        · refine ⟨fun z=>by omega,fun _=>?_⟩
          have e2:eggE k es (gx s i)=14:=by unfold eggE;rw [if_pos c1,if_pos e]
          rw [he,e2] at h;exact h
        · have hlen:=hs.len
          refine ⟨fun _=>ycg (by have:=made_len (d:=(gx s i).length) (L:=indL es (gx s i)) (by omega);omega) ?_,fun z=>by omega⟩
          rw [joined_ind hN hk12 hs hne]
          have e2:eggE k es (gx s i)=if ydD ((gx s i).length:Nat) (made (gx s i).length (indL es (gx s i)))=true then 0 else 13:=by unfold eggE;rw [if_pos c1,if_neg hne]
          rw [e2] at he
          refine ⟨fun z=>?_,fun z=>?_⟩
          · rw [if_pos z] at he
            exact ⟨⟨by omega,by omega⟩,m-1,by omega,i+1,by omega,by omega,he⟩
          · rw [if_neg z] at he
            rw [he] at h;exact h
      · have e2:eggE k es (gx s i)=subF k (gx s i):=by unfold eggE;rw [if_neg c1]
        rw [e2,if_neg c1] at he
        rw [he] at h;exact h
    · have:i=s.length:=by omega
      rw [he,this,List.drop_length] at h;exact h
  · unfold chkE at h;rw [if_neg c] at h;exact h
theorem p_r40_egg{n:Nat}{es:List E3}{l:List Int}{R:Int→Prop}(hN:NrmE n es)(hn:n≤12)(hl:es.length≤40)(h:R (eggE n es l)):yg0 (n:Int) es l R:=by
  refine ylp (by omega) ⟨fun c=>⟨fun q=>?_,fun q=>?_⟩,fun c=>?_⟩
  · have e:l=[]:=List.length_eq_zero_iff.1 (by omega)
    unfold eggE at h;rw [if_pos c,if_pos e] at h;exact h
  · have hne:l≠[]:=by rintro rfl;exact q rfl
    have hs:=yiY c
    have hlen:=hs.len
    unfold eggE at h;rw [if_pos c,if_neg hne] at h
    refine p_r08_Induced hN hn hs hl (ygT (by have:=made_len (d:=l.length) (L:=indL es l) (by omega);omega) (ind_ok hs hN hn hne) ⟨fun z=>?_,fun z=>?_⟩)
    · rw [if_pos z] at h;exact h
    · rw [if_neg z] at h;exact h
  · unfold eggE at h;rw [if_neg c] at h;exact h
theorem p_r40_Eggs{n:Int}{es:List E3}{s:List (List Int)}{R:Int→Prop}(hg:yav n es=0)(hl:es.length≤40)(h:R (ylc n es s)):yf1 n es s R:=by
  obtain ⟨k,rfl,hk1,hk12⟩:=ycH hg
  have hN:=nrm_of hg
  unfold ylc at h
  refine ⟨fun q=>by rw [if_pos (by omega)] at h;exact h,fun q=>?_⟩
  rw [if_neg (by omega)] at h
  refine ⟨fun m v=>∃ i:Nat,v=i∧i+m=s.length∧yjn k es s=yjn k es (s.drop i),⟨s.length,0,rfl,by omega,rfl⟩,?_⟩
  rintro m v ⟨i,rfl,hm,he⟩
  refine ⟨fun hlt=>?_,fun hge=>?_⟩
  · have hi:i<s.length:=by omega
    rw [List.drop_eq_getElem_cons hi,yjn,←yc3 hi] at he
    rw [Int.toNat_natCast]
    refine ⟨⟨by omega,hlt⟩,p_r40_egg hN hk12 hl ⟨fun z=>?_,fun z=>?_⟩⟩
    · rw [if_pos z] at he
      exact ⟨⟨by omega,by omega⟩,m-1,by omega,i+1,by omega,by omega,he⟩
    · rw [if_neg z] at he
      rw [he] at h;exact h
  · have:i=s.length:=by omega
    rw [he,this,List.drop_length] at h;exact h
structure ScrOk(n:Nat)(es:List E3)(s:List (List Int)):Prop where
  j:yaS n es=0
  l:s.length≤256
  e:∀ x∈s,eggE n es x=0
theorem yiy{n:Nat}{es:List E3}{s:List (List Int)}(h:chkE n es s=0):ScrOk n es s:=by
  unfold chkE at h
  split at h
  · rename_i c
    unfold ylc at h
    split at h
    · cases h
    · rename_i c2;exact ⟨c,by omega,yid.1 h⟩
  · rename_i c;exact absurd h c
theorem ScrOk.chk{n:Nat}{es:List E3}{s:List (List Int)}(h:ScrOk n es s):chkE n es s=0:=by
  unfold chkE ylc
  have:=h.l
  rw [if_pos h.j,if_neg (by omega)];exact yid.2 h.e
theorem ylN{n:Nat}{es:List E3}{l:List Int}(h:eggE n es l=0):SetOk n l∧l≠[]∧ydD (l.length:Nat) (made l.length (indL es l))=true:=by
  unfold eggE at h
  split at h
  · rename_i c
    split at h
    · cases h
    · rename_i c2
      split at h
      · rename_i c3;exact ⟨yiY c,c2,c3⟩
      · cases h
  · rename_i c;exact absurd h c
theorem ScrOk.len{n:Nat}{es:List E3}{s:List (List Int)}(h:ScrOk n es s):∀ x∈s,x.length≤n:=fun x hx=>(ylN (h.e x hx)).1.len
theorem ScrOk.n12{n:Nat}{es:List E3}{s:List (List Int)}(h:ScrOk n es s):1≤n∧n≤12:=by
  obtain ⟨k,e,h1,h2⟩:=ycH (ybn h.j).1
  omega
theorem ScrOk.nrm{n:Nat}{es:List E3}{s:List (List Int)}(h:ScrOk n es s):NrmE n es:=nrm_of (ybn h.j).1
theorem vset_ok(n:Nat)(U:Nat→Bool):SetOk n (ykF n U):=by
  refine ⟨fun k hk=>?_,fun j k hjk hk=>?_⟩
  · have:gi (ykF n U) k∈ykF n U:=yjo hk
    obtain ⟨v,h1,_,h3⟩:=ykO.1 this
    omega
  · rw [yaN (by omega),yaN hk]
    exact List.pairwise_iff_getElem.1 (vsetL_sorted n U) j k (by omega) hk hjk
theorem yjA{n:Nat}{y:List Int}(h:y∈yeV n):SetOk n y:=by
  obtain ⟨U,rfl⟩:=sets_is h
  exact vset_ok n U
def hitF(n:Nat)(s:List (List Int)):Int×List Int:=lstF (fun y=>((y.length:Int),hitB s y)) (yeV n) (-1,[])
def sepF(n:Nat)(es:List E3)(s:List (List Int)):Int×List Int:=lstF (fun y=>((cutN es y:Int),parB s y)) (yeV n) (-1,[])
theorem ydJ{n:Int}{es:List E3}{s:List (List Int)}{R:Int→List Int→Int→Prop}(hl:es.length≤40)(h0:chkE n es s≠0→R 0 [] (chkE n es s))(h1:∀ k:Nat,n=k→ScrOk k es s→R (hitF k s).1 (hitF k s).2 0):ybh n es s R:=by
  refine yer hl ⟨fun c=>?_,fun c=>h0 c⟩
  have hj:yaS n es=0:=by
    unfold chkE at c;split at c
    · assumption
    · exact c
  obtain ⟨k,rfl,_,_⟩:=ycH (ybn hj).1
  have hS:=yiy c
  have:=hS.n12
  have hsl:=hS.l
  refine p_least (by omega) (val:=fun y=>((y.length:Int),hitB s y)) (fun y hy=>?_) (h1 k rfl hS)
  have:=(yjA hy).len
  exact ⟨by omega,fun R' h'=>p_Hitting_1 (by omega) (by omega) (fun e he=>by have:=hS.len e he;omega) h'⟩
theorem p_Cut_1{n:Nat}{es:List E3}{s:List (List Int)}(hS:ScrOk n es s)(hl:es.length≤40){y:List Int}(hy:SetOk n y){R:Int→Bool→Int→Prop}(h1:parB s y=true→R (cutN es y:Nat) true 0)(h2:parB s y=false→R 0 false 0):yce y s (n:Int) es 0 R:=by
  have hn:=hS.n12
  have hsl:=hS.l
  have hyl:=hy.len
  have hel:∀ e∈s,e.length≤1000000000:=fun e he=>by have:=hS.len e he;omega
  refine p_anySS (p:=fun egg=>covB y egg) (by omega) (fun x hx R' h'=>yib (by omega) (hel x hx) h') ?_
  refine p_anySS (p:=fun egg=>!ygL egg y) (by omega) (fun x hx R' h'=>ygf (by omega) (hel x hx) h') ?_
  refine ⟨parB s y=true,fun z=>p_graph_Cut hS.nrm hn.2 hl hy fun out ho=>?_,fun za=>⟨fun zb=>?_,fun zb=>h2 ?_⟩,fun za=>h2 ?_⟩
  · rw [ho];exact ⟨fun _=>h1 z,fun q=>absurd rfl q⟩
  · unfold parB;rw [za,zb];rfl
  · unfold parB;rw [Bool.eq_false_iff.2 zb,Bool.and_false]
  · unfold parB;rw [Bool.eq_false_iff.2 za,Bool.false_and]
theorem p_least_v2{n:Nat}{es:List E3}{s:List (List Int)}(hS:ScrOk n es s)(hl:es.length≤40){R:Int→List Int→Int→Prop}(h:R (sepF n es s).1 (sepF n es s).2 0):ycd (n:Int) s (n:Int) es 0 R:=by
  have hn:=hS.n12
  show ∃ Pr Rr:List (List Int)→Prop,_
  refine ⟨_,_,p_sets_1 (by omega),fun pre v best first=>v=0∧(best,first)=lstF (fun y=>((cutN es y:Int),parB s y)) pre (-1,[]),⟨rfl,rfl⟩,?_,?_⟩
  · rintro pre y v best first ⟨rfl,hI⟩ hPr
    have hy:SetOk n y:=yjA (hPr.subset (by simp))
    have hyl:=hy.len
    have hs:=yhX (fun y=>((cutN es y:Int),parB s y)) pre y (-1,[])
    rw [←hI] at hs
    refine p_Cut_1 hS hl hy (fun c=>⟨fun _=>⟨fun q2=>yhZ (by omega) ⟨rfl,?_⟩,fun q2=>⟨fun q3=>yhZ (by omega) ⟨rfl,?_⟩,fun q3=>⟨rfl,?_⟩⟩⟩,fun q=>absurd rfl q⟩) (fun c=>⟨fun q=>(by cases q),fun _=>⟨rfl,?_⟩⟩)
    · exact (hs.trans (if_pos ⟨c, .inl q2⟩)).symm
    · exact (hs.trans (if_pos ⟨c, .inr q3⟩)).symm
    · exact (hs.trans (if_neg (fun z=>z.2.elim q2 q3))).symm
    · exact (hs.trans (if_neg (fun z=>by rw [c] at z;cases z.1))).symm
  · rintro ys v best first ⟨rfl,hI⟩ hR
    have hR:ys=yeV n:=hR
    subst hR
    unfold sepF at h
    rw [←hI] at h
    exact h
theorem yft{n:Int}{es:List E3}{s:List (List Int)}{R:Int→List Int→Int→Prop}(hl:es.length≤40)(h0:chkE n es s≠0→R 0 [] (chkE n es s))(h1:∀ k:Nat,n=k→ScrOk k es s→R (sepF k es s).1 (sepF k es s).2 0):ybO n es s R:=by
  refine yer hl ⟨fun c=>?_,fun c=>h0 c⟩
  have hj:yaS n es=0:=by
    unfold chkE at c;split at c
    · assumption
    · exact c
  obtain ⟨k,rfl,_,_⟩:=ycH (ybn hj).1
  have hS:=yiy c
  exact p_least_v2 hS hl ⟨fun _=>h1 k rfl hS,fun q=>absurd rfl q⟩
def ordF(n:Nat)(es:List E3)(s:List (List Int)):Int:=if (sepF n es s).1<0 then (hitF n s).1 else mnF (hitF n s).1 (sepF n es s).1
theorem ygg{n:Int}{es:List E3}{s:List (List Int)}{R:Int→Int→Prop}(hl:es.length≤40)(h0:chkE n es s≠0→R 0 (chkE n es s))(h1:∀ k:Nat,n=k→ScrOk k es s→R (ordF k es s) 0):ybM n es s R:=by
  refine ydJ hl (fun c=>⟨fun q=>absurd q c,fun _=>h0 c⟩) fun k hk hS=>⟨fun _=>?_,fun q=>absurd rfl q⟩
  refine yft hl (fun c=>absurd (by rw [hk];exact hS.chk) c) fun k' hk' _=>⟨fun _=>?_,fun q=>absurd rfl q⟩
  have e:k'=k:=by omega
  subst e
  have h:=h1 k' hk hS
  unfold ordF at h
  exact ⟨fun c=>by rw [if_pos c] at h;exact h,fun c=>by rw [if_neg c] at h;exact h⟩
theorem p_r23_members{n:Nat}(hn:n≤12){d:Nat}(hd:d≤4096){R:List Int→Prop}(h:R (yfm n 0 d)):yd6 n d R:=by
  refine ⟨fun m d2 out i=>∃ k x:Nat,i=k∧d2=x∧k+m=n∧out.length≤k∧x≤4096∧yfm n 0 d=out++yfm m k x,⟨n,0,d,rfl,rfl,by omega,by simp,hd,by simp⟩,?_⟩
  rintro m d2 out i ⟨k,x,rfl,rfl,hm,hol,hx,he⟩
  refine ⟨fun hlt=>?_,fun hge=>?_⟩
  · obtain ⟨m,rfl⟩:∃ j,m=j+1:=⟨m-1,by omega⟩
    rw [yfm] at he
    have e1:((x:Int).tdiv 2)=((x / 2:Nat):Int):=by
      rw [Int.tdiv_eq_ediv_of_nonneg (by omega)];omega
    have e2:((x:Int).tmod 2)=((x % 2:Nat):Int):=by
      rw [Int.tmod_eq_emod_of_nonneg (by omega)];omega
    rw [e1,e2]
    refine ⟨by omega,fun c=>⟨by omega,⟨by omega,by omega⟩,⟨by omega,by omega⟩,m,by omega,k+1,x / 2,by omega,rfl,by omega,by simp;omega,by omega,?_⟩,fun c=>⟨⟨by omega,by omega⟩,⟨by omega,by omega⟩,m,by omega,k+1,x / 2,by omega,rfl,by omega,by omega,by omega,?_⟩⟩
    · rw [he,if_pos (by omega),List.append_assoc]
    · rw [he,if_neg (by omega),List.nil_append]
  · have:m=0:=by omega
    subst this
    rw [yfm,List.append_nil] at he
    rw [he] at h;exact h
theorem yhT{n:Nat}{es:List E3}(hn:n≤12){R:List (List Int)→Prop}(h:R (yeM n)):ydn n es R:=by
  have pw:∀ k,k≤12→2^k≤4096:=fun k hk=>Nat.pow_le_pow_right (n:=2) (by omega) hk
  refine ⟨fun m c v=>∃ k:Nat,v=k∧k+m=n∧c=((2^k:Nat):Int),⟨n,0,rfl,by omega,rfl⟩,?_⟩
  rintro m c v ⟨k,rfl,hm,rfl⟩
  have hp:=pw k (by omega)
  have hp1:((2^k:Nat):Int)≤4096:=Int.ofNat_le.2 hp
  have hp0:(0:Int)≤((2^k:Nat):Int):=Int.natCast_nonneg _
  generalize hz:2^k=z at hp hp1 hp0
  refine ⟨fun hlt=>⟨⟨by omega,by omega⟩,⟨by omega,by omega⟩,m-1,by omega,k+1,by omega,by omega,by rw [Nat.pow_succ,hz];omega⟩,fun hge=>?_⟩
  have e:k=n:=by omega
  subst e
  refine ⟨fun m out i=>∃ j:Nat,i=j∧j+m=2^k∧out=(List.range j).map (yfm k 0),⟨2^k,0,rfl,by omega,rfl⟩,?_⟩
  rintro m' out i ⟨j,rfl,hj,rfl⟩
  refine ⟨fun hlt=>p_r23_members hn (by omega) ⟨by simp;omega,⟨by omega,by omega⟩,m'-1,by omega,j+1,by omega,by omega,?_⟩,fun hge=>?_⟩
  · rw [List.range_succ,List.map_append];rfl
  · have:j=2^k:=by omega
    rw [this];exact h
theorem p_r10_Before:∀ {a b:List Int} {R:Bool→Prop},a.length≤1000000000→R (befF a b)→yeG a b R:=by
  intro a b R hl h
  refine ⟨fun m i=>∃ k:Nat,i=k∧k+m=a.length∧k≤b.length∧befF a b=befF (a.drop k) (b.drop k),⟨a.length,0,rfl,by omega,by omega,rfl⟩,?_⟩
  rintro m i ⟨k,rfl,hm,hkb,he⟩
  refine ⟨k<a.length∧k<b.length,fun hJ=>?_,fun hlt=>⟨fun hlt2=>⟨by omega,by omega⟩,fun hge=>?_⟩,fun hge=>?_⟩
  · rw [List.drop_eq_getElem_cons hJ.1,List.drop_eq_getElem_cons hJ.2,befF,←yaN hJ.1,←yaN hJ.2] at he
    rw [Int.toNat_natCast]
    refine ⟨⟨by omega,by omega⟩,⟨by omega,by omega⟩,fun c=>⟨⟨by omega,by omega⟩,m-1,by omega,k+1,by omega,by omega,by omega,by rw [if_pos c] at he;exact he⟩,fun c=>?_⟩
    rw [if_neg c] at he
    rw [he] at h;exact h
  · have hk:k=b.length:=by omega
    rw [show b.drop k=[] from List.drop_eq_nil_iff.2 (by omega),List.drop_eq_getElem_cons (by omega:k<a.length),befF] at he
    rw [he] at h
    rw [decide_eq_false (by omega)];exact h
  · have hk:k=a.length:=by omega
    rw [hk,List.drop_length] at he
    by_cases c:a.length<b.length
    · rw [List.drop_eq_getElem_cons c,befF] at he
      rw [he] at h
      rw [decide_eq_true (by omega)];exact h
    · rw [show b.drop a.length=[] from List.drop_eq_nil_iff.2 (by omega),befF] at he
      rw [he] at h
      rw [decide_eq_false (by omega)];exact h
theorem yjt{n:Int}{es:List E3}{l:List (List Int)}{cuts:Bool}{R:Int→List Int→Prop}(hE:∀ x∈es,1≤x.2.2∧x.2.2≤50)(hl:es.length≤40)(hll:l.length≤1000000000)(hy:∀ y∈l,y.length≤1000000000){val:List Int→Int}(hv1:cuts=true→∀ y,val y=(cutN es y:Nat))(hv2:cuts=false→∀ y,val y=(y.length:Nat))
    (h:R (lstR val l (-1,[])).1 (lstR val l (-1,[])).2):yel n es l cuts R:=by
  refine ⟨fun m best first i=>∃ k:Nat,i=k∧k+m=l.length∧lstR val l (-1,[])=lstR val (l.drop k) (best,first),⟨l.length,0,rfl,by omega,rfl⟩,?_⟩
  rintro m best first i ⟨k,rfl,hm,he⟩
  refine ⟨fun hlt=>?_,fun hge=>?_⟩
  · have hk:k<l.length:=by omega
    rw [List.drop_eq_getElem_cons hk,lstR,←yc3 hk] at he
    rw [Int.toNat_natCast]
    have hyk:=hy _ (ygu hk)
    refine ⟨⟨by omega,hlt⟩,fun x=>x=val (gx l k),?_,?_⟩
    · rintro _ rfl
      have fin:∀ b' f',(if (best,first).1<0∨val (gx l k)<(best,first).1∨val (gx l k)=(best,first).1∧befF (gx l k) (best,first).2=true then (val (gx l k),gx l k) else (best,first))=(b',f')→In64 ((k:Int)+1)∧∃ m3,m3<m∧∃ k_1:Nat,(k:Int)+1=k_1∧k_1+m3=l.length∧lstR val l (-1,[])=lstR val (l.drop k_1) (b',f'):=fun b' f' e =>
        ⟨⟨by omega,by omega⟩,m-1,by omega,k+1,by omega,by omega,by rw [he,e]⟩
      refine ⟨fun c=>fin _ _ (if_pos (.inl c)),fun c=>⟨fun c2=>fin _ _ (if_pos (.inr (.inl c2))),fun c2=>⟨fun c3=>p_r10_Before hyk ⟨fun c4=>fin _ _ (if_pos (.inr (.inr ⟨c3,c4⟩))),fun c4=>fin _ _ (if_neg ?_)⟩,fun c3=>fin _ _ (if_neg ?_)⟩⟩⟩
      · rintro (z | z | z)
        · exact c z
        · exact c2 z
        · exact c4 z.2
      · rintro (z | z | z)
        · exact c z
        · exact c2 z
        · exact c3 z.1
    · refine ⟨fun c=>p_r08_Cut hE hl hyk fun out ho=>?_,fun c=>?_⟩
      · show ((out.length:Nat):Int)=val (gx l k)
        rw [hv1 c,ho]
      · show (((gx l k).length:Nat):Int)=val (gx l k)
        rw [hv2 (by simpa using c)]
  · have:k=l.length:=by omega
    rw [this,List.drop_length] at he
    rw [he] at h;exact h
theorem yh2{p:List Int→Bool}{l:List (List Int)}{k:Nat}(hk:k<l.length):(l.take (k+1)).filter p=(l.take k).filter p++if p (gx l k)=true then [gx l k] else []:=by
  rw [List.take_add_one,List.getElem?_eq_getElem hk,←yc3 hk,List.filter_append]
  simp only [Option.toList_some,List.filter_cons,List.filter_nil]
section
variable {n : Nat} {es : List E3} {s : List (List Int)} (hS : ScrOk n es s) (hl : es.length ≤ 40) (hn6 : n ≤ 6)
include hS hl hn6
omit hS hl in
theorem subs_in{y:List Int}(hy:y∈yeM n):SetOk n y:=yjA (subs_sets n (by omega) y hy)
omit hS hl in
theorem subs_len:(yeM n).length≤4096:=by
  unfold yeM;rw [List.length_map,List.length_range]
  exact Nat.le_trans (Nat.pow_le_pow_right (n:=2) (j:=12) (by omega) (by omega)) (by decide)
theorem p_r40_Hit{R:Int→List Int→Prop}(h:R (hitF n s).1 (hitF n s).2):yfR (n:Int) es s R:=by
  have h12:=hS.n12
  have hsl:=hS.l
  refine yhT h12.2 ⟨fun m l i=>∃ k:Nat,i=k∧k+m=(yeM n).length∧l=((yeM n).take k).filter (hitB s),⟨(yeM n).length,0,rfl,by omega,rfl⟩,?_⟩
  have hsub:=subs_len hn6
  rintro m l i ⟨k,rfl,hm,rfl⟩
  refine ⟨fun hlt=>?_,fun hge=>?_⟩
  · have hk:k<(yeM n).length:=by omega
    have hok:=subs_in hn6 (ygu hk)
    have hol:=hok.len
    have hfl:(((yeM n).take k).filter (hitB s)).length≤k:=Nat.le_trans (List.length_filter_le _ _) (by rw [List.length_take];omega)
    rw [Int.toNat_natCast]
    refine ⟨⟨by omega,hlt⟩,p_r40_Hits (by omega) (by omega) (fun e he=>by have:=hS.len e he;omega) ⟨fun c=>⟨by omega,⟨by omega,by omega⟩,m-1,by omega,k+1,by omega,by omega,?_⟩,fun c=>⟨⟨by omega,by omega⟩,m-1,by omega,k+1,by omega,by omega,?_⟩⟩⟩
    · rw [yh2 hk,if_pos c]
    · rw [yh2 hk,if_neg c,List.append_nil]
  · have:k=(yeM n).length:=by omega
    rw [this,List.take_length]
    refine yjt (val:=fun y=>(y.length:Int)) (fun x hx=>by have:=hS.nrm.ok x hx;omega) hl (by have:=List.length_filter_le (hitB s) (yeM n);omega) (fun y hy=>by have:=(subs_in hn6 (List.mem_filter.1 hy).1).len;omega) (fun c=>by cases c) (fun _ y=>rfl) ?_
    rw [←lst_eq (by omega) _ _ (fun y=>Int.natCast_nonneg _)]
    exact h
theorem ygw{R:Int→List Int→Prop}(h:R (sepF n es s).1 (sepF n es s).2):ycC (n:Int) es s R:=by
  have h12:=hS.n12
  have hsl:=hS.l
  refine yhT h12.2 ⟨fun m l i=>∃ k:Nat,i=k∧k+m=(yeM n).length∧l=((yeM n).take k).filter (parB s),⟨(yeM n).length,0,rfl,by omega,rfl⟩,?_⟩
  have hsub:=subs_len hn6
  rintro m l i ⟨k,rfl,hm,rfl⟩
  refine ⟨fun hlt=>?_,fun hge=>?_⟩
  · have hk:k<(yeM n).length:=by omega
    have hok:=subs_in hn6 (ygu hk)
    have hol:=hok.len
    have hfl:(((yeM n).take k).filter (parB s)).length≤k:=Nat.le_trans (List.length_filter_le _ _) (by rw [List.length_take];omega)
    rw [Int.toNat_natCast]
    refine ⟨⟨by omega,hlt⟩,p_r40_Parts (by omega) (by omega) (fun e he=>by have:=hS.len e he;omega) ⟨fun c=>⟨by omega,⟨by omega,by omega⟩,m-1,by omega,k+1,by omega,by omega,?_⟩,fun c=>⟨⟨by omega,by omega⟩,m-1,by omega,k+1,by omega,by omega,?_⟩⟩⟩
    · rw [yh2 hk,if_pos c]
    · rw [yh2 hk,if_neg c,List.append_nil]
  · have:k=(yeM n).length:=by omega
    rw [this,List.take_length]
    refine yjt (val:=fun y=>(cutN es y:Int)) (fun x hx=>by have:=hS.nrm.ok x hx;omega) hl (by have:=List.length_filter_le (parB s) (yeM n);omega) (fun y hy=>by have:=(subs_in hn6 (List.mem_filter.1 hy).1).len;omega) (fun _ y=>rfl) (fun c=>by cases c) ?_
    rw [←lst_eq (by omega) _ _ (fun y=>Int.natCast_nonneg _)]
    exact h
theorem p_r40_Size{R:Int→Prop}(h:R (ordF n es s)):yga (n:Int) es s R:=by
  refine p_r40_Hit hS hl hn6 (ygw hS hl hn6 ⟨fun c=>⟨fun c2=>?_,fun c2=>?_⟩,fun c=>?_⟩)
  · unfold ordF at h;rw [if_neg (by omega)] at h
    rw [show mnF (hitF n s).1 (sepF n es s).1=(sepF n es s).1 by unfold mnF;rw [if_pos c2]] at h;exact h
  · unfold ordF at h;rw [if_neg (by omega)] at h
    rw [show mnF (hitF n s).1 (sepF n es s).1=(hitF n s).1 by unfold mnF;rw [if_neg c2]] at h;exact h
  · unfold ordF at h;rw [if_pos (by omega)] at h;exact h
end
theorem first_setG(N:Nat)(k:Int):(List.replicate (N+1) (0:Int)).set N k=ydX (N+1) k:=by
  refine ygi (by rw [List.length_set,List.length_replicate,yhO (by omega)]) fun i hi=>?_
  rw [List.length_set,List.length_replicate] at hi
  rw [ycQ (by rw [List.length_replicate];omega),gi_firstF,yhs hi]
  rfl
theorem yju{N k:Nat}(hN:N≤4)(hk:k≤6):ybX (ydX (N+1) (k:Int)) (fun p=>p <+: ycp (N+1) k) (fun p=>p=ycp (N+1) k):=by
  unfold ybX
  obtain ⟨⟨B0,hB0⟩,hst⟩:=yhl N k
  have hmem:∀ x∈ycp (N+1) k,x.length=N+1∧∀ j,j<N+1 → -1000000≤gi x j∧gi x j≤1000000:=fun x hx=>by
    obtain ⟨h1,h2,h3⟩:=(yed N k x).1 hx
    exact ⟨h1,fun j hj=>by have:=dg_entry h2 (j:=j) (by omega);omega⟩
  generalize ycp (N+1) k=L at hB0 hst hmem ⊢
  refine ⟨fun q pre more v=>∃ B,L=pre++B∧q=B.length∧(more=true→∃ B',B=v::B')∧(more=false→B=[]),⟨L.length,L,rfl,rfl,fun _=>⟨B0,hB0⟩,fun q=>(by cases q)⟩,?_⟩
  rintro q pre more v ⟨B,hL,rfl,hm,hn⟩
  refine ⟨fun hmt=>?_,fun hmf=>?_⟩
  · obtain ⟨B',rfl⟩:=hm hmt
    obtain ⟨hvl,hvb⟩:=hmem v (by rw [hL];simp)
    have hL2:L=(pre++[v])++B':=by rw [hL];simp
    have hat:=(show ygn (pre++v::B') none by rw [←hL];exact hst).at_
    refine ygo (by omega) ⟨⟨B',hL2.symm⟩,?_,trivial⟩
    refine p_chips_step (by omega) (by omega) (fun j hj=>hvb j (by omega)) (fun y hy=>⟨B'.length,by simp,B',hL2,rfl,fun _=>?_,fun q=>(by cases q)⟩) (fun hno=>?_)
    · rw [hy] at hat
      cases B' with
      | nil=>simp at hat
      | cons z B'=>simp at hat;exact ⟨B',by rw [hat]⟩
    · rw [hno] at hat
      refine ⟨B'.length,by simp,B',hL2,rfl,fun q=>(by cases q),fun _=>?_⟩
      cases B' with
      | nil=>rfl
      | cons z B'=>simp at hat
  · have hB:=hn (by simpa using hmf)
    rw [hB,List.append_nil] at hL
    exact hL.symm
def cntG(k:Nat):Nat→Int
  | 0=>1
  | i+1=>if i=0 then 1 else (cntG k i*((k:Int)+i)).tdiv i
theorem cntG_ok:∀ k,k<6→∀ j,j<5→0<j→(0≤cntG k j∧cntG k j≤1000)∧(0≤cntG k j*((k:Int)+j)∧cntG k j*((k:Int)+j)≤10000)∧(cntG k j*((k:Int)+j)).tdiv (j:Int)=cntG k (j+1)∧(0≤cntG k (j+1)∧cntG k (j+1)≤1000):=by decide
theorem p_chips_AllG{N k:Nat}{R:List (List Int)→Int→Prop}(hN:N≤4)(hk:k≤5)(h:R (ycp (N+1) k) 0):yeg ((N+1:Nat):Int) (k:Int) R:=by
  unfold yeg
  have hv:∀ {R':Int→Prop},R' 0→ybu ((N+1:Nat):Int) R':=fun h=>by
    unfold ybu
    exact ⟨fun q=>by omega,fun _=>⟨fun q=>by omega,fun _=>h⟩⟩
  refine hv ⟨fun _=>?_,fun q=>absurd rfl q⟩
  · refine ⟨True,fun _=>?_,fun q=>by omega,fun _=>⟨fun q=>by omega,fun _=>trivial⟩⟩
    refine ⟨fun q c i=>∃ j:Nat,i=(j:Int)∧1≤j∧j≤N+1∧q=N+1-j∧c=cntG k j,⟨N,1,rfl,by omega,by omega,by omega,rfl⟩,?_⟩
    rintro q c _ ⟨j,rfl,h1,hj,rfl,rfl⟩
    refine ⟨fun hlt=>?_,fun hge=>?_⟩
    · obtain ⟨k1,k2,k3,k4⟩:=cntG_ok k (by omega) j (by omega) (by omega)
      rw [k3]
      exact ⟨i64 (by omega),i64 (by omega),by omega,i64 (by omega),fun q=>by omega,fun _=>⟨i64 (by omega),N+1-(j+1),by omega,j+1,rfl,by omega,by omega,rfl,rfl⟩⟩
    · have e1:(((N+1:Nat):Int)-1).toNat=N:=by omega
      rw [e1,Int.toNat_natCast,first_setG]
      refine ⟨by omega,i64 (by omega),by simp;omega,?_⟩
      unfold yeP ybg yaM
      have hlen:=list_few (n:=N) (k:=k) (by omega) (by omega)
      refine ⟨fun p=>p <+: ycp (N+1) k,fun p=>p=ycp (N+1) k,yju hN (by omega),fun p s=>s=p,rfl,fun pre y s hs hp=>⟨?_,by rw [hs]⟩,fun ys s hs hys=>by rw [hs,hys];exact h⟩
      have:=hp.length_le
      rw [List.length_append,List.length_singleton] at this
      rw [hs];omega
theorem p_graph_EndsI{n:Nat}{es:List E3}{R:List (Int×Int)→Int→Prop}(hl:es.length≤100)(q:yav n es=0)(h:R (yeK es) 0):yeI (n:Int) es R:=by
  refine ydK (by omega) ⟨fun q=>?_,fun c=>absurd q c⟩
  obtain ⟨hE,hn1,hn12⟩:=ybW q
  show ∃ Pr Rr:List (Int×Int×Int)→Prop,_
  refine ⟨_,_,yd3 hE (by omega),fun pre out=>out=pre.map fun y=>(y.2.1,y.2.2),rfl,?_,?_⟩
  · rintro pre e a b out rfl hPr
    have hPr:(pre++[(e,a,b)]).map gmap <+: sF es:=hPr
    have h2:=hPr.length_le
    have h3:=sF_few hE
    rw [List.length_map,List.length_append] at h2
    simp only [List.length_singleton] at h2
    refine ⟨by rw [List.length_map];omega,?_⟩
    show _=List.map _ _
    rw [List.map_append];rfl
  · rintro ys out rfl hR
    have hR:ys.map gmap=sF es:=hR
    have e:ys.map (fun y=>(y.2.1,y.2.2))=yeK es:=by
      rw [←sF_endsI,←hR,List.map_map];rfl
    rw [e];exact h
theorem p_graph_SizeI{n:Nat}{es:List E3}{R:Int→Int→Prop}(hl:es.length≤100)(q:yav n es=0)(h:R ((es.map (·.2.2)).sum) 0):yeL (n:Int) es R:=by
  refine p_graph_EndsI hl q ?_
  rw [(ye6 es (fun x hx=>by have:=(ybW q).1 x hx;omega)).1];exact h
theorem p_AtLeast1{n:Nat}{es:List E3}{d:List Int}{R:Bool→Int→Prop}(hD:DOk n es d)(hg:ybo n es 0 d=0)(h1:AL n es d 1→R true 0)(h2:¬AL n es d 1→R false 0):ycl (n:Int) es d 1 R:=by
  have hel:=hD.G.el
  refine p_rank_AtLeast (by omega) (fun q=>absurd hg q) (fun _ q=>by omega) fun _ _=>⟨hD,fun k hk=>?_⟩
  have hk:RkOk n es d k:=hk
  by_cases c:(1:Int)≤k
  · rw [decide_eq_true c];exact h1 ((hk.ge hD.G.n1).1 c)
  · rw [decide_eq_false c];exact h2 fun q=>c ((hk.ge hD.G.n1).2 q)
theorem p_r40_Moves{N:Nat}{es:List E3}{d:List Int}{R:Bool→Prop}(hG:GOk (N+1) es)(hb:∀ v,v<N+1 → -150≤gi d v∧gi d v≤150)(hd:d.length=N+1)(h1:AL (N+1) es d 1→R true)(h2:¬AL (N+1) es d 1→R false):ykf ((N+1:Nat):Int) es d R:=by
  have hn5:=hG.n5
  have hel:=hG.el
  unfold ykf ykk
  have hpw:(1+1)^N≤2401:=by
    have h3:2^N≤2^4:=Nat.pow_le_pow_right (by omega) (by omega)
    have:(1+1)^N=2^N:=rfl
    omega
  have hlen:=yim N 1
  refine ⟨N+1,ykn N (N+1) 1 (by omega) (by omega) (by omega) (by omega) ?_⟩
  have hmem:∀ e∈ycp (N+1) 1,Eff (N+1) e ((1:Nat):Int):=fun e he=>yku he
  have hAL:(∀ e∈ycp (N+1) 1,Win (N+1) es (sb (N+1) d e))→AL (N+1) es d 1:=fun q e he=>q e (eff_list he)
  generalize ycp (N+1) 1=L at hlen hmem hAL
  refine ⟨fun m v=>Cnt L.length (fun j=>∀ e∈L.take j,Win (N+1) es (sb (N+1) d e)) m v,Cnt.start (fun e he=>by simp at he),?_⟩
  rintro m _ ⟨j,rfl,rfl,hj,hinv⟩
  simp only [Int.toNat_natCast]
  refine ⟨fun hlt=>⟨by omega,?_⟩,fun hge=>?_⟩
  · have hjl:j<L.length:=by omega
    have heff:=hmem _ (List.mem_of_getElem? (yfY hjl))
    have hbb:∀ v,v<N+1→0≤gi (gx L j) v∧gi (gx L j) v≤6:=fun v hv=>by have:=heff.pos v hv;have:=heff.le hv;omega
    refine p_r25_Plus (by omega) (by rw [heff.len];omega) (by omega) (fun v hv=>by have:=hb v (by omega);omega) (fun v hv=>by have:=hbb v (by omega);omega) ?_
    rw [plus_sb hd]
    refine p_r36_Wins (by omega) hG.g hG.c (ygG _ _ _) (fun v hv=>by rw [ygA hv];have:=hb v hv;have:=hbb v hv;omega) (fun hw=>⟨fun _=>Cnt.next (by omega) (by omega) fun e he=>?_,fun q=>absurd rfl q⟩) fun hw=>⟨fun q=>(by cases q),fun _=>h2 fun q=>hw (q _ heff)⟩
    rw [List.take_add_one,yfY hjl] at he
    rcases List.mem_append.1 he with q | q
    · exact hinv e q
    · have:e=gx L j:=by simpa using q
      rw [this];exact hw
  · have e:j=L.length:=by omega
    rw [e,List.take_length] at hinv
    exact h1 (hAL hinv)
structure GonOk(n:Nat)(es:List E3)(k:Nat)(d:List Int):Prop where
  k1:1≤k∧k≤n
  at_:∃ i,i<(ycp n k).length∧gx (ycp n k) i=d∧∀ j,j<i→¬AL n es (gx (ycp n k) j) 1
  al:AL n es d 1
  no:∀ k',1≤k'→k'<k→∀ y∈ycp n k',¬AL n es y 1
theorem GonOk.mem{n:Nat}{es:List E3}{k:Nat}{d:List Int}(h:GonOk n es k d):d∈ycp n k:=by
  obtain ⟨i,hi,rfl,_⟩:=h.at_
  exact ygu hi
theorem GonOk.eq{n:Nat}{es:List E3}{k k':Nat}{d d':List Int}(h:GonOk n es k d)(h':GonOk n es k' d'):k=k'∧d=d':=by
  have e:k=k':=by
    rcases Nat.lt_trichotomy k k' with q | q | q
    · exact absurd h.al (h'.no k h.k1.1 q d h.mem)
    · exact q
    · exact absurd h'.al (h.no k' h'.k1.1 q d' h'.mem)
  subst e
  refine ⟨rfl,?_⟩
  obtain ⟨i,hi,e1,h1⟩:=h.at_;obtain ⟨j,hj,e2,h2⟩:=h'.at_
  rcases Nat.lt_trichotomy i j with q | q | q
  · exact absurd (by rw [e1];exact h.al) (h2 i q)
  · rw [←e1,←e2,q]
  · exact absurd (by rw [e2];exact h'.al) (h1 j q)
theorem al_ones{n:Nat}{es:List E3}(hn:1≤n):AL n es (List.replicate n 1) 1:=fun e he=>⟨fun _=>0,fun v hv=>by
  have:=he.le hv
  rw [yfl,ygA hv,yaN (by simpa using hv)];simp;omega⟩
theorem ones_mem(N:Nat):List.replicate (N+1) (1:Int)∈ycp (N+1) (N+1):=by
  refine (yed N (N+1) _).2 ⟨by simp,fun a ha=>by rw [(List.mem_replicate.1 ha).2];omega,?_⟩
  have:∀ m:Nat,(List.replicate m (1:Int)).sum=m:=fun m=>by
    induction m with
    | zero=>rfl
    | succ m ih=>rw [List.replicate_succ,List.sum_cons,ih];omega
  exact this _
theorem gok_dok{N:Nat}{es:List E3}(hG:GOk (N+1) es){k:Nat}(hk:k≤5){y:List Int}(hy:y∈ycp (N+1) k):DOk (N+1) es y∧ybo ((N+1:Nat):Int) es 0 y=0∧y.length=N+1:=by
  have he:=yku hy
  have hb:∀ v,v<N+1→0≤gi y v∧gi y v≤5:=fun v hv=>by have:=he.pos v hv;have:=he.le hv;omega
  refine ⟨⟨hG,fun v hv=>by have:=hb v hv;omega,by rw [he.deg];omega⟩,?_,he.len⟩
  rw [given0]
  have hj:yaS ((N+1:Nat):Int) es=0:=by unfold yaS;rw [if_pos hG.g,if_pos hG.c]
  have:=hG.n5
  rw [if_pos hj]
  exact yfE he.len (by omega) (by omega) fun j hj=>by have:=hb j hj;omega
theorem yeY{n:Int}{es:List E3}{R:Int→List Int→Int→Prop}(hl:es.length≤40)(h0:yaS n es≠0→R 0 [] (yaS n es))(h1:yaS n es=0→∃ k:Nat,n=k∧GOk k es∧∀ j d,GonOk k es j d→R j d 0):ybG n es R:=by
  refine ycg (by omega) ⟨fun c=>?_,fun c=>h0 c⟩
  obtain ⟨n,rfl,hG,hR⟩:=h1 c
  have hn1:=hG.n1;have hn5:=hG.n5;have hsu:=hG.su
  obtain ⟨N,rfl⟩:∃ N,n=N+1:=⟨n-1,by omega⟩
  refine p_graph_SizeI (by omega) hG.g ⟨True,fun _=>?_,fun _=>⟨fun q=>by omega,fun _=>⟨fun q=>by omega,fun _=>trivial⟩⟩,fun q=>absurd rfl q⟩
  refine ⟨fun m v=>∃ k:Nat,v=k∧1≤k∧k+m=N+2∧∀ k',1≤k'→k'<k→∀ y∈ycp (N+1) k',¬AL (N+1) es y 1,⟨N+1,1,rfl,by omega,by omega,fun k' h1 h2=>by omega⟩,?_⟩
  rintro m v ⟨k,rfl,hk1,hm,hno⟩
  refine ⟨fun hle=>?_,fun hgt=>?_⟩
  · refine p_chips_AllG (by omega) (by omega) ⟨fun _=>?_,fun q=>absurd rfl q⟩
    have hfew:=list_few (n:=N) (k:=k) (by omega) (by omega)
    refine ⟨fun m v=>∃ i:Nat,v=i∧i+m=(ycp (N+1) k).length∧∀ j,j<i→¬AL (N+1) es (gx (ycp (N+1) k) j) 1,⟨_,0,rfl,Nat.zero_add _,fun j hj=>by omega⟩,?_⟩
    rintro m' v ⟨i,rfl,hm',hi⟩
    refine ⟨fun hlt=>?_,fun hge=>?_⟩
    · have hil:i<(ycp (N+1) k).length:=by omega
      obtain ⟨hD,hg,hlen⟩:=gok_dok hG (k:=k) (by omega) (ygu hil)
      rw [Int.toNat_natCast]
      refine ⟨⟨by omega,hlt⟩,p_AtLeast1 hD hg (fun hal=>⟨fun _=>⟨fun _=>hR k _ ⟨⟨hk1,by omega⟩,⟨i,hil,rfl,hi⟩,hal,hno⟩,fun q=>absurd rfl q⟩,fun q=>absurd rfl q⟩) fun hal=>⟨fun _=>⟨fun q=>(by cases q),fun _=>⟨⟨by omega,by omega⟩,m'-1,by omega,i+1,by omega,by omega,fun j hj=>?_⟩⟩,fun q=>absurd rfl q⟩⟩
      by_cases e:j=i
      · rw [e];exact hal
      · exact hi j (by omega)
    · refine ⟨⟨by omega,by omega⟩,m-1,by omega,k+1,by omega,by omega,by omega,fun k' h1 h2 y hy=>?_⟩
      by_cases e:k'=k
      · subst e
        obtain ⟨j,hj,ej⟩:=List.mem_iff_getElem.1 hy
        rw [←ej,←yc3 hj]
        exact hi j (by omega)
      · exact hno k' h1 (by omega) y hy
  · exact absurd (al_ones hn1) (hno (N+1) (by omega) (by omega) _ (ones_mem N))
def ptsF(n:Nat):List (List Int):=(List.range n).map fun v:Nat=>[(v:Int)]
def prsF:List E3→List (List Int)
  | []=>[]
  | x::t=>(if x.1=x.2.1 then [] else [[x.1,x.2.1]])++prsF t
theorem prsF_app:∀ a b:List E3,prsF (a++b)=prsF a++prsF b
  | [],b=>rfl
  | x::t,b=>by rw [List.cons_append,prsF,prsF,prsF_app t b,List.append_assoc]
theorem prsF_len:∀ a:List E3,(prsF a).length≤a.length
  | []=>Nat.le_refl _
  | x::t=>by
    have:=prsF_len t
    rw [prsF,List.length_append,List.length_cons]
    split <;> simp <;> omega
theorem prsF_take{es:List E3}{k:Nat}(hk:k<es.length):prsF (es.take (k+1))=prsF (es.take k)++if (ge es k).1=(ge es k).2.1 then [] else [[(ge es k).1,(ge es k).2.1]]:=by
  rw [List.take_add_one,List.getElem?_eq_getElem hk,←yc4 hk,prsF_app]
  simp [prsF]
def pairE(n:Int)(es:List E3):List (List Int):=if yaS n es=0 then prsF es else []
def yj5(n:Int)(es:List E3):List (List Int):=if yaS n es=0 then ptsF n.toNat else []
theorem loop_pts{n:Nat}(hn:n≤12){R:List (List Int)→Int→Prop}(h:R (ptsF n) 0):(∃ I2:Nat→(List (List Int))→Int→Prop,(∃ m0,I2 m0 ([]) 0)∧∀ (m2:Nat) (out:List (List Int)) (v:Int),I2 m2 out v → 
((v<(n:Int) →
(out.length+1≤1000000000 ∧
(In64 (v+1) ∧
∃ m3,m3<m2∧I2 m3 (out++[[v]]) (v+1)))) ∧
(¬(v<(n:Int)) →
R out 0))):=by
  refine ⟨fun m out v=>∃ k:Nat,v=k∧k+m=n∧out=ptsF k,⟨n,0,rfl,by omega,rfl⟩,?_⟩
  rintro m out v ⟨k,rfl,hm,rfl⟩
  refine ⟨fun hlt=>⟨by simp [ptsF];omega,⟨by omega,by omega⟩,m-1,by omega,k+1,by omega,by omega,?_⟩,fun hge=>?_⟩
  · unfold ptsF;rw [List.range_succ,List.map_append];rfl
  · have:k=n:=by omega
    rw [this];exact h
theorem yih{n:Int}{es:List E3}{R:List (List Int)→Int→Prop}(hl:es.length≤40)(h:R (yj5 n es) (yaS n es)):ycL n es R:=by
  unfold yj5 at h
  refine ycg (by omega) ⟨fun c=>?_,fun c=>by rw [if_neg c] at h;exact h⟩
  rw [if_pos c,c] at h
  obtain ⟨k,rfl,_,h12⟩:=ycH (ybn c).1
  exact loop_pts h12 h
theorem loop_prs{es:List E3}(hl:es.length≤40){R:List (List Int)→Int→Prop}(h:R (prsF es) 0):(∃ I2:Nat→(List (List Int))→Int→Prop,(∃ m0,I2 m0 ([]) 0)∧∀ (m2:Nat) (out:List (List Int)) (v:Int),I2 m2 out v → 
((v<((es.length:Nat):Int) →
((0≤v∧v<((es.length:Nat):Int)) ∧
((((ge es v.toNat).1)=((ge es v.toNat).2.1) →
(In64 (v+1) ∧
∃ m3,m3<m2∧I2 m3 out (v+1))) ∧
(¬(((ge es v.toNat).1)=((ge es v.toNat).2.1)) →
(out.length+1≤1000000000 ∧
(In64 (v+1) ∧
∃ m4,m4<m2∧I2 m4 (out++[[(ge es v.toNat).1,(ge es v.toNat).2.1]]) (v+1))))))) ∧
(¬(v<((es.length:Nat):Int)) →
R out 0))):=by
  refine ⟨fun m out v=>∃ k:Nat,v=k∧k+m=es.length∧out=prsF (es.take k),⟨es.length,0,rfl,by omega,rfl⟩,?_⟩
  rintro m out v ⟨k,rfl,hm,rfl⟩
  refine ⟨fun hlt=>⟨⟨by omega,hlt⟩,fun c=>⟨⟨by omega,by omega⟩,m-1,by omega,k+1,by omega,by omega,?_⟩,fun c=>⟨?_,⟨by omega,by omega⟩,m-1,by omega,k+1,by omega,by omega,?_⟩⟩,fun hge=>?_⟩
  · rw [Int.toNat_natCast] at c
    rw [prsF_take (by omega),if_pos c,List.append_nil]
  · have:=prsF_len (es.take k)
    rw [List.length_take] at this;omega
  · rw [Int.toNat_natCast] at c ⊢
    rw [prsF_take (by omega),if_neg c]
  · have:k=es.length:=by omega
    rw [this,List.take_length];exact h
theorem yiJ{n:Int}{es:List E3}{R:List (List Int)→Int→Prop}(hl:es.length≤40)(h:R (pairE n es) (yaS n es)):yc7 n es R:=by
  unfold pairE at h
  refine ycg (by omega) ⟨fun c=>?_,fun c=>by rw [if_neg c] at h;exact h⟩
  rw [if_pos c,c] at h
  exact loop_prs hl h
end Go.Proofs.YtadpnlimiblniaaGreat

namespace Go.Proofs.YtadpnlimiblniaaGreat
open Go Go.RowKit Go.Shelf Go.Proofs.Tryz
set_option maxRecDepth 100000
set_option maxHeartbeats 8000000
def ycS(R:Bool→Prop):Prop :=
ydQ (fun r r2 =>
ybG r r2 (fun r3 r4 r5 =>
ycL r r2 (fun r6 r7 =>
ybO r r2 r6 (fun r8 r9 r10 =>
ybM r r2 r6 (fun r11 r12 =>
ybG 3 ([(0,1,1),(1,2,1)]) (fun r13 r14 r15 =>
yc7 3 ([(0,1,1),(1,2,1)]) (fun r16 r17 =>
ybh 3 ([(0,1,1),(1,2,1)]) r16 (fun r18 r19 r20 =>
(In64 (r5+r7) ∧
(In64 ((r5+r7)+r10) ∧
(In64 (((r5+r7)+r10)+r12) ∧
(In64 ((((r5+r7)+r10)+r12)+r15) ∧
(In64 (((((r5+r7)+r10)+r12)+r15)+r17) ∧
(In64 ((((((r5+r7)+r10)+r12)+r15)+r17)+r20) ∧
((((((((r5+r7)+r10)+r12)+r15)+r17)+r20)=0 →
((r3=2 →
ybb r4 ([0,0,2]) (fun r21 =>
((r21=true →
((r8=2 →
ybr r9 ([0]) (fun r22 =>
((r22=true →
((r11=2 →
((r13=1 →
ybb r14 ([0,0,1]) (fun r23 =>
((r23=true →
((r18=1 →
ybr r19 ([1]) (fun r24 =>
R r24)) ∧
(¬(r18=1) →
R false))) ∧
(¬(r23=true) →
R false)))) ∧
(¬(r13=1) →
R false))) ∧
(¬(r11=2) →
R false))) ∧
(¬(r22=true) →
R false)))) ∧
(¬(r8=2) →
R false))) ∧
(¬(r21=true) →
R false)))) ∧
(¬(r3=2) →
R false))) ∧
(¬(((((((r5+r7)+r10)+r12)+r15)+r17)+r20)=0) →
R false))))))))))))))))
theorem yfW{O:Nat→Prop}{w:World}{R:Bool→Prop}(h:ycS R)(hO:∀ k,O k→k<w.heap.size) :
    Calls Tryz.prog 13 #[] w fun e w'=>∃ r25,e = .returned (.bool (r25))∧Sep w no O w' (rl [])∧R r25:=by
  unfold ycS at h;have hS:Sep w no O w (rl []):=Sep.start w hO;refine yap (l:=[]) func13 rfl ntmps13 zY (zs (zQ (.bool (false)) (yaa (zs (zn (yam rfl (am0) enter_53 ((yiH h (yaB _)).mono ?_)))))));rintro _ w2 ⟨r,r2,Ar,lr,cr,rfl,hC,h⟩;replace hS:=hS.call1 (hC.widen (yde (ya0 (fP (fI .i64) (fP (fI .i64) (fI .i64))) _ _ _ _ _) ydA) hS.blt) 0 0 rfl;clear hC;refine ⟨_,rfl,?_⟩;refine zb (zn (yaO yao ?_));intro g w3 hN;replace hS:=hS.neu 1 [ii 0,.slice none 0 0] hN;clear hN;refine zb (zo (yaV (b:=g) (o:=0) (cells:=#[ii r,.slice Ar lr cr]) rfl rfl yao rfl rfl (yaI (hS.bx 1 rfl) zY) ?_));intro w4 e1;replace hS:=hS.bstn 1 rfl 0 [ii r,.slice Ar lr cr] e1;clear e1;refine zb (yaa (zs (zn (yck (l:=[(0,(ii 0)),(1,(ii 1)),(2,(ii 1))]) (cells:=[ii 0,ii 1,ii 1]) (places:=[(0,1),(1,1),(2,1)]) (bp3 rfl rfl rfl) underlying79 yaK (by kernel_rfl) rfl ?_))));refine zb (zn (yck (l:=[(0,(ii 1)),(1,(ii 2)),(2,(ii 1))]) (cells:=[ii 1,ii 2,ii 1]) (places:=[(0,1),(1,1),(2,1)]) (bp3 rfl rfl rfl) underlying79 yaK (by kernel_rfl) rfl ?_));refine zb (zn (yaX (l:=[(0,(.agg #[ii 0,ii 1,ii 1])),(1,(.agg #[ii 1,ii 2,ii 1]))]) (cells:=[ii 0,ii 1,ii 1,ii 1,ii 2,ii 1]) (bp2 rfl rfl) underlying22 yaK rfl rfl ?_));intro g2 w5 hN;replace hS:=hS.litf (n:=2) 2 rfl (fP (fI .i64) (fP (fI .i64) (fI .i64))) hN ([(0,1,1),(1,2,1)]:List E3) rfl (by decide) rfl;clear hN;refine zb (zn (yck (l:=[(0,(ii 3)),(1,(.slice (some ⟨g2,0,none⟩) 2 2))]) (cells:=[ii 3,(.slice (some ⟨g2,0,none⟩) 2 2)]) (places:=[(0,1),(1,1)]) (bp2 rfl rfl) underlying24 yao (by kernel_rfl) rfl ?_));refine zb (zn (yaO yao ?_));intro g3 w6 hN;replace hS:=hS.neu 3 [ii 0,.slice none 0 0] hN;clear hN;refine zb (zo (yaV (b:=g3) (o:=0) (cells:=#[ii 3,(.slice (some ⟨g2,0,none⟩) 2 2)]) rfl rfl yao rfl rfl (yaI (hS.bx 3 rfl) zY) ?_));intro w7 e1;replace hS:=hS.bstn 3 rfl 0 [ii 3,(.slice (some ⟨g2,0,none⟩) 2 2)] e1;clear e1;refine zb (yaa (zs (zq (yaq (vs:=[ii r,.slice Ar lr cr]) rfl underlying24 rfl yao ⟨hS.bc 1 0,hS.bc 1 1,trivial⟩) ?_)));replace hS:=hS.frz 0 rfl;refine zn (yam rfl (am1 rfl) enter_24 ((yee h hS.blt (hS.ro 0 rfl)).mono ?_));rintro _ w8 ⟨r3,r4,r5,Ar2,lr2,cr2,rfl,hC,h⟩;replace hS:=hS.call1 hC 4 0 rfl;clear hC;refine ⟨_,rfl,?_⟩;refine zb (zM (.tuple #[ii r3,.slice Ar2 lr2 cr2,ii r5]) (zq (zx (ii r3)) (zq (zx (.slice Ar2 lr2 cr2)) (zq (zx (ii r5)) (zQ (ii r3) (zQ (.slice Ar2 lr2 cr2) (zQ (ii r5) (yaa (zs (zq (yaq (vs:=[ii r,.slice Ar lr cr]) rfl underlying24 rfl yao ⟨hS.bc 1 0,hS.bc 1 1,trivial⟩) (zn (yam rfl (am1 rfl) enter_33 ((yho h hS.blt (hS.ro 0 rfl)).mono ?_)))))))))))));rintro _ w9 ⟨r6,r7,Ar3,lr3,cr3,rfl,hC,h⟩;replace hS:=hS.call1 hC 5 0 rfl;clear hC;refine ⟨_,rfl,?_⟩;refine zb (zM (.tuple #[.slice Ar3 lr3 cr3,ii r7]) (zq (zx (.slice Ar3 lr3 cr3)) (zq (zx (ii r7)) (zQ (.slice Ar3 lr3 cr3) (zQ (ii r7) (yaa (zs (zq (yaq (vs:=[ii r,.slice Ar lr cr]) rfl underlying24 rfl yao ⟨hS.bc 1 0,hS.bc 1 1,trivial⟩) (zM (.slice Ar3 lr3 cr3) (zn (yam rfl (am2 rfl rfl) ylr ((yev h (yaB _) (hS.rdr 0 rfl) (hS.rdo 5 rfl)).mono ?_))))))))))));rintro _ w10 ⟨r8,r9,r10,Ar4,lr4,cr4,rfl,hC,h⟩;replace hS:=hS.call1 (hC.widen (yde (ya0 (fI .i64) _ _ _ _ _) ydA) hS.blt) 6 0 rfl;clear hC;refine ⟨_,rfl,?_⟩;refine zb (zM (.tuple #[ii r8,.slice Ar4 lr4 cr4,ii r10]) (zq (zx (ii r8)) (zq (zx (.slice Ar4 lr4 cr4)) (zq (zx (ii r10)) (zQ (ii r8) (zQ (.slice Ar4 lr4 cr4) (zQ (ii r10) (yaa (zs (zq (yaq (vs:=[ii r,.slice Ar lr cr]) rfl underlying24 rfl yao ⟨hS.bc 1 0,hS.bc 1 1,trivial⟩) (zM (.slice Ar3 lr3 cr3) (zn (yam rfl (am2 rfl rfl) enter_18 ((yff h (yaB _) (hS.rdr 0 rfl) (hS.rdo 5 rfl)).mono ?_))))))))))))));rintro _ w11 ⟨r11,r12,rfl,hC,h⟩;replace hS:=hS.pur hC.pure;refine ⟨_,rfl,?_⟩;refine zb (zM (.tuple #[ii r11,ii r12]) (zq (zx (ii r11)) (zq (zx (ii r12)) (zQ (ii r11) (zQ (ii r12) (yaa (zs (zq (yaq (vs:=[ii 3,(.slice (some ⟨g2,0,none⟩) 2 2)]) rfl underlying24 rfl yao ⟨hS.bc 3 0,hS.bc 3 1,trivial⟩) ?_))))))));replace hS:=hS.frz 2 rfl;refine zn (yam rfl (am1 rfl) enter_24 ((yee h hS.blt (hS.ro 2 rfl)).mono ?_));rintro _ w12 ⟨r13,r14,r15,Ar5,lr5,cr5,rfl,hC,h⟩;replace hS:=hS.call1 hC 7 0 rfl;clear hC;refine ⟨_,rfl,?_⟩;refine zb (zM (.tuple #[ii r13,.slice Ar5 lr5 cr5,ii r15]) (zq (zx (ii r13)) (zq (zx (.slice Ar5 lr5 cr5)) (zq (zx (ii r15)) (zQ (ii r13) (zQ (.slice Ar5 lr5 cr5) (zQ (ii r15) (yaa (zs (zq (yaq (vs:=[ii 3,(.slice (some ⟨g2,0,none⟩) 2 2)]) rfl underlying24 rfl yao ⟨hS.bc 3 0,hS.bc 3 1,trivial⟩) (zn (yam rfl (am1 rfl) enter_35 ((yhV h hS.blt (hS.ro 2 rfl)).mono ?_)))))))))))));rintro _ w13 ⟨r16,r17,Ar6,lr6,cr6,rfl,hC,h⟩;replace hS:=hS.call1 hC 8 0 rfl;clear hC;refine ⟨_,rfl,?_⟩
  refine zb (zM (.tuple #[.slice Ar6 lr6 cr6,ii r17]) (zq (zx (.slice Ar6 lr6 cr6)) (zq (zx (ii r17)) (zQ (.slice Ar6 lr6 cr6) (zQ (ii r17) (yaa (zs (zq (yaq (vs:=[ii 3,(.slice (some ⟨g2,0,none⟩) 2 2)]) rfl underlying24 rfl yao ⟨hS.bc 3 0,hS.bc 3 1,trivial⟩) (zM (.slice Ar6 lr6 cr6) (zn (yam rfl (am2 rfl rfl) ylq ((ydd h (yaB _) (hS.rdr 2 rfl) (hS.rdo 8 rfl)).mono ?_))))))))))));rintro _ w14 ⟨r18,r19,r20,Ar7,lr7,cr7,rfl,hC,h⟩;replace hS:=hS.call1 (hC.widen (yde (ya0 (fI .i64) _ _ _ _ _) ydA) hS.blt) 9 0 rfl;clear hC;refine ⟨_,rfl,?_⟩;refine zb (zM (.tuple #[ii r18,.slice Ar7 lr7 cr7,ii r20]) (zq (zx (ii r18)) (zq (zx (.slice Ar7 lr7 cr7)) (zq (zx (ii r20)) (zQ (ii r18) (zQ (.slice Ar7 lr7 cr7) (zQ (ii r20) (yaa (zs (zM (ii r5) (zM (ii r7) ?_)))))))))));obtain ⟨hi,h⟩:=h;refine zq (zA hi) (zM (ii r10) ?_);obtain ⟨hi2,h⟩:=h;refine zq (zA hi2) (zM (ii r12) ?_);obtain ⟨hi3,h⟩:=h;refine zq (zA hi3) (zM (ii r15) ?_);obtain ⟨hi4,h⟩:=h;refine zq (zA hi4) (zM (ii r17) ?_);obtain ⟨hi5,h⟩:=h;refine zq (zA hi5) (zM (ii r20) ?_);obtain ⟨hi6,h⟩:=h;refine zq (zA hi6) (zq zE (zM (.bool (decide (((((((r5+r7)+r10)+r12)+r15)+r17)+r20)=0))) ?_));by_cases hp:((((((r5+r7)+r10)+r12)+r15)+r17)+r20)=0
  · replace h:=h.1 hp;refine zW rfl rfl (zT hp) (zm (ii r3)) (zW rfl rfl (zT hp) zE (zq (yas (v:=(.bool (decide (r3=2)))) (zT hp) rfl) (zM (.bool (decide (r3=2))) ?_)));by_cases hp2:r3=2
    · replace h:=h.1 hp2;refine zW rfl rfl (zT hp2) (zm (.slice Ar2 lr2 cr2)) (rl_n (yae rfl (yac rfl (zT hp2))) rfl rfl rfl (yaX (l:=[(0,(ii 0)),(1,(ii 0)),(2,(ii 2))]) (cells:=[ii 0,ii 0,ii 2]) (bp3 rfl rfl rfl) underlying43 yaj rfl rfl ?_));intro g4 w15 hN;replace hS:=hS.litf (n:=3) 10 rfl (fI .i64) hN ([0,0,2]:List Int) rfl (by decide) rfl;clear hN;refine zb (rl_n (yae rfl (yac rfl (zT hp2))) rfl rfl rfl (yam rfl (am2 rfl rfl) enter_54 ((ydz h (yaB _) (hS.rdr 4 rfl) (hS.rdo 10 rfl)).mono ?_)));rintro _ w16 ⟨r21,rfl,hC,h⟩;replace hS:=hS.pur hC.pure;refine ⟨_,rfl,?_⟩;refine zb (zq (yas (v:=(.bool (r21))) (zT hp2) rfl) (zM (.bool (r21)) ?_));by_cases hp3:r21=true
      · replace h:=h.1 hp3;refine zW rfl rfl (zC hp3) (zm (ii r8)) (zW rfl rfl (zC hp3) zE (zq (yas (v:=(.bool (decide (r8=2)))) (zC hp3) rfl) (zM (.bool (decide (r8=2))) ?_)));by_cases hp4:r8=2
        · replace h:=h.1 hp4;refine zW rfl rfl (zT hp4) (zm (.slice Ar4 lr4 cr4)) (rl_n (yae rfl (yac rfl (zT hp4))) rfl rfl rfl (yaX (l:=[(0,(ii 0))]) (cells:=[ii 0]) (bp1 rfl) underlying29 yaj rfl rfl ?_));intro g5 w17 hN;replace hS:=hS.litf (n:=1) 11 rfl (fI .i64) hN ([0]:List Int) rfl (by decide) rfl;clear hN;refine zb (rl_n (yae rfl (yac rfl (zT hp4))) rfl rfl rfl (yam rfl (am2 rfl rfl) enter_55 ((yec h (yaB _) (hS.rdo 6 rfl) (hS.rdo 11 rfl)).mono ?_)));rintro _ w18 ⟨r22,rfl,hC,h⟩;replace hS:=hS.pur hC.pure;refine ⟨_,rfl,?_⟩;refine zb (zq (yas (v:=(.bool (r22))) (zT hp4) rfl) (zM (.bool (r22)) ?_));by_cases hp5:r22=true
          · replace h:=h.1 hp5;refine zW rfl rfl (zC hp5) (zm (ii r11)) (zW rfl rfl (zC hp5) zE (zq (yas (v:=(.bool (decide (r11=2)))) (zC hp5) rfl) (zM (.bool (decide (r11=2))) ?_)));by_cases hp6:r11=2
            · replace h:=h.1 hp6;refine zW rfl rfl (zT hp6) (zm (ii r13)) (zW rfl rfl (zT hp6) zE (zq (yas (v:=(.bool (decide (r13=1)))) (zT hp6) rfl) (zM (.bool (decide (r13=1))) ?_)));by_cases hp7:r13=1
              · replace h:=h.1 hp7;refine zW rfl rfl (zT hp7) (zm (.slice Ar5 lr5 cr5)) (rl_n (yae rfl (yac rfl (zT hp7))) rfl rfl rfl (yaX (l:=[(0,(ii 0)),(1,(ii 0)),(2,(ii 1))]) (cells:=[ii 0,ii 0,ii 1]) (bp3 rfl rfl rfl) underlying43 yaj rfl rfl ?_));intro g6 w19 hN;replace hS:=hS.litf (n:=3) 12 rfl (fI .i64) hN ([0,0,1]:List Int) rfl (by decide) rfl;clear hN;refine zb (rl_n (yae rfl (yac rfl (zT hp7))) rfl rfl rfl (yam rfl (am2 rfl rfl) enter_54 ((ydz h (yaB _) (hS.rdr 7 rfl) (hS.rdo 12 rfl)).mono ?_)));rintro _ w20 ⟨r23,rfl,hC,h⟩;replace hS:=hS.pur hC.pure;refine ⟨_,rfl,?_⟩;refine zb (zq (yas (v:=(.bool (r23))) (zT hp7) rfl) (zM (.bool (r23)) ?_));by_cases hp8:r23=true
                · replace h:=h.1 hp8;refine zW rfl rfl (zC hp8) (zm (ii r18)) (zW rfl rfl (zC hp8) zE (zq (yas (v:=(.bool (decide (r18=1)))) (zC hp8) rfl) (zM (.bool (decide (r18=1))) ?_)));by_cases hp9:r18=1
                  · replace h:=h.1 hp9;refine zW rfl rfl (zT hp9) (zm (.slice Ar7 lr7 cr7)) (rl_n (yae rfl (yac rfl (zT hp9))) rfl rfl rfl (yaX (l:=[(0,(ii 1))]) (cells:=[ii 1]) (bp1 rfl) underlying29 yaj rfl rfl ?_));intro g7 w21 hN;replace hS:=hS.litf (n:=1) 13 rfl (fI .i64) hN ([1]:List Int) rfl (by decide) rfl;clear hN;refine zb (rl_n (yae rfl (yac rfl (zT hp9))) rfl rfl rfl (yam rfl (am2 rfl rfl) enter_55 ((yec h (yaB _) (hS.rdo 9 rfl) (hS.rdo 13 rfl)).mono ?_)));rintro _ w22 ⟨r24,rfl,hC,h⟩;replace hS:=hS.pur hC.pure;refine ⟨_,rfl,?_⟩;exact zb (zq (yas (v:=(.bool (r24))) (zT hp9) rfl) (zQ (.bool (r24)) (yaa (yak rfl rfl ⟨_,rfl,hS.sel [],h⟩))))
                  · replace h:=h.2 hp9;exact zV rfl rfl (zF hp9) (zV rfl rfl (zF hp9) (zV rfl rfl (zF hp9) (zq (yal (v:=(.bool (false))) (zF hp9) rfl) (zQ (.bool (false)) (yaa (yak rfl rfl ⟨_,rfl,hS.sel [],h⟩))))))
                · replace h:=h.2 hp8;exact zV rfl rfl (zC (zI hp8)) (zV rfl rfl (zC (zI hp8)) (zq (yal (v:=(.bool (false))) (zC (zI hp8)) rfl) (zM (.bool (false)) (zU (zU (zU (zq (yal (v:=(.bool (false))) rfl rfl) (zQ (.bool (false)) (yaa (yak rfl rfl ⟨_,rfl,hS.sel [],h⟩))))))))))
              · replace h:=h.2 hp7;exact zV rfl rfl (zF hp7) (zV rfl rfl (zF hp7) (zV rfl rfl (zF hp7) (zq (yal (v:=(.bool (false))) (zF hp7) rfl) (zM (.bool (false)) (zU (zU (zq (yal (v:=(.bool (false))) rfl rfl) (zM (.bool (false)) (zU (zU (zU (zq (yal (v:=(.bool (false))) rfl rfl) (zQ (.bool (false)) (yaa (yak rfl rfl ⟨_,rfl,hS.sel [],h⟩)))))))))))))))
            · replace h:=h.2 hp6;exact zV rfl rfl (zF hp6) (zV rfl rfl (zF hp6) (zq (yal (v:=(.bool (false))) (zF hp6) rfl) (zM (.bool (false)) (zU (zU (zU (zq (yal (v:=(.bool (false))) rfl rfl) (zM (.bool (false)) (zU (zU (zq (yal (v:=(.bool (false))) rfl rfl) (zM (.bool (false)) (zU (zU (zU (zq (yal (v:=(.bool (false))) rfl rfl) (zQ (.bool (false)) (yaa (yak rfl rfl ⟨_,rfl,hS.sel [],h⟩)))))))))))))))))))
          · replace h:=h.2 hp5;exact zV rfl rfl (zC (zI hp5)) (zV rfl rfl (zC (zI hp5)) (zq (yal (v:=(.bool (false))) (zC (zI hp5)) rfl) (zM (.bool (false)) (zU (zU (zq (yal (v:=(.bool (false))) rfl rfl) (zM (.bool (false)) (zU (zU (zU (zq (yal (v:=(.bool (false))) rfl rfl) (zM (.bool (false)) (zU (zU (zq (yal (v:=(.bool (false))) rfl rfl) (zM (.bool (false)) (zU (zU (zU (zq (yal (v:=(.bool (false))) rfl rfl) (zQ (.bool (false)) (yaa (yak rfl rfl ⟨_,rfl,hS.sel [],h⟩)))))))))))))))))))))))
        · replace h:=h.2 hp4;exact zV rfl rfl (zF hp4) (zV rfl rfl (zF hp4) (zV rfl rfl (zF hp4) (zq (yal (v:=(.bool (false))) (zF hp4) rfl) (zM (.bool (false)) (zU (zU (zq (yal (v:=(.bool (false))) rfl rfl) (zM (.bool (false)) (zU (zU (zq (yal (v:=(.bool (false))) rfl rfl) (zM (.bool (false)) (zU (zU (zU (zq (yal (v:=(.bool (false))) rfl rfl) (zM (.bool (false)) (zU (zU (zq (yal (v:=(.bool (false))) rfl rfl) (zM (.bool (false)) (zU (zU (zU (zq (yal (v:=(.bool (false))) rfl rfl) (zQ (.bool (false)) (yaa (yak rfl rfl ⟨_,rfl,hS.sel [],h⟩))))))))))))))))))))))))))))
      · replace h:=h.2 hp3;exact zV rfl rfl (zC (zI hp3)) (zV rfl rfl (zC (zI hp3)) (zq (yal (v:=(.bool (false))) (zC (zI hp3)) rfl) (zM (.bool (false)) (zU (zU (zU (zq (yal (v:=(.bool (false))) rfl rfl) (zM (.bool (false)) (zU (zU (zq (yal (v:=(.bool (false))) rfl rfl) (zM (.bool (false)) (zU (zU (zq (yal (v:=(.bool (false))) rfl rfl) (zM (.bool (false)) (zU (zU (zU (zq (yal (v:=(.bool (false))) rfl rfl) (zM (.bool (false)) (zU (zU (zq (yal (v:=(.bool (false))) rfl rfl) (zM (.bool (false)) (zU (zU (zU (zq (yal (v:=(.bool (false))) rfl rfl) (zQ (.bool (false)) (yaa (yak rfl rfl ⟨_,rfl,hS.sel [],h⟩))))))))))))))))))))))))))))))))
    · replace h:=h.2 hp2;exact zV rfl rfl (zF hp2) (zV rfl rfl (zF hp2) (zV rfl rfl (zF hp2) (zq (yal (v:=(.bool (false))) (zF hp2) rfl) (zM (.bool (false)) (zU (zU (zq (yal (v:=(.bool (false))) rfl rfl) (zM (.bool (false)) (zU (zU (zU (zq (yal (v:=(.bool (false))) rfl rfl) (zM (.bool (false)) (zU (zU (zq (yal (v:=(.bool (false))) rfl rfl) (zM (.bool (false)) (zU (zU (zq (yal (v:=(.bool (false))) rfl rfl) (zM (.bool (false)) (zU (zU (zU (zq (yal (v:=(.bool (false))) rfl rfl) (zM (.bool (false)) (zU (zU (zq (yal (v:=(.bool (false))) rfl rfl) (zM (.bool (false)) (zU (zU (zU (zq (yal (v:=(.bool (false))) rfl rfl) (zQ (.bool (false)) (yaa (yak rfl rfl ⟨_,rfl,hS.sel [],h⟩)))))))))))))))))))))))))))))))))))))
  · replace h:=h.2 hp;exact zV rfl rfl (zF hp) (zV rfl rfl (zF hp) (zq (yal (v:=(.bool (false))) (zF hp) rfl) (zM (.bool (false)) (zU (zU (zU (zq (yal (v:=(.bool (false))) rfl rfl) (zM (.bool (false)) (zU (zU (zq (yal (v:=(.bool (false))) rfl rfl) (zM (.bool (false)) (zU (zU (zU (zq (yal (v:=(.bool (false))) rfl rfl) (zM (.bool (false)) (zU (zU (zq (yal (v:=(.bool (false))) rfl rfl) (zM (.bool (false)) (zU (zU (zq (yal (v:=(.bool (false))) rfl rfl) (zM (.bool (false)) (zU (zU (zU (zq (yal (v:=(.bool (false))) rfl rfl) (zM (.bool (false)) (zU (zU (zq (yal (v:=(.bool (false))) rfl rfl) (zM (.bool (false)) (zU (zU (zU (zq (yal (v:=(.bool (false))) rfl rfl) (zQ (.bool (false)) (yaa (yak rfl rfl ⟨_,rfl,hS.sel [],h⟩)))))))))))))))))))))))))))))))))))))))))
def ylS(g:Int)(g2:List E3)(x:Int)(x2:List Int)(x3:List (List Int))(R:Bool→Prop):Prop :=
(∃ J2:Prop,(J2→ykV g g2 x x2 x3 (fun r r2 =>
ylV g g2 x x2 x3 (fun r3 r4 =>
ycS (fun r5 =>
((r5=true →
(((r==r3)=true →
R (decide (r2=r4))) ∧
(¬((r==r3)=true) →
R false))) ∧
(¬(r5=true) →
R false)))))) ∧
ylY g g2 x2 8 (fun r6 =>
((r6=true →
ygV x3 (fun r7 =>
((r7=true →
J2) ∧
(¬(r7=true) →
ycS (fun r8 =>
R r8))))) ∧
(¬(r6=true) →
ycS (fun r9 =>
R r9)))))
theorem pok_l40_GonalityProves{O:Nat→Prop}{w:World}{g g2 x x2 x3 Ag lg cg Ax lx cx Ax2 lx2 cx2}{R:Bool→Prop}(h:ylS g g2 x x2 x3 R)(hO:∀ k,O k→k<w.heap.size)(hA0:(FP.sl c3 Ag lg cg g2).P O w)(hA1:(FP.sl cI Ax lx cx x2).P O w)(hA2:(FP.sl (cL cI) Ax2 lx2 cx2 x3).P O w) :
    Calls Tryz.prog 7 #[(.agg #[ii g,.slice Ag lg cg]),(.agg #[ii x,.slice Ax lx cx,.slice Ax2 lx2 cx2])] w fun e w'=>∃ r10,e = .returned (.bool (r10))∧Sep w no O w' (rl [])∧R r10:=by
  unfold ylS at h;have hS:Sep w no O w (rl [Res.ro (FP.sl c3 Ag lg cg g2),Res.ro (FP.sl cI Ax lx cx x2),Res.ro (FP.sl (cL cI) Ax2 lx2 cx2 x3)]):=Sep.startl hO [(FP.sl c3 Ag lg cg g2),(FP.sl cI Ax lx cx x2),(FP.sl (cL cI) Ax2 lx2 cx2 x3)] ⟨hA0,hA1,hA2,trivial⟩;refine yap (l:=[(.agg #[ii g,.slice Ag lg cg]),(.agg #[ii x,.slice Ax lx cx,.slice Ax2 lx2 cx2])]) func7 rfl ntmps7 zY (zs (zn (ya8 (v:=(.agg #[ii g,.slice Ag lg cg])) rfl ?_)));intro g3 w2 hN;replace hS:=hS.neu 3 [ii g,.slice Ag lg cg] hN;clear hN;refine zb (zn (ya8 (v:=(.agg #[ii x,.slice Ax lx cx,.slice Ax2 lx2 cx2])) rfl ?_));intro g4 w3 hN;replace hS:=hS.neu 4 [ii x,.slice Ax lx cx,.slice Ax2 lx2 cx2] hN;clear hN;refine zb (zQ (.bool (false)) (yaa (yaf (yaf ?_))));obtain ⟨J2,hJ,h⟩:=h;refine yc1 (fun E ds w'=>J2∧ds=[]∧E 2 = .pointer (some ⟨g3,0,none⟩)∧E 3 = .pointer (some ⟨g4,0,none⟩)∧Sep w no O w' (rl [Res.box 24 g3 [ii g,.slice Ag lg cg],Res.ro (FP.sl c3 Ag lg cg g2),Res.box 60 g4 [ii x,.slice Ax lx cx,.slice Ax2 lx2 cx2],Res.ro (FP.sl cI Ax lx cx x2),Res.ro (FP.sl (cL cI) Ax2 lx2 cx2 x3)])) ?_ ?_
  · clear h hS;rintro E ds w4 ⟨h,rfl,H2,H3,hS⟩;replace h:=hJ h;refine zs (zq (yaq (vs:=[ii g,.slice Ag lg cg]) H2 underlying24 rfl yao ⟨hS.bc 0 0,hS.bc 0 1,trivial⟩) (zq (yan H3 underlying60 rfl yaj) (zq (zl underlying3 (hS.bc 2 0)) (zq (yan H3 underlying60 rfl ycm) (zq (zl underlying43 (hS.bc 2 1)) (zq (yan H3 underlying60 rfl info_25) (zq (zl underlying25 (hS.bc 2 2)) (zn (yam rfl (am4 rfl rfl rfl rfl) enter_39 ((yk1 h (yaB _) (hS.rdr 1 rfl) (hS.rdr 3 rfl) (hS.rdr 4 rfl)).mono ?_))))))))));rintro _ w5 ⟨r,r2,rfl,hC,h⟩;replace hS:=hS.pur hC.pure;refine ⟨_,rfl,?_⟩;refine zb (zM (.tuple #[(.bool (r)),ii r2]) (zq (zx (.bool (r))) (zq (zx (ii r2)) (zQ (.bool (r)) (zQ (ii r2) (yaa (zs (zq (yaq (vs:=[ii g,.slice Ag lg cg]) H2 underlying24 rfl yao ⟨hS.bc 0 0,hS.bc 0 1,trivial⟩) (zq (yan H3 underlying60 rfl yaj) (zq (zl underlying3 (hS.bc 2 0)) (zq (yan H3 underlying60 rfl ycm) (zq (zl underlying43 (hS.bc 2 1)) (zq (yan H3 underlying60 rfl info_25) (zq (zl underlying25 (hS.bc 2 2)) (zn (yam rfl (am4 rfl rfl rfl rfl) enter_40 ((pok_r40_Verify h (yaB _) (hS.rdr 1 rfl) (hS.rdr 3 rfl) (hS.rdr 4 rfl)).mono ?_)))))))))))))))));rintro _ w6 ⟨r3,r4,rfl,hC,h⟩;replace hS:=hS.pur hC.pure;refine ⟨_,rfl,?_⟩;refine zb (zM (.tuple #[(.bool (r3)),ii r4]) (zq (zx (.bool (r3))) (zq (zx (ii r4)) (zQ (.bool (r3)) (zQ (ii r4) (yaa (zs (zn (yam rfl (am0) ykH ((yfW h (yaB _)).mono ?_))))))))));rintro _ w7 ⟨r5,rfl,hC,h⟩;replace hS:=hS.pur hC.pure;refine ⟨_,rfl,?_⟩;refine zb (zM (.bool (r5)) ?_);by_cases hp:r5=true
    · replace h:=h.1 hp;refine zW rfl rfl (zC hp) (zm (.bool (r))) (zW rfl rfl (zC hp) (zm (.bool (r3))) (zW rfl rfl (zC hp) (v_beql rfl rfl underlying4) (zq (yas (v:=(.bool ((r==r3)))) (zC hp) rfl) (zM (.bool ((r==r3))) ?_))));by_cases hp2:(r==r3)=true
      · replace h:=h.1 hp2;exact zW rfl rfl (zC hp2) (zm (ii r2)) (zW rfl rfl (zC hp2) (zm (ii r4)) (zW rfl rfl (zC hp2) zE (zq (yas (v:=(.bool (decide (r2=r4)))) (zC hp2) rfl) (zQ (.bool (decide (r2=r4))) (yaa (yak rfl rfl ⟨_,rfl,hS.sel [],h⟩))))))
      · replace h:=h.2 hp2;exact zV rfl rfl (zC (zI hp2)) (zV rfl rfl (zC (zI hp2)) (zV rfl rfl (zC (zI hp2)) (zq (yal (v:=(.bool (false))) (zC (zI hp2)) rfl) (zQ (.bool (false)) (yaa (yak rfl rfl ⟨_,rfl,hS.sel [],h⟩))))))
    · replace h:=h.2 hp;exact zV rfl rfl (zC (zI hp)) (zV rfl rfl (zC (zI hp)) (zV rfl rfl (zC (zI hp)) (zq (yal (v:=(.bool (false))) (zC (zI hp)) rfl) (zM (.bool (false)) (zU (zU (zU (zq (yal (v:=(.bool (false))) rfl rfl) (zQ (.bool (false)) (yaa (yak rfl rfl ⟨_,rfl,hS.sel [],h⟩)))))))))))
  clear hJ;intro j;refine zr (zq (yaq (vs:=[ii g,.slice Ag lg cg]) rfl underlying24 rfl yao ⟨hS.bc 3 0,hS.bc 3 1,trivial⟩) (zq (yan rfl underlying60 rfl ycm) (zq (zl underlying43 (hS.bc 4 1)) (zn (yam rfl (am3 rfl rfl rfl) enter_38 ((pok_r38_Few h (yaB _) (hS.rdr 0 rfl) (hS.rdr 1 rfl)).mono ?_))))));rintro _ w8 ⟨r6,rfl,hC,h⟩;replace hS:=hS.pur hC.pure;refine ⟨_,rfl,?_⟩;refine zb (zq (ycX rfl) (zM (.bool (!(r6))) ?_));by_cases hp3:r6=true
  · replace h:=h.1 hp3;refine zW rfl rfl (zC (zB hp3)) (yan rfl underlying60 rfl info_25) (zW rfl rfl (zC (zB hp3)) (zl underlying25 (hS.bc 4 2)) (rl_n (yae rfl (yac rfl (zC (zB hp3)))) rfl rfl rfl (yam rfl (am1 rfl) enter_12 ((pok_r40_Few h (yaB _) (hS.rdr 2 rfl)).mono ?_))));rintro _ w9 ⟨r7,rfl,hC,h⟩;replace hS:=hS.pur hC.pure;refine ⟨_,rfl,?_⟩;refine zb (zW rfl rfl (zC (zB hp3)) (ycX rfl) (zq (yal (v:=(.bool (!(r7)))) (zC (zB hp3)) rfl) (yaa ?_)));by_cases hp4:r7=true
    · replace h:=h.1 hp4;exact yat (zC (zB hp4)) (yag (j _ _ _ ⟨h,rfl,rfl,rfl,hS.sel [3,0,4,1,2]⟩))
    · replace h:=h.2 hp4;refine yar (zC (zB (zI hp4))) (zs (zn (yam rfl (am0) ykH ((yfW h (yaB _)).mono ?_))));rintro _ w10 ⟨r8,rfl,hC,h⟩;replace hS:=hS.pur hC.pure;refine ⟨_,rfl,?_⟩;exact zb (zQ (.bool (r8)) (yaa (yak rfl rfl ⟨_,rfl,hS.sel [],h⟩)))
  · replace h:=h.2 hp3;refine zV rfl rfl (zC (zB (zI hp3))) (zV rfl rfl (zC (zB (zI hp3))) (zV rfl rfl (zC (zB (zI hp3))) (zV rfl rfl (zC (zB (zI hp3))) (zq (yas (v:=(.bool (true))) (zC (zB (zI hp3))) rfl) (yaa (yar rfl (zs (zn (yam rfl (am0) ykH ((yfW h (yaB _)).mono ?_))))))))));rintro _ w11 ⟨r9,rfl,hC,h⟩;replace hS:=hS.pur hC.pure;refine ⟨_,rfl,?_⟩;exact zb (zQ (.bool (r9)) (yaa (yak rfl rfl ⟨_,rfl,hS.sel [],h⟩)))
end Go.Proofs.YtadpnlimiblniaaGreat

namespace Go.Proofs.YtadpnlimiblniaaGreat
open Go Go.RowKit Go.Shelf Go.Proofs.Tryz
def pth3:List E3:=[(0,1,1),(1,2,1)]
theorem pth_ok:GOk 3 pth3:=⟨by decide,by decide +kernel,by decide,by decide,by decide,by decide⟩
theorem eff3{e:List Int}(h:Eff 3 e 1):e=[0,0,1]∨e=[0,1,0]∨e=[1,0,0]:=by
  have:e∈ycp 3 1:=eff_list (n:=2) (k:=1) h
  have h2:ycp 3 1=[[0,0,1],[0,1,0],[1,0,0]]:=by decide
  rw [h2] at this
  simpa using this
theorem win3{es:List E3}{x:List Int}(s0 s1 s2:Int)(h:∀ v,v<3→0≤gi x v-Lp 3 es (fun i=>if i=0 then s0 else if i=1 then s1 else s2) v):Win 3 es x:=⟨_,h⟩
theorem gon_tri:GonOk 3 tri 2 [0,0,2]:=by
  have w01:W tri 0 1=1:=by decide
  have w02:W tri 0 2=1:=by decide
  have w12:W tri 1 2=1:=by decide
  refine ⟨by omega,⟨0,by decide,by decide,fun j hj=>by omega⟩,fun e he=>?_,fun k' h1 h2 y hy hal=>?_⟩
  · rcases eff3 he with rfl | rfl | rfl
    · exact win3 0 0 0 (by decide)
    · exact win3 0 0 1 (by decide)
    · exact win3 0 0 1 (by decide)
  · have e:k'=1:=by omega
    subst e
    have lose:∀ x:List Int,(gi x 0+gi x 1+gi x 2=0)→(gi x 1+2*gi x 2) % 3≠0→¬Win 3 tri x:=by
      rintro x h0 h1 ⟨s,hs⟩
      have a0:=hs 0 (by omega);have a1:=hs 1 (by omega);have a2:=hs 2 (by omega)
      simp only [Lp,sm] at a0 a1 a2
      rw [yhC,w01,w02] at a0
      rw [yhC,ye0 tri 1 0,w01,w12] at a1
      rw [yhC,ye0 tri 2 0,ye0 tri 2 1,w02,w12] at a2
      omega
    have u:∀ v,v<3→Eff 3 (yfw (List.replicate 3 0) v 1) 1:=fun v hv=>by
      have:=(yfe 3).add (v:=v) hv (k:=1) (by have:=(yfe 3).pos v hv;omega)
      rwa [Int.zero_add] at this
    have hy2:y∈[[0,0,1],[0,1,0],[1,0,0]]:=by
      have h2:ycp 3 1=[[0,0,1],[0,1,0],[1,0,0]]:=by decide
      rwa [←h2]
    simp only [List.mem_cons,List.not_mem_nil,or_false] at hy2
    rcases hy2 with rfl | rfl | rfl
    · exact lose _ (by decide) (by decide) (hal _ (u 0 (by omega)))
    · exact lose _ (by decide) (by decide) (hal _ (u 0 (by omega)))
    · exact lose _ (by decide) (by decide) (hal _ (u 1 (by omega)))
theorem gon_pth:GonOk 3 pth3 1 [0,0,1]:=by
  refine ⟨by omega,⟨0,by decide,by decide,fun j hj=>by omega⟩,fun e he=>?_,fun k' h1 h2=>by omega⟩
  rcases eff3 he with rfl | rfl | rfl
  · exact win3 0 0 0 (by decide)
  · exact win3 0 0 1 (by decide)
  · exact win3 0 1 2 (by decide)
theorem chk_tri:chkE 3 tri (ptsF 3)=0:=by decide +kernel
theorem chk_pth:chkE 3 pth3 (prsF pth3)=0:=by decide +kernel
theorem sep_tri:sepF 3 tri (ptsF 3)=(2,[0]):=by decide +kernel
theorem ord_tri:ordF 3 tri (ptsF 3)=2:=by decide +kernel
theorem hit_pth:hitF 3 (prsF pth3)=(1,[1]):=by decide +kernel
theorem j_tri:yaS 3 tri=0:=by decide +kernel
theorem j_pth:yaS 3 pth3=0:=by decide +kernel
theorem yhq{R:Bool→Prop}(h:R true):ycS R:=by
  unfold ycS ydQ
  have e:([(0,1,1),(0,2,1),(1,2,1)]:List (Int×Int×Int))=tri:=rfl
  have e2:([(0,1,1),(1,2,1)]:List (Int×Int×Int))=pth3:=rfl
  rw [e,e2]
  clear e e2
  refine yeY (by decide) (fun q=>absurd j_tri q) fun _=>⟨3,rfl,tri_ok,fun j d hd=>?_⟩
  obtain ⟨rfl,rfl⟩:=hd.eq gon_tri
  refine yih (by decide) ?_
  rw [show yj5 3 tri=ptsF 3 by unfold yj5;rw [if_pos j_tri];rfl,j_tri]
  refine yft (by decide) (fun q=>absurd chk_tri q) fun k hk _=>?_
  obtain rfl:k=3:=by omega
  rw [sep_tri]
  refine ygg (by decide) (fun q=>absurd chk_tri q) fun k hk _=>?_
  obtain rfl:k=3:=by omega
  rw [ord_tri]
  refine yeY (by decide) (fun q=>absurd j_pth q) fun _=>⟨3,rfl,pth_ok,fun j d hd=>?_⟩
  obtain ⟨rfl,rfl⟩:=hd.eq gon_pth
  refine yiJ (by decide) ?_
  rw [show pairE 3 pth3=prsF pth3 by unfold pairE;rw [if_pos j_pth],j_pth]
  refine ydJ (by decide) (fun q=>absurd chk_pth q) fun k hk _=>?_
  obtain rfl:k=3:=by omega
  rw [hit_pth]
  refine ⟨i64 (by omega),i64 (by omega),i64 (by omega),i64 (by omega),i64 (by omega),i64 (by omega),fun _=>⟨fun _=>?_,fun q=>absurd rfl q⟩,fun q=>absurd rfl q⟩
  refine ydW (by decide) ⟨fun _=>⟨fun _=>?_,fun q=>absurd rfl q⟩,fun q=>absurd (by decide) q⟩
  refine yeW (by decide) ⟨fun _=>⟨fun _=>⟨fun _=>?_,fun q=>absurd rfl q⟩,fun q=>absurd rfl q⟩,fun q=>absurd (by decide) q⟩
  refine ydW (by decide) ⟨fun _=>⟨fun _=>?_,fun q=>absurd rfl q⟩,fun q=>absurd (by decide) q⟩
  exact yeW (by decide) h
theorem p_r40_Few{s:List (List Int)}{R:Bool→Prop}(h:∀ b,R b):ygV s R:=by
  refine ⟨fun m i=>∃ k:Nat,i=k∧k≤20∧m+k=20,⟨20,0,rfl,by omega,by omega⟩,?_⟩
  rintro m i ⟨k,rfl,hk,hm⟩
  have fin:((((s.length:Nat):Int)≤12→R true)∧(¬(((s.length:Nat):Int)≤12)→((256<((s.length:Nat):Int)→R (decide (((s.length:Nat):Int)<512)))∧(¬(256<((s.length:Nat):Int))→R false)))):=⟨fun _=>h _,fun _=>⟨fun _=>h _,fun _=>h _⟩⟩
  exact ⟨(k:Int)<((s.length:Nat):Int)∧k<20,fun hJ=>⟨⟨by omega,hJ.1⟩,fun _=>h _,fun _=>⟨⟨by omega,by omega⟩,m-1,by omega,k+1,by omega,by omega,by omega⟩⟩,fun hlt=>⟨fun h20=>⟨hlt,by omega⟩,fun _=>fin⟩,fun _=>fin⟩
section
variable {n : Int} {es : List E3} {s : List (List Int)} (hl : es.length ≤ 40) (h6 : yav n es = 0 → n ≤ 6)
include hl h6
end
theorem gok_small{n:Int}{es:List E3}(hs:yi8 n es 5 7=true)(hj:yaS n es=0):∃ k:Nat,n=k∧GOk k es:=by
  obtain ⟨k,rfl,_,_⟩:=ycH (ybn hj).1
  exact ⟨k,rfl,gok_of hs (ybn hj).1 (ybn hj).2⟩
theorem hit_is{n:Nat}(hn:n≤6)(s:List (List Int)):((∀ y∈yeV n,hitB s y=false)∧hitF n s=(-1,[]))∨∃ m,m∈yeV n∧hitB s m=true∧(∀ y∈yeV n,hitB s y=true→(m.length:Int)≤(y.length:Int))∧hitF n s=((m.length:Int),m) :=
  lst_is hn (fun y=>(y.length:Int)) (hitB s) fun y=>Int.natCast_nonneg _
theorem ord_le1{n:Nat}{es:List E3}{s:List (List Int)} : ordF n es s≤(hitF n s).1:=by
  unfold ordF mnF
  split
  · exact Int.le_refl _
  · split <;> omega
theorem ord_n{n:Nat}{es:List E3}{s:List (List Int)}(hn:n≤6):ordF n es s≤n:=by
  have h1:=ord_le1 (n:=n) (es:=es) (s:=s)
  rcases hit_is hn s with ⟨_,h2⟩ | ⟨m,hm,_,_,h2⟩
  · rw [h2] at h1;have h1:ordF n es s ≤ -1:=h1;omega
  · have:=(yjA hm).len
    rw [h2] at h1;have h1:ordF n es s≤(m.length:Int):=h1;omega
noncomputable def verB (n:Nat) (es:List E3) (k:Int) (d:List Int) (s:List (List Int)):Bool:=@decide (dg d=k∧k≤ordF n es s∧AL n es d 1) (Classical.propDecidable _)
theorem verB_t{n:Nat}{es:List E3}{k:Int}{d:List Int}{s:List (List Int)}(h:dg d=k∧k≤ordF n es s∧AL n es d 1):verB n es k d s=true:=@decide_eq_true _ (Classical.propDecidable _) h
theorem verB_f{n:Nat}{es:List E3}{k:Int}{d:List Int}{s:List (List Int)}(h:¬(dg d=k∧k≤ordF n es s∧AL n es d 1)):verB n es k d s=false:=@decide_eq_false _ (Classical.propDecidable _) h
section
variable {n k : Int} {es : List E3} {d : List Int} {s : List (List Int)} (hl : es.length ≤ 40) (hs : yaS n es = 0 → ∃ k : Nat, n = k ∧ GOk k es) (hb : yaS n es = 0 → ybf d n = 0 → ∀ v, v < d.length → -100 ≤ gi d v ∧ gi d v ≤ 100)
include hl hs hb
theorem yk4{R:Bool→Int→Prop}(h1:yaS n es≠0→R false (yaS n es))(h2:yaS n es=0→ybf d n≠0→R false (ybf d n))(h3:yaS n es=0→ybf d n=0→ylc n es s≠0→R false (ylc n es s))
    (h4:yaS n es=0→ybf d n=0→ylc n es s=0→R (verB n.toNat es k d s) 0):ykV n es k d s R:=by
  refine ycg (by omega) ⟨fun c=>?_,fun c=>h1 c⟩
  obtain ⟨n,rfl,hG⟩:=hs c
  have hn5:=hG.n5;have hn1:=hG.n1
  rw [Int.toNat_natCast] at h4
  refine yh3 ⟨fun c2=>?_,fun c2=>h2 c c2⟩
  obtain ⟨hdl,_,_,_⟩:=yjI c2
  have hbv:=hb c c2
  have hch:chkE n es s=ylc n es s:=by unfold chkE;rw [if_pos c]
  refine ygg hl (fun c3=>⟨fun q=>absurd q c3,fun _=>by rw [hch] at c3 ⊢;exact h3 c c2 c3⟩) fun k' hk' hS=>⟨fun _=>?_,fun q=>absurd rfl q⟩
  obtain rfl:k'=n:=by omega
  have he:ylc k' es s=0:=by rw [←hch];exact hS.chk
  have h4:=h4 c c2 he
  have hg:ybo k' es 0 d=0:=by rw [given0,if_pos c];exact c2
  refine yk0 (by omega) hdl (fun j hj=>by have:=hbv j (by omega);omega) ⟨fun _=>⟨dg d=k∧k≤ordF k' es s,fun hJ=>?_,fun q=>⟨fun lt=>?_,fun ge=>⟨q,by omega⟩⟩,fun q=>?_⟩,fun q=>absurd rfl q⟩
  · have hord:=ord_n (n:=k') (es:=es) (s:=s) (by omega)
    refine p_AtLeast1 ⟨hG,fun v hv=>by have:=hbv v (by omega);omega,by omega⟩ hg (fun hal=>?_) fun hal=>?_
    · rw [verB_t ⟨hJ.1,hJ.2,hal⟩] at h4;exact h4
    · rw [verB_f fun z=>hal z.2.2] at h4;exact h4
  · rw [verB_f fun z=>by have:=z.2.1;omega] at h4;exact h4
  · rw [verB_f fun z=>q z.1] at h4;exact h4
theorem ylW{R:Bool→Int→Prop}(h1:yaS n es≠0→R false (yaS n es))(h2:yaS n es=0→ybf d n≠0→R false (ybf d n))(h3:yaS n es=0→ybf d n=0→ylc n es s≠0→R false (ylc n es s))
    (h4:yaS n es=0→ybf d n=0→ylc n es s=0→R (verB n.toNat es k d s) 0):ylV n es k d s R:=by
  refine yj7 (by omega) ⟨fun c=>?_,fun c=>h1 c⟩
  obtain ⟨n,rfl,hG⟩:=hs c
  have hn5:=hG.n5;have hn1:=hG.n1
  rw [Int.toNat_natCast] at h4
  refine yl0 ⟨fun c2=>?_,fun c2=>h2 c c2⟩
  obtain ⟨hdl,_,_,_⟩:=yjI c2
  have hbv:=hb c c2
  refine p_r40_Eggs (ybn c).1 hl ⟨fun c3=>?_,fun c3=>h3 c c2 c3⟩
  have h4:=h4 c c2 c3
  have hS:ScrOk n es s:=yiy (by unfold chkE;rw [if_pos c];exact c3)
  obtain ⟨N,rfl⟩:∃ N,n=N+1:=⟨n-1,by omega⟩
  refine ykS (by omega) (fun i hi=>by have:=hbv i hi;omega) ⟨fun q=>?_,fun q=>?_⟩
  · refine p_r40_Moves hG (fun v hv=>by have:=hbv v (by omega);omega) hdl (fun hal=>⟨fun _=>p_r40_Size hS hl (by omega) ?_,fun q=>absurd rfl q⟩) fun hal=>⟨fun q=>(by cases q),fun _=>?_⟩
    · by_cases c4:k≤ordF (N+1) es s
      · rw [verB_t ⟨q,c4,hal⟩] at h4;rw [decide_eq_true c4];exact h4
      · rw [verB_f fun z=>c4 z.2.1] at h4;rw [decide_eq_false c4];exact h4
    · rw [verB_f fun z=>hal z.2.2] at h4;exact h4
  · rw [verB_f fun z=>q z.1] at h4;exact h4
end
theorem p_gonalityproves{n k:Int}{es:List E3}{d:List Int}{s:List (List Int)} : ylS n es k d s (fun b=>b=true):=by
  refine ⟨FewOk n es d 8,fun hF=>?_,p_r38_Few (fun hF=>⟨fun _=>p_r40_Few fun b=>⟨fun _=>hF,fun _=>yhq rfl⟩,fun q=>absurd rfl q⟩) fun _=>⟨fun q=>(by cases q),fun _=>yhq rfl⟩⟩
  have hl:=hF.el
  have hs:yaS n es=0→∃ k:Nat,n=k∧GOk k es:=gok_small hF.s
  have hb:yaS n es=0→ybf d n=0→∀ v,v<d.length → -100≤gi d v∧gi d v≤100:=fun c c2 v hv=>by
    obtain ⟨h1,_⟩:=hF.g (by rw [given0,if_pos c];exact c2)
    exact (yl2.1 h1).2 c2 v hv
  have fin:∀ (a:Bool) (e:Int),ycS (fun (r5:Bool)=>((r5=true→(((a==a)=true→(decide (e=e))=true)∧(¬((a==a)=true)→false=true)))∧(¬(r5=true)→false=true))):=fun a e =>
    yhq ⟨fun _=>⟨fun _=>decide_eq_true rfl,fun q=>absurd (by simp) q⟩,fun q=>absurd rfl q⟩
  refine yk4 hl hs hb (fun c=>?_) (fun c c2=>?_) (fun c c2 c3=>?_) fun c c2 c3=>?_
  · exact ylW hl hs hb (fun _=>fin _ _) (fun q=>absurd q c) (fun q=>absurd q c) fun q=>absurd q c
  · exact ylW hl hs hb (fun q=>absurd c q) (fun _ _=>fin _ _) (fun _ q=>absurd q c2) fun _ q=>absurd q c2
  · exact ylW hl hs hb (fun q=>absurd c q) (fun _ q=>absurd c2 q) (fun _ _ _=>fin _ _) fun _ _ q=>absurd q c3
  · exact ylW hl hs hb (fun q=>absurd c q) (fun _ q=>absurd c2 q) (fun _ _ q=>absurd c3 q) fun _ _ _=>fin _ _
end Go.Proofs.YtadpnlimiblniaaGreat
