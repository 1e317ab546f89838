/- Texts laid together: PNb_2, PFe, Mk, SpA, SpB, SpC, SpE, SpG, Gn, Big, Co, Nb, Nc, Nd, Ws, Wt, Wu, Wv. -/
import Derived.Test.YtjepipbkiadcpaaGreatK8
set_option linter.unusedVariables false
set_option linter.unusedSimpArgs false
set_option linter.unusedSectionVars false
/- Pure forms of functions, made by program (pf.py), each with the proof that the code does so. -/
namespace Go.Proofs.YtjepipbkiadcpaaGreat
open Go Go.RowKit Go.Shelf Go.Proofs.Tryz
set_option maxRecDepth 100000
set_option maxHeartbeats 8000000
def ydp(x:List (Int×Int×(List (List (Int×(List (Int×Int)))))))(x2:List Int)(x3:List (List Int))(fates:List Int)(limit:Int)(R:(List Int)→(List (List Int))→(List (List Int))→Int→Int→Int→Int→Int→Prop):Prop :=
(ydH x x2 x3 fates limit (fun (r:Int) =>
((r=0 →
(∃ I2:Nat→Prop,(∃ m0,I2 m0)∧∀ (m2:Nat),I2 m2 → 
False)) ∧
(¬(r=0) →
R ([]) ([]) ([]) 0 0 0 0 r)))
(fun (f:List (Int×Int×(List (List (Int×(List (Int×Int))))))) (f2:List Int) (f3:List (List Int)) (f4:List (List Int)) (f5:List Nat) (LL2:List Ln) (f6:List Int) (f7:List (Pk×Int)) (f8:Int) (f9:Int) (f10:Bool) (r2:Int) =>
((r2=0 →
(∃ I3:Nat→(List Int)→(List (List Int))→(List (List Int))→(List Ln)→(List (Pk×Int))→Int→Int→Bool→Prop,(∃ m0,I3 m0 f2 f3 f4 LL2 f7 f8 f9 f10)∧∀ (m3:Nat) (w8:List Int) (w9:List (List Int)) (w10:List (List Int)) (LL3:List Ln) (w11:List (Pk×Int)) (w12:Int) (w13:Int) (w14:Bool),I3 m3 w8 w9 w10 LL3 w11 w12 w13 w14 → 
ycj f w8 w9 w10 f5 LL3 f6 w11 w12 w13 w14 (fun (r3:Bool) =>
((r3=true →
((w12=limit →
R ([]) ([]) ([]) 0 0 0 0 12) ∧
(¬(w12=limit) →
ycq f w8 w9 w10 f5 LL3 f6 w11 w12 w13 w14 (fun (y:Int) (y2:Int) (y3:Bool) (y4:List Int) (y5:List (List Int)) (y6:List (List Int)) (y7:List Ln) (y8:List (Pk×Int)) =>
((y3=true →
R ([]) ([]) ([]) 0 0 0 0 11) ∧
(¬(y3=true) →
∃ m4,m4<m3∧I3 m4 y4 y5 y6 y7 y8 y y2 y3)))))) ∧
(¬(r3=true) →
ycn f w8 w9 w10 f5 LL3 f6 w11 w12 w13 w14 (fun (r4:List Int) (r5:List (List Int)) (r6:List (List Int)) (r7:Int) (r8:Int) (r9:Int) (r10:Int) =>
R r4 r5 r6 r7 r8 r9 r10 0)))))) ∧
(¬(r2=0) →
R ([]) ([]) ([]) 0 0 0 0 r2))))
theorem yfS{O:Nat→Prop}{w:World}{x:List (Int×Int×(List (List (Int×(List (Int×Int))))))}{x2:List Int}{x3:List (List Int)}{fates:List Int}{limit:Int}{Ax:Option Addr}{lx:Nat}{cx:Nat}{Ax2:Option Addr}{lx2:Nat}{cx2:Nat}{Ax3:Option Addr}{lx3:Nat}{cx3:Nat}{Afates:Option Addr}{lfates:Nat}{cfates:Nat}{R:(List Int)→(List (List Int))→(List (List Int))→Int→Int→Int→Int→Int→Prop}(h:ydp x x2 x3 fates limit R)(hO:∀ k,O k→k<w.heap.size)(hA0:(FP.sl (cPr cI (cPr cI (cL (cL (cPr cI (cL c2)))))) Ax lx cx x).P O w)(hA1:(FP.sl cI Ax2 lx2 cx2 x2).P O w)(hA2:(FP.sl (cL cI) Ax3 lx3 cx3 x3).P O w)(hA3:(FP.sl cI Afates lfates cfates fates).P O w) :
    Calls Tryz.prog 23 #[(Value.agg #[(Value.slice Ax lx cx),(Value.slice Ax2 lx2 cx2),(Value.slice Ax3 lx3 cx3)]),(Value.slice Afates lfates cfates),(Value.int .i64 limit)] w fun e w'=>∃ r11:List Int,∃ r12:List (List Int),∃ r13:List (List Int),∃ r14:Int,∃ r15:Int,∃ r16:Int,∃ r17:Int,∃ r18:Int,∃ Ar5:Option Addr,∃ lr5:Nat,∃ cr5:Nat,∃ Ar6:Option Addr,∃ lr6:Nat,∃ cr6:Nat,∃ Ar7:Option Addr,∃ lr7:Nat,∃ cr7:Nat,∃ Ar8:Option Addr,∃ lr8:Nat,∃ cr8:Nat,e = .returned (Value.tuple #[(Value.agg #[(Value.slice Ar5 lr5 cr5),(Value.slice Ar6 lr6 cr6),(Value.slice Ar7 lr7 cr7),(Value.slice Ar8 lr8 cr8),(Value.int .i64 r14),(Value.int .i64 r15),(Value.int .i64 r16),(Value.int .i64 r17)]),(Value.int .i64 r18)])∧Sep w no O w' (rl [Res.ro FP.tt,Res.own cI 3 Ar6 lr6 cr6 r11,Res.own (cL cI) 33 Ar7 lr7 cr7 r12,Res.own (cL cI) 33 Ar8 lr8 cr8 r13])∧R r11 r12 r13 r14 r15 r16 r17 r18:=by
  unfold ydp at h
  have hS:Sep w no O w (rl [Res.ro (FP.sl (cPr cI (cPr cI (cL (cL (cPr cI (cL c2)))))) Ax lx cx x),Res.ro (FP.sl cI Ax2 lx2 cx2 x2),Res.ro (FP.sl (cL cI) Ax3 lx3 cx3 x3),Res.ro (FP.sl cI Afates lfates cfates fates)]):=Sep.startl hO [(FP.sl (cPr cI (cPr cI (cL (cL (cPr cI (cL c2)))))) Ax lx cx x),(FP.sl cI Ax2 lx2 cx2 x2),(FP.sl (cL cI) Ax3 lx3 cx3 x3),(FP.sl cI Afates lfates cfates fates)] ⟨hA0,hA1,hA2,hA3,trivial⟩
  refine yao (l:=[(Value.agg #[(Value.slice Ax lx cx),(Value.slice Ax2 lx2 cx2),(Value.slice Ax3 lx3 cx3)]),(Value.slice Afates lfates cfates),(Value.int .i64 limit)]) func23 rfl ntmps23 (Nat.le_of_ble_eq_true rfl) ?_
  refine yad ?_
  refine yau yav ?_
  refine rl_n rfl rfl rfl rfl (ybH (v:=(Value.agg #[(Value.slice Ax lx cx),(Value.slice Ax2 lx2 cx2),(Value.slice Ax3 lx3 cx3)])) rfl ?_)
  intro g w2 hN
  replace hS:Sep w no O w2 (stl _ 4 (Res.box 53 g [(Value.slice Ax lx cx),(Value.slice Ax2 lx2 cx2),(Value.slice Ax3 lx3 cx3)])):=hS.new 4 rfl hN
  clear hN
  refine ⟨Stb.none _,?_⟩
  refine rl_n rfl rfl rfl rfl (yaP ybw ?_)
  intro g2 w3 hN
  replace hS:Sep w no O w3 (stl _ 5 (Res.box 60 g2 [(Value.slice none 0 0),(Value.slice none 0 0),(Value.slice none 0 0),(Value.slice none 0 0),(Value.int .i64 0),(Value.int .i64 0),(Value.int .i64 0),(Value.int .i64 0)])):=hS.new 5 rfl hN
  clear hN
  refine ⟨Stb.none _,?_⟩
  refine rl_q rfl rfl rfl (yaH (v:=(Value.int .i64 0)) rfl) ?_
  refine yaa ?_
  refine yad ?_
  refine yau yav ?_
  refine rl_q rfl rfl rfl (yat (vs:=[(Value.slice Ax lx cx),(Value.slice Ax2 lx2 cx2),(Value.slice Ax3 lx3 cx3)]) rfl underlying53 rfl yap ⟨Row.cell (hS.bx 4 rfl) (i:=0) rfl,Row.cell (hS.bx 4 rfl) (i:=1) rfl,Row.cell (hS.bx 4 rfl) (i:=2) rfl,trivial⟩) ?_
  refine rl_q rfl rfl rfl (yac (v:=(Value.slice Afates lfates cfates)) rfl) ?_
  refine rl_q rfl rfl rfl (yac (v:=(Value.int .i64 limit)) rfl) ?_
  refine rl_n rfl rfl rfl rfl (yam rfl (am3 rfl rfl rfl) enter_58 ((pok_wire_begun h hS.blt (hS.ro 0 rfl) (hS.ro 1 rfl) (hS.ro 2 rfl) (hS.ro 3 rfl)).mono ?_))
  rintro _ w4 (⟨r,rfl,hC,h⟩ | ⟨f,f2,f3,f4,f5,LL2,f6,f7,f8,f9,f10,r2,gr,Af,lf,cf,Af2,lf2,cf2,A,l,c,Q,A2,l2,c4,Q2,A3,l3,c5,QL2,Gn,Af3,lf3,cf3,Af4,lf4,cf4,rfl,hC,h⟩)
  · replace hS:=hS.pur hC.pure
    clear hC
    refine ⟨_,rfl,?_⟩
    refine ⟨Stb.none _,?_⟩
    refine rl_q rfl rfl rfl (yac (v:=(Value.tuple #[(Value.pointer none),(Value.int .i64 r)])) rfl) ?_
    refine rl_q rfl rfl rfl (ybA (v:=(Value.pointer none)) rfl rfl) ?_
    refine rl_q rfl rfl rfl (ybA (v:=(Value.int .i64 r)) rfl rfl) ?_
    refine rl_q rfl rfl rfl (yaH (v:=(Value.pointer none)) rfl) ?_
    refine rl_q rfl rfl rfl (yaH (v:=(Value.int .i64 r)) rfl) ?_
    refine yaa ?_
    refine yad ?_
    refine yad ?_
    refine yau yav ?_
    refine rl_q rfl rfl rfl (yac (v:=(Value.int .i64 r)) rfl) ?_
    refine rl_q rfl rfl rfl (yih rfl rfl) ?_
    refine yaa ?_
    by_cases hp:r=0
    · replace h:=h.1 hp
      refine yaA (congrArg Value.bool (congrArg Bool.not (decide_eq_true hp))) ?_
      refine yae ?_
      refine yad ?_
      refine yah ?_
      obtain ⟨I2,⟨m0,h0⟩,hr⟩:=h
      refine yaE (fun m E ds w'=>I2 m∧ds=[]∧E 2=(Value.int .i64 limit)∧E 6=(Value.pointer (some (⟨g2,0,none⟩:Addr)))∧E 8=(Value.pointer none)∧Sep w no O w' (rl [Res.box 60 g2 [(Value.slice none 0 0),(Value.slice none 0 0),(Value.slice none 0 0),(Value.slice none 0 0),(Value.int .i64 0),(Value.int .i64 0),(Value.int .i64 0),(Value.int .i64 0)]])) m0 ⟨h0,rfl,rfl,rfl,rfl,(hS.sel [5] (by decide))⟩ ?_
      clear h0 hS
      rintro m2 E ds w5 ⟨h,rfl,hE2,hE6,hE8,hS⟩ again
      replace h:=hr m2 h
      clear hr
      refine yad ?_
      refine yad ?_
      refine yau yav ?_
      refine rl_q rfl rfl rfl (yac (v:=(Value.pointer none)) hE8) ?_
      exact h.elim
    · replace h:=h.2 hp
      refine yar (congrArg Value.bool (congrArg Bool.not (decide_eq_false hp))) ?_
      refine yad ?_
      refine yau yav ?_
      refine rl_n rfl rfl rfl rfl (yaR (l:=[]) (cells:=[(Value.slice none 0 0),(Value.slice none 0 0),(Value.slice none 0 0),(Value.slice none 0 0),(Value.int .i64 0),(Value.int .i64 0),(Value.int .i64 0),(Value.int .i64 0)]) (places:=[(0,3),(3,1),(4,1),(5,1),(6,1),(7,1)]) (bp0) underlying60 ybw (by kernel_rfl) rfl ?_)
      refine ⟨Stb.none _,?_⟩
      refine rl_q rfl rfl rfl (yac (v:=(Value.int .i64 r)) rfl) ?_
      refine ygw rfl rfl rfl (yas (b:=g2) (o:=0) (cells:=#[(Value.slice none 0 0),(Value.slice none 0 0),(Value.slice none 0 0),(Value.slice none 0 0),(Value.int .i64 0),(Value.int .i64 0),(Value.int .i64 0),(Value.int .i64 0)]) rfl rfl ybw rfl rfl (yan (hS.bx 5 rfl) (Nat.le_of_ble_eq_true rfl)) ?_)
      intro w6 e1
      replace hS:=hS.bstall 5 rfl [(Value.slice none 0 0),(Value.slice none 0 0),(Value.slice none 0 0),(Value.slice none 0 0),(Value.int .i64 0),(Value.int .i64 0),(Value.int .i64 0),(Value.int .i64 0)] (Nat.eq_of_beq_eq_true rfl) e1
      clear e1
      refine ⟨Stb.none _,?_⟩
      refine rl_q rfl rfl rfl (yaH (v:=(Value.int .i64 r)) rfl) ?_
      refine yaa ?_
      replace hS:=hS.addro 6 rfl FP.tt trivial
      replace hS:=hS.nil 7 rfl cI 3
      replace hS:=hS.nil 8 rfl (cL cI) 33
      replace hS:=hS.nil 9 rfl (cL cI) 33
      exact ybc rfl (rv_n (vs:=[(Value.slice none 0 0),(Value.slice none 0 0),(Value.slice none 0 0),(Value.slice none 0 0),(Value.int .i64 0),(Value.int .i64 0),(Value.int .i64 0),(Value.int .i64 0)]) rfl underlying60 rfl ybw (yeE (hS.bx 5 rfl))) (rv_t rfl) ⟨_,_,_,_,_,_,_,_,_,_,_,_,_,_,_,_,_,_,_,_,rfl,(hS.sel [6,7,8,9] (by decide)),h⟩
  · replace hS:=hS.callf hC (asc [(6,0),(7,1),(8,2),(9,3),(10,4),(11,5),(12,6),(13,7),(14,8),(15,9),(16,10),(17,11)]) (yf2 (ybe rfl (ybe rfl (ybe rfl (ybe rfl (ybe rfl (ybe rfl (ybe rfl (ybe rfl (ybe rfl (ybe rfl (ybe rfl (ybe rfl yhi))))))))))))) (ycc (by decide))
    clear hC
    refine ⟨_,rfl,?_⟩
    refine ⟨Stb.none _,?_⟩
    refine rl_q rfl rfl rfl (yac (v:=(Value.tuple #[(Value.pointer (some (⟨gr,0,none⟩:Addr))),(Value.int .i64 r2)])) rfl) ?_
    refine rl_q rfl rfl rfl (ybA (v:=(Value.pointer (some (⟨gr,0,none⟩:Addr)))) rfl rfl) ?_
    refine rl_q rfl rfl rfl (ybA (v:=(Value.int .i64 r2)) rfl rfl) ?_
    refine rl_q rfl rfl rfl (yaH (v:=(Value.pointer (some (⟨gr,0,none⟩:Addr)))) rfl) ?_
    refine rl_q rfl rfl rfl (yaH (v:=(Value.int .i64 r2)) rfl) ?_
    refine yaa ?_
    refine yad ?_
    refine yad ?_
    refine yau yav ?_
    refine rl_q rfl rfl rfl (yac (v:=(Value.int .i64 r2)) rfl) ?_
    refine rl_q rfl rfl rfl (yih rfl rfl) ?_
    refine yaa ?_
    by_cases hp2:r2=0
    · replace h:=h.1 hp2
      refine yaA (congrArg Value.bool (congrArg Bool.not (decide_eq_true hp2))) ?_
      refine yae ?_
      refine yad ?_
      refine yah ?_
      obtain ⟨I3,⟨m0,h0⟩,hr⟩:=h
      refine yaE (fun m E ds w'=>∃ w8:List Int,∃ w9:List (List Int),∃ w10:List (List Int),∃ LL3:List Ln,∃ w11:List (Pk×Int),∃ w12:Int,∃ w13:Int,∃ w14:Bool,∃ QL3:List AT,∃ Aw:Option Addr,∃ lw:Nat,∃ cw:Nat,I3 m w8 w9 w10 LL3 w11 w12 w13 w14∧ds=[]∧E 2=(Value.int .i64 limit)∧E 6=(Value.pointer (some (⟨g2,0,none⟩:Addr)))∧E 8=(Value.pointer (some (⟨gr,0,none⟩:Addr)))∧Sep w no O w' (rl [Res.box 60 g2 [(Value.slice none 0 0),(Value.slice none 0 0),(Value.slice none 0 0),(Value.slice none 0 0),(Value.int .i64 0),(Value.int .i64 0),(Value.int .i64 0),(Value.int .i64 0)],Res.box 113 gr [(Value.slice Af lf cf),(Value.slice Af2 lf2 cf2),(Value.slice A l c),(Value.slice A2 l2 c4),(Value.slice A3 l3 c5),(Value.slice Af3 lf3 cf3),(Value.slice Aw lw cw),(Value.int .i64 w12),(Value.int .i64 w13),(Value.bool (w14))],Res.ro (FP.sl (cPr cI (cPr cI (cL (cL (cPr cI (cL c2)))))) Af lf cf f),Res.own cI 3 Af2 lf2 cf2 w8,Res.own cA 33 A l c Q,Res.sem (gtS 3 Q w9),Res.own cA 33 A2 l2 c4 Q2,Res.sem (gtS 3 Q2 w10),Res.own (fLp Gn).cod 155 A3 l3 c5 f5,Res.sem (lnB 159 Gn QL3 LL3),Res.sem (lnQ 3 QL3 LL3),Res.ro (FP.sl cI Af3 lf3 cf3 f6),Res.own (fP (fPk 166 263 Gn) (fI .i64)).cod 218 Aw lw cw w11])) m0 ⟨_,_,_,_,_,_,_,_,_,_,_,_,h0,rfl,rfl,rfl,rfl,(hS.sel [5,6,7,8,9,10,11,12,13,14,15,16,17] (by decide))⟩ ?_
      clear h0 hS
      rintro m3 E ds w7 ⟨w8,w9,w10,LL3,w11,w12,w13,w14,QL3,Aw,lw,cw,h,rfl,hE2,hE6,hE8,hS⟩ again2
      replace h:=hr m3 w8 w9 w10 LL3 w11 w12 w13 w14 h
      clear hr
      refine yad ?_
      refine yad ?_
      refine yau yav ?_
      refine rl_q rfl rfl rfl (yac (v:=(Value.pointer (some (⟨gr,0,none⟩:Addr)))) hE8) ?_
      have hB:=hS.lend (asc [(1,0),(3,1),(4,2),(5,3),(6,4),(7,5),(8,6),(9,7),(10,8),(12,9)]) [1,2,3,4,5,6,7,8,9,10,11,12] (by decide) ⟨.inl (yax rfl), .inr rfl, .inl (yax rfl), .inl (yax rfl), .inl (yax rfl), .inl (yax rfl), .inl (yax rfl), .inl (yax rfl), .inl (yax rfl), .inl (yax rfl), .inr rfl, .inl (yax rfl),trivial⟩
      refine rl_n rfl rfl rfl rfl (yc8 (vs:=#[(Value.pointer (some (⟨gr,0,none⟩:Addr)))]) (us:=#[]) rfl (am1 rfl) enter_59 ((ybh (by first | (simp;done) | rfl) (ygn h hB)).mono ?_))
      rintro _ w15 ⟨r3,rfl,hC,h⟩
      replace hS:=hS.back (asc [(1,0),(3,1),(4,2),(5,3),(6,4),(7,5),(8,6),(9,7),(10,8),(12,9)]) (ycc (by decide)) hC
      clear hC hB
      refine ⟨_,rfl,?_⟩
      refine ⟨Stb.none _,?_⟩
      refine yaa ?_
      by_cases hp3:r3=true
      · replace h:=h.1 hp3
        refine yar (congrArg Value.bool hp3) ?_
        refine yae ?_
        refine yah ?_
        refine yad ?_
        refine yad ?_
        refine yau yav ?_
        refine rl_q rfl rfl rfl (yac (v:=(Value.pointer (some (⟨gr,0,none⟩:Addr)))) hE8) ?_
        refine rl_q rfl rfl rfl (yaX rfl) ?_
        refine rl_q rfl rfl rfl (yab rfl underlying113 rfl yai) ?_
        refine rl_q rfl rfl rfl (yay rfl underlying3 rfl (Row.cell (hS.bx 1 rfl) (i:=7) rfl)) ?_
        refine rl_q rfl rfl rfl (yac (v:=(Value.int .i64 limit)) hE2) ?_
        refine rl_q rfl rfl rfl (v_eql rfl rfl) ?_
        refine yaa ?_
        by_cases hp4:w12=limit
        · replace h:=h.1 hp4
          refine yar (congrArg Value.bool (decide_eq_true hp4)) ?_
          refine yad ?_
          refine yau yav ?_
          refine rl_n rfl rfl rfl rfl (yaR (l:=[]) (cells:=[(Value.slice none 0 0),(Value.slice none 0 0),(Value.slice none 0 0),(Value.slice none 0 0),(Value.int .i64 0),(Value.int .i64 0),(Value.int .i64 0),(Value.int .i64 0)]) (places:=[(0,3),(3,1),(4,1),(5,1),(6,1),(7,1)]) (bp0) underlying60 ybw (by kernel_rfl) rfl ?_)
          refine ⟨Stb.none _,?_⟩
          refine ygw rfl rfl rfl (yas (b:=g2) (o:=0) (cells:=#[(Value.slice none 0 0),(Value.slice none 0 0),(Value.slice none 0 0),(Value.slice none 0 0),(Value.int .i64 0),(Value.int .i64 0),(Value.int .i64 0),(Value.int .i64 0)]) hE6 rfl ybw rfl rfl (yan (hS.bx 0 rfl) (Nat.le_of_ble_eq_true rfl)) ?_)
          intro w16 e1
          replace hS:=hS.bstall 0 rfl [(Value.slice none 0 0),(Value.slice none 0 0),(Value.slice none 0 0),(Value.slice none 0 0),(Value.int .i64 0),(Value.int .i64 0),(Value.int .i64 0),(Value.int .i64 0)] (Nat.eq_of_beq_eq_true rfl) e1
          clear e1
          refine ⟨Stb.none _,?_⟩
          refine rl_q rfl rfl rfl (yaH (v:=(Value.int .i64 12)) rfl) ?_
          refine yaa ?_
          replace hS:=hS.addro 13 rfl FP.tt trivial
          replace hS:=hS.nil 14 rfl cI 3
          replace hS:=hS.nil 15 rfl (cL cI) 33
          replace hS:=hS.nil 16 rfl (cL cI) 33
          exact ybc rfl (rv_n (vs:=[(Value.slice none 0 0),(Value.slice none 0 0),(Value.slice none 0 0),(Value.slice none 0 0),(Value.int .i64 0),(Value.int .i64 0),(Value.int .i64 0),(Value.int .i64 0)]) hE6 underlying60 rfl ybw (yeE (hS.bx 0 rfl))) (rv_t rfl) ⟨_,_,_,_,_,_,_,_,_,_,_,_,_,_,_,_,_,_,_,_,rfl,(hS.sel [13,14,15,16] (by decide)),h⟩
        · replace h:=h.2 hp4
          refine yaA (congrArg Value.bool (decide_eq_false hp4)) ?_
          refine yae ?_
          refine yad ?_
          refine yau yav ?_
          refine rl_q rfl rfl rfl (yac (v:=(Value.pointer (some (⟨gr,0,none⟩:Addr)))) hE8) ?_
          have hB:=hS.lend (asc [(1,0),(3,1),(4,2),(5,3),(6,4),(7,5),(8,6),(9,7),(10,8),(12,9)]) [1,2,3,4,5,6,7,8,9,10,11,12] (by decide) ⟨.inl (yax rfl), .inr rfl, .inl (yax rfl), .inl (yax rfl), .inl (yax rfl), .inl (yax rfl), .inl (yax rfl), .inl (yax rfl), .inl (yax rfl), .inl (yax rfl), .inr rfl, .inl (yax rfl),trivial⟩
          refine rl_n rfl rfl rfl rfl (yc8 (vs:=#[(Value.pointer (some (⟨gr,0,none⟩:Addr)))]) (us:=#[]) rfl (am1 rfl) enter_60 ((ybh (by first | (simp;done) | rfl) (ygt h hB)).mono ?_))
          rintro _ w17 ⟨y,y2,y3,y4,y5,y6,y7,y8,QL4,A4,l4,c6,rfl,hC,h⟩
          replace hS:=hS.back (asc [(1,0),(3,1),(4,2),(5,3),(6,4),(7,5),(8,6),(9,7),(10,8),(12,9)]) (ycc (by decide)) hC
          clear hC hB
          refine ⟨_,rfl,?_⟩
          refine ⟨Stb.none _,?_⟩
          refine yaa ?_
          refine yad ?_
          refine yau yav ?_
          refine rl_q rfl rfl rfl (yac (v:=(Value.pointer (some (⟨gr,0,none⟩:Addr)))) hE8) ?_
          refine rl_q rfl rfl rfl (yaX rfl) ?_
          refine rl_q rfl rfl rfl (yab rfl underlying113 rfl ydt) ?_
          refine rl_q rfl rfl rfl (yay rfl underlying4 rfl (Row.cell (hS.bx 1 rfl) (i:=9) rfl)) ?_
          refine yaa ?_
          by_cases hp5:y3=true
          · replace h:=h.1 hp5
            refine yar (congrArg Value.bool hp5) ?_
            refine yad ?_
            refine yau yav ?_
            refine rl_n rfl rfl rfl rfl (yaR (l:=[]) (cells:=[(Value.slice none 0 0),(Value.slice none 0 0),(Value.slice none 0 0),(Value.slice none 0 0),(Value.int .i64 0),(Value.int .i64 0),(Value.int .i64 0),(Value.int .i64 0)]) (places:=[(0,3),(3,1),(4,1),(5,1),(6,1),(7,1)]) (bp0) underlying60 ybw (by kernel_rfl) rfl ?_)
            refine ⟨Stb.none _,?_⟩
            refine ygw rfl rfl rfl (yas (b:=g2) (o:=0) (cells:=#[(Value.slice none 0 0),(Value.slice none 0 0),(Value.slice none 0 0),(Value.slice none 0 0),(Value.int .i64 0),(Value.int .i64 0),(Value.int .i64 0),(Value.int .i64 0)]) hE6 rfl ybw rfl rfl (yan (hS.bx 0 rfl) (Nat.le_of_ble_eq_true rfl)) ?_)
            intro w18 e1
            replace hS:=hS.bstall 0 rfl [(Value.slice none 0 0),(Value.slice none 0 0),(Value.slice none 0 0),(Value.slice none 0 0),(Value.int .i64 0),(Value.int .i64 0),(Value.int .i64 0),(Value.int .i64 0)] (Nat.eq_of_beq_eq_true rfl) e1
            clear e1
            refine ⟨Stb.none _,?_⟩
            refine rl_q rfl rfl rfl (yaH (v:=(Value.int .i64 11)) rfl) ?_
            refine yaa ?_
            replace hS:=hS.addro 13 rfl FP.tt trivial
            replace hS:=hS.nil 14 rfl cI 3
            replace hS:=hS.nil 15 rfl (cL cI) 33
            replace hS:=hS.nil 16 rfl (cL cI) 33
            exact ybc rfl (rv_n (vs:=[(Value.slice none 0 0),(Value.slice none 0 0),(Value.slice none 0 0),(Value.slice none 0 0),(Value.int .i64 0),(Value.int .i64 0),(Value.int .i64 0),(Value.int .i64 0)]) hE6 underlying60 rfl ybw (yeE (hS.bx 0 rfl))) (rv_t rfl) ⟨_,_,_,_,_,_,_,_,_,_,_,_,_,_,_,_,_,_,_,_,rfl,(hS.sel [13,14,15,16] (by decide)),h⟩
          · replace h:=h.2 hp5
            refine yaA (congrArg Value.bool (Bool.eq_false_iff.2 hp5)) ?_
            refine yae ?_
            refine yaj ?_
            obtain ⟨mq,hlt,h⟩:=h
            exact again2 mq _ _ _ ⟨_,_,_,_,_,_,_,_,_,_,_,_,h,rfl,hE2,hE6,hE8,(hS.sel [0,1,2,3,4,5,6,7,8,9,10,11,12] (by decide))⟩ hlt
      · replace h:=h.2 hp3
        refine yaA (congrArg Value.bool (Bool.eq_false_iff.2 hp3)) ?_
        refine yaC rfl ?_
        refine yad ?_
        refine yau yav ?_
        refine rl_q rfl rfl rfl (yac (v:=(Value.pointer (some (⟨gr,0,none⟩:Addr)))) hE8) ?_
        have hB:=hS.lend (asc [(13,0),(14,1),(15,2),(16,3),(1,20),(3,21),(4,22),(5,23),(6,24),(7,25),(8,26),(9,27),(10,28),(12,29)]) [1,2,3,4,5,6,7,8,9,10,11,12] (by decide) ⟨.inl (yax rfl), .inr rfl, .inl (yax rfl), .inl (yax rfl), .inl (yax rfl), .inl (yax rfl), .inl (yax rfl), .inl (yax rfl), .inl (yax rfl), .inl (yax rfl), .inr rfl, .inl (yax rfl),trivial⟩
        refine rl_n rfl rfl rfl rfl (yc8 (vs:=#[(Value.pointer (some (⟨gr,0,none⟩:Addr)))]) (us:=#[]) rfl (am1 rfl) enter_61 ((ybh (by first | (simp;done) | rfl) (ygu h hB)).mono ?_))
        rintro _ w19 ⟨r4,r5,r6,r7,r8,r9,r10,Ar,lr,cr,Ar2,lr2,cr2,Ar3,lr3,cr3,Ar4,lr4,cr4,rfl,hC,h⟩
        replace hS:=hS.back (asc [(13,0),(14,1),(15,2),(16,3),(1,20),(3,21),(4,22),(5,23),(6,24),(7,25),(8,26),(9,27),(10,28),(12,29)]) (ycc (by decide)) hC
        clear hC hB
        refine ⟨_,rfl,?_⟩
        refine ⟨Stb.none _,?_⟩
        refine ygw rfl rfl rfl (yas (b:=g2) (o:=0) (cells:=#[(Value.slice Ar lr cr),(Value.slice Ar2 lr2 cr2),(Value.slice Ar3 lr3 cr3),(Value.slice Ar4 lr4 cr4),(Value.int .i64 r7),(Value.int .i64 r8),(Value.int .i64 r9),(Value.int .i64 r10)]) hE6 rfl ybw rfl rfl (yan (hS.bx 0 rfl) (Nat.le_of_ble_eq_true rfl)) ?_)
        intro w20 e1
        replace hS:=hS.bstall 0 rfl [(Value.slice Ar lr cr),(Value.slice Ar2 lr2 cr2),(Value.slice Ar3 lr3 cr3),(Value.slice Ar4 lr4 cr4),(Value.int .i64 r7),(Value.int .i64 r8),(Value.int .i64 r9),(Value.int .i64 r10)] (Nat.eq_of_beq_eq_true rfl) e1
        clear e1
        refine ⟨Stb.none _,?_⟩
        refine rl_q rfl rfl rfl (yaH (v:=(Value.int .i64 0)) rfl) ?_
        refine yaa ?_
        replace hS:=hS.addro 17 rfl FP.tt trivial
        exact ybc rfl (rv_n (vs:=[(Value.slice Ar lr cr),(Value.slice Ar2 lr2 cr2),(Value.slice Ar3 lr3 cr3),(Value.slice Ar4 lr4 cr4),(Value.int .i64 r7),(Value.int .i64 r8),(Value.int .i64 r9),(Value.int .i64 r10)]) hE6 underlying60 rfl ybw (yeE (hS.bx 0 rfl))) (rv_t rfl) ⟨_,_,_,_,_,_,_,_,_,_,_,_,_,_,_,_,_,_,_,_,rfl,(hS.sel [17,14,15,16] (by decide)),h⟩
    · replace h:=h.2 hp2
      refine yar (congrArg Value.bool (congrArg Bool.not (decide_eq_false hp2))) ?_
      refine yad ?_
      refine yau yav ?_
      refine rl_n rfl rfl rfl rfl (yaR (l:=[]) (cells:=[(Value.slice none 0 0),(Value.slice none 0 0),(Value.slice none 0 0),(Value.slice none 0 0),(Value.int .i64 0),(Value.int .i64 0),(Value.int .i64 0),(Value.int .i64 0)]) (places:=[(0,3),(3,1),(4,1),(5,1),(6,1),(7,1)]) (bp0) underlying60 ybw (by kernel_rfl) rfl ?_)
      refine ⟨Stb.none _,?_⟩
      refine rl_q rfl rfl rfl (yac (v:=(Value.int .i64 r2)) rfl) ?_
      refine ygw rfl rfl rfl (yas (b:=g2) (o:=0) (cells:=#[(Value.slice none 0 0),(Value.slice none 0 0),(Value.slice none 0 0),(Value.slice none 0 0),(Value.int .i64 0),(Value.int .i64 0),(Value.int .i64 0),(Value.int .i64 0)]) rfl rfl ybw rfl rfl (yan (hS.bx 5 rfl) (Nat.le_of_ble_eq_true rfl)) ?_)
      intro w21 e1
      replace hS:=hS.bstall 5 rfl [(Value.slice none 0 0),(Value.slice none 0 0),(Value.slice none 0 0),(Value.slice none 0 0),(Value.int .i64 0),(Value.int .i64 0),(Value.int .i64 0),(Value.int .i64 0)] (Nat.eq_of_beq_eq_true rfl) e1
      clear e1
      refine ⟨Stb.none _,?_⟩
      refine rl_q rfl rfl rfl (yaH (v:=(Value.int .i64 r2)) rfl) ?_
      refine yaa ?_
      replace hS:=hS.addro 18 rfl FP.tt trivial
      replace hS:=hS.nil 19 rfl cI 3
      replace hS:=hS.nil 20 rfl (cL cI) 33
      replace hS:=hS.nil 21 rfl (cL cI) 33
      exact ybc rfl (rv_n (vs:=[(Value.slice none 0 0),(Value.slice none 0 0),(Value.slice none 0 0),(Value.slice none 0 0),(Value.int .i64 0),(Value.int .i64 0),(Value.int .i64 0),(Value.int .i64 0)]) rfl underlying60 rfl ybw (yeE (hS.bx 5 rfl))) (rv_t rfl) ⟨_,_,_,_,_,_,_,_,_,_,_,_,_,_,_,_,_,_,_,_,rfl,(hS.sel [18,19,20,21] (by decide)),h⟩
def yaG(R:Bool→Prop):Prop :=
yfm (fun (r:List (Int×Int×(List (List (Int×(List (Int×Int))))))) (r2:List Int) (r3:List (List Int)) =>
ydp r r2 r3 ([1]) 20 (fun (r4:List Int) (r5:List (List Int)) (r6:List (List Int)) (r7:Int) (r8:Int) (r9:Int) (r10:Int) (r11:Int) =>
ybZ (fun (r12:Int) (r13:List (Int×Int×Int)) =>
yb9 r12 r13 0 ([0,2,1]) (fun (r14:List (Int×Int×(List (List (Int×(List (Int×Int))))))) (r15:List Int) (r16:List (List Int)) (r17:Int) =>
ydp r14 r15 r16 ([3,2]) 200 (fun (r18:List Int) (r19:List (List Int)) (r20:List (List Int)) (r21:Int) (r22:Int) (r23:Int) (r24:Int) (r25:Int) =>
(In64 (r11+r17) ∧
(In64 ((r11+r17)+r25) ∧
((((r11+r17)+r25)=0 →
((r7=7 →
ybN r18 ([0,1,0]) (fun (r26:Bool) =>
R r26)) ∧
(¬(r7=7) →
R false))) ∧
(¬(((r11+r17)+r25)=0) →
R false)))))))))
theorem yaV{O:Nat→Prop}{w:World}{R:Bool→Prop}(h:yaG R)(hO:∀ k,O k→k<w.heap.size) :
    Calls Tryz.prog 20 #[] w fun e w'=>∃ r27:Bool,e = .returned (Value.bool (r27))∧Sep w no O w' (rl [])∧R r27:=by
  unfold yaG at h
  have hS:Sep w no O w (rl []):=Sep.start w hO
  refine yao (l:=[]) func20 rfl ntmps20 (Nat.le_of_ble_eq_true rfl) ?_
  refine yad ?_
  refine yau yav ?_
  refine rl_q rfl rfl rfl (yaH (v:=(Value.bool (false))) rfl) ?_
  refine yaa ?_
  refine yad ?_
  refine yau yav ?_
  refine rl_n rfl rfl rfl rfl (yam rfl (am0) enter_46 ((pok_l56_Pair h hS.blt).mono ?_))
  rintro _ w2 ⟨r,r2,r3,Ar,lr,cr,Ar2,lr2,cr2,Ar3,lr3,cr3,rfl,hC,h⟩
  replace hS:=hS.call3 hC 0 1 2 rfl rfl rfl (by decide) (by decide) (by decide)
  clear hC
  refine ⟨_,rfl,?_⟩
  refine ⟨Stb.none _,?_⟩
  refine rl_n rfl rfl rfl rfl (yaI (l:=[(0,(Value.int .i64 1))]) (cells:=[(Value.int .i64 1)]) (bp1 rfl) underlying33 yai rfl rfl ?_)
  intro g w3 hN
  replace hS:=hS.litf (n:=1) 3 rfl (fI .i64) hN ([1]:List Int) rfl (by decide) rfl
  clear hN
  refine ⟨Stb.none _,?_⟩
  replace hS:=hS.frz 0 rfl
  replace hS:=hS.frz 1 rfl
  replace hS:=hS.frz 2 rfl
  replace hS:=hS.frz 3 rfl
  refine rl_n rfl rfl rfl rfl (yam rfl (am3 rfl rfl rfl) enter_23 ((yfS h hS.blt (hS.ro 0 rfl) (hS.ro 1 rfl) (hS.ro 2 rfl) (hS.ro 3 rfl)).mono ?_))
  rintro _ w4 ⟨r4,r5,r6,r7,r8,r9,r10,r11,Ar4,lr4,cr4,Ar5,lr5,cr5,Ar6,lr6,cr6,Ar7,lr7,cr7,rfl,hC,h⟩
  replace hS:=hS.callf hC (asc [(4,0),(5,1),(6,2),(7,3)]) (yf2 (ybe rfl (ybe rfl (ybe rfl (ybe rfl yhi))))) (ycc (by decide))
  clear hC
  refine ⟨_,rfl,?_⟩
  refine ⟨Stb.none _,?_⟩
  refine rl_q rfl rfl rfl (yac (v:=(Value.tuple #[(Value.agg #[(Value.slice Ar4 lr4 cr4),(Value.slice Ar5 lr5 cr5),(Value.slice Ar6 lr6 cr6),(Value.slice Ar7 lr7 cr7),(Value.int .i64 r7),(Value.int .i64 r8),(Value.int .i64 r9),(Value.int .i64 r10)]),(Value.int .i64 r11)])) rfl) ?_
  refine rl_q rfl rfl rfl (ybA (v:=(Value.agg #[(Value.slice Ar4 lr4 cr4),(Value.slice Ar5 lr5 cr5),(Value.slice Ar6 lr6 cr6),(Value.slice Ar7 lr7 cr7),(Value.int .i64 r7),(Value.int .i64 r8),(Value.int .i64 r9),(Value.int .i64 r10)])) rfl rfl) ?_
  refine rl_q rfl rfl rfl (ybA (v:=(Value.int .i64 r11)) rfl rfl) ?_
  refine rl_n rfl rfl rfl rfl (yaP ybw ?_)
  intro g2 w5 hN
  replace hS:Sep w no O w5 (stl _ 8 (Res.box 60 g2 [(Value.slice none 0 0),(Value.slice none 0 0),(Value.slice none 0 0),(Value.slice none 0 0),(Value.int .i64 0),(Value.int .i64 0),(Value.int .i64 0),(Value.int .i64 0)])):=hS.new 8 rfl hN
  clear hN
  refine ⟨Stb.none _,?_⟩
  refine ygw rfl rfl rfl (yas (b:=g2) (o:=0) (cells:=#[(Value.slice Ar4 lr4 cr4),(Value.slice Ar5 lr5 cr5),(Value.slice Ar6 lr6 cr6),(Value.slice Ar7 lr7 cr7),(Value.int .i64 r7),(Value.int .i64 r8),(Value.int .i64 r9),(Value.int .i64 r10)]) rfl rfl ybw rfl rfl (yan (hS.bx 8 rfl) (Nat.le_of_ble_eq_true rfl)) ?_)
  intro w6 e1
  replace hS:=hS.bstall 8 rfl [(Value.slice Ar4 lr4 cr4),(Value.slice Ar5 lr5 cr5),(Value.slice Ar6 lr6 cr6),(Value.slice Ar7 lr7 cr7),(Value.int .i64 r7),(Value.int .i64 r8),(Value.int .i64 r9),(Value.int .i64 r10)] (Nat.eq_of_beq_eq_true rfl) e1
  clear e1
  refine ⟨Stb.none _,?_⟩
  refine rl_q rfl rfl rfl (yaH (v:=(Value.int .i64 r11)) rfl) ?_
  refine yaa ?_
  refine yad ?_
  refine yau yav ?_
  refine rl_n rfl rfl rfl rfl (yam rfl (am0) enter_48 ((ye0 h (yaO _)).mono ?_))
  rintro _ w7 ⟨r12,r13,Ar8,lr8,cr8,rfl,hC,h⟩
  replace hS:=hS.call1 (hC.widen (yfd (yb0 (fP (fI .i64) (fP (fI .i64) (fI .i64))) _ _ _ _ _) yfs) hS.blt) 9 0 rfl
  clear hC
  refine ⟨_,rfl,?_⟩
  refine ⟨Stb.none _,?_⟩
  refine rl_n rfl rfl rfl rfl (yaI (l:=[(0,(Value.int .i64 0)),(1,(Value.int .i64 2)),(2,(Value.int .i64 1))]) (cells:=[(Value.int .i64 0),(Value.int .i64 2),(Value.int .i64 1)]) (bp3 rfl rfl rfl) underlying34 yai rfl rfl ?_)
  intro g3 w8 hN
  replace hS:=hS.litf (n:=3) 10 rfl (fI .i64) hN ([0,2,1]:List Int) rfl (by decide) rfl
  clear hN
  refine ⟨Stb.none _,?_⟩
  replace hS:=hS.frz 9 rfl
  replace hS:=hS.frz 10 rfl
  refine rl_n rfl rfl rfl rfl (yam rfl (am3 rfl rfl rfl) enter_47 ((ygc h hS.blt (hS.ro 9 rfl) (hS.ro 10 rfl)).mono ?_))
  rintro _ w9 ⟨r14,r15,r16,r17,Ar9,lr9,cr9,Ar10,lr10,cr10,Ar11,lr11,cr11,rfl,hC,h⟩
  replace hS:=hS.call3 hC 11 12 13 rfl rfl rfl (by decide) (by decide) (by decide)
  clear hC
  refine ⟨_,rfl,?_⟩
  refine ⟨Stb.none _,?_⟩
  refine rl_q rfl rfl rfl (yac (v:=(Value.tuple #[(Value.agg #[(Value.slice Ar9 lr9 cr9),(Value.slice Ar10 lr10 cr10),(Value.slice Ar11 lr11 cr11)]),(Value.int .i64 r17)])) rfl) ?_
  refine rl_q rfl rfl rfl (ybA (v:=(Value.agg #[(Value.slice Ar9 lr9 cr9),(Value.slice Ar10 lr10 cr10),(Value.slice Ar11 lr11 cr11)])) rfl rfl) ?_
  refine rl_q rfl rfl rfl (ybA (v:=(Value.int .i64 r17)) rfl rfl) ?_
  refine rl_n rfl rfl rfl rfl (yaP yap ?_)
  intro g4 w10 hN
  replace hS:Sep w no O w10 (stl _ 14 (Res.box 53 g4 [(Value.slice none 0 0),(Value.slice none 0 0),(Value.slice none 0 0)])):=hS.new 14 rfl hN
  clear hN
  refine ⟨Stb.none _,?_⟩
  refine ygw rfl rfl rfl (yas (b:=g4) (o:=0) (cells:=#[(Value.slice Ar9 lr9 cr9),(Value.slice Ar10 lr10 cr10),(Value.slice Ar11 lr11 cr11)]) rfl rfl yap rfl rfl (yan (hS.bx 14 rfl) (Nat.le_of_ble_eq_true rfl)) ?_)
  intro w11 e1
  replace hS:=hS.bstn 14 rfl 0 [(Value.slice Ar9 lr9 cr9),(Value.slice Ar10 lr10 cr10),(Value.slice Ar11 lr11 cr11)] e1
  clear e1
  refine ⟨Stb.none _,?_⟩
  refine rl_q rfl rfl rfl (yaH (v:=(Value.int .i64 r17)) rfl) ?_
  refine yaa ?_
  refine yad ?_
  refine yau yav ?_
  refine rl_q rfl rfl rfl (yat (vs:=[(Value.slice Ar9 lr9 cr9),(Value.slice Ar10 lr10 cr10),(Value.slice Ar11 lr11 cr11)]) rfl underlying53 rfl yap ⟨Row.cell (hS.bx 14 rfl) (i:=0) rfl,Row.cell (hS.bx 14 rfl) (i:=1) rfl,Row.cell (hS.bx 14 rfl) (i:=2) rfl,trivial⟩) ?_
  refine rl_n rfl rfl rfl rfl (yaI (l:=[(0,(Value.int .i64 3)),(1,(Value.int .i64 2))]) (cells:=[(Value.int .i64 3),(Value.int .i64 2)]) (bp2 rfl rfl) underlying33 yai rfl rfl ?_)
  intro g5 w12 hN
  replace hS:=hS.litf (n:=2) 15 rfl (fI .i64) hN ([3,2]:List Int) rfl (by decide) rfl
  clear hN
  refine ⟨Stb.none _,?_⟩
  replace hS:=hS.frz 11 rfl
  replace hS:=hS.frz 12 rfl
  replace hS:=hS.frz 13 rfl
  replace hS:=hS.frz 15 rfl
  refine rl_n rfl rfl rfl rfl (yam rfl (am3 rfl rfl rfl) enter_23 ((yfS h hS.blt (hS.ro 11 rfl) (hS.ro 12 rfl) (hS.ro 13 rfl) (hS.ro 15 rfl)).mono ?_))
  rintro _ w13 ⟨r18,r19,r20,r21,r22,r23,r24,r25,Ar12,lr12,cr12,Ar13,lr13,cr13,Ar14,lr14,cr14,Ar15,lr15,cr15,rfl,hC,h⟩
  replace hS:=hS.callf hC (asc [(16,0),(17,1),(18,2),(19,3)]) (yf2 (ybe rfl (ybe rfl (ybe rfl (ybe rfl yhi))))) (ycc (by decide))
  clear hC
  refine ⟨_,rfl,?_⟩
  refine ⟨Stb.none _,?_⟩
  refine rl_q rfl rfl rfl (yac (v:=(Value.tuple #[(Value.agg #[(Value.slice Ar12 lr12 cr12),(Value.slice Ar13 lr13 cr13),(Value.slice Ar14 lr14 cr14),(Value.slice Ar15 lr15 cr15),(Value.int .i64 r21),(Value.int .i64 r22),(Value.int .i64 r23),(Value.int .i64 r24)]),(Value.int .i64 r25)])) rfl) ?_
  refine rl_q rfl rfl rfl (ybA (v:=(Value.agg #[(Value.slice Ar12 lr12 cr12),(Value.slice Ar13 lr13 cr13),(Value.slice Ar14 lr14 cr14),(Value.slice Ar15 lr15 cr15),(Value.int .i64 r21),(Value.int .i64 r22),(Value.int .i64 r23),(Value.int .i64 r24)])) rfl rfl) ?_
  refine rl_q rfl rfl rfl (ybA (v:=(Value.int .i64 r25)) rfl rfl) ?_
  refine rl_n rfl rfl rfl rfl (yaP ybw ?_)
  intro g6 w14 hN
  replace hS:Sep w no O w14 (stl _ 20 (Res.box 60 g6 [(Value.slice none 0 0),(Value.slice none 0 0),(Value.slice none 0 0),(Value.slice none 0 0),(Value.int .i64 0),(Value.int .i64 0),(Value.int .i64 0),(Value.int .i64 0)])):=hS.new 20 rfl hN
  clear hN
  refine ⟨Stb.none _,?_⟩
  refine ygw rfl rfl rfl (yas (b:=g6) (o:=0) (cells:=#[(Value.slice Ar12 lr12 cr12),(Value.slice Ar13 lr13 cr13),(Value.slice Ar14 lr14 cr14),(Value.slice Ar15 lr15 cr15),(Value.int .i64 r21),(Value.int .i64 r22),(Value.int .i64 r23),(Value.int .i64 r24)]) rfl rfl ybw rfl rfl (yan (hS.bx 20 rfl) (Nat.le_of_ble_eq_true rfl)) ?_)
  intro w15 e1
  replace hS:=hS.bstall 20 rfl [(Value.slice Ar12 lr12 cr12),(Value.slice Ar13 lr13 cr13),(Value.slice Ar14 lr14 cr14),(Value.slice Ar15 lr15 cr15),(Value.int .i64 r21),(Value.int .i64 r22),(Value.int .i64 r23),(Value.int .i64 r24)] (Nat.eq_of_beq_eq_true rfl) e1
  clear e1
  refine ⟨Stb.none _,?_⟩
  refine rl_q rfl rfl rfl (yaH (v:=(Value.int .i64 r25)) rfl) ?_
  refine yaa ?_
  refine yad ?_
  refine yau yav ?_
  refine rl_q rfl rfl rfl (yac (v:=(Value.int .i64 r11)) rfl) ?_
  refine rl_q rfl rfl rfl (yac (v:=(Value.int .i64 r17)) rfl) ?_
  obtain ⟨hi,h⟩:=h
  refine rl_q rfl rfl rfl (ybg rfl rfl hi) ?_
  refine rl_q rfl rfl rfl (yac (v:=(Value.int .i64 r25)) rfl) ?_
  obtain ⟨hi2,h⟩:=h
  refine rl_q rfl rfl rfl (ybg rfl rfl hi2) ?_
  refine rl_q rfl rfl rfl (v_eql rfl rfl) ?_
  refine rl_q rfl rfl rfl (yac (v:=(Value.bool (decide (((r11+r17)+r25)=0)))) rfl) ?_
  by_cases hp:((r11+r17)+r25)=0
  · replace h:=h.1 hp
    refine rl_q (yak rfl (yal rfl (congrArg Value.bool (decide_eq_true hp)))) rfl rfl (yab rfl underlying60 rfl yai) ?_
    refine rl_q (yak rfl (yal rfl (congrArg Value.bool (decide_eq_true hp)))) rfl rfl (yay rfl underlying3 rfl (Row.cell (hS.bx 8 rfl) (i:=4) rfl)) ?_
    refine rl_q (yak rfl (yal rfl (congrArg Value.bool (decide_eq_true hp)))) rfl rfl (v_eql rfl rfl) ?_
    refine rl_q rfl rfl rfl (yaq (v:=(Value.bool (decide (r7=7)))) (congrArg Value.bool (decide_eq_true hp)) rfl) ?_
    refine rl_q rfl rfl rfl (yac (v:=(Value.bool (decide (r7=7)))) rfl) ?_
    by_cases hp2:r7=7
    · replace h:=h.1 hp2
      refine rl_q (yak rfl (yal rfl (congrArg Value.bool (decide_eq_true hp2)))) rfl rfl (yab rfl underlying60 rfl yap) ?_
      refine rl_q (yak rfl (yal rfl (congrArg Value.bool (decide_eq_true hp2)))) rfl rfl (yab rfl underlying53 rfl yaL) ?_
      refine rl_q (yak rfl (yal rfl (congrArg Value.bool (decide_eq_true hp2)))) rfl rfl (yay rfl underlying33 rfl (Row.cell (hS.bx 20 rfl) (i:=1) rfl)) ?_
      refine rl_n (yak rfl (yal rfl (congrArg Value.bool (decide_eq_true hp2)))) rfl rfl rfl (yaI (l:=[(0,(Value.int .i64 0)),(1,(Value.int .i64 1)),(2,(Value.int .i64 0))]) (cells:=[(Value.int .i64 0),(Value.int .i64 1),(Value.int .i64 0)]) (bp3 rfl rfl rfl) underlying33 yai rfl rfl ?_)
      intro g7 w16 hN
      replace hS:=hS.litf (n:=3) 21 rfl (fI .i64) hN ([0,1,0]:List Int) rfl (by decide) rfl
      clear hN
      refine ⟨Stb.none _,?_⟩
      refine rl_n (yak rfl (yal rfl (congrArg Value.bool (decide_eq_true hp2)))) rfl rfl rfl (yam rfl (am2 rfl rfl) enter_24 ((yd4 h (yaO _) (hS.rdo 17 rfl) (hS.rdo 21 rfl)).mono ?_))
      rintro _ w17 ⟨r26,rfl,hC,h⟩
      replace hS:=hS.pur hC.pure
      clear hC
      refine ⟨_,rfl,?_⟩
      refine ⟨Stb.none _,?_⟩
      refine rl_q rfl rfl rfl (yaq (v:=(Value.bool (r26))) (congrArg Value.bool (decide_eq_true hp2)) rfl) ?_
      refine rl_q rfl rfl rfl (yaH (v:=(Value.bool (r26))) rfl) ?_
      refine yaa ?_
      exact yaf rfl rfl ⟨_,rfl,(hS.sel [] (by decide)),h⟩
    · replace h:=h.2 hp2
      refine rl_p (yag rfl (yal rfl (congrArg Value.bool (decide_eq_false hp2))) rfl) rfl ?_
      refine rl_p (yag rfl (yal rfl (congrArg Value.bool (decide_eq_false hp2))) rfl) rfl ?_
      refine rl_p (yag rfl (yal rfl (congrArg Value.bool (decide_eq_false hp2))) rfl) rfl ?_
      refine rl_p (yag rfl (yal rfl (congrArg Value.bool (decide_eq_false hp2))) rfl) rfl ?_
      refine rl_p (yag rfl (yal rfl (congrArg Value.bool (decide_eq_false hp2))) rfl) rfl ?_
      refine rl_q rfl rfl rfl (yaw (v:=(Value.bool (false))) (congrArg Value.bool (decide_eq_false hp2)) rfl) ?_
      refine rl_q rfl rfl rfl (yaH (v:=(Value.bool (false))) rfl) ?_
      refine yaa ?_
      exact yaf rfl rfl ⟨_,rfl,(hS.sel [] (by decide)),h⟩
  · replace h:=h.2 hp
    refine rl_p (yag rfl (yal rfl (congrArg Value.bool (decide_eq_false hp))) rfl) rfl ?_
    refine rl_p (yag rfl (yal rfl (congrArg Value.bool (decide_eq_false hp))) rfl) rfl ?_
    refine rl_p (yag rfl (yal rfl (congrArg Value.bool (decide_eq_false hp))) rfl) rfl ?_
    refine rl_q rfl rfl rfl (yaw (v:=(Value.bool (false))) (congrArg Value.bool (decide_eq_false hp)) rfl) ?_
    refine rl_q rfl rfl rfl (yac (v:=(Value.bool (false))) rfl) ?_
    refine rl_p (yag rfl (yal rfl rfl) rfl) rfl ?_
    refine rl_p (yag rfl (yal rfl rfl) rfl) rfl ?_
    refine rl_p (yag rfl (yal rfl rfl) rfl) rfl ?_
    refine rl_p (yag rfl (yal rfl rfl) rfl) rfl ?_
    refine rl_p (yag rfl (yal rfl rfl) rfl) rfl ?_
    refine rl_q rfl rfl rfl (yaw (v:=(Value.bool (false))) rfl rfl) ?_
    refine rl_q rfl rfl rfl (yaH (v:=(Value.bool (false))) rfl) ?_
    refine yaa ?_
    exact yaf rfl rfl ⟨_,rfl,(hS.sel [] (by decide)),h⟩
def ybv(d:Int)(d2:List (Int×Int×Int))(d3:List (List Int))(i:Int)(i2:List Int)(i3:List Int)(a:List Int)(R:Bool→Prop):Prop :=
(∃ J2:Prop,(J2→ycz d d2 d3 i i2 i3 (fun (r:List (Int×Int×(List (List (Int×(List (Int×Int))))))) (r2:List Int) (r3:List (List Int)) (r4:Int) =>
((r4=0 →
yd8 d d2 d3 i i2 i3 (fun (r5:List Int) (r6:List Int) (r7:Int) =>
ydp r r2 r3 a 2000 (fun (r8:List Int) (r9:List (List Int)) (r10:List (List Int)) (r11:Int) (r12:Int) (r13:Int) (r14:Int) (r15:Int) =>
(∃ J3:Prop,(J3→(∃ J4:Prop,(J4→(∃ I2:Nat→Int→Prop,(∃ m0,I2 m0 0)∧∀ (m2:Nat) (v:Int),I2 m2 v → 
((v<((r6.length:Nat):Int) →
((v=i →
(In64 (v+1) ∧
∃ m3,m3<m2∧I2 m3 (v+1))) ∧
(¬(v=i) →
((0≤v∧v<((r10.length:Nat):Int)) ∧
(((((gx r10 v.toNat).length:Nat):Int)=1 →
((0≤(0:Int)∧(0:Int)<(((gx r10 v.toNat).length:Nat):Int)) ∧
((0≤v∧v<((r6.length:Nat):Int)) ∧
(((gi (gx r10 v.toNat) (0:Int).toNat)=(gi r6 v.toNat) →
(In64 (v+1) ∧
∃ m4,m4<m2∧I2 m4 (v+1))) ∧
(¬((gi (gx r10 v.toNat) (0:Int).toNat)=(gi r6 v.toNat)) →
R false))))) ∧
(¬((((gx r10 v.toNat).length:Nat):Int)=1) →
R false)))))) ∧
(¬(v<((r6.length:Nat):Int)) →
yaG (fun (r16:Bool) =>
R r16))))) ∧
ybN r8 r5 (fun (r17:Bool) =>
((r17=true →
((((r10.length:Nat):Int)=((r6.length:Nat):Int) →
J4) ∧
(¬(((r10.length:Nat):Int)=((r6.length:Nat):Int)) →
R false))) ∧
(¬(r17=true) →
R false))))) ∧
∃ J5:Prop,(J5→((r7=12 →
yaG (fun (r18:Bool) =>
R r18)) ∧
(¬(r7=12) →
((r7=0 →
((r15=12 →
yaG (fun (r19:Bool) =>
R r19)) ∧
(¬(r15=12) →
R false))) ∧
(¬(r7=0) →
R false))))) ∧
((r7=0 →
((r15=0 →
J3) ∧
(¬(r15=0) →
J5))) ∧
(¬(r7=0) →
J5)))))) ∧
(¬(r4=0) →
((r4=12 →
yaG (fun (r20:Bool) =>
R r20)) ∧
(¬(r4=12) →
R false)))))) ∧
yfg d d2 d3 i2 (fun (r21:Bool) =>
((r21=true →
yf7 i3 (fun (r22:Bool) =>
((r22=true →
yd7 d d2 d3 i i2 i3 (fun (r23:Int) =>
((r23=0 →
yd6 i3 (fun (r24:Bool) =>
((r24=true →
ybE a (fun (r25:Bool) =>
((r25=true →
J2) ∧
(¬(r25=true) →
yaG (fun (r26:Bool) =>
R r26))))) ∧
(¬(r24=true) →
yaG (fun (r27:Bool) =>
R r27))))) ∧
(¬(r23=0) →
yaG (fun (r28:Bool) =>
R r28))))) ∧
(¬(r22=true) →
yaG (fun (r29:Bool) =>
R r29))))) ∧
(¬(r21=true) →
yaG (fun (r30:Bool) =>
R r30)))))
theorem ygY{O:Nat→Prop}{w:World}{d:Int}{d2:List (Int×Int×Int)}{d3:List (List Int)}{i:Int}{i2:List Int}{i3:List Int}{a:List Int}{Ad:Option Addr}{ld:Nat}{cd:Nat}{Ad2:Option Addr}{ld2:Nat}{cd2:Nat}{Ai:Option Addr}{li:Nat}{ci:Nat}{Ai2:Option Addr}{li2:Nat}{ci2:Nat}{Aa:Option Addr}{la:Nat}{ca:Nat}{R:Bool→Prop}(h:ybv d d2 d3 i i2 i3 a R)(hO:∀ k,O k→k<w.heap.size)(hA0:(FP.sl c3 Ad ld cd d2).P O w)(hA1:(FP.sl (cL cI) Ad2 ld2 cd2 d3).P O w)(hA2:(FP.sl cI Ai li ci i2).P O w)(hA3:(FP.sl cI Ai2 li2 ci2 i3).P O w)(hA4:(FP.sl cI Aa la ca a).P O w) :
    Calls Tryz.prog 4 #[(Value.agg #[(Value.int .i64 d),(Value.slice Ad ld cd),(Value.slice Ad2 ld2 cd2)]),(Value.agg #[(Value.int .i64 i),(Value.slice Ai li ci),(Value.slice Ai2 li2 ci2)]),(Value.slice Aa la ca)] w fun e w'=>∃ r31:Bool,e = .returned (Value.bool (r31))∧Sep w no O w' (rl [])∧R r31:=by
  unfold ybv at h
  have hS:Sep w no O w (rl [Res.ro (FP.sl c3 Ad ld cd d2),Res.ro (FP.sl (cL cI) Ad2 ld2 cd2 d3),Res.ro (FP.sl cI Ai li ci i2),Res.ro (FP.sl cI Ai2 li2 ci2 i3),Res.ro (FP.sl cI Aa la ca a)]):=Sep.startl hO [(FP.sl c3 Ad ld cd d2),(FP.sl (cL cI) Ad2 ld2 cd2 d3),(FP.sl cI Ai li ci i2),(FP.sl cI Ai2 li2 ci2 i3),(FP.sl cI Aa la ca a)] ⟨hA0,hA1,hA2,hA3,hA4,trivial⟩
  refine yao (l:=[(Value.agg #[(Value.int .i64 d),(Value.slice Ad ld cd),(Value.slice Ad2 ld2 cd2)]),(Value.agg #[(Value.int .i64 i),(Value.slice Ai li ci),(Value.slice Ai2 li2 ci2)]),(Value.slice Aa la ca)]) func4 rfl ntmps4 (Nat.le_of_ble_eq_true rfl) ?_
  refine yad ?_
  refine yau yav ?_
  refine rl_n rfl rfl rfl rfl (ybH (v:=(Value.agg #[(Value.int .i64 d),(Value.slice Ad ld cd),(Value.slice Ad2 ld2 cd2)])) rfl ?_)
  intro g w2 hN
  replace hS:Sep w no O w2 (stl _ 5 (Res.box 45 g [(Value.int .i64 d),(Value.slice Ad ld cd),(Value.slice Ad2 ld2 cd2)])):=hS.new 5 rfl hN
  clear hN
  refine ⟨Stb.none _,?_⟩
  refine rl_n rfl rfl rfl rfl (ybH (v:=(Value.agg #[(Value.int .i64 i),(Value.slice Ai li ci),(Value.slice Ai2 li2 ci2)])) rfl ?_)
  intro g2 w3 hN
  replace hS:Sep w no O w3 (stl _ 6 (Res.box 47 g2 [(Value.int .i64 i),(Value.slice Ai li ci),(Value.slice Ai2 li2 ci2)])):=hS.new 6 rfl hN
  clear hN
  refine ⟨Stb.none _,?_⟩
  refine rl_q rfl rfl rfl (yaH (v:=(Value.bool (false))) rfl) ?_
  refine yaa ?_
  refine yad ?_
  refine yad ?_
  obtain ⟨J2,hJ,h⟩:=h
  refine ycf (fun E ds w'=>J2∧ds=[]∧E 2=(Value.slice Aa la ca)∧E 3=(Value.pointer (some (⟨g,0,none⟩:Addr)))∧E 4=(Value.pointer (some (⟨g2,0,none⟩:Addr)))∧Sep w no O w' (rl [Res.ro (FP.sl cI Aa la ca a),Res.box 45 g [(Value.int .i64 d),(Value.slice Ad ld cd),(Value.slice Ad2 ld2 cd2)],Res.ro (FP.sl c3 Ad ld cd d2),Res.ro (FP.sl (cL cI) Ad2 ld2 cd2 d3),Res.box 47 g2 [(Value.int .i64 i),(Value.slice Ai li ci),(Value.slice Ai2 li2 ci2)],Res.ro (FP.sl cI Ai li ci i2),Res.ro (FP.sl cI Ai2 li2 ci2 i3)])) ?_ ?_
  · clear h hS
    rintro E ds w4 ⟨h,rfl,hE2,hE3,hE4,hS⟩
    replace h:=hJ h
    refine yad ?_
    refine yau yav ?_
    refine rl_q rfl rfl rfl (yat (vs:=[(Value.int .i64 d),(Value.slice Ad ld cd),(Value.slice Ad2 ld2 cd2)]) hE3 underlying45 rfl ydM ⟨Row.cell (hS.bx 1 rfl) (i:=0) rfl,Row.cell (hS.bx 1 rfl) (i:=1) rfl,Row.cell (hS.bx 1 rfl) (i:=2) rfl,trivial⟩) ?_
    refine rl_q rfl rfl rfl (yab hE4 underlying47 rfl yai) ?_
    refine rl_q rfl rfl rfl (yay rfl underlying3 rfl (Row.cell (hS.bx 4 rfl) (i:=0) rfl)) ?_
    refine rl_q rfl rfl rfl (yab hE4 underlying47 rfl yaL) ?_
    refine rl_q rfl rfl rfl (yay rfl underlying33 rfl (Row.cell (hS.bx 4 rfl) (i:=1) rfl)) ?_
    refine rl_q rfl rfl rfl (yab hE4 underlying47 rfl yh6) ?_
    refine rl_q rfl rfl rfl (yay rfl underlying34 rfl (Row.cell (hS.bx 4 rfl) (i:=2) rfl)) ?_
    refine rl_n rfl rfl rfl rfl (yam rfl (am4 rfl rfl rfl rfl) enter_21 ((ygJ h hS.blt (hS.ro 2 rfl) (hS.ro 3 rfl) (hS.ro 5 rfl) (hS.ro 6 rfl)).mono ?_))
    rintro _ w5 ⟨r,r2,r3,r4,Ar,lr,cr,Ar2,lr2,cr2,Ar3,lr3,cr3,rfl,hC,h⟩
    replace hS:=hS.call3 hC 7 8 9 rfl rfl rfl (by decide) (by decide) (by decide)
    clear hC
    refine ⟨_,rfl,?_⟩
    refine ⟨Stb.none _,?_⟩
    refine rl_q rfl rfl rfl (yac (v:=(Value.tuple #[(Value.agg #[(Value.slice Ar lr cr),(Value.slice Ar2 lr2 cr2),(Value.slice Ar3 lr3 cr3)]),(Value.int .i64 r4)])) rfl) ?_
    refine rl_q rfl rfl rfl (ybA (v:=(Value.agg #[(Value.slice Ar lr cr),(Value.slice Ar2 lr2 cr2),(Value.slice Ar3 lr3 cr3)])) rfl rfl) ?_
    refine rl_q rfl rfl rfl (ybA (v:=(Value.int .i64 r4)) rfl rfl) ?_
    refine rl_n rfl rfl rfl rfl (yaP yap ?_)
    intro g3 w6 hN
    replace hS:Sep w no O w6 (stl _ 10 (Res.box 53 g3 [(Value.slice none 0 0),(Value.slice none 0 0),(Value.slice none 0 0)])):=hS.new 10 rfl hN
    clear hN
    refine ⟨Stb.none _,?_⟩
    refine ygw rfl rfl rfl (yas (b:=g3) (o:=0) (cells:=#[(Value.slice Ar lr cr),(Value.slice Ar2 lr2 cr2),(Value.slice Ar3 lr3 cr3)]) rfl rfl yap rfl rfl (yan (hS.bx 10 rfl) (Nat.le_of_ble_eq_true rfl)) ?_)
    intro w7 e1
    replace hS:=hS.bstn 10 rfl 0 [(Value.slice Ar lr cr),(Value.slice Ar2 lr2 cr2),(Value.slice Ar3 lr3 cr3)] e1
    clear e1
    refine ⟨Stb.none _,?_⟩
    refine rl_q rfl rfl rfl (yaH (v:=(Value.int .i64 r4)) rfl) ?_
    refine yaa ?_
    refine yad ?_
    refine yad ?_
    refine yau yav ?_
    refine rl_q rfl rfl rfl (yac (v:=(Value.int .i64 r4)) rfl) ?_
    refine rl_q rfl rfl rfl (yih rfl rfl) ?_
    refine yaa ?_
    by_cases hp:r4=0
    · replace h:=h.1 hp
      refine yaA (congrArg Value.bool (congrArg Bool.not (decide_eq_true hp))) ?_
      refine yae ?_
      refine yad ?_
      refine yau yav ?_
      refine rl_q rfl rfl rfl (yat (vs:=[(Value.int .i64 d),(Value.slice Ad ld cd),(Value.slice Ad2 ld2 cd2)]) hE3 underlying45 rfl ydM ⟨Row.cell (hS.bx 1 rfl) (i:=0) rfl,Row.cell (hS.bx 1 rfl) (i:=1) rfl,Row.cell (hS.bx 1 rfl) (i:=2) rfl,trivial⟩) ?_
      refine rl_q rfl rfl rfl (yab hE4 underlying47 rfl yai) ?_
      refine rl_q rfl rfl rfl (yay rfl underlying3 rfl (Row.cell (hS.bx 4 rfl) (i:=0) rfl)) ?_
      refine rl_q rfl rfl rfl (yab hE4 underlying47 rfl yaL) ?_
      refine rl_q rfl rfl rfl (yay rfl underlying33 rfl (Row.cell (hS.bx 4 rfl) (i:=1) rfl)) ?_
      refine rl_q rfl rfl rfl (yab hE4 underlying47 rfl yh6) ?_
      refine rl_q rfl rfl rfl (yay rfl underlying34 rfl (Row.cell (hS.bx 4 rfl) (i:=2) rfl)) ?_
      refine rl_n rfl rfl rfl rfl (yam rfl (am4 rfl rfl rfl rfl) enter_22 ((pok_rotor_All h (yaO _) (hS.rdr 2 rfl) (hS.rdr 3 rfl) (hS.rdr 5 rfl) (hS.rdr 6 rfl)).mono ?_))
      rintro _ w8 ⟨r5,r6,r7,Ar4,lr4,cr4,Ar5,lr5,cr5,rfl,hC,h⟩
      replace hS:=hS.call2 (hC.widen (yfd (yb0 (fI .i64) _ _ _ _ _) (yfd (yb0 (fI .i64) _ _ _ _ _) yfs)) hS.blt) 11 0 12 1 rfl rfl (by decide) (by decide)
      clear hC
      refine ⟨_,rfl,?_⟩
      refine ⟨Stb.none _,?_⟩
      refine rl_q rfl rfl rfl (yac (v:=(Value.tuple #[(Value.slice Ar4 lr4 cr4),(Value.slice Ar5 lr5 cr5),(Value.int .i64 r7)])) rfl) ?_
      refine rl_q rfl rfl rfl (ybA (v:=(Value.slice Ar4 lr4 cr4)) rfl rfl) ?_
      refine rl_q rfl rfl rfl (ybA (v:=(Value.slice Ar5 lr5 cr5)) rfl rfl) ?_
      refine rl_q rfl rfl rfl (ybA (v:=(Value.int .i64 r7)) rfl rfl) ?_
      refine rl_q rfl rfl rfl (yaH (v:=(Value.slice Ar4 lr4 cr4)) rfl) ?_
      refine rl_q rfl rfl rfl (yaH (v:=(Value.slice Ar5 lr5 cr5)) rfl) ?_
      refine rl_q rfl rfl rfl (yaH (v:=(Value.int .i64 r7)) rfl) ?_
      refine yaa ?_
      refine yad ?_
      refine yau yav ?_
      refine rl_q rfl rfl rfl (yat (vs:=[(Value.slice Ar lr cr),(Value.slice Ar2 lr2 cr2),(Value.slice Ar3 lr3 cr3)]) rfl underlying53 rfl yap ⟨Row.cell (hS.bx 10 rfl) (i:=0) rfl,Row.cell (hS.bx 10 rfl) (i:=1) rfl,Row.cell (hS.bx 10 rfl) (i:=2) rfl,trivial⟩) ?_
      refine rl_q rfl rfl rfl (yac (v:=(Value.slice Aa la ca)) hE2) ?_
      replace hS:=hS.frz 7 rfl
      replace hS:=hS.frz 8 rfl
      replace hS:=hS.frz 9 rfl
      refine rl_n rfl rfl rfl rfl (yam rfl (am3 rfl rfl rfl) enter_23 ((yfS h hS.blt (hS.ro 7 rfl) (hS.ro 8 rfl) (hS.ro 9 rfl) (hS.ro 0 rfl)).mono ?_))
      rintro _ w9 ⟨r8,r9,r10,r11,r12,r13,r14,r15,Ar6,lr6,cr6,Ar7,lr7,cr7,Ar8,lr8,cr8,Ar9,lr9,cr9,rfl,hC,h⟩
      replace hS:=hS.callf hC (asc [(13,0),(14,1),(15,2),(16,3)]) (yf2 (ybe rfl (ybe rfl (ybe rfl (ybe rfl yhi))))) (ycc (by decide))
      clear hC
      refine ⟨_,rfl,?_⟩
      refine ⟨Stb.none _,?_⟩
      refine rl_q rfl rfl rfl (yac (v:=(Value.tuple #[(Value.agg #[(Value.slice Ar6 lr6 cr6),(Value.slice Ar7 lr7 cr7),(Value.slice Ar8 lr8 cr8),(Value.slice Ar9 lr9 cr9),(Value.int .i64 r11),(Value.int .i64 r12),(Value.int .i64 r13),(Value.int .i64 r14)]),(Value.int .i64 r15)])) rfl) ?_
      refine rl_q rfl rfl rfl (ybA (v:=(Value.agg #[(Value.slice Ar6 lr6 cr6),(Value.slice Ar7 lr7 cr7),(Value.slice Ar8 lr8 cr8),(Value.slice Ar9 lr9 cr9),(Value.int .i64 r11),(Value.int .i64 r12),(Value.int .i64 r13),(Value.int .i64 r14)])) rfl rfl) ?_
      refine rl_q rfl rfl rfl (ybA (v:=(Value.int .i64 r15)) rfl rfl) ?_
      refine rl_n rfl rfl rfl rfl (yaP ybw ?_)
      intro g4 w10 hN
      replace hS:Sep w no O w10 (stl _ 17 (Res.box 60 g4 [(Value.slice none 0 0),(Value.slice none 0 0),(Value.slice none 0 0),(Value.slice none 0 0),(Value.int .i64 0),(Value.int .i64 0),(Value.int .i64 0),(Value.int .i64 0)])):=hS.new 17 rfl hN
      clear hN
      refine ⟨Stb.none _,?_⟩
      refine ygw rfl rfl rfl (yas (b:=g4) (o:=0) (cells:=#[(Value.slice Ar6 lr6 cr6),(Value.slice Ar7 lr7 cr7),(Value.slice Ar8 lr8 cr8),(Value.slice Ar9 lr9 cr9),(Value.int .i64 r11),(Value.int .i64 r12),(Value.int .i64 r13),(Value.int .i64 r14)]) rfl rfl ybw rfl rfl (yan (hS.bx 17 rfl) (Nat.le_of_ble_eq_true rfl)) ?_)
      intro w11 e1
      replace hS:=hS.bstall 17 rfl [(Value.slice Ar6 lr6 cr6),(Value.slice Ar7 lr7 cr7),(Value.slice Ar8 lr8 cr8),(Value.slice Ar9 lr9 cr9),(Value.int .i64 r11),(Value.int .i64 r12),(Value.int .i64 r13),(Value.int .i64 r14)] (Nat.eq_of_beq_eq_true rfl) e1
      clear e1
      refine ⟨Stb.none _,?_⟩
      refine rl_q rfl rfl rfl (yaH (v:=(Value.int .i64 r15)) rfl) ?_
      refine yaa ?_
      refine yad ?_
      refine yad ?_
      obtain ⟨J3,hJ,h⟩:=h
      refine ycf (fun E ds w'=>J3∧ds=[]∧E 4=(Value.pointer (some (⟨g2,0,none⟩:Addr)))∧E 9=(Value.slice Ar4 lr4 cr4)∧E 10=(Value.slice Ar5 lr5 cr5)∧E 12=(Value.pointer (some (⟨g4,0,none⟩:Addr)))∧Sep w no O w' (rl [Res.box 47 g2 [(Value.int .i64 i),(Value.slice Ai li ci),(Value.slice Ai2 li2 ci2)],Res.ro (FP.sl cI Ai li ci i2),Res.ro (FP.sl cI Ai2 li2 ci2 i3),Res.own cI 3 Ar4 lr4 cr4 r5,Res.own cI 3 Ar5 lr5 cr5 r6,Res.box 60 g4 [(Value.slice Ar6 lr6 cr6),(Value.slice Ar7 lr7 cr7),(Value.slice Ar8 lr8 cr8),(Value.slice Ar9 lr9 cr9),(Value.int .i64 r11),(Value.int .i64 r12),(Value.int .i64 r13),(Value.int .i64 r14)],Res.ro FP.tt,Res.own cI 3 Ar7 lr7 cr7 r8,Res.own (cL cI) 33 Ar8 lr8 cr8 r9,Res.own (cL cI) 33 Ar9 lr9 cr9 r10])) ?_ ?_
      · clear h hS
        rintro E ds w12 ⟨h,rfl,hE4,hE9,hE10,hE12,hS⟩
        replace h:=hJ h
        refine yad ?_
        refine yad ?_
        obtain ⟨J4,hJ,h⟩:=h
        refine ycf (fun E ds w'=>J4∧ds=[]∧E 4=(Value.pointer (some (⟨g2,0,none⟩:Addr)))∧E 10=(Value.slice Ar5 lr5 cr5)∧E 12=(Value.pointer (some (⟨g4,0,none⟩:Addr)))∧Sep w no O w' (rl [Res.box 47 g2 [(Value.int .i64 i),(Value.slice Ai li ci),(Value.slice Ai2 li2 ci2)],Res.ro (FP.sl cI Ai li ci i2),Res.ro (FP.sl cI Ai2 li2 ci2 i3),Res.own cI 3 Ar5 lr5 cr5 r6,Res.box 60 g4 [(Value.slice Ar6 lr6 cr6),(Value.slice Ar7 lr7 cr7),(Value.slice Ar8 lr8 cr8),(Value.slice Ar9 lr9 cr9),(Value.int .i64 r11),(Value.int .i64 r12),(Value.int .i64 r13),(Value.int .i64 r14)],Res.ro FP.tt,Res.own cI 3 Ar7 lr7 cr7 r8,Res.own (cL cI) 33 Ar8 lr8 cr8 r9,Res.own (cL cI) 33 Ar9 lr9 cr9 r10])) ?_ ?_
        · clear h hS
          rintro E ds w13 ⟨h,rfl,hE4,hE10,hE12,hS⟩
          replace h:=hJ h
          refine yad ?_
          refine yad ?_
          refine yau yav ?_
          refine rl_q rfl rfl rfl (yac (v:=(Value.slice Ar5 lr5 cr5)) hE10) ?_
          refine rl_q rfl rfl rfl (yaF (n:=r6.length) rfl underlying56 (yaD (hS.rdo 3 rfl))) ?_
          refine rl_q rfl rfl rfl (yac (v:=(Value.int .i64 0)) rfl) ?_
          refine yaa ?_
          refine yah ?_
          obtain ⟨I2,⟨m0,h0⟩,hr⟩:=h
          refine yaE (fun m E ds w'=>∃ v:Int,I2 m v∧ds=[]∧E 4=(Value.pointer (some (⟨g2,0,none⟩:Addr)))∧E 10=(Value.slice Ar5 lr5 cr5)∧E 12=(Value.pointer (some (⟨g4,0,none⟩:Addr)))∧E 119=(Value.int .i64 ((r6.length:Nat):Int))∧E 120=(Value.int .i64 v)∧Sep w no O w' (rl [Res.box 47 g2 [(Value.int .i64 i),(Value.slice Ai li ci),(Value.slice Ai2 li2 ci2)],Res.ro (FP.sl cI Ai li ci i2),Res.ro (FP.sl cI Ai2 li2 ci2 i3),Res.own cI 3 Ar5 lr5 cr5 r6,Res.box 60 g4 [(Value.slice Ar6 lr6 cr6),(Value.slice Ar7 lr7 cr7),(Value.slice Ar8 lr8 cr8),(Value.slice Ar9 lr9 cr9),(Value.int .i64 r11),(Value.int .i64 r12),(Value.int .i64 r13),(Value.int .i64 r14)],Res.ro FP.tt,Res.own cI 3 Ar7 lr7 cr7 r8,Res.own (cL cI) 33 Ar8 lr8 cr8 r9,Res.own (cL cI) 33 Ar9 lr9 cr9 r10])) m0 ⟨_,h0,rfl,hE4,hE10,hE12,rfl,rfl,(hS.sel [0,1,2,3,4,5,6,7,8] (by decide))⟩ ?_
          clear h0 hS
          rintro m2 E ds w14 ⟨v,h,rfl,hE4,hE10,hE12,hE119,hE120,hS⟩ again
          replace h:=hr m2 v h
          clear hr
          refine yad ?_
          refine yau yav ?_
          refine rl_q rfl rfl rfl (ybD hE120 hE119) ?_
          refine yaa ?_
          refine yad ?_
          by_cases hp2:v<((r6.length:Nat):Int)
          · replace h:=h.1 hp2
            refine yar (congrArg Value.bool (decide_eq_true hp2)) ?_
            refine yae ?_
            refine yad ?_
            refine yah ?_
            refine yad ?_
            refine yau yav ?_
            refine rl_q rfl rfl rfl (yac (v:=(Value.int .i64 v)) hE120) ?_
            refine rl_q rfl rfl rfl (yaH (v:=(Value.int .i64 v)) rfl) ?_
            refine yaa ?_
            refine yad ?_
            refine ybi [0,1,2,3,4,5,6,7,8,9,10,11,12,13,14,15,16,17,18,19,20,21,22,23,24,25,26] st0 yav (by kernel_rfl) (by kernel_rfl) ?_
            replace hS:=hS.drew
            refine rp_q rfl rfl rfl (yac (v:=(Value.int .i64 v)) rfl) ?_
            refine rp_q rfl rfl rfl (yab hE4 underlying47 rfl yai) ?_
            refine rp_q rfl rfl rfl (yay rfl underlying3 rfl (Row.cell (hS.bx 0 rfl) (i:=0) rfl)) ?_
            refine rp_q rfl rfl rfl (yih rfl rfl) ?_
            refine rp_q rfl rfl rfl (yac (v:=(Value.bool (!(decide (v=i))))) rfl) ?_
            by_cases hp3:v=i
            · replace h:=h.1 hp3
              refine rp_p (yag rfl (yal rfl (congrArg Value.bool (congrArg Bool.not (decide_eq_true hp3)))) rfl) rfl ?_
              refine rp_p (yag rfl (yal rfl (congrArg Value.bool (congrArg Bool.not (decide_eq_true hp3)))) rfl) rfl ?_
              refine rp_p (yag rfl (yal rfl (congrArg Value.bool (congrArg Bool.not (decide_eq_true hp3)))) rfl) rfl ?_
              refine rp_p (yag rfl (yal rfl (congrArg Value.bool (congrArg Bool.not (decide_eq_true hp3)))) rfl) rfl ?_
              refine rp_p (yag rfl (yal rfl (congrArg Value.bool (congrArg Bool.not (decide_eq_true hp3)))) rfl) rfl ?_
              refine rp_p (yag rfl (yal rfl (congrArg Value.bool (congrArg Bool.not (decide_eq_true hp3)))) rfl) rfl ?_
              refine rp_p (yag rfl (yal rfl (congrArg Value.bool (congrArg Bool.not (decide_eq_true hp3)))) rfl) rfl ?_
              refine rp_p (yag rfl (yal rfl (congrArg Value.bool (congrArg Bool.not (decide_eq_true hp3)))) rfl) rfl ?_
              refine rp_p (yaN rfl rfl) rfl ?_
              refine rp_p (yaN rfl rfl) rfl ?_
              refine rp_p (yaN rfl rfl) rfl ?_
              refine rp_p (yaN rfl rfl) rfl ?_
              refine rp_p (yaN rfl rfl) rfl ?_
              refine rp_p (yaN rfl rfl) rfl ?_
              refine rp_p (yaN rfl rfl) rfl ?_
              refine rp_p (yaN rfl rfl) rfl ?_
              refine rp_p (yaN rfl rfl) rfl ?_
              refine rp_p (yaN rfl rfl) rfl ?_
              refine rp_p (yaN rfl rfl) rfl ?_
              refine rp_p (yaN rfl rfl) rfl ?_
              refine rp_p (yag rfl (yal rfl (congrArg Value.bool (congrArg Bool.not (decide_eq_true hp3)))) rfl) rfl ?_
              refine rp_q rfl rfl rfl (yaw (v:=(Value.bool (false))) (congrArg Value.bool (congrArg Bool.not (decide_eq_true hp3))) rfl) ?_
              refine ybl ?_
              refine yaA rfl ?_
              refine yae ?_
              refine yaj ?_
              refine yau yav ?_
              obtain ⟨hi,h⟩:=h
              refine rl_q rfl rfl rfl (ybg hE120 rfl hi) ?_
              refine rl_q rfl rfl rfl (yac (v:=(Value.int .i64 (v+1))) rfl) ?_
              refine yaa ?_
              obtain ⟨mq,hlt,h⟩:=h
              exact again mq _ _ _ ⟨_,h,rfl,hE4,hE10,hE12,hE119,rfl,(hS.sel [0,1,2,3,4,5,6,7,8] (by decide))⟩ hlt
            · replace h:=h.2 hp3
              refine rp_q (yak rfl (yal rfl (congrArg Value.bool (congrArg Bool.not (decide_eq_false hp3))))) rfl rfl (yab hE12 underlying60 rfl ybf) ?_
              refine rp_q (yak rfl (yal rfl (congrArg Value.bool (congrArg Bool.not (decide_eq_false hp3))))) rfl rfl (yay rfl underlying43 rfl (Row.cell (hS.bx 4 rfl) (i:=3) rfl)) ?_
              refine rp_q (yak rfl (yal rfl (congrArg Value.bool (congrArg Bool.not (decide_eq_false hp3))))) rfl rfl (yac (v:=(Value.int .i64 v)) rfl) ?_
              obtain ⟨hx,h⟩:=h
              refine rp_q (yak rfl (yal rfl (congrArg Value.bool (congrArg Bool.not (decide_eq_false hp3))))) rfl rfl (ya4 rfl rfl underlying43 yaL (yaK (hS.rdo 8 rfl) hx)) ?_
              obtain ⟨A,l,c,hc,hq⟩:=hS.elo 8 rfl hx 9 rfl
              replace hS:=hq
              clear hq
              refine rp_q (yak rfl (yal rfl (congrArg Value.bool (congrArg Bool.not (decide_eq_false hp3))))) rfl rfl (yay (v:=(Value.slice A l c)) rfl underlying33 rfl hc) ?_
              refine rp_q (yak rfl (yal rfl (congrArg Value.bool (congrArg Bool.not (decide_eq_false hp3))))) rfl rfl (yaF (n:=(gx r10 v.toNat).length) rfl underlying33 (yaD (hS.rdr 9 rfl))) ?_
              refine rp_q (yak rfl (yal rfl (congrArg Value.bool (congrArg Bool.not (decide_eq_false hp3))))) rfl rfl (yih rfl rfl) ?_
              refine rp_q (yak rfl (yal rfl (congrArg Value.bool (congrArg Bool.not (decide_eq_false hp3))))) rfl rfl (yac (v:=(Value.bool (!(decide ((((gx r10 v.toNat).length:Nat):Int)=1))))) rfl) ?_
              by_cases hp4:(((gx r10 v.toNat).length:Nat):Int)=1
              · replace h:=h.1 hp4
                refine rp_q (yak rfl (yal rfl (congrArg Value.bool (congrArg Bool.not (decide_eq_true hp4))))) rfl rfl (yab hE12 underlying60 rfl ybf) ?_
                refine rp_q (yak rfl (yal rfl (congrArg Value.bool (congrArg Bool.not (decide_eq_true hp4))))) rfl rfl (yay rfl underlying43 rfl (Row.cell (hS.bx 4 rfl) (i:=3) rfl)) ?_
                refine rp_q (yak rfl (yal rfl (congrArg Value.bool (congrArg Bool.not (decide_eq_true hp4))))) rfl rfl (yac (v:=(Value.int .i64 v)) rfl) ?_
                refine rp_q (yak rfl (yal rfl (congrArg Value.bool (congrArg Bool.not (decide_eq_true hp4))))) rfl rfl (ya4 rfl rfl underlying43 yaL (yaK (hS.rdo 8 rfl) hx)) ?_
                obtain ⟨A2,l2,c4,hc2,hq⟩:=hS.elo 8 rfl hx 10 rfl
                replace hS:=hq
                clear hq
                refine rp_q (yak rfl (yal rfl (congrArg Value.bool (congrArg Bool.not (decide_eq_true hp4))))) rfl rfl (yay (v:=(Value.slice A2 l2 c4)) rfl underlying33 rfl hc2) ?_
                obtain ⟨hx2,h⟩:=h
                refine rp_q (yak rfl (yal rfl (congrArg Value.bool (congrArg Bool.not (decide_eq_true hp4))))) rfl rfl (ya4 rfl rfl underlying33 yai (yaK (hS.rdr 10 rfl) hx2)) ?_
                refine rp_q (yak rfl (yal rfl (congrArg Value.bool (congrArg Bool.not (decide_eq_true hp4))))) rfl rfl (yay (v:=(Value.int .i64 (gi (gx r10 v.toNat) (0:Int).toNat))) rfl underlying3 rfl (rd_1 (hS.rdr 10 rfl) hx2 (fun q=>yaQ q) rfl)) ?_
                refine rp_q (yak rfl (yal rfl (congrArg Value.bool (congrArg Bool.not (decide_eq_true hp4))))) rfl rfl (yac (v:=(Value.slice Ar5 lr5 cr5)) hE10) ?_
                refine rp_q (yak rfl (yal rfl (congrArg Value.bool (congrArg Bool.not (decide_eq_true hp4))))) rfl rfl (yac (v:=(Value.int .i64 v)) rfl) ?_
                obtain ⟨hx3,h⟩:=h
                refine rp_q (yak rfl (yal rfl (congrArg Value.bool (congrArg Bool.not (decide_eq_true hp4))))) rfl rfl (ya4 rfl rfl underlying56 yai (yaK (hS.rdo 3 rfl) hx3)) ?_
                refine rp_q (yak rfl (yal rfl (congrArg Value.bool (congrArg Bool.not (decide_eq_true hp4))))) rfl rfl (yay (v:=(Value.int .i64 (gi r6 v.toNat))) rfl underlying3 rfl (rd_1 (hS.rdo 3 rfl) hx3 (fun q=>yaQ q) rfl)) ?_
                refine rp_q (yak rfl (yal rfl (congrArg Value.bool (congrArg Bool.not (decide_eq_true hp4))))) rfl rfl (yih rfl rfl) ?_
                refine rp_q (yak rfl (yal rfl (congrArg Value.bool (congrArg Bool.not (decide_eq_false hp3))))) rfl rfl (yaw (v:=(Value.bool (!(decide ((gi (gx r10 v.toNat) (0:Int).toNat)=(gi r6 v.toNat)))))) (congrArg Value.bool (congrArg Bool.not (decide_eq_true hp4))) rfl) ?_
                refine rp_q rfl rfl rfl (yaq (v:=(Value.bool (!(decide ((gi (gx r10 v.toNat) (0:Int).toNat)=(gi r6 v.toNat)))))) (congrArg Value.bool (congrArg Bool.not (decide_eq_false hp3))) rfl) ?_
                refine ybl ?_
                by_cases hp5:(gi (gx r10 v.toNat) (0:Int).toNat)=(gi r6 v.toNat)
                · replace h:=h.1 hp5
                  refine yaA (congrArg Value.bool (congrArg Bool.not (decide_eq_true hp5))) ?_
                  refine yae ?_
                  refine yaj ?_
                  refine yau yav ?_
                  obtain ⟨hi2,h⟩:=h
                  refine rl_q rfl rfl rfl (ybg hE120 rfl hi2) ?_
                  refine rl_q rfl rfl rfl (yac (v:=(Value.int .i64 (v+1))) rfl) ?_
                  refine yaa ?_
                  obtain ⟨mq,hlt,h⟩:=h
                  exact again mq _ _ _ ⟨_,h,rfl,hE4,hE10,hE12,hE119,rfl,(hS.sel [0,1,2,3,4,5,6,7,8] (by decide))⟩ hlt
                · replace h:=h.2 hp5
                  refine yar (congrArg Value.bool (congrArg Bool.not (decide_eq_false hp5))) ?_
                  refine yad ?_
                  refine yau yav ?_
                  refine rl_q rfl rfl rfl (yaH (v:=(Value.bool (false))) rfl) ?_
                  refine yaa ?_
                  exact yaf rfl rfl ⟨_,rfl,(hS.sel [] (by decide)),h⟩
              · replace h:=h.2 hp4
                refine rp_p (yag rfl (yal rfl (congrArg Value.bool (congrArg Bool.not (decide_eq_false hp4)))) rfl) rfl ?_
                refine rp_p (yag rfl (yal rfl (congrArg Value.bool (congrArg Bool.not (decide_eq_false hp4)))) rfl) rfl ?_
                refine rp_p (yag rfl (yal rfl (congrArg Value.bool (congrArg Bool.not (decide_eq_false hp4)))) rfl) rfl ?_
                refine rp_p (yag rfl (yal rfl (congrArg Value.bool (congrArg Bool.not (decide_eq_false hp4)))) rfl) rfl ?_
                refine rp_p (yag rfl (yal rfl (congrArg Value.bool (congrArg Bool.not (decide_eq_false hp4)))) rfl) rfl ?_
                refine rp_p (yag rfl (yal rfl (congrArg Value.bool (congrArg Bool.not (decide_eq_false hp4)))) rfl) rfl ?_
                refine rp_p (yag rfl (yal rfl (congrArg Value.bool (congrArg Bool.not (decide_eq_false hp4)))) rfl) rfl ?_
                refine rp_p (yag rfl (yal rfl (congrArg Value.bool (congrArg Bool.not (decide_eq_false hp4)))) rfl) rfl ?_
                refine rp_p (yag rfl (yal rfl (congrArg Value.bool (congrArg Bool.not (decide_eq_false hp4)))) rfl) rfl ?_
                refine rp_p (yag rfl (yal rfl (congrArg Value.bool (congrArg Bool.not (decide_eq_false hp4)))) rfl) rfl ?_
                refine rp_p (yag rfl (yal rfl (congrArg Value.bool (congrArg Bool.not (decide_eq_false hp4)))) rfl) rfl ?_
                refine rp_p (yag rfl (yal rfl (congrArg Value.bool (congrArg Bool.not (decide_eq_false hp4)))) rfl) rfl ?_
                refine rp_q (yak rfl (yal rfl (congrArg Value.bool (congrArg Bool.not (decide_eq_false hp3))))) rfl rfl (yaq (v:=(Value.bool (true))) (congrArg Value.bool (congrArg Bool.not (decide_eq_false hp4))) rfl) ?_
                refine rp_q rfl rfl rfl (yaq (v:=(Value.bool (true))) (congrArg Value.bool (congrArg Bool.not (decide_eq_false hp3))) rfl) ?_
                refine ybl ?_
                refine yar rfl ?_
                refine yad ?_
                refine yau yav ?_
                refine rl_q rfl rfl rfl (yaH (v:=(Value.bool (false))) rfl) ?_
                refine yaa ?_
                exact yaf rfl rfl ⟨_,rfl,(hS.sel [] (by decide)),h⟩
          · replace h:=h.2 hp2
            refine yaA (congrArg Value.bool (decide_eq_false hp2)) ?_
            refine yaC rfl ?_
            refine yad ?_
            refine yau yav ?_
            refine rl_n rfl rfl rfl rfl (yam rfl (am0) yep ((yaV h (yaO _)).mono ?_))
            rintro _ w15 ⟨r16,rfl,hC,h⟩
            replace hS:=hS.pur hC.pure
            clear hC
            refine ⟨_,rfl,?_⟩
            refine ⟨Stb.none _,?_⟩
            refine rl_q rfl rfl rfl (yaH (v:=(Value.bool (r16))) rfl) ?_
            refine yaa ?_
            exact yaf rfl rfl ⟨_,rfl,(hS.sel [] (by decide)),h⟩
        clear hJ
        intro j3
        refine yau yav ?_
        refine rl_q rfl rfl rfl (yab hE12 underlying60 rfl yap) ?_
        refine rl_q rfl rfl rfl (yab rfl underlying53 rfl yaL) ?_
        refine rl_q rfl rfl rfl (yay rfl underlying33 rfl (Row.cell (hS.bx 5 rfl) (i:=1) rfl)) ?_
        refine rl_q rfl rfl rfl (yac (v:=(Value.slice Ar4 lr4 cr4)) hE9) ?_
        refine rl_n rfl rfl rfl rfl (yam rfl (am2 rfl rfl) enter_24 ((yd4 h (yaO _) (hS.rdo 7 rfl) (hS.rdo 3 rfl)).mono ?_))
        rintro _ w16 ⟨r17,rfl,hC,h⟩
        replace hS:=hS.pur hC.pure
        clear hC
        refine ⟨_,rfl,?_⟩
        refine ⟨Stb.none _,?_⟩
        refine rl_q rfl rfl rfl (ydX rfl) ?_
        refine rl_q rfl rfl rfl (yac (v:=(Value.bool (!(r17)))) rfl) ?_
        by_cases hp6:r17=true
        · replace h:=h.1 hp6
          refine rl_q (yak rfl (yal rfl (congrArg Value.bool (congrArg Bool.not hp6)))) rfl rfl (yab hE12 underlying60 rfl ybf) ?_
          refine rl_q (yak rfl (yal rfl (congrArg Value.bool (congrArg Bool.not hp6)))) rfl rfl (yay rfl underlying43 rfl (Row.cell (hS.bx 5 rfl) (i:=3) rfl)) ?_
          refine rl_q (yak rfl (yal rfl (congrArg Value.bool (congrArg Bool.not hp6)))) rfl rfl (yaF (n:=r10.length) rfl underlying43 (yaD (hS.rdo 9 rfl))) ?_
          refine rl_q (yak rfl (yal rfl (congrArg Value.bool (congrArg Bool.not hp6)))) rfl rfl (yac (v:=(Value.slice Ar5 lr5 cr5)) hE10) ?_
          refine rl_q (yak rfl (yal rfl (congrArg Value.bool (congrArg Bool.not hp6)))) rfl rfl (yaF (n:=r6.length) rfl underlying56 (yaD (hS.rdo 4 rfl))) ?_
          refine rl_q (yak rfl (yal rfl (congrArg Value.bool (congrArg Bool.not hp6)))) rfl rfl (yih rfl rfl) ?_
          refine rl_q rfl rfl rfl (yaw (v:=(Value.bool (!(decide (((r10.length:Nat):Int)=((r6.length:Nat):Int)))))) (congrArg Value.bool (congrArg Bool.not hp6)) rfl) ?_
          refine yaa ?_
          by_cases hp7:((r10.length:Nat):Int)=((r6.length:Nat):Int)
          · replace h:=h.1 hp7
            refine yaA (congrArg Value.bool (congrArg Bool.not (decide_eq_true hp7))) ?_
            refine yae ?_
            exact j3 _ _ _ ⟨h,rfl,hE4,hE10,hE12,(hS.sel [0,1,2,4,5,6,7,8,9] (by decide))⟩
          · replace h:=h.2 hp7
            refine yar (congrArg Value.bool (congrArg Bool.not (decide_eq_false hp7))) ?_
            refine yad ?_
            refine yau yav ?_
            refine rl_q rfl rfl rfl (yaH (v:=(Value.bool (false))) rfl) ?_
            refine yaa ?_
            exact yaf rfl rfl ⟨_,rfl,(hS.sel [] (by decide)),h⟩
        · replace h:=h.2 hp6
          refine rl_p (yag rfl (yal rfl (congrArg Value.bool (congrArg Bool.not (Bool.eq_false_iff.2 hp6)))) rfl) rfl ?_
          refine rl_p (yag rfl (yal rfl (congrArg Value.bool (congrArg Bool.not (Bool.eq_false_iff.2 hp6)))) rfl) rfl ?_
          refine rl_p (yag rfl (yal rfl (congrArg Value.bool (congrArg Bool.not (Bool.eq_false_iff.2 hp6)))) rfl) rfl ?_
          refine rl_p (yag rfl (yal rfl (congrArg Value.bool (congrArg Bool.not (Bool.eq_false_iff.2 hp6)))) rfl) rfl ?_
          refine rl_p (yag rfl (yal rfl (congrArg Value.bool (congrArg Bool.not (Bool.eq_false_iff.2 hp6)))) rfl) rfl ?_
          refine rl_p (yag rfl (yal rfl (congrArg Value.bool (congrArg Bool.not (Bool.eq_false_iff.2 hp6)))) rfl) rfl ?_
          refine rl_q rfl rfl rfl (yaq (v:=(Value.bool (true))) (congrArg Value.bool (congrArg Bool.not (Bool.eq_false_iff.2 hp6))) rfl) ?_
          refine yaa ?_
          refine yar rfl ?_
          refine yad ?_
          refine yau yav ?_
          refine rl_q rfl rfl rfl (yaH (v:=(Value.bool (false))) rfl) ?_
          refine yaa ?_
          exact yaf rfl rfl ⟨_,rfl,(hS.sel [] (by decide)),h⟩
      clear hJ
      intro j2
      obtain ⟨J5,hJ,h⟩:=h
      refine wt_cutA1 (fun E ds w'=>J5∧ds=[]∧E 11=(Value.int .i64 r7)∧E 13=(Value.int .i64 r15)∧Sep w no O w' (rl [])) ?_ ?_
      · clear h hS
        rintro E ds w17 ⟨h,rfl,hE11,hE13,hS⟩
        replace h:=hJ h
        refine yad ?_
        refine yau yav ?_
        refine rl_q rfl rfl rfl (yac (v:=(Value.int .i64 r7)) hE11) ?_
        refine rl_q rfl rfl rfl (v_eql rfl rfl) ?_
        refine rl_q rfl rfl rfl (yac (v:=(Value.bool (decide (r7=12)))) rfl) ?_
        by_cases hp8:r7=12
        · replace h:=h.1 hp8
          refine rl_p (yag rfl (yal rfl (congrArg Value.bool (decide_eq_true hp8))) rfl) rfl ?_
          refine rl_p (yag rfl (yal rfl (congrArg Value.bool (decide_eq_true hp8))) rfl) rfl ?_
          refine rl_p (yag rfl (yal rfl (congrArg Value.bool (decide_eq_true hp8))) rfl) rfl ?_
          refine rl_p (yaN rfl rfl) rfl ?_
          refine rl_p (yaN rfl rfl) rfl ?_
          refine rl_p (yag rfl (yal rfl (congrArg Value.bool (decide_eq_true hp8))) rfl) rfl ?_
          refine rl_q rfl rfl rfl (yaq (v:=(Value.bool (true))) (congrArg Value.bool (decide_eq_true hp8)) rfl) ?_
          refine rl_q rfl rfl rfl (yac (v:=(Value.bool (true))) rfl) ?_
          refine rl_n (yak rfl (yal rfl rfl)) rfl rfl rfl (yam rfl (am0) yep ((yaV h (yaO _)).mono ?_))
          rintro _ w18 ⟨r18,rfl,hC,h⟩
          replace hS:=hS.pur hC.pure
          clear hC
          refine ⟨_,rfl,?_⟩
          refine ⟨Stb.none _,?_⟩
          refine rl_q rfl rfl rfl (yaq (v:=(Value.bool (r18))) rfl rfl) ?_
          refine rl_q rfl rfl rfl (yaH (v:=(Value.bool (r18))) rfl) ?_
          refine yaa ?_
          exact yaf rfl rfl ⟨_,rfl,(hS.sel [] (by decide)),h⟩
        · replace h:=h.2 hp8
          refine rl_q (yak rfl (yal rfl (congrArg Value.bool (decide_eq_false hp8)))) rfl rfl (yac (v:=(Value.int .i64 r7)) hE11) ?_
          refine rl_q (yak rfl (yal rfl (congrArg Value.bool (decide_eq_false hp8)))) rfl rfl (v_eql rfl rfl) ?_
          refine rl_q (yak rfl (yal rfl (congrArg Value.bool (decide_eq_false hp8)))) rfl rfl (yac (v:=(Value.bool (decide (r7=0)))) rfl) ?_
          by_cases hp9:r7=0
          · replace h:=h.1 hp9
            refine rl_q (yak rfl (yal rfl (congrArg Value.bool (decide_eq_true hp9)))) rfl rfl (yac (v:=(Value.int .i64 r15)) hE13) ?_
            refine rl_q (yak rfl (yal rfl (congrArg Value.bool (decide_eq_true hp9)))) rfl rfl (v_eql rfl rfl) ?_
            refine rl_q (yak rfl (yal rfl (congrArg Value.bool (decide_eq_false hp8)))) rfl rfl (yaq (v:=(Value.bool (decide (r15=12)))) (congrArg Value.bool (decide_eq_true hp9)) rfl) ?_
            refine rl_q rfl rfl rfl (yaw (v:=(Value.bool (decide (r15=12)))) (congrArg Value.bool (decide_eq_false hp8)) rfl) ?_
            refine rl_q rfl rfl rfl (yac (v:=(Value.bool (decide (r15=12)))) rfl) ?_
            by_cases hp10:r15=12
            · replace h:=h.1 hp10
              refine rl_n (yak rfl (yal rfl (congrArg Value.bool (decide_eq_true hp10)))) rfl rfl rfl (yam rfl (am0) yep ((yaV h (yaO _)).mono ?_))
              rintro _ w19 ⟨r19,rfl,hC,h⟩
              replace hS:=hS.pur hC.pure
              clear hC
              refine ⟨_,rfl,?_⟩
              refine ⟨Stb.none _,?_⟩
              refine rl_q rfl rfl rfl (yaq (v:=(Value.bool (r19))) (congrArg Value.bool (decide_eq_true hp10)) rfl) ?_
              refine rl_q rfl rfl rfl (yaH (v:=(Value.bool (r19))) rfl) ?_
              refine yaa ?_
              exact yaf rfl rfl ⟨_,rfl,(hS.sel [] (by decide)),h⟩
            · replace h:=h.2 hp10
              refine rl_p (yag rfl (yal rfl (congrArg Value.bool (decide_eq_false hp10))) rfl) rfl ?_
              refine rl_q rfl rfl rfl (yaw (v:=(Value.bool (false))) (congrArg Value.bool (decide_eq_false hp10)) rfl) ?_
              refine rl_q rfl rfl rfl (yaH (v:=(Value.bool (false))) rfl) ?_
              refine yaa ?_
              exact yaf rfl rfl ⟨_,rfl,(hS.sel [] (by decide)),h⟩
          · replace h:=h.2 hp9
            refine rl_p (yag rfl (yal rfl (congrArg Value.bool (decide_eq_false hp9))) rfl) rfl ?_
            refine rl_p (yag rfl (yal rfl (congrArg Value.bool (decide_eq_false hp9))) rfl) rfl ?_
            refine rl_q (yak rfl (yal rfl (congrArg Value.bool (decide_eq_false hp8)))) rfl rfl (yaw (v:=(Value.bool (false))) (congrArg Value.bool (decide_eq_false hp9)) rfl) ?_
            refine rl_q rfl rfl rfl (yaw (v:=(Value.bool (false))) (congrArg Value.bool (decide_eq_false hp8)) rfl) ?_
            refine rl_q rfl rfl rfl (yac (v:=(Value.bool (false))) rfl) ?_
            refine rl_p (yag rfl (yal rfl rfl) rfl) rfl ?_
            refine rl_q rfl rfl rfl (yaw (v:=(Value.bool (false))) rfl rfl) ?_
            refine rl_q rfl rfl rfl (yaH (v:=(Value.bool (false))) rfl) ?_
            refine yaa ?_
            exact yaf rfl rfl ⟨_,rfl,(hS.sel [] (by decide)),h⟩
      clear hJ
      intro j4
      refine yau yav ?_
      refine rl_q rfl rfl rfl (yac (v:=(Value.int .i64 r7)) rfl) ?_
      refine rl_q rfl rfl rfl (yih rfl rfl) ?_
      refine rl_q rfl rfl rfl (yac (v:=(Value.bool (!(decide (r7=0))))) rfl) ?_
      by_cases hp11:r7=0
      · replace h:=h.1 hp11
        refine rl_q (yak rfl (yal rfl (congrArg Value.bool (congrArg Bool.not (decide_eq_true hp11))))) rfl rfl (yac (v:=(Value.int .i64 r15)) rfl) ?_
        refine rl_q (yak rfl (yal rfl (congrArg Value.bool (congrArg Bool.not (decide_eq_true hp11))))) rfl rfl (yih rfl rfl) ?_
        refine rl_q rfl rfl rfl (yaw (v:=(Value.bool (!(decide (r15=0))))) (congrArg Value.bool (congrArg Bool.not (decide_eq_true hp11))) rfl) ?_
        refine yaa ?_
        by_cases hp12:r15=0
        · replace h:=h.1 hp12
          refine yaA (congrArg Value.bool (congrArg Bool.not (decide_eq_true hp12))) ?_
          refine yae ?_
          exact j2 _ _ _ ⟨h,rfl,hE4,rfl,rfl,rfl,(hS.sel [4,5,6,11,12,17,13,14,15,16] (by decide))⟩
        · replace h:=h.2 hp12
          refine yar (congrArg Value.bool (congrArg Bool.not (decide_eq_false hp12))) ?_
          exact j4 _ _ _ ⟨h,rfl,rfl,rfl,(hS.sel [] (by decide))⟩
      · replace h:=h.2 hp11
        refine rl_p (yag rfl (yal rfl (congrArg Value.bool (congrArg Bool.not (decide_eq_false hp11)))) rfl) rfl ?_
        refine rl_p (yag rfl (yal rfl (congrArg Value.bool (congrArg Bool.not (decide_eq_false hp11)))) rfl) rfl ?_
        refine rl_q rfl rfl rfl (yaq (v:=(Value.bool (true))) (congrArg Value.bool (congrArg Bool.not (decide_eq_false hp11))) rfl) ?_
        refine yaa ?_
        refine yar rfl ?_
        exact j4 _ _ _ ⟨h,rfl,rfl,rfl,(hS.sel [] (by decide))⟩
    · replace h:=h.2 hp
      refine yar (congrArg Value.bool (congrArg Bool.not (decide_eq_false hp))) ?_
      refine yad ?_
      refine yau yav ?_
      refine rl_q rfl rfl rfl (yac (v:=(Value.int .i64 r4)) rfl) ?_
      refine rl_q rfl rfl rfl (v_eql rfl rfl) ?_
      refine rl_q rfl rfl rfl (yac (v:=(Value.bool (decide (r4=12)))) rfl) ?_
      by_cases hp13:r4=12
      · replace h:=h.1 hp13
        refine rl_n (yak rfl (yal rfl (congrArg Value.bool (decide_eq_true hp13)))) rfl rfl rfl (yam rfl (am0) yep ((yaV h (yaO _)).mono ?_))
        rintro _ w20 ⟨r20,rfl,hC,h⟩
        replace hS:=hS.pur hC.pure
        clear hC
        refine ⟨_,rfl,?_⟩
        refine ⟨Stb.none _,?_⟩
        refine rl_q rfl rfl rfl (yaq (v:=(Value.bool (r20))) (congrArg Value.bool (decide_eq_true hp13)) rfl) ?_
        refine rl_q rfl rfl rfl (yaH (v:=(Value.bool (r20))) rfl) ?_
        refine yaa ?_
        exact yaf rfl rfl ⟨_,rfl,(hS.sel [] (by decide)),h⟩
      · replace h:=h.2 hp13
        refine rl_p (yag rfl (yal rfl (congrArg Value.bool (decide_eq_false hp13))) rfl) rfl ?_
        refine rl_q rfl rfl rfl (yaw (v:=(Value.bool (false))) (congrArg Value.bool (decide_eq_false hp13)) rfl) ?_
        refine rl_q rfl rfl rfl (yaH (v:=(Value.bool (false))) rfl) ?_
        refine yaa ?_
        exact yaf rfl rfl ⟨_,rfl,(hS.sel [] (by decide)),h⟩
  clear hJ
  intro j
  refine yau yav ?_
  refine rl_q rfl rfl rfl (yat (vs:=[(Value.int .i64 d),(Value.slice Ad ld cd),(Value.slice Ad2 ld2 cd2)]) rfl underlying45 rfl ydM ⟨Row.cell (hS.bx 5 rfl) (i:=0) rfl,Row.cell (hS.bx 5 rfl) (i:=1) rfl,Row.cell (hS.bx 5 rfl) (i:=2) rfl,trivial⟩) ?_
  refine rl_q rfl rfl rfl (yab rfl underlying47 rfl yaL) ?_
  refine rl_q rfl rfl rfl (yay rfl underlying33 rfl (Row.cell (hS.bx 6 rfl) (i:=1) rfl)) ?_
  refine rl_n rfl rfl rfl rfl (yam rfl (am2 rfl rfl) enter_15 ((pok_r45_Few h (yaO _) (hS.rdr 0 rfl) (hS.rdr 1 rfl) (hS.rdr 2 rfl)).mono ?_))
  rintro _ w21 ⟨r21,rfl,hC,h⟩
  replace hS:=hS.pur hC.pure
  clear hC
  refine ⟨_,rfl,?_⟩
  refine ⟨Stb.none _,?_⟩
  refine rl_q rfl rfl rfl (ydX rfl) ?_
  refine rl_q rfl rfl rfl (yac (v:=(Value.bool (!(r21)))) rfl) ?_
  by_cases hp14:r21=true
  · replace h:=h.1 hp14
    refine rl_q (yak rfl (yal rfl (congrArg Value.bool (congrArg Bool.not hp14)))) rfl rfl (yab rfl underlying47 rfl yh6) ?_
    refine rl_q (yak rfl (yal rfl (congrArg Value.bool (congrArg Bool.not hp14)))) rfl rfl (yay rfl underlying34 rfl (Row.cell (hS.bx 6 rfl) (i:=2) rfl)) ?_
    refine rl_n (yak rfl (yal rfl (congrArg Value.bool (congrArg Bool.not hp14)))) rfl rfl rfl (yam rfl (am1 rfl) enter_16 ((pok_r17_Few h (yaO _) (hS.rdr 3 rfl)).mono ?_))
    rintro _ w22 ⟨r22,rfl,hC,h⟩
    replace hS:=hS.pur hC.pure
    clear hC
    refine ⟨_,rfl,?_⟩
    refine ⟨Stb.none _,?_⟩
    refine rl_q (yak rfl (yal rfl (congrArg Value.bool (congrArg Bool.not hp14)))) rfl rfl (ydX rfl) ?_
    refine rl_q rfl rfl rfl (yaw (v:=(Value.bool (!(r22)))) (congrArg Value.bool (congrArg Bool.not hp14)) rfl) ?_
    refine rl_q rfl rfl rfl (yac (v:=(Value.bool (!(r22)))) rfl) ?_
    by_cases hp15:r22=true
    · replace h:=h.1 hp15
      refine rl_q (yak rfl (yal rfl (congrArg Value.bool (congrArg Bool.not hp15)))) rfl rfl (yat (vs:=[(Value.int .i64 d),(Value.slice Ad ld cd),(Value.slice Ad2 ld2 cd2)]) rfl underlying45 rfl ydM ⟨Row.cell (hS.bx 5 rfl) (i:=0) rfl,Row.cell (hS.bx 5 rfl) (i:=1) rfl,Row.cell (hS.bx 5 rfl) (i:=2) rfl,trivial⟩) ?_
      refine rl_q (yak rfl (yal rfl (congrArg Value.bool (congrArg Bool.not hp15)))) rfl rfl (yab rfl underlying47 rfl yai) ?_
      refine rl_q (yak rfl (yal rfl (congrArg Value.bool (congrArg Bool.not hp15)))) rfl rfl (yay rfl underlying3 rfl (Row.cell (hS.bx 6 rfl) (i:=0) rfl)) ?_
      refine rl_q (yak rfl (yal rfl (congrArg Value.bool (congrArg Bool.not hp15)))) rfl rfl (yab rfl underlying47 rfl yaL) ?_
      refine rl_q (yak rfl (yal rfl (congrArg Value.bool (congrArg Bool.not hp15)))) rfl rfl (yay rfl underlying33 rfl (Row.cell (hS.bx 6 rfl) (i:=1) rfl)) ?_
      refine rl_q (yak rfl (yal rfl (congrArg Value.bool (congrArg Bool.not hp15)))) rfl rfl (yab rfl underlying47 rfl yh6) ?_
      refine rl_q (yak rfl (yal rfl (congrArg Value.bool (congrArg Bool.not hp15)))) rfl rfl (yay rfl underlying34 rfl (Row.cell (hS.bx 6 rfl) (i:=2) rfl)) ?_
      refine rl_n (yak rfl (yal rfl (congrArg Value.bool (congrArg Bool.not hp15)))) rfl rfl rfl (yam rfl (am4 rfl rfl rfl rfl) enter_17 ((pok_r45_Given h (yaO _) (hS.rdr 0 rfl) (hS.rdr 1 rfl) (hS.rdr 2 rfl) (hS.rdr 3 rfl)).mono ?_))
      rintro _ w23 ⟨r23,rfl,hC,h⟩
      replace hS:=hS.pur hC.pure
      clear hC
      refine ⟨_,rfl,?_⟩
      refine ⟨Stb.none _,?_⟩
      refine rl_q (yak rfl (yal rfl (congrArg Value.bool (congrArg Bool.not hp15)))) rfl rfl (yih rfl rfl) ?_
      refine rl_q rfl rfl rfl (yaw (v:=(Value.bool (!(decide (r23=0))))) (congrArg Value.bool (congrArg Bool.not hp15)) rfl) ?_
      refine rl_q rfl rfl rfl (yac (v:=(Value.bool (!(decide (r23=0))))) rfl) ?_
      by_cases hp16:r23=0
      · replace h:=h.1 hp16
        refine rl_q (yak rfl (yal rfl (congrArg Value.bool (congrArg Bool.not (decide_eq_true hp16))))) rfl rfl (yab rfl underlying47 rfl yh6) ?_
        refine rl_q (yak rfl (yal rfl (congrArg Value.bool (congrArg Bool.not (decide_eq_true hp16))))) rfl rfl (yay rfl underlying34 rfl (Row.cell (hS.bx 6 rfl) (i:=2) rfl)) ?_
        refine rl_n (yak rfl (yal rfl (congrArg Value.bool (congrArg Bool.not (decide_eq_true hp16))))) rfl rfl rfl (yam rfl (am1 rfl) enter_18 ((pok_r17_Small h (yaO _) (hS.rdr 3 rfl)).mono ?_))
        rintro _ w24 ⟨r24,rfl,hC,h⟩
        replace hS:=hS.pur hC.pure
        clear hC
        refine ⟨_,rfl,?_⟩
        refine ⟨Stb.none _,?_⟩
        refine rl_q (yak rfl (yal rfl (congrArg Value.bool (congrArg Bool.not (decide_eq_true hp16))))) rfl rfl (ydX rfl) ?_
        refine rl_q rfl rfl rfl (yaw (v:=(Value.bool (!(r24)))) (congrArg Value.bool (congrArg Bool.not (decide_eq_true hp16))) rfl) ?_
        refine rl_q rfl rfl rfl (yac (v:=(Value.bool (!(r24)))) rfl) ?_
        by_cases hp17:r24=true
        · replace h:=h.1 hp17
          refine rl_q (yak rfl (yal rfl (congrArg Value.bool (congrArg Bool.not hp17)))) rfl rfl (yac (v:=(Value.slice Aa la ca)) rfl) ?_
          refine rl_n (yak rfl (yal rfl (congrArg Value.bool (congrArg Bool.not hp17)))) rfl rfl rfl (yam rfl (am1 rfl) enter_19 ((ye5 h (yaO _) (hS.rdr 4 rfl)).mono ?_))
          rintro _ w25 ⟨r25,rfl,hC,h⟩
          replace hS:=hS.pur hC.pure
          clear hC
          refine ⟨_,rfl,?_⟩
          refine ⟨Stb.none _,?_⟩
          refine rl_q (yak rfl (yal rfl (congrArg Value.bool (congrArg Bool.not hp17)))) rfl rfl (ydX rfl) ?_
          refine rl_q rfl rfl rfl (yaw (v:=(Value.bool (!(r25)))) (congrArg Value.bool (congrArg Bool.not hp17)) rfl) ?_
          refine yaa ?_
          by_cases hp18:r25=true
          · replace h:=h.1 hp18
            refine yaA (congrArg Value.bool (congrArg Bool.not hp18)) ?_
            refine yae ?_
            exact j _ _ _ ⟨h,rfl,rfl,rfl,rfl,(hS.sel [4,5,0,1,6,2,3] (by decide))⟩
          · replace h:=h.2 hp18
            refine yar (congrArg Value.bool (congrArg Bool.not (Bool.eq_false_iff.2 hp18))) ?_
            refine yad ?_
            refine yau yav ?_
            refine rl_n rfl rfl rfl rfl (yam rfl (am0) yep ((yaV h (yaO _)).mono ?_))
            rintro _ w26 ⟨r26,rfl,hC,h⟩
            replace hS:=hS.pur hC.pure
            clear hC
            refine ⟨_,rfl,?_⟩
            refine ⟨Stb.none _,?_⟩
            refine rl_q rfl rfl rfl (yaH (v:=(Value.bool (r26))) rfl) ?_
            refine yaa ?_
            exact yaf rfl rfl ⟨_,rfl,(hS.sel [] (by decide)),h⟩
        · replace h:=h.2 hp17
          refine rl_p (yag rfl (yal rfl (congrArg Value.bool (congrArg Bool.not (Bool.eq_false_iff.2 hp17)))) rfl) rfl ?_
          refine rl_p (yag rfl (yal rfl (congrArg Value.bool (congrArg Bool.not (Bool.eq_false_iff.2 hp17)))) rfl) rfl ?_
          refine rl_p (yag rfl (yal rfl (congrArg Value.bool (congrArg Bool.not (Bool.eq_false_iff.2 hp17)))) rfl) rfl ?_
          refine rl_q rfl rfl rfl (yaq (v:=(Value.bool (true))) (congrArg Value.bool (congrArg Bool.not (Bool.eq_false_iff.2 hp17))) rfl) ?_
          refine yaa ?_
          refine yar rfl ?_
          refine yad ?_
          refine yau yav ?_
          refine rl_n rfl rfl rfl rfl (yam rfl (am0) yep ((yaV h (yaO _)).mono ?_))
          rintro _ w27 ⟨r27,rfl,hC,h⟩
          replace hS:=hS.pur hC.pure
          clear hC
          refine ⟨_,rfl,?_⟩
          refine ⟨Stb.none _,?_⟩
          refine rl_q rfl rfl rfl (yaH (v:=(Value.bool (r27))) rfl) ?_
          refine yaa ?_
          exact yaf rfl rfl ⟨_,rfl,(hS.sel [] (by decide)),h⟩
      · replace h:=h.2 hp16
        refine rl_p (yag rfl (yal rfl (congrArg Value.bool (congrArg Bool.not (decide_eq_false hp16)))) rfl) rfl ?_
        refine rl_p (yag rfl (yal rfl (congrArg Value.bool (congrArg Bool.not (decide_eq_false hp16)))) rfl) rfl ?_
        refine rl_p (yag rfl (yal rfl (congrArg Value.bool (congrArg Bool.not (decide_eq_false hp16)))) rfl) rfl ?_
        refine rl_p (yag rfl (yal rfl (congrArg Value.bool (congrArg Bool.not (decide_eq_false hp16)))) rfl) rfl ?_
        refine rl_q rfl rfl rfl (yaq (v:=(Value.bool (true))) (congrArg Value.bool (congrArg Bool.not (decide_eq_false hp16))) rfl) ?_
        refine rl_q rfl rfl rfl (yac (v:=(Value.bool (true))) rfl) ?_
        refine rl_p (yag rfl (yal rfl rfl) rfl) rfl ?_
        refine rl_p (yag rfl (yal rfl rfl) rfl) rfl ?_
        refine rl_p (yag rfl (yal rfl rfl) rfl) rfl ?_
        refine rl_q rfl rfl rfl (yaq (v:=(Value.bool (true))) rfl rfl) ?_
        refine yaa ?_
        refine yar rfl ?_
        refine yad ?_
        refine yau yav ?_
        refine rl_n rfl rfl rfl rfl (yam rfl (am0) yep ((yaV h (yaO _)).mono ?_))
        rintro _ w28 ⟨r28,rfl,hC,h⟩
        replace hS:=hS.pur hC.pure
        clear hC
        refine ⟨_,rfl,?_⟩
        refine ⟨Stb.none _,?_⟩
        refine rl_q rfl rfl rfl (yaH (v:=(Value.bool (r28))) rfl) ?_
        refine yaa ?_
        exact yaf rfl rfl ⟨_,rfl,(hS.sel [] (by decide)),h⟩
    · replace h:=h.2 hp15
      refine rl_p (yag rfl (yal rfl (congrArg Value.bool (congrArg Bool.not (Bool.eq_false_iff.2 hp15)))) rfl) rfl ?_
      refine rl_p (yag rfl (yal rfl (congrArg Value.bool (congrArg Bool.not (Bool.eq_false_iff.2 hp15)))) rfl) rfl ?_
      refine rl_p (yag rfl (yal rfl (congrArg Value.bool (congrArg Bool.not (Bool.eq_false_iff.2 hp15)))) rfl) rfl ?_
      refine rl_p (yag rfl (yal rfl (congrArg Value.bool (congrArg Bool.not (Bool.eq_false_iff.2 hp15)))) rfl) rfl ?_
      refine rl_p (yag rfl (yal rfl (congrArg Value.bool (congrArg Bool.not (Bool.eq_false_iff.2 hp15)))) rfl) rfl ?_
      refine rl_p (yag rfl (yal rfl (congrArg Value.bool (congrArg Bool.not (Bool.eq_false_iff.2 hp15)))) rfl) rfl ?_
      refine rl_p (yag rfl (yal rfl (congrArg Value.bool (congrArg Bool.not (Bool.eq_false_iff.2 hp15)))) rfl) rfl ?_
      refine rl_p (yag rfl (yal rfl (congrArg Value.bool (congrArg Bool.not (Bool.eq_false_iff.2 hp15)))) rfl) rfl ?_
      refine rl_p (yag rfl (yal rfl (congrArg Value.bool (congrArg Bool.not (Bool.eq_false_iff.2 hp15)))) rfl) rfl ?_
      refine rl_q rfl rfl rfl (yaq (v:=(Value.bool (true))) (congrArg Value.bool (congrArg Bool.not (Bool.eq_false_iff.2 hp15))) rfl) ?_
      refine rl_q rfl rfl rfl (yac (v:=(Value.bool (true))) rfl) ?_
      refine rl_p (yag rfl (yal rfl rfl) rfl) rfl ?_
      refine rl_p (yag rfl (yal rfl rfl) rfl) rfl ?_
      refine rl_p (yag rfl (yal rfl rfl) rfl) rfl ?_
      refine rl_p (yag rfl (yal rfl rfl) rfl) rfl ?_
      refine rl_q rfl rfl rfl (yaq (v:=(Value.bool (true))) rfl rfl) ?_
      refine rl_q rfl rfl rfl (yac (v:=(Value.bool (true))) rfl) ?_
      refine rl_p (yag rfl (yal rfl rfl) rfl) rfl ?_
      refine rl_p (yag rfl (yal rfl rfl) rfl) rfl ?_
      refine rl_p (yag rfl (yal rfl rfl) rfl) rfl ?_
      refine rl_q rfl rfl rfl (yaq (v:=(Value.bool (true))) rfl rfl) ?_
      refine yaa ?_
      refine yar rfl ?_
      refine yad ?_
      refine yau yav ?_
      refine rl_n rfl rfl rfl rfl (yam rfl (am0) yep ((yaV h (yaO _)).mono ?_))
      rintro _ w29 ⟨r29,rfl,hC,h⟩
      replace hS:=hS.pur hC.pure
      clear hC
      refine ⟨_,rfl,?_⟩
      refine ⟨Stb.none _,?_⟩
      refine rl_q rfl rfl rfl (yaH (v:=(Value.bool (r29))) rfl) ?_
      refine yaa ?_
      exact yaf rfl rfl ⟨_,rfl,(hS.sel [] (by decide)),h⟩
  · replace h:=h.2 hp14
    refine rl_p (yag rfl (yal rfl (congrArg Value.bool (congrArg Bool.not (Bool.eq_false_iff.2 hp14)))) rfl) rfl ?_
    refine rl_p (yag rfl (yal rfl (congrArg Value.bool (congrArg Bool.not (Bool.eq_false_iff.2 hp14)))) rfl) rfl ?_
    refine rl_p (yag rfl (yal rfl (congrArg Value.bool (congrArg Bool.not (Bool.eq_false_iff.2 hp14)))) rfl) rfl ?_
    refine rl_p (yag rfl (yal rfl (congrArg Value.bool (congrArg Bool.not (Bool.eq_false_iff.2 hp14)))) rfl) rfl ?_
    refine rl_q rfl rfl rfl (yaq (v:=(Value.bool (true))) (congrArg Value.bool (congrArg Bool.not (Bool.eq_false_iff.2 hp14))) rfl) ?_
    refine rl_q rfl rfl rfl (yac (v:=(Value.bool (true))) rfl) ?_
    refine rl_p (yag rfl (yal rfl rfl) rfl) rfl ?_
    refine rl_p (yag rfl (yal rfl rfl) rfl) rfl ?_
    refine rl_p (yag rfl (yal rfl rfl) rfl) rfl ?_
    refine rl_p (yag rfl (yal rfl rfl) rfl) rfl ?_
    refine rl_p (yag rfl (yal rfl rfl) rfl) rfl ?_
    refine rl_p (yag rfl (yal rfl rfl) rfl) rfl ?_
    refine rl_p (yag rfl (yal rfl rfl) rfl) rfl ?_
    refine rl_p (yag rfl (yal rfl rfl) rfl) rfl ?_
    refine rl_p (yag rfl (yal rfl rfl) rfl) rfl ?_
    refine rl_q rfl rfl rfl (yaq (v:=(Value.bool (true))) rfl rfl) ?_
    refine rl_q rfl rfl rfl (yac (v:=(Value.bool (true))) rfl) ?_
    refine rl_p (yag rfl (yal rfl rfl) rfl) rfl ?_
    refine rl_p (yag rfl (yal rfl rfl) rfl) rfl ?_
    refine rl_p (yag rfl (yal rfl rfl) rfl) rfl ?_
    refine rl_p (yag rfl (yal rfl rfl) rfl) rfl ?_
    refine rl_q rfl rfl rfl (yaq (v:=(Value.bool (true))) rfl rfl) ?_
    refine rl_q rfl rfl rfl (yac (v:=(Value.bool (true))) rfl) ?_
    refine rl_p (yag rfl (yal rfl rfl) rfl) rfl ?_
    refine rl_p (yag rfl (yal rfl rfl) rfl) rfl ?_
    refine rl_p (yag rfl (yal rfl rfl) rfl) rfl ?_
    refine rl_q rfl rfl rfl (yaq (v:=(Value.bool (true))) rfl rfl) ?_
    refine yaa ?_
    refine yar rfl ?_
    refine yad ?_
    refine yau yav ?_
    refine rl_n rfl rfl rfl rfl (yam rfl (am0) yep ((yaV h (yaO _)).mono ?_))
    rintro _ w30 ⟨r30,rfl,hC,h⟩
    replace hS:=hS.pur hC.pure
    clear hC
    refine ⟨_,rfl,?_⟩
    refine ⟨Stb.none _,?_⟩
    refine rl_q rfl rfl rfl (yaH (v:=(Value.bool (r30))) rfl) ?_
    refine yaa ?_
    exact yaf rfl rfl ⟨_,rfl,(hS.sel [] (by decide)),h⟩
end Go.Proofs.YtjepipbkiadcpaaGreat



/- The graph with some single edges: the reference and the program. -/
namespace Go.Proofs.YtjepipbkiadcpaaGreat
open Go Go.RowKit Go.Shelf Go.Proofs.Tryz
def isE(a b:Int)(e:Int×Int):Bool:=decide (mnF e.1 e.2=a∧mxF e.1 e.2=b)
def cntE(l:List (Int×Int))(a b:Int):Int:=(l.countP (isE a b):Int)
theorem yif(l:List (Int×Int))(e:Int×Int)(a b:Int):cntE (l++[e]) a b=cntE l a b+if mnF e.1 e.2=a∧mxF e.1 e.2=b then 1 else 0:=by
  unfold cntE
  rw [List.countP_append]
  by_cases h:mnF e.1 e.2=a∧mxF e.1 e.2=b
  · simp [List.countP_cons,isE,h]
  · simp [List.countP_cons,isE,h]
theorem cntE_nn(l:List (Int×Int))(a b:Int):0≤cntE l a b:=Int.natCast_nonneg _
structure BagOk(d:Nat)(l:List (Int×Int))(M:List (List Int×Int)):Prop where
  key:KOk 2 M
  at_:∀ p∈M,∃ a b:Nat,a≤b∧b<d∧p.1=[(a:Int),(b:Int)]∧p.2=cntE l a b∧0<p.2
  get:∀ a b:Int,(mget M [a,b]).getD 0=cntE l a b
  len:M.length≤l.length
theorem BagOk.nil(d:Nat):BagOk d [] []:=⟨KOk.nil 2,fun p h=>by simp at h,fun a b=>by simp [mget,cntE],Nat.le_refl _⟩
theorem keyOk2{d a b:Nat}(hd:d≤12)(h1:a≤b)(h2:b<d):KeyOk 2 [(a:Int),(b:Int)]:=by
  refine ⟨rfl,fun x hx=>?_⟩
  simp only [List.mem_cons,List.not_mem_nil,or_false] at hx
  rcases hx with rfl | rfl <;> exact ⟨by omega,by omega⟩
theorem BagOk.put{d:Nat}{l:List (Int×Int)}{M:List (List Int×Int)}(h:BagOk d l M)(hd:d≤12){e:Int×Int}{a b:Nat}(h1:a≤b)(h2:b<d)(ha:mnF e.1 e.2=a)(hb:mxF e.1 e.2=b):BagOk d (l++[e]) (mput M [(a:Int),(b:Int)] (cntE l a b+1)):=by
  have hk:=h.key.put (keyOk2 hd h1 h2) (cntE l a b+1)
  refine ⟨hk,fun p hp=>?_,fun x y=>?_,by have:=h.len;rw [mput_length,List.length_append,List.length_singleton];split <;> omega⟩
  · obtain ⟨j,hj⟩:=List.getElem?_of_mem hp
    have hg:=mget_at hk.1 (k:=p.1) (v:=p.2) hj
    rw [mget_put] at hg
    by_cases q:[(a:Int),(b:Int)]=p.1
    · rw [if_pos q] at hg
      refine ⟨a,b,h1,h2,q.symm,?_,?_⟩
      · rw [yif,if_pos ⟨ha,hb⟩];exact (Option.some.inj hg).symm
      · rw [←Option.some.inj hg];have:=cntE_nn l a b;omega
    · rw [if_neg q] at hg
      obtain ⟨x,y,h3,h4,h5,h6,h7⟩:=h.at_ _ (mget_mem hg)
      refine ⟨x,y,h3,h4,h5,?_,h7⟩
      rw [yif,if_neg,Int.add_zero]
      · exact h6
      · rintro ⟨q1,q2⟩
        rw [ha] at q1;rw [hb] at q2
        have h5:p.1=[(x:Int),(y:Int)]:=h5
        exact q (by rw [h5,q1,q2])
  · rw [mget_put,yif,ha,hb,←h.get x y]
    by_cases q:(a:Int)=x∧(b:Int)=y
    · rw [if_pos (by rw [q.1,q.2]),if_pos q,h.get x y,←q.1,←q.2];rfl
    · rw [if_neg (fun z=>q (by simpa using z)),if_neg q,Int.add_zero]
end Go.Proofs.YtjepipbkiadcpaaGreat

/- What the references' pure forms come to: graphs and divisors. -/
namespace Go.Proofs.YtjepipbkiadcpaaGreat
open Go Go.Proofs.Tryz
theorem p_r17_In{k:Int}{R:Bool→Prop}(h:R (inF k)):yfO k R:=by
  unfold yfO
  refine ⟨fun h1=>?_,fun h1=>?_⟩
  · have e:decide (k≤1048576)=inF k:=by unfold inF;simp [h1]
    rw [e];exact h
  · have e:false=inF k:=by unfold inF;simp [h1]
    rw [e];exact h
theorem yfH{n v:Int}{es:List E3}{R:Bool→Prop}(h:R (decide (0≤v∧v<n))):ycD n es v R:=by
  unfold ycD
  refine ⟨fun h1=>?_,fun h1=>?_⟩
  · have e:decide (v<n)=decide (0≤v∧v<n):=by simp [h1]
    rw [e];exact h
  · have e:false=decide (0≤v∧v<n):=by simp [h1]
    rw [e];exact h
theorem p_r17_Check{d:List Int}{n:Int}{R:Int→Prop}(h:R (yeK d n)):yd3 d n R:=by
  unfold yd3
  have hout:¬(1≤n∧n≤12)→R 2:=fun q=>by
    have:yeK d n=2:=by unfold yeK vertsF;rw [if_neg q,if_neg (by omega)]
    rwa [this] at h
  refine ⟨1≤n∧n≤12,fun hn=>?_,fun q=>hout (by omega),fun q=>⟨fun q2=>hout (by omega),fun q2=>⟨by omega,by omega⟩⟩⟩
  have hc:yeK d n=if (d.length:Int)=n then (if d.all inF then 0 else 2) else 8:=by unfold yeK;rw [if_pos (by unfold vertsF;rw [if_pos hn])]
  rw [hc] at h
  refine ⟨fun hln=>?_,fun hln=>by rwa [if_neg hln] at h⟩
  rw [if_pos hln] at h
  refine ⟨Cnt d.length (fun k=>∀ j,j<k→inF (gi d j)=true),Cnt.start (fun j hj=>absurd hj (by omega)),?_⟩
  rintro m _ ⟨k,rfl,rfl,hk,hinv⟩
  refine ⟨fun hlt=>⟨by omega,p_r17_In ⟨fun h1=>Cnt.next (by omega) (by omega) fun j hj=>?_,fun h1=>?_⟩⟩,fun hge=>?_⟩
  · by_cases e:j=k
    · subst e;simpa using h1
    · exact hinv j (by omega)
  · rw [if_neg (fun hall=>h1 ((ye8 inF d).1 hall _ (by omega)))] at h;exact h
  · rw [if_pos ((ye8 inF d).2 fun j hj=>hinv j (by omega))] at h;exact h
theorem p_r08_edge{n:Int}{es:List E3}{k:Nat}{R:Int→Prop}(hk:k<es.length)(hl:es.length≤1000000000)(h:R (ygf n (pre es k).1 (pre es k).2 (ge es k))):yey n es (k:Int) R:=by
  unfold yey
  simp only [Int.toNat_natCast]
  generalize hx:ge es k=x at h ⊢
  refine ⟨by omega,(0≤x.1∧x.1<n)∧(0≤x.2.1∧x.2.1<n)∧1≤x.2.2∧x.2.2≤50,fun hJ=>?_,?_⟩
  · have hed:∀ a b,ygf n a b x=if x.1≤x.2.1∧ygg a b x.1 x.2.1<0 then 0 else 9:=fun a b=>by unfold ygf;rw [if_pos hJ]
    rw [hed] at h
    refine ⟨fun q=>by rw [if_neg (by omega)] at h;exact h,fun q=>⟨fun h0=>?_,fun h0=>?_⟩⟩
    · have e1:((k:Int)-1).toNat=k-1:=by omega
      rw [e1]
      have hp:pre es k=((ge es (k-1)).1,(ge es (k-1)).2.1):=by unfold pre;rw [if_neg (by omega)]
      rw [hp] at h
      have hc:=pcmp_lt (ge es (k-1)).1 (ge es (k-1)).2.1 x.1 x.2.1
      refine ⟨i64 (by omega),by omega,fun q1=>?_,fun q1=>⟨fun q2=>⟨fun q3=>?_,fun q3=>?_⟩,fun q2=>?_⟩⟩
      · rw [if_neg (fun h=>by have:=hc.1 h.2;omega)] at h;exact h
      · rw [if_neg (fun h=>by have:=hc.1 h.2;omega)] at h;exact h
      · rw [if_pos ⟨by omega,hc.2 (by omega)⟩] at h;exact h
      · rw [if_pos ⟨by omega,hc.2 (by omega)⟩] at h;exact h
    · have hp:pre es k=(-1, -1):=by unfold pre;rw [if_pos (by omega)]
      rw [hp,if_pos ⟨by omega,(pcmp_lt _ _ _ _).2 (.inl (by omega))⟩] at h
      exact h
  · have hed:¬((0≤x.1∧x.1<n)∧(0≤x.2.1∧x.2.1<n)∧1≤x.2.2∧x.2.2≤50)→R 2:=fun q=>by unfold ygf at h;rwa [if_neg q] at h
    refine yfH ⟨fun h1=>yfH ⟨fun h2=>⟨fun h3=>hed (by omega),fun h3=>⟨fun h4=>hed (by omega),fun h4=>?_⟩⟩,fun h2=>hed (by simp at h2;omega)⟩,fun h1=>hed (by simp at h1;omega)⟩
    simp only [decide_eq_true_eq] at h1 h2
    exact ⟨h1,h2,by omega,by omega⟩
theorem yh8{n:Int}{es:List E3}{R:Int→Prop}(hl:es.length≤1000000000)(h:R (yaZ n es)):yds n es R:=by
  unfold yds
  have hout:¬(1≤n∧n≤12)→R 2:=fun q=>by unfold yaZ at h;rwa [if_neg q] at h
  refine ⟨1≤n∧n≤12,fun hn=>?_,fun q=>hout (by omega),fun q=>⟨fun q2=>hout (by omega),fun q2=>⟨by omega,by omega⟩⟩⟩
  have hg:yaZ n es=gchk n (-1) (-1) es:=by unfold yaZ;rw [if_pos hn]
  rw [hg] at h
  refine ⟨Cnt es.length (fun k=>gchk n (-1) (-1) es=gchk n (pre es k).1 (pre es k).2 (es.drop k)),Cnt.start rfl,?_⟩
  rintro m _ ⟨k,rfl,rfl,hk,hinv⟩
  refine ⟨fun hlt=>p_r08_edge (by omega) hl ⟨fun h0=>Cnt.next (by omega) (by omega) ?_,fun h0=>?_⟩,fun hge=>?_⟩
  · rw [yg1 (by omega),ye9,if_pos h0] at hinv
    rw [hinv];simp [pre]
  · rw [yg1 (by omega),ye9,if_neg h0] at hinv
    rwa [hinv] at h
  · have hk2:k=es.length:=by omega
    rw [hinv,hk2,List.drop_length] at h
    exact h
theorem p_r08_Between' {n:Int}{es:List E3}{a b:Int}{R:Int→Prop}(hl:es.length≤1000000000)(h:R (((es.find? fun x=>decide (x.1=mnF a b∧x.2.1=mxF a b)).map (·.2.2)).getD 0)):yb7 n es a b R:=by
  unfold yb7
  refine ⟨Cnt es.length (fun k=>es.find? (fun x=>decide (x.1=mnF a b∧x.2.1=mxF a b))=(es.drop k).find? (fun x=>decide (x.1=mnF a b∧x.2.1=mxF a b))),Cnt.start rfl,?_⟩
  rintro m _ ⟨k,rfl,rfl,hk,hinv⟩
  refine ⟨fun hlt=>?_,fun hge=>?_⟩
  · have hlt:k<es.length:=by omega
    rw [yg1 hlt,List.find?_cons] at hinv
    simp only [Int.toNat_natCast]
    refine ⟨by omega,fun h1=>⟨fun h2=>?_,fun h2=>Cnt.next hlt (by omega) ?_⟩,fun h1=>Cnt.next hlt (by omega) ?_⟩
    · rw [hinv] at h;simpa [h1,h2] using h
    · rw [hinv];simp [h2]
    · rw [hinv];simp [h1]
  · have hk2:k=es.length:=by omega
    rw [hinv,hk2,List.drop_length] at h
    exact h
theorem W_le50{n:Int}{es:List E3}(hg:yaZ n es=0)(u v:Nat):0≤W es u v∧W es u v≤50:=by
  by_cases e:u=v
  · subst e;rw [W_self];omega
  · have hok:=gchk_ok es _ _ (yeH hg)
    rw [←yig u v e es (-1) (-1) (yeH hg)]
    cases hf:es.find? fun x=>decide (x.1=mnF (u:Int) v∧x.2.1=mxF (u:Int) v) with
    | none=>simp
    | some x=>have:=hok x (List.mem_of_find?_eq_some hf);simp;omega
theorem ygS{n:Int}{es:List E3}{u v:Nat}{R:Int→Prop}(hl:es.length≤1000000000)(hg:yaZ n es=0)(huv:u≠v)(h:R (W es u v)):yb7 n es (u:Int) (v:Int) R :=
  p_r08_Between' hl (by rw [yig u v huv es (-1) (-1) (yeH hg)];exact h)
theorem deg_bound{n:Int}{es:List E3}(hg:yaZ n es=0)(k v:Nat):0≤sm k (fun u=>W es v u)∧sm k (fun u=>W es v u)≤k*50 :=
  ⟨yb8 fun i _=>(W_le50 hg v i).1,(sm_bound (f:=fun u=>W es v u) (B:=50) (by omega) fun i _=>by have:=W_le50 hg v i;omega).2⟩
theorem p_r08_Valence{n:Nat}{es:List E3}{v:Nat}{R:Int→Prop}(hl:es.length≤1000000000)(hg:yaZ n es=0)(h:R (deg n es v)):ydb (n:Int) es (v:Int) R:=by
  obtain ⟨hE,hn1,hn12⟩:=yes hg
  unfold ydb
  refine ⟨fun m a u=>Cnt n (fun k=>a=sm k (fun u=>W es v u)) m u,Cnt.start rfl,?_⟩
  rintro m a _ ⟨k,rfl,rfl,hk,rfl⟩
  refine ⟨fun hlt=>⟨fun e=>Cnt.next (by omega) (by omega) ?_,fun e=>ygS hl hg (by omega) ?_⟩,fun hge=>?_⟩
  · have e:k=v:=by omega
    subst e
    rw [sm,W_self];omega
  · have h1:=deg_bound hg k v
    have h2:=W_le50 hg k v
    refine ⟨i64 (by omega),Cnt.next (by omega) (by omega) ?_⟩
    rw [sm,yhq es v k]
  · have hk2:k=n:=by omega
    subst hk2;exact h
def yaW(es:List E3):List (Int×Int):=es.flatMap fun x=>List.replicate x.2.2.toNat (x.1,x.2.1)
theorem endsF_take{es:List E3}{k:Nat}(hk:k<es.length):yaW (es.take (k+1))=yaW (es.take k)++List.replicate (ge es k).2.2.toNat ((ge es k).1,(ge es k).2.1):=by
  unfold yaW
  rw [List.take_add_one,List.getElem?_eq_getElem hk,yfn hk,List.flatMap_append]
  simp
theorem yeT(es:List E3)(hE:∀ x∈es,1≤x.2.2∧x.2.2≤50):((yaW es).length:Int)=(es.map (·.2.2)).sum∧(yaW es).length≤50*es.length:=by
  induction es with
  | nil=>simp [yaW]
  | cons x t ih =>
    have hx:=hE x (by simp)
    have:=ih fun y hy=>hE y (by simp [hy])
    unfold yaW at this ⊢
    rw [List.flatMap_cons,List.length_append,List.length_replicate,List.map_cons,List.sum_cons,List.length_cons]
    omega
theorem p_r08_Ends{n:Int}{es:List E3}{R:List (Int×Int)→Prop}(hl:es.length≤1000)(hE:∀ x∈es,1≤x.2.2∧x.2.2≤50)(h:R (yaW es)):ydr n es R:=by
  unfold ydr
  have hlen:∀ k,(yaW (es.take k)).length≤50*k:=fun k=>by
    have:=(yeT (es.take k) fun x hx=>hE x (List.mem_of_mem_take hx)).2
    rw [List.length_take] at this
    omega
  refine ⟨fun m out i=>Cnt es.length (fun k=>out=yaW (es.take k)) m i,Cnt.start (by simp [yaW]),?_⟩
  rintro m out _ ⟨k,rfl,rfl,hk,rfl⟩
  refine ⟨fun hlt=>?_,fun hge=>?_⟩
  · have hlt:k<es.length:=by omega
    have hmk:=hE _ (ge_mem hlt)
    have hl2:=hlen k
    simp only [Int.toNat_natCast]
    refine ⟨fun m2 out2 j=>Cnt (ge es k).2.2.toNat (fun i=>out2=yaW (es.take k)++List.replicate i ((ge es k).1,(ge es k).2.1)) m2 j,Cnt.start (by simp),?_⟩
    rintro m2 out2 _ ⟨j,rfl,rfl,hj,rfl⟩
    refine ⟨by omega,fun h1=>⟨?_,Cnt.next (by omega) (by omega) ?_⟩,fun h1=>Cnt.next hlt (by omega) ?_⟩
    · rw [List.length_append,List.length_replicate];omega
    · rw [List.append_assoc,List.replicate_succ']
    · have:j=(ge es k).2.2.toNat:=by omega
      rw [endsF_take hlt,this]
  · have hk2:k=es.length:=by omega
    rw [hk2,List.take_length];exact h
theorem p_r08_Size{n:Int}{es:List E3}{R:Int→Prop}(hl:es.length≤1000)(hE:∀ x∈es,1≤x.2.2∧x.2.2≤50)(h:R ((es.map (·.2.2)).sum)):ydR n es R :=
  p_r08_Ends hl hE (by rw [(yeT es hE).1];exact h)
theorem p_r08_small{n a b:Int}{es:List E3}{R:Bool→Prop}(h:R (smallF n es a b)):yd0 n es a b R:=by
  unfold yd0
  unfold smallF at h
  refine ⟨fun h1=>?_,fun h1=>yh8 (by omega) ⟨fun h2=>⟨fun h3=>?_,fun h3=>?_⟩,fun h2=>?_⟩⟩
  · rwa [decide_eq_false (by omega)] at h
  · have hE:=gchk_ok es _ _ (yeH h2)
    refine p_r08_Size (by omega) (fun x hx=>(hE x hx).2.2.2.2) ?_
    have e:decide ((es.map (·.2.2)).sum≤b)=decide (es.length≤40∧(yaZ n es=0→n≤a∧(es.map (·.2.2)).sum≤b)):=by
      rw [decide_eq_decide];constructor
      · intro q;exact ⟨by omega,fun _=>⟨h3,q⟩⟩
      · intro q;exact (q.2 h2).2
    rw [e];exact h
  · rwa [decide_eq_false (fun q=>h3 (q.2 h2).1)] at h
  · rwa [decide_eq_true ⟨by omega,fun q=>absurd q h2⟩] at h
theorem p_r08_Few{n:Int}{es:List E3}{R:Bool→Prop}(h:R (smallF n es 6 9)):yf8 n es R:=p_r08_small h
end Go.Proofs.YtjepipbkiadcpaaGreat

/- What the references' pure forms come to: connectedness, errors, scripts. -/
namespace Go.Proofs.YtjepipbkiadcpaaGreat
open Go Go.Proofs.Tryz
section
variable {n : Nat} {es : List E3}
theorem p_r08_Reached{v:Nat}{R:List Bool→Prop}(hl:es.length≤1000000000)(hg:yaZ n es=0)(hv:v<n)(h:∀ o:List Bool,o.length=n→(∀ u,u<n→gb o u=decide (root (ya3 es) u=root (ya3 es) v))→R o):ydg (n:Int) es (v:Int) R:=by
  obtain ⟨hE,hn1,hn12⟩:=yes hg
  unfold ydg
  simp only [Int.toNat_natCast]
  refine ⟨by omega,by simp;omega,?_⟩
  let Q:List Bool→Prop:=fun o=>o.length=n∧gb o v=true∧∀ u,u<n→gb o u=true→root (ya3 es) u=root (ya3 es) v
  let Z:List Bool→List Bool→Prop:=fun o0 o=>(Cl n es o0→o=o0)∧(o=o0∨cf o<cf o0)∧∀ a,gb o0 a=true→gb o a=true
  have hq4:Q ((List.replicate n false).set v true):=by
    refine ⟨by simp,by rw [yhp (by simpa using hv),if_pos rfl],fun u hu h=>?_⟩
    rw [yhp (by simpa using hv)] at h
    split at h
    · rename_i e;rw [e]
    · rw [gb_rep] at h;cases h
  have hcf0:cf ((List.replicate n false).set v true)+1=n:=by
    rw [cf_set (by simpa using hv) (gb_rep n v)]
    unfold cf
    rw [List.filter_eq_self.2 (fun x hx=>by rw [(List.mem_replicate.1 hx).2];rfl)]
    simp
  have hsetQ:∀ {o:List Bool} {b:Nat},Q o→b<n→root (ya3 es) b=root (ya3 es) v→Q (o.set b true):=by
    rintro o b ⟨q1,q4,q5⟩ hb hr
    have hbl:b<o.length:=by omega
    refine ⟨by simpa using q1,?_,fun u hu h=>?_⟩
    · rw [yhp hbl];split <;> first | rfl | exact q4
    · rw [yhp hbl] at h
      split at h
      · rename_i e;rw [e];exact hr
      · exact q5 u hu h
  refine ⟨fun m i o=>Cnt n (fun k=>Q o∧(Cl n es o∨cf o+k+1≤n)) m i,Cnt.start ⟨hq4, .inr (by omega)⟩,?_⟩
  rintro m _ o0 ⟨k,rfl,rfl,hk,hq5,hpr⟩
  refine ⟨fun hlt=>?_,fun hge=>?_⟩
  · refine ⟨fun m i o=>Cnt n (fun a=>Q o∧Z o0 o∧∀ a',a'<a→gb o0 a'=true→∀ b,b<n→0<W es a' b→gb o b=true) m i,Cnt.start ⟨hq5,⟨fun _=>rfl, .inl rfl,fun _ h=>h⟩,fun a' h=>absurd h (by omega)⟩,?_⟩
    rintro m _ o ⟨a,rfl,rfl,ha,hq6,hz,hdone⟩
    refine ⟨fun hlta=>?_,fun hgea=>?_⟩
    · refine ⟨fun m i o=>Cnt n (fun b=>Q o∧Z o0 o∧(∀ a',a'<a→gb o0 a'=true→∀ b,b<n→0<W es a' b→gb o b=true)∧(gb o0 a=true→∀ b',b'<b→0<W es a b'→gb o b'=true)) m i,Cnt.start ⟨hq6,hz,hdone,fun _ b' h=>absurd h (by omega)⟩,?_⟩
      clear hq6 hz hdone hq5
      rintro m _ o ⟨b,rfl,rfl,hb,hq7,hz,hdone,hnow⟩
      have hol:=hq7.1
      refine ⟨fun hltb=>⟨by omega,fun hx=>?_,fun hx=>Cnt.next (by omega) (by omega) ⟨hq7,hz,hdone,fun h=>absurd (hz.2.2 a h) (by simpa using hx)⟩⟩,fun hgeb=>?_⟩
      · simp only [Int.toNat_natCast] at hx ⊢
        have hstep:(a≠b→0<W es a b)→Q (o.set b true)∧Z o0 (o.set b true)∧(∀ a',a'<a→gb o0 a'=true→∀ b',b'<n→0<W es a' b'→gb (o.set b true) b'=true)∧(gb o0 a=true→∀ b',b'<b+1→0<W es a b'→gb (o.set b true) b'=true):=by
          intro hW
          have hbl:b<o.length:=by omega
          have hup:∀ x,gb o x=true→gb (o.set b true) x=true:=fun x h=>by rw [yhp hbl];split <;> first | rfl | exact h
          have hrb:root (ya3 es) b=root (ya3 es) v:=by
            have h1:=hq7.2.2 a (by omega) hx
            by_cases eab:a=b
            · rw [←eab];exact h1
            · rw [←root_W hE hn1 hn12 (hW eab)];exact h1
          refine ⟨hsetQ hq7 (by omega) hrb,⟨fun hcl=>?_,?_,fun x h=>hup x (hz.2.2 x h)⟩,fun a' h1 h2 b' h3 h4=>hup _ (hdone a' h1 h2 b' h3 h4),fun h1 b' h2 h3=>?_⟩
          · have e0:=hz.1 hcl
            subst e0
            refine set_same ?_
            by_cases eab:a=b
            · rw [←eab];exact hx
            · exact hcl a b (by omega) (by omega) hx (hW eab)
          · cases hob:gb o b with
            | true=>rw [set_same hob];exact hz.2.1
            | false =>
              have:=cf_set hbl hob
              rcases hz.2.1 with h | h
              · right;rw [←h];omega
              · right;omega
          · by_cases e2:b'=b
            · subst e2;rw [yhp hbl,if_pos rfl]
            · exact hup _ (hnow h1 b' (by omega) h3)
        have hpass:¬0<W es a b→(gb o0 a=true→∀ b',b'<b+1→0<W es a b'→gb o b'=true):=fun h h1 b' h2 h3=>by
          by_cases e2:b'=b
          · subst e2;exact absurd h3 h
          · exact hnow h1 b' (by omega) h3
        by_cases eab:a=b
        · subst eab
          refine p_r08_Between' hl ⟨fun h=>⟨by omega,Cnt.next (by omega) (by omega) (hstep fun h=>absurd rfl h)⟩,fun h=>Cnt.next (by omega) (by omega) ⟨hq7,hz,hdone,hpass (by rw [show W es a a=0 from W_self es a];omega)⟩⟩
        · refine ygS hl hg eab ⟨fun h=>⟨by omega,Cnt.next (by omega) (by omega) (hstep fun _=>h)⟩,fun h=>Cnt.next (by omega) (by omega) ⟨hq7,hz,hdone,hpass h⟩⟩
      · have hbn:b=n:=by omega
        subst hbn
        refine Cnt.next (by omega) (by omega) ⟨hq7,hz,fun a' h1 h2 b' h3 h4=>?_⟩
        by_cases e2:a'=a
        · subst e2;exact hnow h2 b' h3 h4
        · exact hdone a' (by omega) h2 b' h3 h4
    · have han:a=n:=by omega
      subst han
      refine Cnt.next (by omega) (by omega) ⟨hq6,?_⟩
      by_cases hcl:Cl a es o0
      · rw [hz.1 hcl];exact .inl hcl
      · rcases hz.2.1 with h | h
        · exfalso
          subst h
          exact hcl fun x y hx hy h1 h2=>hdone x hx h1 y hy h2
        · rcases hpr with h2 | h2
          · exact absurd h2 hcl
          · right;omega
  · have hkn:k=n:=by omega
    subst hkn
    rcases hpr with q | q
    · exact h o0 hq5.1 (cl_root hE hn1 hn12 q hv hq5.2.1 hq5.2.2)
    · omega
theorem p_r08_Parts{R:Int→Prop}(hl:es.length≤1000000000)(hg:yaZ n es=0)(h:∀ k:Int,(k=1↔yg8 n es=true)→R k):ydW (n:Int) es R:=by
  obtain ⟨hE,hn1,hn12⟩:=yes hg
  have hcr:=conn_root hE hn1 hn12
  unfold ydW
  simp only [Int.toNat_natCast]
  refine ⟨by omega,?_⟩
  refine ⟨fun m k i o=>Cnt n (fun v=>0≤k∧k≤v∧(v=0→k=0)∧(0<v→1≤k∧(k=1↔∀ x,x<v→root (ya3 es) x=root (ya3 es) 0))∧o.length=n∧(∀ u,u<n→(gb o u=true↔∃ x,x<v∧root (ya3 es) u=root (ya3 es) x))) m i,
    Cnt.start ⟨by omega,by omega,fun _=>rfl,fun h=>absurd h (by omega),by simp,fun u _=>by rw [gb_rep];simp⟩,?_⟩
  rintro m k _ o ⟨v,rfl,rfl,hv,k0,k1,k2,k3,hol,hseen⟩
  refine ⟨fun hlt=>?_,fun hge=>?_⟩
  · have hlt:v<n:=by omega
    simp only [Int.toNat_natCast]
    refine ⟨by omega,fun hx=>?_,fun hx=>⟨i64 (by omega),p_r08_Reached hl hg hlt fun ro hrl hro=>?_⟩⟩
    · obtain ⟨x,hxv,hxr⟩:=(hseen v hlt).1 hx
      refine Cnt.next hlt (by omega) ⟨k0,by omega,fun h=>absurd h (by omega),fun _=>?_,hol,fun u hu=>?_⟩
      · have h3:=k3 (by omega)
        refine ⟨h3.1,?_⟩
        rw [h3.2]
        constructor
        · intro h y hy
          by_cases e:y=v
          · subst e;rw [hxr];exact h x hxv
          · exact h y (by omega)
        · intro h y hy;exact h y (by omega)
      · rw [hseen u hu]
        constructor
        · rintro ⟨y,hy,hyr⟩;exact ⟨y,by omega,hyr⟩
        · rintro ⟨y,hy,hyr⟩
          by_cases e:y=v
          · subst e;exact ⟨x,hxv,hyr.trans hxr⟩
          · exact ⟨y,by omega,hyr⟩
    · refine ⟨fun m i o'=>Cnt n (fun u=>o'.length=n∧(∀ x,x<n→(gb o' x=true↔(gb o x=true∨(x<u∧gb ro x=true))))) m i,Cnt.start ⟨hol,fun x _=>by simp⟩,?_⟩
      rintro m _ o' ⟨u,rfl,rfl,hu,hol',hor⟩
      refine ⟨fun hltu=>?_,fun hgeu=>?_⟩
      · have hltu:u<n:=by omega
        simp only [Int.toNat_natCast]
        have hou:=hor u hltu
        have st:∀ b:Bool,(b=true↔(gb o u=true∨gb ro u=true))→(o'.set u b).length=n∧(∀ x,x<n→(gb (o'.set u b) x=true↔(gb o x=true∨(x<u+1∧gb ro x=true)))):=fun b hbb=>by
          refine ⟨by simpa using hol',fun x hx=>?_⟩
          rw [yhp (by omega)]
          by_cases e:x=u
          · subst e
            rw [if_pos rfl,hbb]
            constructor
            · rintro (h | h)
              · exact .inl h
              · exact .inr ⟨by omega,h⟩
            · rintro (h | h)
              · exact .inl h
              · exact .inr h.2
          · rw [if_neg e,hor x hx]
            constructor
            · rintro (h | h)
              · exact .inl h
              · exact .inr ⟨by omega,h.2⟩
            · rintro (h | h)
              · exact .inl h
              · exact .inr ⟨by omega,h.2⟩
        refine ⟨by omega,fun hx2=>Cnt.next hltu (by omega) (st true ?_),fun hx2=>⟨by omega,Cnt.next hltu (by omega) (st _ ?_)⟩⟩
        · have:=hou.1 hx2
          constructor
          · intro _;rcases this with h | h
            · exact .inl h
            · exact .inr h.2
          · intro _;rfl
        · constructor
          · intro h;exact .inr h
          · rintro (h | h)
            · exact absurd (hou.2 (.inl h)) hx2
            · exact h
      · have hun:u=n:=by omega
        subst hun
        have hnew:¬ ∃ x,x<v∧root (ya3 es) v=root (ya3 es) x:=fun h=>hx ((hseen v hlt).2 h)
        refine Cnt.next (by omega) (by omega) ⟨by omega,by omega,fun h=>absurd h (by omega),fun _=>⟨by omega,?_⟩,hol',fun x hxn=>?_⟩
        · by_cases e0:v=0
          · subst e0
            have:=k2 rfl
            subst this
            constructor
            · intro _ y hy;rw [show y=0 by omega]
            · intro _;rfl
          · have h3:=k3 (by omega)
            constructor
            · intro h;omega
            · intro h;exact absurd ⟨0,by omega,h v (by omega)⟩ hnew
        · rw [hor x hxn,hseen x hxn,hro x hxn,decide_eq_true_eq]
          constructor
          · rintro (⟨y,hy,hyr⟩ | h)
            · exact ⟨y,by omega,hyr⟩
            · exact ⟨v,by omega,h.2⟩
          · rintro ⟨y,hy,hyr⟩
            by_cases e:y=v
            · subst e;exact .inr ⟨hxn,hyr⟩
            · exact .inl ⟨y,by omega,hyr⟩
  · have hvn:v=n:=by omega
    subst hvn
    refine h k ?_
    rw [(k3 (by omega)).2,hcr]
theorem yhW{R:Bool→Prop}(hl:es.length≤1000000000)(hg:yaZ n es=0)(h:R (yg8 n es)):ydl (n:Int) es R :=
  p_r08_Parts hl hg fun k hk=>by
    have e:decide (k=1)=yg8 n es:=by rw [Bool.eq_iff_iff,decide_eq_true_eq];exact hk
    rw [e];exact h
end
section
variable {n q : Int} {es : List E3} {d s : List Int}
end
end Go.Proofs.YtjepipbkiadcpaaGreat

/- What the pure forms of the program's and the library's small functions come to. -/
namespace Go.Proofs.YtjepipbkiadcpaaGreat
open Go Go.Proofs.Tryz
theorem yfC{s:List Int}{R:List Int→Prop}(hl:s.length≤1000000000)(h:R s):ybI s R:=by
  unfold ybI
  exact fun nil hn=>⟨fun q=>by rw [hn q] at h;exact h,fun q=>⟨by omega,h⟩⟩
end Go.Proofs.YtjepipbkiadcpaaGreat

/- What the library's pure forms come to: search, minimum, order. -/
namespace Go.Proofs.YtjepipbkiadcpaaGreat
open Go Go.Proofs.Tryz
theorem any_gi{p:Int→Bool}{s:List Int} : s.any p=true↔∃ k,k<s.length∧p (gi s k)=true:=by
  rw [List.any_eq_true]
  constructor
  · rintro ⟨x,hx,hp⟩
    obtain ⟨k,hk,rfl⟩:=List.getElem_of_mem hx
    exact ⟨k,hk,by rw [yba hk];exact hp⟩
  · rintro ⟨k,hk,hp⟩
    exact ⟨_,gi_mem hk,hp⟩
theorem p_slices_Index{s:List Int}{v:Int}{R:Int→Prop}(hl:s.length≤1000000000)(h1:∀ k:Nat,k<s.length→gi s k=v→R (k:Int))(h2:(∀ k,k<s.length→gi s k≠v)→R (-1)):yb1 s v R:=by
  unfold yb1
  refine ⟨Cnt s.length (fun k=>∀ j,j<k→gi s j≠v),Cnt.start (fun j hj=>absurd hj (by omega)),?_⟩
  rintro m _ ⟨k,rfl,rfl,hk,hinv⟩
  simp only [Int.toNat_natCast]
  refine ⟨fun hlt=>⟨by omega,fun h=>h1 k (by omega) h.symm,fun h=>Cnt.next (by omega) (by omega) fun j hj=>?_⟩,fun hge=>h2 fun j hj=>hinv j (by omega)⟩
  by_cases e:j=k
  · subst e;exact fun q=>h q.symm
  · exact hinv j (by omega)
theorem yhl{s:List Int}{v:Int}{R:Bool→Prop}(hl:s.length≤1000000000)(h:R (decide (v∈s))):ybJ s v R:=by
  unfold ybJ
  refine p_slices_Index hl (fun k hk hp=>?_) (fun hn=>?_)
  · rw [decide_eq_true (by rw [←hp];exact gi_mem hk)] at h
    have e:decide (0≤(k:Int))=true:=by simp
    rw [e];exact h
  · have e:¬v∈s:=fun q=>by
      obtain ⟨k,hk,rfl⟩:=List.getElem_of_mem q
      exact hn k hk (yba hk)
    rw [decide_eq_false e] at h;exact h
theorem p_cmp_Less{x y:Int}{R:Bool→Prop}(h:R (decide (x<y))):ycX x y R:=by
  unfold ycX ybP
  simp only [decide_true,Bool.not_true,Bool.false_eq_true,false_implies,not_false_eq_true,true_implies,true_and]
  exact h
end Go.Proofs.YtjepipbkiadcpaaGreat

/- What the pure forms of chips, graph and firing come to. -/
namespace Go.Proofs.YtjepipbkiadcpaaGreat
open Go Go.Proofs.Tryz
theorem p_chips_within{k:Int}{R:Bool→Prop}(h:R (inF k)):ycY k R:=by
  unfold ycY
  refine ⟨fun h1=>?_,fun h1=>?_⟩
  · have e:decide (k≤1048576)=inF k:=by unfold inF;simp [h1]
    rw [e];exact h
  · have e:false=inF k:=by unfold inF;simp [h1]
    rw [e];exact h
theorem yfo{d:List Int}{n:Int}{R:Int→Prop}(h:R (yeK d n)):yb6 d n R:=by
  unfold yb6 yc5
  have hout:¬(1≤n∧n≤12)→R 2:=fun q=>by
    have:yeK d n=2:=by unfold yeK vertsF;rw [if_neg q,if_neg (by omega)]
    rwa [this] at h
  refine ⟨fun q=>⟨fun q2=>absurd q2 (by omega),fun _=>hout (by omega)⟩,fun q=>⟨fun q2=>⟨fun q3=>absurd q3 (by omega),fun _=>hout (by omega)⟩,fun q2=>⟨fun _=>?_,fun q3=>absurd rfl q3⟩⟩⟩
  have hc:yeK d n=if (d.length:Int)=n then (if d.all inF then 0 else 2) else 8:=by unfold yeK;rw [if_pos (by unfold vertsF;rw [if_pos (by omega)])]
  rw [hc] at h
  refine ⟨fun hln=>?_,fun hln=>by rwa [if_neg hln] at h⟩
  rw [if_pos hln] at h
  refine ⟨Cnt d.length (fun k=>∀ j,j<k→inF (gi d j)=true),Cnt.start (fun j hj=>absurd hj (by omega)),?_⟩
  rintro m _ ⟨k,rfl,rfl,hk,hinv⟩
  refine ⟨fun hlt=>⟨by omega,p_chips_within ⟨fun h1=>Cnt.next (by omega) (by omega) fun j hj=>?_,fun h1=>?_⟩⟩,fun hge=>?_⟩
  · by_cases e:j=k
    · subst e;simpa using h1
    · exact hinv j (by omega)
  · rw [if_neg (fun hall=>h1 ((ye8 inF d).1 hall _ (by omega)))] at h;exact h
  · rw [if_pos ((ye8 inF d).2 fun j hj=>hinv j (by omega))] at h;exact h
theorem ygj{n v:Int}{R:Bool→Prop}(h:R (decide (0≤v∧v<n))):ybU n v R:=by
  unfold ybU
  refine ⟨fun h1=>?_,fun h1=>?_⟩
  · have e:decide (v<n)=decide (0≤v∧v<n):=by simp [h1]
    rw [e];exact h
  · have e:false=decide (0≤v∧v<n):=by simp [h1]
    rw [e];exact h
theorem ygK{a b:Int}{R:Int→Prop}(h:R (cmpF a b)):ybY a b R:=by
  unfold ybY ybP
  unfold cmpF at h
  refine ⟨fun q=>absurd q (by simp),fun _=>⟨fun q=>absurd q (by simp),fun _=>⟨fun h1=>by rwa [if_pos h1] at h,fun h1=>?_⟩⟩⟩
  rw [if_neg h1] at h
  refine ⟨fun h2=>by rwa [if_pos h2] at h,fun h2=>by rwa [if_neg h2] at h⟩
theorem p_cmp_Or2{x y:Int}{R:Int→Prop}(h:R (orF x y)):ydE [x,y] R:=by
  unfold ydE
  unfold orF at h
  refine ⟨Cnt 2 (fun k=>∀ j,j<k→gi [x,y] j=0),Cnt.start (fun j hj=>absurd hj (by omega)),?_⟩
  rintro m _ ⟨k,rfl,rfl,hk,hinv⟩
  simp only [Int.toNat_natCast,List.length_cons,List.length_nil]
  have hk3:k=0∨k=1∨k=2:=by omega
  have g0:gi [x,y] 0=x:=rfl
  have g1:gi [x,y] 1=y:=rfl
  have hnx:gi [x,y] k=0→∀ j,j<k+1→gi [x,y] j=0:=fun q j hj=>by
    by_cases e:j=k
    · subst e;exact q
    · exact hinv j (by omega)
  refine ⟨fun hlt=>⟨by omega,fun q=>Cnt.next (by omega) (by omega) (hnx q),fun q=>?_⟩,fun hge=>?_⟩
  · rcases hk3 with rfl | rfl | rfl
    · rw [g0] at q ⊢;rwa [if_pos q] at h
    · have h0:=hinv 0 (by omega)
      rw [g0] at h0
      rw [g1];rwa [if_neg (fun q2=>q2 h0)] at h
    · exact absurd hlt (by omega)
  · have:k=2:=by omega
    subst this
    have h0:=hinv 0 (by omega)
    have h1:=hinv 1 (by omega)
    rw [g0] at h0
    rw [g1] at h1
    rw [if_neg (fun q2=>q2 h0),h1] at h;exact h
theorem ye1{a b c d:Int}{R:Int→Prop}(h:R (ygg a b c d)):ybV a b c d R :=
  ygK (ygK (p_cmp_Or2 h))
theorem ygN{n:Int}{es:List E3}{R:Int→Prop}(hl:es.length≤1000000000)(h:R (yaZ n es)):ycO n es R:=by
  unfold ycO
  have hout:¬(1≤n∧n≤12)→R 2:=fun q=>by unfold yaZ at h;rwa [if_neg q] at h
  refine ⟨1≤n∧n≤12,fun hn=>?_,fun q=>hout (by omega),fun q=>⟨fun q2=>hout (by omega),fun q2=>⟨by omega,by omega⟩⟩⟩
  have hg:yaZ n es=gchk n (-1) (-1) es:=by unfold yaZ;rw [if_pos hn]
  rw [hg] at h
  refine ⟨fun m i a b=>Cnt es.length (fun k=>a=(pre es k).1∧b=(pre es k).2∧gchk n (-1) (-1) es=gchk n (pre es k).1 (pre es k).2 (es.drop k)) m i,Cnt.start ⟨rfl,rfl,rfl⟩,?_⟩
  rintro m _ _ _ ⟨k,rfl,rfl,hk,rfl,rfl,hinv⟩
  simp only [Int.toNat_natCast]
  refine ⟨fun hlt=>⟨by omega,?_⟩,fun hge=>?_⟩
  · have hlt:k<es.length:=by omega
    rw [yg1 hlt,ye9] at hinv
    generalize hx:ge es k=x at hinv ⊢
    have hed:R (if ygf n (pre es k).1 (pre es k).2 x=0 then gchk n x.1 x.2.1 (es.drop (k+1)) else ygf n (pre es k).1 (pre es k).2 x):=by rw [←hinv];exact h
    have h2:¬((0≤x.1∧x.1<n)∧(0≤x.2.1∧x.2.1<n)∧1≤x.2.2∧x.2.2≤50)→R 2:=fun q=>by
      unfold ygf at hed;rw [if_neg q,if_neg (by omega)] at hed;exact hed
    refine ⟨(0≤x.1∧x.1<n)∧(0≤x.2.1∧x.2.1<n)∧1≤x.2.2∧x.2.2≤50,fun hJ=>?_,ygj ⟨fun q1=>ygj ⟨fun q2=>⟨fun q3=>h2 (by omega),fun q3=>⟨fun q4=>h2 (by omega),fun q4=>?_⟩⟩,fun q2=>h2 (by simp at q2;omega)⟩,fun q1=>h2 (by simp at q1;omega)⟩⟩
    · have he:ygf n (pre es k).1 (pre es k).2 x=if x.1≤x.2.1∧ygg (pre es k).1 (pre es k).2 x.1 x.2.1<0 then 0 else 9:=by unfold ygf;rw [if_pos hJ]
      rw [he] at hed hinv
      refine ⟨fun q=>?_,fun q=>ye1 ⟨fun q2=>?_,fun q2=>Cnt.next hlt (by omega) ⟨?_,?_,?_⟩⟩⟩
      · rw [if_neg (show ¬(x.1≤x.2.1∧_) by omega),if_neg (by omega)] at hed;exact hed
      · rw [if_neg (show ¬(x.1≤x.2.1∧_) by omega),if_neg (by omega)] at hed;exact hed
      · simp [pre,hx]
      · simp [pre,hx]
      · have hc:x.1≤x.2.1∧ygg (pre es k).1 (pre es k).2 x.1 x.2.1<0:=⟨by omega,by omega⟩
        rw [if_pos hc,if_pos rfl] at hinv
        rw [hinv]
        simp [pre,hx]
    · simp only [decide_eq_true_eq] at q1 q2
      exact ⟨q1,q2,by omega,by omega⟩
  · have hk2:k=es.length:=by omega
    rw [hinv,hk2,List.drop_length] at h
    exact h
def e1(x:E3)(s:Nat→Int)(v:Nat):Int:=(if (v:Int)=x.1 then x.2.2*(s x.1.toNat-s x.2.1.toNat) else 0)-(if (v:Int)=x.2.1 then x.2.2*(s x.1.toNat-s x.2.1.toNat) else 0)
section
variable {n : Nat} {es : List E3} {d s : List Int}
end
end Go.Proofs.YtjepipbkiadcpaaGreat

/- The facts of a graph that is made of ends: in normal form, its size, its genus, its degrees. -/
namespace Go.Proofs.YtjepipbkiadcpaaGreat
open Go Go.RowKit Go.Shelf Go.Proofs.Tryz
def sF:List E3→List E3
  | []=>[]
  | x::t=>List.replicate x.2.2.toNat (x.1,x.2.1,1)++sF t
theorem yik:∀ (a b:List E3),sF (a++b)=sF a++sF b
  | [],b=>rfl
  | x::t,b=>by rw [List.cons_append,sF,sF,yik t b,List.append_assoc]
theorem sF_take{es:List E3}{k:Nat}(hk:k<es.length):sF (es.take (k+1))=sF (es.take k)++List.replicate (ge es k).2.2.toNat ((ge es k).1,(ge es k).2.1,1):=by
  rw [List.take_add_one,List.getElem?_eq_getElem hk,←yfn hk,yik]
  simp [sF]
theorem sF_pre{es:List E3}{k:Nat}(hk:k<es.length){j:Nat}(hj:j≤(ge es k).2.2.toNat):sF (es.take k)++List.replicate j ((ge es k).1,(ge es k).2.1,1) <+: sF es:=by
  have h1:es=es.take (k+1)++es.drop (k+1):=(List.take_append_drop _ _).symm
  have h2:sF es=sF (es.take k)++List.replicate (ge es k).2.2.toNat ((ge es k).1,(ge es k).2.1,1)++sF (es.drop (k+1)):=by
    conv=>lhs;rw [h1]
    rw [yik,sF_take hk]
  obtain ⟨i,hi⟩:∃ i,(ge es k).2.2.toNat=j+i:=⟨(ge es k).2.2.toNat-j,by omega⟩
  rw [h2,hi,←List.replicate_append_replicate]
  exact ⟨List.replicate i ((ge es k).1,(ge es k).2.1,1)++sF (es.drop (k+1)),by simp only [List.append_assoc]⟩
theorem sF_few{n:Nat} : ∀ {es:List E3},EOk n es→(sF es).length≤50*es.length
  | [],_=>Nat.le_refl _
  | x::t,h=>by
    have hx:=h x (by simp)
    have:=sF_few (es:=t) fun z hz=>h z (by simp [hz])
    rw [sF,List.length_append,List.length_replicate,List.length_cons]
    omega
def gmap(y:Int×Int×Int):E3:=(y.2.1,y.2.2,1)
theorem yg5{n:Nat}{es:List E3}(hE:EOk n es)(hl:es.length≤1000):yci (n:Int) es (fun l=>l.map gmap <+: sF es) (fun l=>l.map gmap=sF es):=by
  unfold yci
  refine ⟨fun m pre e2 v=>Cnt es.length (fun k=>pre.map gmap=sF (es.take k)∧0≤e2∧e2≤50*k) m v,Cnt.start ⟨rfl,by omega,by omega⟩,?_⟩
  rintro m pre e2 _ ⟨k,rfl,rfl,hk,hpre,he0,he1⟩
  simp only [Int.toNat_natCast]
  refine ⟨fun hlt=>⟨by omega,?_⟩,fun hge=>?_⟩
  · have hkl:k<es.length:=by omega
    have hx:=hE _ (List.mem_of_getElem? (ydJ hkl))
    refine ⟨fun m pre e3 v=>Cnt (ge es k).2.2.toNat (fun j=>pre.map gmap=sF (es.take k)++List.replicate j ((ge es k).1,(ge es k).2.1,1)∧0≤e3∧e3≤50*k+j) m v,Cnt.start ⟨by simpa using hpre,he0,by omega⟩,?_⟩
    rintro m3 pre3 e3 _ ⟨j,rfl,rfl,hj,hp3,h30,h31⟩
    have hstep:∀ e:Int,(pre3++[(e,(ge es k).1,(ge es k).2.1)]).map gmap=sF (es.take k)++List.replicate (j+1) ((ge es k).1,(ge es k).2.1,1):=fun e=>by
      rw [List.map_append,hp3,List.replicate_succ',List.append_assoc];rfl
    refine ⟨fun h1=>⟨?_,⟨i64 (by omega),Cnt.next (by omega) (by omega) ⟨hstep e3,by omega,by omega⟩⟩,trivial⟩,fun h1=>Cnt.next (by omega) (by omega) ⟨?_,by omega,by omega⟩⟩
    · show (pre3++[(e3,(ge es k).1,(ge es k).2.1)]).map gmap <+: sF es
      rw [hstep];exact sF_pre hkl (by omega)
    · have e:j=(ge es k).2.2.toNat:=by omega
      rw [sF_take hkl,hp3,e]
  · have e:k=es.length:=by omega
    rw [e,List.take_length] at hpre
    exact hpre
def EndsOk(d:Nat)(l:List (Int×Int)):Prop:=∀ e∈l,(0≤e.1∧e.1<d)∧0≤e.2∧e.2<d
def Joins(l:List (Int×Int))(v u:Nat):Prop:=((v:Int),(u:Int))∈l∨((u:Int),(v:Int))∈l
end Go.Proofs.YtjepipbkiadcpaaGreat

/- A graph is looked through whatever its length: a right one has few edges. -/
namespace Go.Proofs.YtjepipbkiadcpaaGreat
open Go Go.Proofs.Tryz
end Go.Proofs.YtjepipbkiadcpaaGreat

/- What the functions of layer 12 (contract) come to: ends, lists laid together, vertices that move, graphs that are made. -/
namespace Go.Proofs.YtjepipbkiadcpaaGreat
open Go Go.RowKit Go.Shelf Go.Proofs.Tryz
theorem sF_ends:∀ es:List E3,sF es=(yaW es).map fun e=>(e.1,e.2,1)
  | []=>rfl
  | x::t=>by
    have e:yaW (x::t)=List.replicate x.2.2.toNat (x.1,x.2.1)++yaW t:=by unfold yaW;rw [List.flatMap_cons]
    rw [sF,sF_ends t,e,List.map_append,List.map_replicate]
theorem yfV{n:Int}{es:List E3}{R:List (Int×Int)→Int→Prop}(hl:es.length≤100)(he:yaZ n es≠0→R [] (yaZ n es))(h:yaZ n es=0→R (yaW es) 0):ycI n es R:=by
  unfold ycI
  refine ygN (by omega) ⟨fun q=>?_,fun q=>he q⟩
  have hn:(1:Int)≤n∧n≤12:=by
    unfold yaZ at q;split at q
    · assumption
    · cases q
  obtain ⟨n,rfl⟩:∃ k:Nat,n=k:=⟨n.toNat,by omega⟩
  obtain ⟨hE,hn1,hn12⟩:=yes q
  show ∃ Pr Rr:List (Int×Int×Int)→Prop,_
  refine ⟨_,_,yg5 hE (by omega),fun pre out=>out=pre.map fun y=>(y.2.1,y.2.2),rfl,?_,?_⟩
  · rintro pre e a b out rfl hPr
    have hPr:(pre++[(e,a,b)]).map gmap <+: sF es:=hPr
    have h2:=hPr.length_le
    have h3:=sF_few hE
    rw [List.length_map,List.length_append] at h2
    simp only [List.length_singleton] at h2
    refine ⟨by rw [List.length_map];omega,?_⟩
    show _=List.map _ _
    rw [List.map_append];rfl
  · rintro ys out rfl hR
    have hR:ys.map gmap=sF es:=hR
    have e:ys.map (fun y=>(y.2.1,y.2.2))=yaW es:=by
      have h2:(ys.map gmap).map (fun y:E3=>(y.1,y.2.1))=(sF es).map fun y=>(y.1,y.2.1):=by rw [hR]
      rw [sF_ends,List.map_map,List.map_map] at h2
      have e1:((fun y:E3=>(y.1,y.2.1)) ∘ gmap)=fun y:Int×Int×Int=>(y.2.1,y.2.2):=rfl
      have e2:((fun y:E3=>(y.1,y.2.1)) ∘ fun e:Int×Int=>(e.1,e.2,1))=id:=rfl
      rw [e1,e2,List.map_id] at h2
      exact h2
    rw [e];exact h q
structure GrOk(n:Nat)(es:List E3)(E:List (Int×Int)):Prop where
  g:yaZ n es=0
  e:yaW es=E
  one:1≤n
  few:n≤12
  ok:EndsOk n E
  len:E.length≤50*es.length
theorem gr_of{n:Int}{es:List E3}(q:yaZ n es=0):∃ k:Nat,n=k∧GrOk k es (yaW es):=by
  have hn:(1:Int)≤n∧n≤12:=by
    unfold yaZ at q;split at q
    · assumption
    · cases q
  obtain ⟨n,rfl⟩:∃ k:Nat,n=k:=⟨n.toNat,by omega⟩
  obtain ⟨hE,hn1,hn12⟩:=yes q
  refine ⟨n,rfl,q,rfl,hn1,hn12,fun e he=>?_,?_⟩
  · unfold yaW at he
    obtain ⟨x,hx,hr⟩:=List.mem_flatMap.1 he
    rw [(List.mem_replicate.1 hr).2]
    have:=hE x hx
    simp only;omega
  · exact (yeT es fun x hx=>by have:=hE x hx;omega).2
theorem GrOk.mult{n:Nat}{es:List E3}{E:List (Int×Int)}(h:GrOk n es E):∀ x∈es,1≤x.2.2∧x.2.2≤50:=fun x hx=>by
  obtain ⟨hE,_,_⟩:=yes h.g
  have:=hE x hx;omega
theorem GrOk.size{n:Nat}{es:List E3}{E:List (Int×Int)}(h:GrOk n es E):(es.map (·.2.2)).sum=(E.length:Int):=by
  rw [←h.e];exact (yeT es h.mult).1.symm
theorem p_ends8{n:Nat}{es:List E3}{E:List (Int×Int)}(h:GrOk n es E)(hl:es.length≤100){R:List (Int×Int)→Prop}(hR:R E):ydr n es R :=
  p_r08_Ends (by omega) h.mult (by rw [h.e];exact hR)
theorem p_size8{n:Nat}{es:List E3}{E:List (Int×Int)}(h:GrOk n es E)(hl:es.length≤100){R:Int→Prop}(hR:R (E.length:Int)):ydR n es R :=
  p_r08_Size (by omega) h.mult (by rw [h.size];exact hR)
end Go.Proofs.YtjepipbkiadcpaaGreat

/- Half-edges: how many there are at a vertex, their lists. No program in sight. -/
namespace Go.Proofs.YtjepipbkiadcpaaGreat
open Go Go.RowKit Go.Shelf Go.Proofs.Tryz
def lpS:List E3→Int→Int
  | [],_=>0
  | x::t,v=>(if x.1=v∧x.2.1=v then x.2.2 else 0)+lpS t v
theorem loop_find{n:Int}(v:Nat):∀ (es:List E3) (a b:Int),gchk n a b es=0→((es.find? fun x=>decide (x.1=mnF (v:Int) v∧x.2.1=mxF (v:Int) v)).map (·.2.2)).getD 0=lpS es v
  | [],_,_,_=>rfl
  | x::t,a,b,h=>by
    have hmn:mnF (v:Int) v=v:=by unfold mnF;split <;> rfl
    have hmx:mxF (v:Int) v=v:=by unfold mxF;split <;> rfl
    have hlt:=yii (x::t) a b h
    rw [ye9] at h
    by_cases h0:ygf n a b x=0
    · rw [if_pos h0] at h
      have ih:=loop_find v t _ _ h
      have ht:=yii t _ _ h
      rw [hmn,hmx] at ih ⊢
      rw [List.find?_cons,lpS]
      by_cases c:x.1=(v:Int)∧x.2.1=(v:Int)
      · have hnone:t.find? (fun x=>decide (x.1=(v:Int)∧x.2.1=(v:Int)))=none:=by
          rw [List.find?_eq_none]
          intro y hy
          have:=ht y hy
          simp only [decide_eq_true_eq]
          omega
        rw [hnone] at ih
        rw [decide_eq_true c,if_pos c,←ih]
        simp
      · rw [decide_eq_false c,if_neg c,ih];simp
    · rw [if_neg h0] at h;exact absurd h h0
theorem w1_sum{n:Nat}{x:E3}(hx:0≤x.1∧x.1<n∧0≤x.2.1∧x.2.1<n)(v:Nat):sm n (fun u=>w1 x v u)=if x.1≠x.2.1∧(x.1=v∨x.2.1=v) then x.2.2 else 0:=by
  by_cases c:x.1≠x.2.1∧(x.1=v∨x.2.1=v)
  · rw [if_pos c]
    rcases c.2 with e | e
    · refine Eq.trans (ya0 fun u hu=>?_) (yhv x.2.2 (n:=n) (j:=x.2.1.toNat) (by omega))
      unfold w1
      by_cases q:u=x.2.1.toNat
      · rw [if_pos q,if_pos ⟨c.1, .inl ⟨e,by omega⟩⟩]
      · rw [if_neg q,if_neg (fun h=>by rcases h.2 with h | h <;> omega)]
    · refine Eq.trans (ya0 fun u hu=>?_) (yhv x.2.2 (n:=n) (j:=x.1.toNat) (by omega))
      unfold w1
      by_cases q:u=x.1.toNat
      · rw [if_pos q,if_pos ⟨c.1, .inr ⟨by omega,e⟩⟩]
      · rw [if_neg q,if_neg (fun h=>by rcases h.2 with h | h <;> omega)]
  · rw [if_neg c]
    refine Eq.trans (ya0 fun u hu=>?_) (ydG n)
    unfold w1
    rw [if_neg (fun h=>c ⟨h.1,by rcases h.2 with h | h <;> omega⟩)]
def endC(l:List (Int×Int))(v:Int):Int:=((l.countP fun e=>decide (e.1=v)):Int)+((l.countP fun e=>decide (e.2=v)):Int)
theorem endC_app(l m:List (Int×Int))(v:Int):endC (l++m) v=endC l v+endC m v:=by
  unfold endC;rw [List.countP_append,List.countP_append];omega
theorem endC_rep(k:Nat)(e:Int×Int)(v:Int):endC (List.replicate k e) v=k*((if e.1=v then 1 else 0)+if e.2=v then 1 else 0):=by
  unfold endC
  rw [List.countP_replicate,List.countP_replicate]
  by_cases h1:e.1=v <;> by_cases h2:e.2=v <;> simp [h1,h2] <;> omega
theorem deg_endC{n:Nat}{v:Nat} : ∀ (es:List E3),EOk n es→deg n es v+2*lpS es v=endC (yaW es) v
  | [],_=>by
    have:deg n [] v=0:=by
      unfold deg;rw [ya0 (g:=fun _=>0) (fun u _=>W_nil v u),ydG]
    rw [this];rfl
  | x::t,h=>by
    have hx:=h x (by simp)
    have ih:=deg_endC (v:=v) t fun y hy=>h y (by simp [hy])
    have e1:deg n (x::t) v=sm n (fun u=>w1 x v u)+deg n t v:=by
      unfold deg;rw [←yeQ];exact ya0 fun u _=>yhV x t v u
    have e2:yaW (x::t)=List.replicate x.2.2.toNat (x.1,x.2.1)++yaW t:=by unfold yaW;rw [List.flatMap_cons]
    rw [e1,e2,endC_app,endC_rep,lpS,w1_sum (by omega),←ih]
    have hk:(x.2.2.toNat:Int)=x.2.2:=by omega
    rw [hk]
    show _=x.2.2*((if x.1=(v:Int) then (1:Int) else 0)+if x.2.1=(v:Int) then (1:Int) else 0)+_
    by_cases c1:x.1=(v:Int) <;> by_cases c2:x.2.1=(v:Int)
    · rw [if_neg (by omega),if_pos ⟨c1,c2⟩,if_pos c1,if_pos c2];omega
    · rw [if_pos ⟨by omega, .inl c1⟩,if_neg (by omega),if_pos c1,if_neg c2];omega
    · rw [if_pos ⟨by omega, .inr c2⟩,if_neg (by omega),if_neg c1,if_pos c2];omega
    · rw [if_neg (by omega),if_neg (by omega),if_neg c1,if_neg c2];omega
def hat(E:List (Int×Int))(h:Nat):Int:=if h % 2=0 then (gx E (h / 2)).1 else (gx E (h / 2)).2
def ownH(E:List (Int×Int))(k:Nat)(v:Int):List Int:=((List.range k).filter fun h=>decide (hat E h=v)).map fun h:Nat=>(h:Int)
theorem ygF(E:List (Int×Int))(k:Nat)(v:Int):ownH E (k+1) v=ownH E k v++if hat E k=v then [(k:Int)] else []:=by
  unfold ownH
  rw [List.range_succ,List.filter_append,List.map_append]
  congr 1
  by_cases e:hat E k=v
  · rw [if_pos e];simp [e]
  · rw [if_neg e];simp [e]
theorem ownH_mem{E:List (Int×Int)}{k:Nat}{v x:Int} : x∈ownH E k v↔∃ h:Nat,x=h∧h<k∧hat E h=v:=by
  unfold ownH
  simp only [List.mem_map,List.mem_filter,List.mem_range,decide_eq_true_eq]
  constructor
  · rintro ⟨h,⟨h1,h2⟩,rfl⟩;exact ⟨h,rfl,h1,h2⟩
  · rintro ⟨h,rfl,h1,h2⟩;exact ⟨h,⟨h1,h2⟩,rfl⟩
theorem ownH_len(E:List (Int×Int))(v:Int):∀ m,m≤E.length→((ownH E (2*m) v).length:Int)=endC (E.take m) v
  | 0,_=>by simp [ownH,endC]
  | m+1,h=>by
    have ih:=ownH_len E v m (by omega)
    have e:2*(m+1)=2*m+1+1:=by omega
    rw [e,ygF,ygF,List.length_append,List.length_append,List.take_add_one,yaY (by omega),endC_app,←ih]
    have h1:hat E (2*m)=(gx E m).1:=by unfold hat;rw [if_pos (by omega),show 2*m / 2=m by omega]
    have h2:hat E (2*m+1)=(gx E m).2:=by unfold hat;rw [if_neg (by omega),show (2*m+1) / 2=m by omega]
    rw [h1,h2]
    have h3:endC (some (gx E m)).toList v=(if (gx E m).1=v then 1 else 0)+if (gx E m).2=v then 1 else 0:=by
      have:=endC_rep 1 (gx E m) v
      rw [show List.replicate 1 (gx E m)=(some (gx E m)).toList from rfl] at this
      rw [this];omega
    rw [h3]
    by_cases c1:(gx E m).1=v <;> by_cases c2:(gx E m).2=v <;> simp [c1,c2] <;> omega
theorem ownH_asc(E:List (Int×Int))(v:Int):∀ k,(ownH E k v).Pairwise (· < ·)
  | 0=>by simp [ownH]
  | k+1=>by
    rw [ygF,List.pairwise_append]
    refine ⟨ownH_asc E v k,by split <;> simp,fun a ha b hb=>?_⟩
    obtain ⟨h,rfl,h1,_⟩:=ownH_mem.1 ha
    split at hb
    · simp at hb;omega
    · simp at hb
theorem nodupI_le:∀ {l K:List Int},l.Nodup→(∀ x∈l,x∈K)→l.length≤K.length
  | [],K,_,_=>Nat.zero_le _
  | a::t,K,hn,h=>by
    have ha:=h a (by simp)
    have hn:=List.nodup_cons.1 hn
    have:=nodupI_le (l:=t) (K:=K.erase a) hn.2 fun x hx=>by
      have hne:x≠a:=fun e=>hn.1 (e▸hx)
      exact (List.mem_erase_of_ne hne).2 (h x (by simp [hx]))
    have hpos:0<K.length:=List.length_pos_of_mem ha
    rw [List.length_erase_of_mem ha] at this
    rw [List.length_cons];omega
theorem same_mem{l K:List Int}(hn:l.Nodup)(h:∀ x∈l,x∈K)(he:l.length=K.length){x:Int}(hx:x∈K):x∈l:=by
  apply Classical.byContradiction
  intro hq
  have:=nodupI_le (l:=x::l) (K:=K) (List.nodup_cons.2 ⟨hq,hn⟩) fun y hy=>by
    rcases List.mem_cons.1 hy with e | e
    · rw [e];exact hx
    · exact h y e
  rw [List.length_cons] at this;omega
structure ArOk(E:List (Int×Int))(v:Int)(l:List Int):Prop where
  len:l.length=(ownH E (2*E.length) v).length
  sub:∀ x∈l,x∈ownH E (2*E.length) v
  nd:l.Nodup
  min:∀ x∈l,gi l 0≤x
theorem ArOk.first{E:List (Int×Int)}{v:Int}{l:List Int}(h:ArOk E v l)(h0:0<l.length):gi l 0=gi (ownH E (2*E.length) v) 0:=by
  have hl:=h.len
  have hm:gi l 0∈l:=by rw [yba h0];exact List.getElem_mem _
  have ho:gi (ownH E (2*E.length) v) 0∈ownH E (2*E.length) v:=by rw [yba (by omega)];exact List.getElem_mem _
  have h1:=h.min _ (same_mem h.nd h.sub hl ho)
  have h2:=h.sub _ hm
  have ha:=ownH_asc E v (2*E.length)
  generalize ownH E (2*E.length) v=K at *
  cases K with
  | nil=>simp at h2
  | cons a t =>
    have e:gi (a::t) 0=a:=rfl
    rw [e] at h1 ⊢
    rcases List.mem_cons.1 h2 with q | q
    · exact q
    · have:=(List.pairwise_cons.1 ha).1 _ q;omega
end Go.Proofs.YtjepipbkiadcpaaGreat

/- The reference's checks of ribbon graphs, rotors and chips. -/
namespace Go.Proofs.YtjepipbkiadcpaaGreat
open Go Go.RowKit Go.Shelf Go.Proofs.Tryz
theorem p_r13_JoinedN{n:Int}{es:List E3}{R:Int→Prop}(hl:es.length≤1000000000)(h:R (joinedE n es)):ydL n es R:=by
  unfold ydL
  unfold joinedE at h
  refine yh8 hl ⟨fun q=>?_,fun q=>by rw [if_neg q] at h;exact h⟩
  rw [if_pos q] at h
  have hn:(1:Int)≤n∧n≤12:=by
    unfold yaZ at q;split at q
    · assumption
    · cases q
  obtain ⟨n,rfl⟩:∃ k:Nat,n=k:=⟨n.toNat,by omega⟩
  refine yhW hl q ⟨fun q2=>by rw [if_pos q2] at h;exact h,fun q2=>by rw [if_neg q2] at h;exact h⟩
theorem p_r08_HoldsN{l:List Int}{v:Int}{R:Bool→Prop}(hl:l.length≤1000000)(h:R (decide (v∈l))):yd1 l v R:=by
  unfold yd1
  refine ⟨Cnt l.length (fun k=>∀ j,j<k→gi l j≠v),Cnt.start (fun j hj=>absurd hj (by omega)),?_⟩
  rintro m _ ⟨k,rfl,rfl,hk,hinv⟩
  simp only [Int.toNat_natCast]
  refine ⟨fun hlt=>⟨by omega,fun e=>?_,fun e=>Cnt.next (by omega) (by omega) fun j hj=>?_⟩,fun hge=>?_⟩
  · rw [decide_eq_true (by rw [←e,yba (by omega)];exact List.getElem_mem _)] at h;exact h
  · by_cases q:j=k
    · rw [q];exact e
    · exact hinv j (by omega)
  · rw [decide_eq_false] at h
    · exact h
    · intro hm
      obtain ⟨j,hj,e⟩:=List.getElem_of_mem hm
      exact hinv j (by omega) (by rw [yba hj];exact e)
theorem nodup_gi{l:List Int}(h:∀ j,j<l.length→gi l j∉l.take j):l.Nodup:=by
  refine List.pairwise_iff_getElem.2 fun i j hi hj hij e=>?_
  refine h j hj ?_
  rw [yba hj,←e]
  exact List.mem_take_iff_getElem.2 ⟨i,by omega,rfl⟩
section
variable {n : Nat} {es : List E3} {E : List (Int × Int)}
theorem p_degN(G:GrOk n es E)(hl:es.length≤100){v:Nat}(hv:v<n){R:Int→Prop}(h:R ((ownH E (2*E.length) v).length:Int)):ydI (n:Int) es (v:Int) R:=by
  obtain ⟨hE,_,_⟩:=yes G.g
  have h1:=deg_endC (v:=v) es hE
  rw [G.e] at h1
  have h2:=ownH_len E (v:Int) E.length (Nat.le_refl _)
  rw [List.take_length] at h2
  have h3:=loop_find v es (-1) (-1) (yeH G.g)
  have h4:=deg_bound G.g n v
  have h5:0≤lpS es v:=by
    have:∀ es:List E3,EOk n es→0≤lpS es (v:Int):=by
      intro es
      induction es with
      | nil=>intro _;exact Int.le_refl _
      | cons x t ih =>
        intro hE
        have:=ih fun y hy=>hE y (by simp [hy])
        have:=hE x (by simp)
        rw [lpS];split <;> omega
    exact this es hE
  have h6:endC E (v:Int)≤2*E.length:=by
    unfold endC
    have:=List.countP_le_length (p:=fun e:Int×Int=>decide (e.1=(v:Int))) (l:=E)
    have:=List.countP_le_length (p:=fun e:Int×Int=>decide (e.2=(v:Int))) (l:=E)
    omega
  have h7:=G.len
  have hd:deg n es v=sm n (fun u=>W es v u):=rfl
  unfold ydI
  refine p_r08_Valence (by omega) G.g (p_r08_Between' (by omega) ?_)
  rw [h3]
  refine ⟨i64 (by omega),i64 (by omega),?_⟩
  rw [h1,←h2];exact h
theorem p_halfN(G:GrOk n es E)(hl:es.length≤100){R:Int→Prop}(h:R ((2*E.length:Nat):Int)):yew (n:Int) es R:=by
  unfold yew
  have h7:=G.len
  refine p_size8 G hl ⟨i64 (by omega),?_⟩
  have e:(2:Int)*(E.length:Int)=((2*E.length:Nat):Int):=by push_cast;rfl
  rw [e];exact h
theorem ygD(h:Nat):((h:Int).tdiv 2)=((h / 2:Nat):Int)∧((h:Int).tmod 2)=((h % 2:Nat):Int):=by
  constructor
  · rw [Int.tdiv_eq_ediv_of_nonneg (by omega)];omega
  · rw [Int.tmod_eq_emod_of_nonneg (by omega)];omega
theorem p_atN(G:GrOk n es E)(hl:es.length≤100){h:Nat}(hh:h<2*E.length){R:Int→Prop}(hR:R (hat E h)):yfW (n:Int) es (h:Int) R:=by
  unfold yfW
  obtain ⟨e1,e2⟩:=ygD h
  have h7:=G.len
  refine p_ends8 G hl ?_
  rw [e1,e2]
  refine ⟨by omega,i64 (by omega),by omega,by omega,fun q=>⟨by omega,?_⟩,fun q=>⟨by omega,?_⟩⟩
  · unfold hat at hR;rw [if_pos (by omega)] at hR;rw [Int.toNat_natCast];exact hR
  · unfold hat at hR;rw [if_neg (by omega)] at hR;rw [Int.toNat_natCast];exact hR
theorem p_aroundN(G:GrOk n es E)(hl:es.length≤100){v:Nat}(hv:v<n){a:List Int}(ha:a.length≤1000){R:Int→Prop}(he:∀ e,e≠0→R e)(h:ArOk E v a→R 0):ydF (n:Int) es (v:Int) a R:=by
  have h7:=G.len
  unfold ydF
  refine p_degN G hl hv ⟨fun hlen=>?_,fun _=>he 8 (by omega)⟩
  refine ⟨Cnt a.length (fun k=>∀ j,j<k→gi a j∈ownH E (2*E.length) v∧gi a j∉a.take j),Cnt.start (fun j hj=>absurd hj (by omega)),?_⟩
  rintro m _ ⟨k,rfl,rfl,hk,hinv⟩
  simp only [Int.toNat_natCast]
  refine ⟨fun hlt=>?_,fun hge=>?_⟩
  · refine ⟨gi a k∈ownH E (2*E.length) v,fun hm=>⟨by omega,by omega,p_r08_HoldsN (by rw [List.length_take];omega) ⟨fun _=>he 7 (by omega),fun hn=>Cnt.next (by omega) (by omega) fun j hj=>?_⟩⟩,by omega,fun _=>he 2 (by omega),fun h0=>p_halfN G hl ⟨fun _=>he 2 (by omega),fun h2=>?_⟩⟩
    · by_cases q:j=k
      · rw [q];exact ⟨hm,by simpa using hn⟩
      · exact hinv j (by omega)
    · obtain ⟨x,hx⟩:∃ x:Nat,gi a k=x:=⟨(gi a k).toNat,by omega⟩
      rw [hx] at h2 ⊢
      exact p_atN G hl (by omega) ⟨fun e=>ownH_mem.2 ⟨x,rfl,by omega,e⟩,fun _=>he 2 (by omega)⟩
  · have e:k=a.length:=by omega
    subst e
    refine ⟨fun m v2=>∃ j:Nat,m=a.length-j∧v2=(j:Int)∧1≤j∧∀ i,i<j→i<a.length→gi a 0≤gi a i,⟨_,1,rfl,rfl,by omega,fun i hi _=>(by rw [show i=0 by omega];exact Int.le_refl _)⟩,?_⟩
    rintro m _ ⟨j,rfl,rfl,hj1,hmin⟩
    simp only [Int.toNat_natCast,Int.toNat_zero]
    refine ⟨fun hlt=>⟨by omega,by omega,fun _=>he 9 (by omega),fun hn=>⟨i64 (by omega),a.length-(j+1),by omega,j+1,rfl,by omega,by omega,fun i hi hi2=>?_⟩⟩,fun hge=>h ⟨by omega,fun x hx=>?_,nodup_gi fun i hi=>(hinv i hi).2,fun x hx=>?_⟩⟩
    · by_cases q:i=j
      · rw [q];omega
      · exact hmin i (by omega) hi2
    · obtain ⟨i,hi,rfl⟩:=List.getElem_of_mem hx
      have:=(hinv i hi).1
      rw [yba hi] at this;exact this
    · obtain ⟨i,hi,rfl⟩:=List.getElem_of_mem hx
      have:=hmin i (by omega) hi
      rw [yba hi] at this;exact this
end
structure RbOk(n:Nat)(es:List E3)(ar:List (List Int)):Prop where
  G:GrOk n es (yaW es)
  c:yg8 (n:Int) es=true
  el:es.length≤40
  arl:ar.length=n
  ar:∀ v,v<n→ArOk (yaW es) (v:Int) (gx ar v)
theorem p_r44_CheckN{n:Int}{es:List E3}{ar:List (List Int)}{R:Int→Prop}(hl:es.length≤40)(ha:∀ v,v<ar.length→(gx ar v).length≤1000)(he:∀ e,e≠0→R e)(h:∀ k:Nat,n=k→RbOk k es ar→R 0):yd2 n es ar R:=by
  unfold yd2
  refine p_r13_JoinedN (by omega) ⟨fun q=>?_,fun q=>he _ q⟩
  have hq:yaZ n es=0∧yg8 n es=true:=by
    unfold joinedE at q
    split at q
    · rename_i q1
      split at q
      · rename_i q2;exact ⟨q1,q2⟩
      · cases q
    · rename_i q1;exact absurd q q1
  obtain ⟨k,rfl,G⟩:=gr_of hq.1
  have hk:=G.few
  refine ⟨fun hlen=>?_,fun _=>he 8 (by omega)⟩
  refine ⟨Cnt k (fun j=>∀ v,v<j→ArOk (yaW es) (v:Int) (gx ar v)),Cnt.start (fun j hj=>absurd hj (by omega)),?_⟩
  rintro m _ ⟨j,rfl,rfl,hj,hinv⟩
  simp only [Int.toNat_natCast]
  refine ⟨fun hlt=>⟨by omega,?_⟩,fun hge=>h k rfl ⟨G,hq.2,hl,by omega,fun v hv=>hinv v (by omega)⟩⟩
  refine p_aroundN G (by omega) (by omega) (ha j (by omega)) (fun e he'=>⟨fun q=>absurd q he',fun _=>he e he'⟩) fun hA=>⟨fun _=>Cnt.next (by omega) (by omega) fun v hv=>?_,fun q=>absurd rfl q⟩
  by_cases e:v=j
  · rw [e];exact hA
  · exact hinv v (by omega)
structure RoOk(n q:Nat)(ar:List (List Int))(rot:List Int):Prop where
  ql:q<n
  rl:rot.length=n
  nn:∀ v,v<n→0≤gi rot v
  z:gi rot q=0
  lt:∀ v,v<n→v≠q→gi rot v<((gx ar v).length:Int)
theorem p_r45_CheckN{n q:Int}{es:List E3}{ar:List (List Int)}{rot:List Int}{R:Int→Prop}(hl:es.length≤40)(ha:∀ v,v<ar.length→(gx ar v).length≤1000)(he:∀ e,e≠0→R e)(h:∀ k j:Nat,n=k→q=j→RbOk k es ar→RoOk k j ar rot→R 0):ydZ n es ar q rot R:=by
  unfold ydZ
  refine p_r44_CheckN hl ha (fun e he'=>⟨fun q=>absurd q he',fun _=>he e he'⟩) fun k hk hB=>⟨fun _=>?_,fun q=>absurd rfl q⟩
  subst hk
  refine yfH ⟨fun hq=>?_,fun _=>he 2 (by omega)⟩
  have hq:=of_decide_eq_true hq
  obtain ⟨j,rfl⟩:∃ j:Nat,q=j:=⟨q.toNat,by omega⟩
  have hkf:=hB.G.few
  have harl:=hB.arl
  refine ⟨fun hlen=>?_,fun _=>he 8 (by omega)⟩
  refine ⟨Cnt rot.length (fun i=>∀ v,v<i→0≤gi rot v∧(v=j→gi rot v=0)∧(v≠j→gi rot v<((gx ar v).length:Int))),Cnt.start (fun j hj=>absurd hj (by omega)),?_⟩
  rintro m _ ⟨i,rfl,rfl,hi,hinv⟩
  simp only [Int.toNat_natCast]
  have hstep:(0≤gi rot i∧(i=j→gi rot i=0)∧(i≠j→gi rot i<((gx ar i).length:Int)))→∀ v,v<i+1→0≤gi rot v∧(v=j→gi rot v=0)∧(v≠j→gi rot v<((gx ar v).length:Int)):=fun h0 v hv=>by
    by_cases e:v=i
    · rw [e];exact h0
    · exact hinv v (by omega)
  refine ⟨fun hlt=>⟨by omega,fun _=>he 2 (by omega),fun h0=>⟨fun e=>⟨fun z=>Cnt.next (by omega) (by omega) (hstep ⟨by omega,fun _=>z,fun q=>absurd (by omega) q⟩),fun _=>he 2 (by omega)⟩,fun e=>⟨by omega,fun _=>he 2 (by omega),fun hb=>Cnt.next (by omega) (by omega) (hstep ⟨by omega,fun q=>absurd (by omega) e,fun _=>by omega⟩)⟩⟩⟩,fun hge=>h k j rfl rfl hB ⟨by omega,by omega,fun v hv=>(hinv v (by omega)).1,(hinv j (by omega)).2.1 rfl,fun v hv hne=>(hinv v (by omega)).2.2 hne⟩⟩
structure DvOk(n q:Nat)(d:List Int):Prop where
  l:d.length=n
  c:yeK d (n:Int)=0
  nn:∀ v,v<n→v≠q→0≤gi d v
theorem p_r45_GivenN{n q:Int}{es:List E3}{ar:List (List Int)}{rot d:List Int}{R:Int→Prop}(hl:es.length≤40)(ha:∀ v,v<ar.length→(gx ar v).length≤1000)(hd:d.length≤1000)(he:∀ e,e≠0→R e)(h:∀ k j:Nat,n=k→q=j→RbOk k es ar→RoOk k j ar rot→DvOk k j d→R 0):yd7 n es ar q rot d R:=by
  unfold yd7
  refine p_r45_CheckN hl ha (fun e he'=>⟨fun q=>absurd q he',fun _=>he e he'⟩) fun k j hk hj hB hR=>⟨fun _=>?_,fun q=>absurd rfl q⟩
  subst hk hj
  unfold yeM
  refine p_r17_Check ⟨fun hc=>?_,fun hc=>he _ hc⟩
  refine ⟨Cnt d.length (fun i=>∀ v,v<i→v≠j→0≤gi d v),Cnt.start (fun j hj=>absurd hj (by omega)),?_⟩
  rintro m _ ⟨i,rfl,rfl,hi,hinv⟩
  simp only [Int.toNat_natCast]
  have hstep:(i≠j→0≤gi d i)→∀ v,v<i+1→v≠j→0≤gi d v:=fun h0 v hv hne=>by
    by_cases e:v=i
    · rw [e] at hne ⊢;exact h0 hne
    · exact hinv v (by omega) hne
  refine ⟨fun hlt=>⟨fun e=>Cnt.next (by omega) (by omega) (hstep fun q=>absurd (by omega) q),fun e=>⟨by omega,fun _=>he 2 (by omega),fun h0=>Cnt.next (by omega) (by omega) (hstep fun _=>by omega)⟩⟩,fun hge=>?_⟩
  have hlk:d.length=k:=(checkF_ok hc).1
  exact h k j rfl rfl hB hR ⟨hlk,hc,fun v hv hne=>hinv v (by omega) hne⟩
theorem p_r45_FewN{n:Int}{es:List E3}{ar:List (List Int)}{rot:List Int}{R:Bool→Prop}(hF:R false)(hT:smallF n es 6 9=true→(∀ v,v<ar.length→(gx ar v).length≤40)→R true):yfg n es ar rot R:=by
  unfold yfg yf3
  refine ⟨smallF n es 6 9=true∧ar.length≤20,fun ⟨hs,hl⟩=>?_,p_r08_Few ⟨fun hs=>⟨fun _=>⟨fun q=>absurd q (by simp),fun _=>hF⟩,fun hl=>⟨hs,by omega⟩⟩,fun _=>⟨fun q=>absurd q (by simp),fun _=>hF⟩⟩⟩
  refine ⟨Cnt ar.length (fun k=>∀ v,v<k→(gx ar v).length≤40),Cnt.start (fun j hj=>absurd hj (by omega)),?_⟩
  rintro m _ ⟨k,rfl,rfl,hk,hinv⟩
  simp only [Int.toNat_natCast]
  refine ⟨fun hlt=>⟨by omega,fun _=>⟨fun q=>absurd q (by simp),fun _=>hF⟩,fun h=>Cnt.next (by omega) (by omega) fun v hv=>?_⟩,fun hge=>⟨fun _=>?_,fun q=>absurd trivial q⟩⟩
  · by_cases e:v=k
    · rw [e];omega
    · exact hinv v (by omega)
  · by_cases q:((rot.length:Nat):Int)≤30
    · rw [decide_eq_true q];exact hT hs fun v hv=>hinv v (by omega)
    · rw [decide_eq_false q];exact hF
theorem p_r17_SmallN{d:List Int}{R:Bool→Prop}(hl:d.length≤1000)(hF:R false)(hT:(∀ v,v<d.length → -60≤gi d v∧gi d v≤60)→R true):yd6 d R:=by
  unfold yd6
  refine ⟨Cnt d.length (fun k=>∀ v,v<k → -60≤gi d v∧gi d v≤60),Cnt.start (fun j hj=>absurd hj (by omega)),?_⟩
  rintro m _ ⟨k,rfl,rfl,hk,hinv⟩
  simp only [Int.toNat_natCast]
  refine ⟨fun hlt=>⟨by omega,fun _=>hF,fun h1=>⟨fun _=>hF,fun h2=>Cnt.next (by omega) (by omega) fun v hv=>?_⟩⟩,fun hge=>hT fun v hv=>hinv v (by omega)⟩
  by_cases e:v=k
  · rw [e];omega
  · exact hinv v (by omega)
theorem p_caseFatesN{l:List Int}{R:Bool→Prop}(hF:R false)(hT:l.length≤60→(∀ x∈l,0≤x∧x≤3)→R true):ybE l R:=by
  unfold ybE yeO
  refine ⟨fun hl=>⟨fun q=>absurd q (by omega),fun _=>?_⟩,fun _=>hF⟩
  refine ⟨Cnt l.length (fun k=>∀ v,v<k→0≤gi l v∧gi l v≤3),Cnt.start (fun j hj=>absurd hj (by omega)),?_⟩
  rintro m _ ⟨k,rfl,rfl,hk,hinv⟩
  simp only [Int.toNat_natCast]
  refine ⟨fun hlt=>⟨by omega,fun _=>hF,fun h1=>⟨fun _=>hF,fun h2=>Cnt.next (by omega) (by omega) fun v hv=>?_⟩⟩,fun hge=>hT (by omega) fun x hx=>?_⟩
  · by_cases e:v=k
    · rw [e];omega
    · exact hinv v (by omega)
  · obtain ⟨i,hi,rfl⟩:=List.getElem_of_mem hx
    have:=hinv i (by omega)
    rw [yba hi] at this;exact this
end Go.Proofs.YtjepipbkiadcpaaGreat

/- The program's checks of ribbon graphs and rotors. -/
namespace Go.Proofs.YtjepipbkiadcpaaGreat
open Go Go.RowKit Go.Shelf Go.Proofs.Tryz
theorem p_bsN{x:List Int}{t:Int}{R:Int→Bool→Prop}(hl:x.length≤1000000)(ha:x.Pairwise (· < ·))(hm:t∈x)(h:∀ i,R i true):ybq x t R:=by
  obtain ⟨k,hk,e⟩:=List.getElem_of_mem hm
  have hp:=List.pairwise_iff_getElem.1 ha
  have e2:(2:Int)^(1:Int).toNat=2:=by decide
  unfold ybq
  rw [e2]
  refine ⟨fun m i j=>∃ a b:Nat,i=(a:Int)∧j=(b:Int)∧m=b-a∧a≤k∧k≤b∧b≤x.length,⟨_,0,x.length,rfl,rfl,rfl,by omega,by omega,by omega⟩,?_⟩
  rintro m _ _ ⟨a,b,rfl,rfl,rfl,h1,h2,h3⟩
  refine ⟨fun hlt=>?_,fun hge=>?_⟩
  · have hab:a<b:=by omega
    have em:((a:Int)+b) / 2=(((a+b) / 2:Nat):Int):=by omega
    rw [em]
    have hc:(a+b) / 2<x.length:=by omega
    simp only [Int.toNat_natCast]
    refine ⟨i64 (by omega),inU64 (by omega) (by omega),by omega,i64 (by omega),by omega,p_cmp_Less ⟨fun q=>?_,fun q=>?_⟩⟩
    · have q:=of_decide_eq_true q
      refine ⟨i64 (by omega),b-((a+b) / 2+1),by omega,(a+b) / 2+1,b,by omega,rfl,rfl,?_,h2,h3⟩
      rcases Nat.lt_or_ge ((a+b) / 2) k with c | c
      · omega
      · rw [yba hc] at q
        rcases Nat.lt_or_ge k ((a+b) / 2) with c2 | c2
        · have:=hp _ _ hk hc c2;omega
        · have c3:(a+b) / 2=k:=by omega
          simp only [c3] at q
          omega
    · have q:=of_decide_eq_false (Bool.eq_false_iff.2 q)
      refine ⟨(a+b) / 2-a,by omega,a,(a+b) / 2,rfl,rfl,rfl,h1,?_,by omega⟩
      rcases Nat.lt_or_ge ((a+b) / 2) k with c | c
      · have:=hp _ _ hc hk c
        rw [yba hc] at q
        omega
      · exact c
  · have c:a=k:=by omega
    subst c
    simp only [Int.toNat_natCast]
    exact ⟨fun _=>⟨by omega,fun _=>h _,fun q=>absurd (by rw [yba hk];exact e) q⟩,fun q=>absurd (show ((a:Nat):Int)<x.length by omega) q⟩
theorem hat_range{n:Nat}{E:List (Int×Int)}(hE:EndsOk n E){h:Nat}(hh:h<2*E.length):0≤hat E h∧hat E h<n:=by
  have hm:gx E (h / 2)∈E:=by rw [ybx (by omega)];exact List.getElem_mem _
  have:=hE _ hm
  unfold hat
  split
  · exact this.1
  · exact this.2
theorem yhr{E:List (Int×Int)}(hl:E.length≤100000){h:Nat}(hh:h<2*E.length){R:Int→Prop}(hR:R (hat E h)):ydu E (h:Int) R:=by
  unfold ydu
  obtain ⟨e1,e2⟩:=ygD h
  rw [e1,e2]
  refine ⟨by omega,i64 (by omega),by omega,by omega,fun q=>⟨by omega,?_⟩,fun q=>⟨by omega,?_⟩⟩
  · unfold hat at hR;rw [if_pos (by omega)] at hR;rw [Int.toNat_natCast];exact hR
  · unfold hat at hR;rw [if_neg (by omega)] at hR;rw [Int.toNat_natCast];exact hR
def outH(n:Nat)(E:List (Int×Int))(k:Nat):List (List Int):=(List.range n).map fun v:Nat=>ownH E k (v:Int)
theorem yeo(n:Nat)(E:List (Int×Int))(k:Nat):(outH n E k).length=n:=by simp [outH]
theorem gx_outH{n:Nat}{E:List (Int×Int)}{k v:Nat}(hv:v<n):gx (outH n E k) v=ownH E k v:=by
  rw [ybx (by rw [yeo];exact hv)];simp [outH]
theorem outH_set{n:Nat}{E:List (Int×Int)}{k r:Nat}(hr:r<n)(h:hat E k=(r:Int)):(outH n E k).set r (ownH E k (r:Int)++[(k:Int)])=outH n E (k+1):=by
  refine List.ext_getElem (by rw [List.length_set,yeo,yeo]) fun i h1 h2=>?_
  rw [yeo] at h2
  rw [List.getElem_set]
  have e:(outH n E (k+1))[i]'(by rw [yeo];exact h2)=ownH E (k+1) (i:Int):=by simp [outH]
  rw [e,ygF]
  by_cases q:r=i
  · subst q
    rw [if_pos rfl,if_pos h]
  · rw [if_neg q,if_neg (by rw [h];omega)]
    simp [outH]
theorem ownH_le(E:List (Int×Int))(k:Nat)(v:Int):(ownH E k v).length≤k:=by
  unfold ownH
  rw [List.length_map]
  have:=List.length_filter_le (fun h=>decide (hat E h=v)) (List.range k)
  rw [List.length_range] at this;exact this
theorem yhB{n:Nat}{E:List (Int×Int)}(hn:n≤1000)(hE:EndsOk n E)(hl:E.length≤100000){R:List (List Int)→Prop}(h:R (outH n E (2*E.length))):ycL (n:Int) E R:=by
  unfold ycL
  have e2:(2:Int)*(E.length:Int)=((2*E.length:Nat):Int):=by push_cast;rfl
  rw [e2]
  refine ⟨by omega,i64 (by omega),fun m i out=>Cnt (2*E.length) (fun k=>out=outH n E k) m i,Cnt.start ?_,?_⟩
  · rw [Int.toNat_natCast]
    refine List.ext_getElem (by rw [List.length_replicate,yeo]) fun i h1 h2=>?_
    simp [outH,ownH]
  · rintro m _ _ ⟨k,rfl,rfl,hk,rfl⟩
    refine ⟨fun hlt=>?_,fun hge=>?_⟩
    · have hk2:k<2*E.length:=by omega
      obtain ⟨h0,h1⟩:=hat_range hE hk2
      obtain ⟨r,hr⟩:∃ r:Nat,hat E k=r:=⟨(hat E k).toNat,by omega⟩
      have hrn:r<n:=by omega
      have ho:=ownH_le E k (r:Int)
      refine yhr hl hk2 (yhr hl hk2 ?_)
      rw [hr,yeo]
      simp only [Int.toNat_natCast]
      rw [gx_outH hrn,outH_set hrn hr,yeo]
      exact ⟨by omega,by omega,by omega,trivial,Cnt.next hk2 (by omega) rfl⟩
    · have e:k=2*E.length:=by omega
      subst e;exact h
theorem p_ribbon_listN{E:List (Int×Int)}{v:Int}{l:List Int}(hl:E.length≤100000)(hA:ArOk E v l){R:Int→Prop}(h:R 0):ydc l (ownH E (2*E.length) v) R:=by
  have hlen:=hA.len
  have hle:=ownH_le E (2*E.length) v
  unfold ydc
  refine ⟨fun _=>?_,fun q=>absurd (by omega) q⟩
  refine ⟨Cnt l.length (fun _=>True),Cnt.start trivial,?_⟩
  rintro m _ ⟨k,rfl,rfl,hk, -⟩
  simp only [Int.toNat_natCast,Int.toNat_zero]
  refine ⟨fun hlt=>⟨by omega,p_bsN (by omega) (ownH_asc E v _) (hA.sub _ (by rw [yba (by omega)];exact List.getElem_mem _)) fun i=>⟨fun _=>⟨by omega,yhl (by rw [List.length_take];omega) ⟨fun q=>?_,fun _=>Cnt.next (by omega) (by omega) trivial⟩⟩,fun q=>absurd rfl q⟩⟩,fun hge=>⟨fun h0=>⟨by omega,by omega,fun _=>h,fun q=>absurd (hA.first (by omega)) q⟩,fun _=>h⟩⟩
  have q:=of_decide_eq_true q
  obtain ⟨i,hi,e⟩:=List.mem_take_iff_getElem.1 q
  have:=List.pairwise_iff_getElem.1 hA.nd i k (by omega) (by omega) (by omega)
  rw [yba (by omega)] at e
  exact absurd e this
section
variable {n q : Nat} {es : List E3} {ar : List (List Int)} {rot d : List Int}
theorem yit(hB:RbOk n es ar){R:Int→Prop}(h:R 0):ycW (n:Int) es ar R:=by
  have hel:=hB.el
  have hG:=hB.G
  have hlen:=hG.len
  have harl:=hB.arl
  unfold ycW yc1 ydm yb2
  refine yfV (by omega) (fun q=>absurd hG.g q) fun _=>⟨fun _=>⟨by omega,fun _=>⟨fun _=>?_,fun q=>absurd (decide_eq_true ⟨hG.g,hB.c⟩) q⟩,fun q=>absurd hG.g q⟩,fun q=>absurd rfl q⟩
  refine ⟨fun _=>⟨fun _=>?_,fun q=>absurd (by omega) q⟩,fun q=>absurd hG.g q⟩
  refine yhB (by have:=hG.few;omega) hG.ok (by omega) ?_
  refine ⟨Cnt n (fun _=>True),Cnt.start trivial,?_⟩
  rintro m _ ⟨k,rfl,rfl,hk, -⟩
  rw [yeo]
  simp only [Int.toNat_natCast]
  refine ⟨fun hlt=>?_,fun hge=>h⟩
  have hkn:k<n:=by omega
  rw [gx_outH hkn]
  exact ⟨by omega,by omega,p_ribbon_listN (by omega) (hB.ar k hkn) ⟨fun _=>Cnt.next hkn (by have:=hG.few;omega) trivial,fun q=>absurd rfl q⟩⟩
theorem ygk(hB:RbOk n es ar)(hR:RoOk n q ar rot){R:Int→Prop}(h:R 0):ycP (n:Int) es ar (q:Int) rot R:=by
  have hql:=hR.ql
  have hrl:=hR.rl
  have harl:=hB.arl
  have hf:=hB.G.few
  unfold ycP
  refine yit hB ⟨fun _=>⟨True,fun _=>⟨fun _=>?_,fun q=>absurd (by omega) q⟩,fun c=>absurd c (by omega),fun _=>⟨fun c=>absurd c (by omega),fun _=>trivial⟩⟩,fun q=>absurd rfl q⟩
  refine ⟨Cnt rot.length (fun _=>True),Cnt.start trivial,?_⟩
  rintro m _ ⟨k,rfl,rfl,hk, -⟩
  simp only [Int.toNat_natCast]
  refine ⟨fun hlt=>?_,fun hge=>h⟩
  have hkn:k<n:=by omega
  refine ⟨by omega,fun c=>absurd c (by have:=hR.nn k hkn;omega),fun _=>⟨fun e=>⟨fun _=>Cnt.next (by omega) (by omega) trivial,fun c=>?_⟩,fun e=>⟨by omega,fun c=>?_,fun _=>Cnt.next (by omega) (by omega) trivial⟩⟩⟩
  · have e:k=q:=by omega
    rw [e] at c;exact absurd hR.z c
  · have:=hR.lt k hkn (by omega);omega
end
end Go.Proofs.YtjepipbkiadcpaaGreat

/- What the functions of wire compute: their forms and the functions of XWf. -/
namespace Go.Proofs.YtjepipbkiadcpaaGreat
open Go Go.RowKit Go.Shelf Go.Proofs.Tryz
abbrev PrL:=List (Int×Int×List (List (Int×List (Int×Int))))
def yfZ(fates:List Int)(sn:Int):Int:=if sn<fates.length then gi fates sn.toNat else 0
def delG(f:Int):List Int:=if f=0 then [1] else if f=2 then [1,2] else if f=3 then [6] else []
theorem delF_eq(fates:List Int)(sn:Int):delF fates sn=delG (yfZ fates sn):=rfl
theorem delG_mem{f x:Int}(hx:x∈delG f):0≤x∧x≤6:=by
  unfold delG at hx
  split at hx
  · simp at hx;omega
  · split at hx
    · simp at hx;omega
    · split at hx
      · simp at hx;omega
      · simp at hx
theorem delG_len(f:Int):(delG f).length≤2:=by
  unfold delG
  split
  · simp
  · split
    · simp
    · split <;> simp
theorem p_wsend{d:PrL}{st:List Int}{wt ct:List (List Int)}{ls:List Nat}{LL:List Ln}{fates:List Int}{fl:List (Pk×Int)}{tk sn:Int}{lg:Bool}{p:Pk}{R:Int→List (Pk×Int)→Prop}
    (hs:0≤sn∧sn≤1000000000) (ht:0≤tk∧tk≤1000000) (hf:fl.length≤100000000) (h:R (sn+1) (fl++(delF fates sn).map fun d=>(p,tk+d))):ybX d st wt ct ls LL fates fl tk sn lg p R:=by
  unfold ybX
  rw [delF_eq] at h
  have hdl:=delG_len (yfZ fates sn)
  refine ⟨fun v=>v=yfZ fates sn,?_,fun hlt=>⟨by omega,by unfold yfZ;rw [if_pos hlt]⟩,fun hge=>by unfold yfZ;rw [if_neg hge]⟩
  rintro v rfl
  refine ⟨i64 (by omega),fun v2=>v2=delG (yfZ fates sn),?_,fun h0=>by unfold delG;rw [if_pos h0],fun h0=>⟨fun v2=>v2=delG (yfZ fates sn),fun _ q=>q,fun h2=>by unfold delG;rw [if_neg h0,if_pos h2],fun h2=>⟨fun v2=>v2=delG (yfZ fates sn),fun _ q=>q,fun h3=>by unfold delG;rw [if_neg h0,if_neg h2,if_pos h3],fun h3=>by unfold delG;rw [if_neg h0,if_neg h2,if_neg h3]⟩⟩⟩
  rintro v2 rfl
  refine ⟨fun m v f=>Cnt (delG (yfZ fates sn)).length (fun k=>f=fl++((delG (yfZ fates sn)).take k).map fun d=>(p,tk+d)) m v,Cnt.start (by simp),?_⟩
  rintro m _ _ ⟨k,rfl,rfl,hk,rfl⟩
  simp only [Int.toNat_natCast]
  refine ⟨fun hlt=>?_,fun hge=>?_⟩
  · have hk2:k<(delG (yfZ fates sn)).length:=by omega
    have hx:=delG_mem (f:=yfZ fates sn) (x:=gi (delG (yfZ fates sn)) k) (by rw [yba hk2];exact List.getElem_mem hk2)
    refine ⟨by omega,i64 (by omega),?_,Cnt.next hk2 (by omega) ?_⟩
    · simp only [List.length_append,List.length_map,List.length_take];omega
    · rw [List.take_add_one,yaQ hk2];simp
  · have e:k=(delG (yfZ fates sn)).length:=by omega
    subst e
    rw [List.take_length]
    exact h
theorem p_wwait{d:PrL}{st:List Int}{wt ct:List (List Int)}{ls:List Nat}{LL:List Ln}{fates:List Int}{fl:List (Pk×Int)}{tk sn:Int}{lg:Bool}{p k:Int}{R:Bool→List (List Int)→Prop}
    (hp:0≤p∧p<(wt.length:Int)) (hk:0≤k∧k<((gx wt p.toNat).length:Int)) (hx : -1000000000≤gi (gx wt p.toNat) k.toNat∧gi (gx wt p.toNat) k.toNat≤1000000000)
    (h:R (lg || decide (1048576<gi (gx wt p.toNat) k.toNat+1)) (wt.set p.toNat ((gx wt p.toNat).set k.toNat (gi (gx wt p.toNat) k.toNat+1)))):ybW d st wt ct ls LL fates fl tk sn lg p k R:=by
  unfold ybW
  refine ⟨hp,hk,i64 (by omega),fun hl=>?_,fun hl=>?_⟩
  · rw [hl] at h;exact h
  · have hl:lg=false:=by cases lg <;> simp_all
    rw [hl] at h
    have e1:gx (wt.set p.toNat ((gx wt p.toNat).set k.toNat (gi (gx wt p.toNat) k.toNat+1))) p.toNat=(gx wt p.toNat).set k.toNat (gi (gx wt p.toNat) k.toNat+1):=by rw [ybm (by omega),if_pos rfl]
    rw [e1,ydh (by omega),if_pos rfl]
    exact ⟨by rw [List.length_set];exact hp,by rw [List.length_set];exact hk,h⟩
theorem dropF_zero{number:Int}{l:Ln}(f:Nat)(h:¬(l.rem<number∧0<l.q.length)):yfD number f l=l:=by
  cases f with
  | zero=>rfl
  | succ f=>unfold yfD;rw [if_neg h]
theorem p_wdrop{l:Ln}{number:Int}{R:Int→Int→List Int→Prop}(hr:0≤l.rem∧l.rem+l.q.length≤1000000000)
    (h:let x:=yfD number l.q.length l;R x.rem x.snt x.q):ycm l.q l.rem l.snt l.fr l.dst l.acc number R:=by
  unfold ycm
  refine ⟨fun m q r s=>m=q.length∧0≤r∧r+q.length≤1000000000∧∀ x,x=yfD number q.length { l with q:=q,rem:=r,snt:=s }→R x.rem x.snt x.q,⟨_,rfl,hr.1,hr.2,fun x hx=>by subst hx;exact h⟩,?_⟩
  rintro m q r s ⟨rfl,h0,h1,hR⟩
  have hend:¬(r<number∧0<q.length)→R r s q:=fun hn=>hR _ (dropF_zero _ hn).symm
  refine ⟨r<number∧0<q.length,fun ⟨j1,j2⟩=>?_,fun hlt=>⟨fun hq=>⟨hlt,by omega⟩,fun hq=>hend (by omega)⟩,fun hge=>hend (by omega)⟩
  obtain ⟨a,t,rfl⟩:∃ a t,q=a::t:=by cases q with
    | nil=>simp at j2
    | cons a t=>exact ⟨a,t,rfl⟩
  simp only [List.length_cons] at h1 j2 ⊢
  refine ⟨by omega,i64 (by omega),t.length,by omega,by simp,by omega,?_,fun x hx=>hR x ?_⟩
  · simp;omega
  · rw [hx]
    show _=yfD number (t.length+1) _
    rw [yfD,if_pos ⟨j1,by simp⟩]
    simp
def Pk.isL:Pk→Bool
  | .lt _ _ _=>true
  | .rc _ _=>false
def POk(n:Nat):Pk→Prop
  | .lt i _ k=>i<n*n∧k=0
  | .rc i _=>i<n*n
def nlt(fl:List (Pk×Int)):Nat:=fl.countP fun a=>a.1.isL
structure LOk(n i:Nat)(tk sn c:Int)(l:Ln):Prop where
  dst:l.dst=((i % n:Nat):Int)
  rem:0≤l.rem
  snt:0≤l.snt∧l.snt≤tk
  acc:0≤l.acc∧l.acc≤sn
  len:l.rem+l.q.length≤12*c
  zer:∀ x∈l.q,x=0
structure SI(n:Nat)(rules:List (List (List ycJ)))(W0:Int)(v:Nat)(A:Int)(w:Wst):Prop where
  n6:1≤n∧n≤6
  w0:0≤W0∧W0≤100000
  stl:w.st.length=n
  st:∀ p,p<n→0≤gi w.st p∧gi w.st p<((gx rules p).length:Int)
  wtl:w.wt.length=n
  wt:∀ p,p<n→(gx w.wt p).length=1∧0≤gi (gx w.wt p) 0∧gi (gx w.wt p) 0≤W0+w.sn+12*gi (gx w.ct p) 0
  ctl:w.ct.length=n
  ct:∀ p,p<n→(gx w.ct p).length=1∧0≤gi (gx w.ct p) 0∧gi (gx w.ct p) 0≤w.tk-(if p<v then 0 else 1)
  lnl:w.ln.length=n*n
  ln:∀ i,i<n*n→LOk n i w.tk w.sn (gi (gx w.ct (i / n)) 0) (gx w.ln i)
  fl:∀ a∈w.fl,POk n a.1
  tk:0≤w.tk∧w.tk≤5000
  sn:0≤w.sn
  sa:w.sn+nlt w.fl≤A
  a6:A≤600000
  fn:(w.fl.length:Int)≤2*w.sn
  lg:w.lg=false
theorem ygV{n i:Nat}(h:i<n*n):i / n<n:=Nat.div_lt_of_lt_mul h
theorem mod_lt' {n i:Nat}(hn:1≤n):i % n<n:=Nat.mod_lt _ hn
section
variable {n : Nat} {rules : List (List (List ycJ))} {W0 : Int} {v : Nat} {A : Int} {w : Wst} {fates : List Int}
theorem SI.ctb(h:SI n rules W0 v A w){p:Nat}(hp:p<n):gi (gx w.ct p) 0≤5000:=by
  have h1:=(h.ct p hp).2.2;have:=h.tk
  split at h1 <;> omega
theorem SI.send(h:SI n rules W0 v A w){p:Pk}(hp:POk n p)(hA:A+(if p.isL=true then 3 else 1)≤600000):SI n rules W0 v (A+(if p.isL=true then 3 else 1)) (yfz fates w p):=by
  have hl:=delG_len (yfZ fates w.sn)
  have hlen:((yfz fates w p).fl).length≤w.fl.length+2:=by
    show (w.fl++(delF fates w.sn).map fun d=>(p,w.tk+d)).length≤_
    rw [List.length_append,List.length_map,delF_eq];omega
  have hn:nlt (yfz fates w p).fl≤nlt w.fl+(if p.isL=true then 2 else 0):=by
    show nlt (w.fl++(delF fates w.sn).map fun d=>(p,w.tk+d))≤_
    unfold nlt
    rw [List.countP_append,List.countP_map,delF_eq]
    split
    · have:=List.countP_le_length (p:=((fun a:Pk×Int=>a.1.isL) ∘ fun d=>(p,w.tk+d))) (l:=delG (yfZ fates w.sn));omega
    · rename_i hq
      have e0:List.countP ((fun a:Pk×Int=>a.1.isL) ∘ fun d=>(p,w.tk+d)) (delG (yfZ fates w.sn))=0:=List.countP_eq_zero.2 (fun x _=>by simpa using hq)
      omega
  refine ⟨h.n6,h.w0,h.stl,h.st,h.wtl,fun q hq=>?_,h.ctl,h.ct,h.lnl,fun i hi=>?_,fun a ha=>?_,h.tk,?_,?_,hA,?_,h.lg⟩
  · obtain ⟨a1,a2,a3⟩:=h.wt q hq
    exact ⟨a1,a2,by show _≤W0+(w.sn+1)+_;have e:(yfz fates w p).ct=w.ct:=rfl;rw [e];have e2:(yfz fates w p).wt=w.wt:=rfl;rw [e2];omega⟩
  · have hL:=h.ln i hi
    exact ⟨hL.dst,hL.rem,hL.snt,⟨hL.acc.1,by show _≤w.sn+1;have:=hL.acc.2;have e:(yfz fates w p).ln=w.ln:=rfl;rw [e];omega⟩,hL.len,hL.zer⟩
  · rcases List.mem_append.1 ha with q | q
    · exact h.fl a q
    · obtain ⟨d,_,rfl⟩:=List.mem_map.1 q;exact hp
  · show 0≤w.sn+1;have:=h.sn;omega
  · show w.sn+1+_≤_
    have:=h.sa
    split at hn <;> split <;> omega
  · show _≤2*(w.sn+1)
    have:=h.fn;omega
theorem SI.line(h:SI n rules W0 v A w){i:Nat}(hi:i<n*n){l:Ln}(hl:LOk n i w.tk w.sn (gi (gx w.ct (i / n)) 0) l):SI n rules W0 v A { w with ln:=w.ln.set i l } :=
  ⟨h.n6,h.w0,h.stl,h.st,h.wtl,h.wt,h.ctl,h.ct,by show (w.ln.set i l).length=_;rw [List.length_set];exact h.lnl,fun j hj=>by
    show LOk n j w.tk w.sn _ (gx (w.ln.set i l) j)
    rw [ybm (by rw [h.lnl];exact hi)]
    by_cases e:j=i
    · rw [if_pos e,e];exact hl
    · rw [if_neg e];exact h.ln j hj,h.fl,h.tk,h.sn,h.sa,h.a6,h.fn,h.lg⟩
structure DropOk(m:Int)(l x:Ln):Prop where
  fr:x.fr=l.fr
  dst:x.dst=l.dst
  acc:x.acc=l.acc
  rem:l.rem≤x.rem
  max:x.rem≤l.rem∨x.rem≤m
  sum:x.rem+x.q.length=l.rem+l.q.length
  snt:x.snt=l.snt∨x.snt=0
  sub:∀ y∈x.q,y∈l.q
theorem ygM(m:Int):∀ (f:Nat) (l:Ln),DropOk m l (yfD m f l)
  | 0,l=>⟨rfl,rfl,rfl,Int.le_refl _, .inl (Int.le_refl _),rfl, .inl rfl,fun _ h=>h⟩
  | f+1,l=>by
    unfold yfD
    split
    · rename_i h
      have h2:=ygM m f { l with q:=l.q.drop 1,rem:=l.rem+1,snt:=0 }
      refine ⟨h2.fr,h2.dst,h2.acc,by have:=h2.rem;simp only at this;omega,?_,?_,?_,fun y hy=>List.mem_of_mem_drop (h2.sub y hy)⟩
      · have:=h2.max;simp only at this;right;omega
      · have:=h2.sum;simp only [List.length_drop] at this;omega
      · right;rcases h2.snt with q | q <;> exact q
    · exact ⟨rfl,rfl,rfl,Int.le_refl _, .inl (Int.le_refl _),rfl, .inl rfl,fun _ h=>h⟩
theorem SI.mono(h:SI n rules W0 v A w){B:Int}(h1:A≤B)(h2:B≤600000):SI n rules W0 v B w :=
  ⟨h.n6,h.w0,h.stl,h.st,h.wtl,h.wt,h.ctl,h.ct,h.lnl,h.ln,h.fl,h.tk,h.sn,by have:=h.sa;omega,h2,h.fn,h.lg⟩
theorem waitF_lg{w:Wst}{p k:Int}(hl:w.lg=false)(hx:gi (gx w.wt p.toNat) k.toNat+1≤1048576):(yge w p k).lg=false:=by
  show (w.lg || decide (1048576<gi (gx w.wt p.toNat) k.toNat+1))=false
  rw [hl,Bool.false_or]
  exact decide_eq_false (by omega)
theorem SI.wait(h:SI n rules W0 v A w){p:Nat}(hp:p<n)(hb:gi (gx w.wt p) 0+1≤W0+w.sn+12*gi (gx w.ct p) 0):SI n rules W0 v A (yge w p 0):=by
  obtain ⟨a1,a2,a3⟩:=h.wt p hp
  have hc:=h.ctb hp
  have hsn:w.sn≤600000:=by have:=h.sa;have:=h.a6;omega
  have hw0:=h.w0
  have e1:(yge w (p:Int) 0).wt=w.wt.set p ((gx w.wt p).set 0 (gi (gx w.wt p) 0+1)):=rfl
  refine ⟨h.n6,h.w0,h.stl,h.st,by rw [e1,List.length_set];exact h.wtl,fun q hq=>?_,h.ctl,h.ct,h.lnl,h.ln,h.fl,h.tk,h.sn,h.sa,h.a6,h.fn,waitF_lg h.lg ?_⟩
  · have e2:(yge w (p:Int) 0).sn=w.sn:=rfl
    have e3:(yge w (p:Int) 0).ct=w.ct:=rfl
    rw [e1,e2,e3,ybm (by rw [h.wtl];exact hp)]
    by_cases e:q=p
    · subst e
      rw [if_pos rfl,List.length_set,ydh (by omega),if_pos rfl]
      exact ⟨a1,by omega,by omega⟩
    · rw [if_neg e];exact h.wt q hq
  · show gi (gx w.wt p) 0+1≤1048576
    omega
theorem handF_t{i:Nat}{m k:Int}(he:m=(gx w.ln i).acc+1) :
    yed fates w (.lt i m k)=yge { yfz fates w (.rc i (gx (w.ln.set i { gx w.ln i with acc:=(gx w.ln i).acc+1 }) i).acc) with ln:=w.ln.set i { gx w.ln i with acc:=(gx w.ln i).acc+1 } } (gx w.ln i).dst k:=by
  show yfz fates (if m=(gx w.ln i).acc+1 then _ else w) (.rc i (gx (if m=(gx w.ln i).acc+1 then _ else w:Wst).ln i).acc)=_
  rw [if_pos he]
  rfl
theorem handF_f{i:Nat}{m k:Int}(he:¬m=(gx w.ln i).acc+1):yed fates w (.lt i m k)=yfz fates w (.rc i (gx w.ln i).acc):=by
  show yfz fates (if m=(gx w.ln i).acc+1 then _ else w) (.rc i (gx (if m=(gx w.ln i).acc+1 then _ else w:Wst).ln i).acc)=_
  rw [if_neg he]
theorem SI.hand(h:SI n rules W0 v A w){p:Pk}(hp:POk n p)(hA:A+(if p.isL=true then 1 else 0)≤600000):SI n rules W0 v (A+(if p.isL=true then 1 else 0)) (yed fates w p):=by
  cases p with
  | rc i m =>
    have hL:=h.ln i hp
    have hD:=ygM m (gx w.ln i).q.length (gx w.ln i)
    have h2:=h.line hp (l:=yfD m (gx w.ln i).q.length (gx w.ln i)) ⟨hD.dst.trans hL.dst,by have:=hD.rem;have:=hL.rem;omega,by have:=hL.snt;have:=hD.snt;omega,by rw [hD.acc];exact hL.acc,by rw [hD.sum];exact hL.len,fun x hx=>hL.zer x (hD.sub x hx)⟩
    exact h2.mono (by simp [Pk.isL]) hA
  | lt i m k =>
    obtain ⟨hi,rfl⟩:i<n*n∧k=0:=hp
    have hL:=h.ln i hi
    have hn:=h.n6
    by_cases he:m=(gx w.ln i).acc+1
    · rw [handF_t he,hL.dst]
      have hs:=h.send (fates:=fates) (p := .rc i (gx (w.ln.set i { gx w.ln i with acc:=(gx w.ln i).acc+1 }) i).acc) hi hA
      have h2:=hs.line hi (l:={ gx w.ln i with acc:=(gx w.ln i).acc+1 }) ⟨hL.dst,hL.rem,hL.snt,⟨by show 0≤(gx w.ln i).acc+1;have:=hL.acc;omega,by show (gx w.ln i).acc+1≤w.sn+1;have:=hL.acc;omega⟩,hL.len,hL.zer⟩
      exact h2.wait (mod_lt' hn.1) (by
        have:=(h.wt (i % n) (mod_lt' hn.1)).2.2
        show gi (gx w.wt (i % n)) 0+1≤W0+(w.sn+1)+12*gi (gx w.ct (i % n)) 0
        omega)
    · rw [handF_f he]
      exact h.send (p := .rc i (gx w.ln i).acc) hi hA
theorem p_whandle{d:PrL}{ls:List Nat}{p:Pk}(h:SI n rules W0 v A w)(hp:POk n p){R:Int→Bool→List (List Int)→List Ln→List (Pk×Int)→Prop}
    (hR:R (yed fates w p).sn (yed fates w p).lg (yed fates w p).wt (yed fates w p).ln (yed fates w p).fl):yb3 d w.st w.wt w.ct ls w.ln fates w.fl w.tk w.sn w.lg p R:=by
  have hn:=h.n6
  have hsn:=h.sn
  have hsa:=h.sa
  have ha6:=h.a6
  have hfn:=h.fn
  have htk:=h.tk
  unfold yb3
  refine ⟨?_,?_⟩
  · rintro i m k rfl
    obtain ⟨hi,rfl⟩:i<n*n∧k=0:=hp
    have hL:=h.ln i hi
    have hmd:=mod_lt' (i:=i) hn.1
    obtain ⟨b1,b2,b3⟩:=h.wt (i % n) hmd
    have hcb:=h.ctb hmd
    have hw0:=h.w0
    let w1:Wst:=if m=(gx w.ln i).acc+1 then yge { w with ln:=w.ln.set i { gx w.ln i with acc:=(gx w.ln i).acc+1 } } (gx w.ln i).dst 0 else w
    have hw1:w1.ln.length=w.ln.length∧w1.st=w.st∧w1.ct=w.ct∧w1.fl=w.fl∧w1.tk=w.tk∧w1.sn=w.sn:=by
      show (if m=(gx w.ln i).acc+1 then _ else w:Wst).ln.length=w.ln.length∧(if m=(gx w.ln i).acc+1 then _ else w:Wst).st=w.st∧(if m=(gx w.ln i).acc+1 then _ else w:Wst).ct=w.ct∧(if m=(gx w.ln i).acc+1 then _ else w:Wst).fl=w.fl∧(if m=(gx w.ln i).acc+1 then _ else w:Wst).tk=w.tk∧(if m=(gx w.ln i).acc+1 then _ else w:Wst).sn=w.sn
      split
      · exact ⟨List.length_set,rfl,rfl,rfl,rfl,rfl⟩
      · exact ⟨rfl,rfl,rfl,rfl,rfl,rfl⟩
    have hhand:yed fates w (.lt i m 0)=yfz fates w1 (.rc i (gx w1.ln i).acc):=rfl
    unfold yct
    refine ⟨by rw [h.lnl];exact hi,i64 (by have:=hL.acc;omega),fun a b c=>a=w1.wt∧b=w1.ln∧c=w1.lg,?_,fun he=>?_,fun he=>?_⟩
    · rintro _ _ _ ⟨rfl,rfl,rfl⟩
      refine ⟨by rw [hw1.1,h.lnl];exact hi,?_⟩
      refine p_wsend (by omega) (by omega) (by omega) ?_
      rw [hhand] at hR
      obtain ⟨_,e1,e2,e3,e4,e5⟩:=hw1
      have f1:(yfz fates w1 (.rc i (gx w1.ln i).acc)).sn=w.sn+1:=by show w1.sn+1=_;rw [e5]
      have f2:(yfz fates w1 (.rc i (gx w1.ln i).acc)).fl=w.fl++(delF fates w.sn).map fun d=>(.rc i (gx w1.ln i).acc,w.tk+d):=by show w1.fl++(delF fates w1.sn).map (fun d=>(Pk.rc i (gx w1.ln i).acc,w1.tk+d))=_;rw [e5,e3,e4]
      rw [f1,f2] at hR
      exact hR
    · have ew:w1=yge { w with ln:=w.ln.set i { gx w.ln i with acc:=(gx w.ln i).acc+1 } } (gx w.ln i).dst 0:=if_pos he
      refine p_wwait (by rw [hL.dst,h.wtl];omega) (by rw [hL.dst,Int.toNat_natCast,b1];omega) (by rw [hL.dst,Int.toNat_natCast,Int.toNat_zero];omega) ?_
      rw [ew]
      exact ⟨rfl,rfl,rfl⟩
    · have ew:w1=w:=if_neg he
      rw [ew]
      exact ⟨rfl,rfl,rfl⟩
  · rintro i m rfl
    have hi:i<n*n:=hp
    have hL:=h.ln i hi
    unfold ych
    refine ⟨by rw [h.lnl];exact hi,p_wdrop (l:=gx w.ln i) ⟨hL.rem,by have:=hL.len;have:=h.ctb (ygV hi);omega⟩ ?_⟩
    have hD:=ygM m (gx w.ln i).q.length (gx w.ln i)
    have e:(⟨(yfD m (gx w.ln i).q.length (gx w.ln i)).q,(yfD m (gx w.ln i).q.length (gx w.ln i)).rem,(yfD m (gx w.ln i).q.length (gx w.ln i)).snt,(gx w.ln i).fr,(gx w.ln i).dst,(gx w.ln i).acc⟩:Ln)=yfD m (gx w.ln i).q.length (gx w.ln i):=by
      rw [←hD.fr,←hD.dst,←hD.acc]
    show R w.sn w.lg w.wt (w.ln.set i _) w.fl
    rw [e]
    exact hR
theorem SI.hands(now:List (Pk×Int)):∀ {A:Int} {w:Wst},SI n rules W0 v A w→(∀ a∈now,POk n a.1)→A+nlt now≤600000→SI n rules W0 v (A+nlt now) (now.foldl (fun w a=>yed fates w a.1) w):=by
  induction now with
  | nil=>intro A w h _ hA;exact h.mono (by simp [nlt]) hA
  | cons a t ih =>
    intro A w h hP hA
    have e:(nlt (a::t):Int)=nlt t+(if a.1.isL=true then 1 else 0):=by
      unfold nlt;rw [List.countP_cons];split <;> simp
    have h1:=h.hand (fates:=fates) (p:=a.1) (hP a (by simp)) (by rw [e] at hA;by_cases q:a.1.isL=true <;> simp only [q,if_true] at hA ⊢ <;> first | omega | (simp at hA ⊢;omega))
    have h2:=ih h1 (fun b hb=>hP b (by simp [hb])) (by rw [e] at hA;omega)
    rw [List.foldl_cons]
    exact h2.mono (by rw [e];omega) hA
theorem nlt_split(tk:Int)(fl:List (Pk×Int)):nlt (fl.filter fun a=>decide (a.2=tk))+nlt (fl.filter fun a=>decide (¬a.2=tk))=nlt fl:=by
  unfold nlt
  induction fl with
  | nil=>rfl
  | cons a t ih =>
    by_cases e:a.2=tk
    · rw [List.filter_cons_of_pos (by simpa using e),List.filter_cons_of_neg (by simpa using e),List.countP_cons,List.countP_cons];omega
    · rw [List.filter_cons_of_neg (by simpa using e),List.filter_cons_of_pos (by simpa using e),List.countP_cons,List.countP_cons];omega
theorem SI.later(h:SI n rules W0 v A w):SI n rules W0 v (A-nlt (w.fl.filter fun a=>decide (a.2=w.tk))) { w with fl:=w.fl.filter fun a=>decide (¬a.2=w.tk) }:=by
  have h1:=nlt_split w.tk w.fl
  have hl:=List.length_filter_le (fun a:Pk×Int=>decide (¬a.2=w.tk)) w.fl
  refine ⟨h.n6,h.w0,h.stl,h.st,h.wtl,h.wt,h.ctl,h.ct,h.lnl,h.ln,fun a ha=>h.fl a ((List.mem_filter.1 ha).1),h.tk,h.sn,?_,by have:=h.a6;omega,?_,h.lg⟩
  · have:=h.sa
    show w.sn+nlt (w.fl.filter fun a=>decide (¬a.2=w.tk))≤_
    omega
  · have:=h.fn
    show ((w.fl.filter fun a=>decide (¬a.2=w.tk)).length:Int)≤2*w.sn
    omega
theorem SI.arr(h:SI n rules W0 v A w):SI n rules W0 v A (arrF fates w):=by
  have h2:=h.later.hands (fates:=fates) (w.fl.filter fun a=>decide (a.2=w.tk)) (fun a ha=>h.fl a ((List.mem_filter.1 ha).1)) (by have:=h.a6;omega)
  have e:A-nlt (w.fl.filter fun a=>decide (a.2=w.tk))+nlt (w.fl.filter fun a=>decide (a.2=w.tk))=A:=by omega
  rw [e] at h2
  exact h2
theorem yfp{τ:Type} [Inhabited τ](f:τ→Bool){l:List τ}{k:Nat}(hk:k<l.length):(l.take (k+1)).filter f=(l.take k).filter f++(if f (gx l k)=true then [gx l k] else []):=by
  rw [List.take_add_one,yaY hk,List.filter_append]
  congr 1
  simp only [Option.toList_some,List.filter_cons,List.filter_nil]
theorem foldl_take{τ σ:Type} [Inhabited τ](f:σ→τ→σ)(a:σ){l:List τ}{k:Nat}(hk:k<l.length):(l.take (k+1)).foldl f a=f ((l.take k).foldl f a) (gx l k):=by
  rw [List.take_add_one,yaY hk,List.foldl_append];rfl
theorem yfb(fates:List Int)(w:Wst)(p:Pk):(yed fates w p).st=w.st∧(yed fates w p).ct=w.ct∧(yed fates w p).tk=w.tk:=by
  cases p with
  | rc i m=>exact ⟨rfl,rfl,rfl⟩
  | lt i m k =>
    by_cases he:m=(gx w.ln i).acc+1
    · rw [handF_t he];exact ⟨rfl,rfl,rfl⟩
    · rw [handF_f he];exact ⟨rfl,rfl,rfl⟩
theorem p_warrive{d:PrL}{ls:List Nat}(h:SI n rules W0 v A w){R:Int→Bool→List (List Int)→List Ln→List (Pk×Int)→Prop}
    (hR:R (arrF fates w).sn (arrF fates w).lg (arrF fates w).wt (arrF fates w).ln (arrF fates w).fl):yb4 d w.st w.wt w.ct ls w.ln fates w.fl w.tk w.sn w.lg R:=by
  have hfl:w.fl.length≤2000000:=by have:=h.fn;have:=h.sa;have:=h.a6;omega
  unfold yb4
  refine ⟨fun m now later i=>Cnt w.fl.length (fun k=>now=(w.fl.take k).filter (fun a=>decide (a.2=w.tk))∧later=(w.fl.take k).filter (fun a=>decide (¬a.2=w.tk))) m i,Cnt.start ⟨rfl,rfl⟩,?_⟩
  rintro m _ _ _ ⟨k,rfl,rfl,hk,rfl,rfl⟩
  simp only [Int.toNat_natCast]
  have hl1:=List.length_filter_le (fun a:Pk×Int=>decide (a.2=w.tk)) (w.fl.take k)
  have hl2:=List.length_filter_le (fun a:Pk×Int=>decide (¬a.2=w.tk)) (w.fl.take k)
  have hlt0:=List.length_take_le k w.fl
  refine ⟨fun hlt=>?_,fun hge=>?_⟩
  · have hk2:k<w.fl.length:=by omega
    refine ⟨by omega,fun he=>⟨by omega,Cnt.next hk2 (by omega) ⟨?_,?_⟩⟩,fun he=>⟨by omega,Cnt.next hk2 (by omega) ⟨?_,?_⟩⟩⟩
    · rw [yfp _ hk2,if_pos (by simpa using he)]
    · rw [yfp _ hk2,if_neg (by simpa using he),List.append_nil]
    · rw [yfp _ hk2,if_neg (by simpa using he),List.append_nil]
    · rw [yfp _ hk2,if_pos (by simpa using he)]
  · have e:k=w.fl.length:=by omega
    subst e
    rw [List.take_length]
    generalize hnow:(w.fl.filter fun a=>decide (a.2=w.tk))=now
    generalize hlat:(w.fl.filter fun a=>decide (¬a.2=w.tk))=later
    have hP:∀ a∈now,POk n a.1:=fun a ha=>h.fl a (by rw [←hnow] at ha;exact (List.mem_filter.1 ha).1)
    have hL:=h.later
    rw [hnow,hlat] at hL
    have hAl:=h.a6
    have hnl:(now.length:Int)≤2000000:=by rw [←hnow];have:=List.length_filter_le (fun a:Pk×Int=>decide (a.2=w.tk)) w.fl;omega
    refine ⟨fun m i wt LL fl sn lg=>Cnt now.length (fun k=>∃ x:Wst,x=(now.take k).foldl (fun w a=>yed fates w a.1) { w with fl:=later }∧x.wt=wt∧x.ln=LL∧x.fl=fl∧x.sn=sn∧x.lg=lg∧x.st=w.st∧x.ct=w.ct∧x.tk=w.tk) m i,Cnt.start ⟨_,rfl,rfl,rfl,rfl,rfl,rfl,rfl,rfl,rfl⟩,?_⟩
    rintro m _ _ _ _ _ _ ⟨k,rfl,rfl,hk,x,hx,rfl,rfl,rfl,rfl,rfl,e1,e2,e3⟩
    simp only [Int.toNat_natCast]
    refine ⟨fun hlt=>?_,fun hge=>?_⟩
    · have hk2:k<now.length:=by omega
      have hle:(nlt (now.take k):Int)≤nlt now:=by
        have:=List.Sublist.countP_le (p:=fun a:Pk×Int=>a.1.isL) (List.take_sublist k now)
        unfold nlt;omega
      have hx2:SI n rules W0 v (A-nlt now+nlt (now.take k)) x:=by
        rw [hx]
        exact hL.hands (now.take k) (fun a ha=>hP a (List.mem_of_mem_take ha)) (by omega)
      have hm:gx now k∈now:=by rw [ybx hk2];exact List.getElem_mem hk2
      refine ⟨by omega,?_⟩
      have hw:=p_whandle (d:=d) (ls:=ls) (fates:=fates) hx2 (hP _ hm) (R:=fun y y2 y3 y4 y5=>In64 ((k:Int)+1)∧∃ m6,m6<now.length-k∧Cnt now.length (fun k=>∃ x:Wst,x=(now.take k).foldl (fun w a=>yed fates w a.1) { w with fl:=later }∧x.wt=y3∧x.ln=y4∧x.fl=y5∧x.sn=y∧x.lg=y2∧x.st=w.st∧x.ct=w.ct∧x.tk=w.tk) m6 ((k:Int)+1)) (Cnt.next hk2 (by omega) ⟨yed fates x (gx now k).1,by rw [foldl_take _ _ hk2,hx],rfl,rfl,rfl,rfl,rfl,(yfb fates x _).1.trans e1,(yfb fates x _).2.1.trans e2,(yfb fates x _).2.2.trans e3⟩)
      rw [e1,e2,e3] at hw
      exact hw
    · have e:k=now.length:=by omega
      subst e
      rw [List.take_length] at hx
      have ea:arrF fates w=x:=by rw [hx,←hnow,←hlat];rfl
      rw [ea] at hR
      exact hR
end
end Go.Proofs.YtjepipbkiadcpaaGreat

/- What the functions of wire compute: reading, a tick. -/
namespace Go.Proofs.YtjepipbkiadcpaaGreat
open Go Go.RowKit Go.Shelf Go.Proofs.Tryz
theorem p_ixfS{s:List Int}{F:Int→(Bool→Prop)→Prop}{p:Int→Bool}{R:Int→Prop}(hl:s.length≤1000000000)(hF:∀ x (R':Bool→Prop),R' (p x)→F x R')(h1:∀ k:Nat,k<s.length→p (gi s k)=true→(∀ j,j<k→p (gi s j)=false)→R (k:Int))(h2:(∀ k,k<s.length→p (gi s k)=false)→R (-1)):ybp s F R:=by
  unfold ybp
  refine ⟨Cnt s.length (fun k=>∀ j,j<k→p (gi s j)=false),Cnt.start (fun j hj=>absurd hj (by omega)),?_⟩
  rintro m _ ⟨k,rfl,rfl,hk,hinv⟩
  simp only [Int.toNat_natCast]
  refine ⟨fun hlt=>⟨by omega,hF _ _ ⟨fun h=>h1 k (by omega) h hinv,fun h=>Cnt.next (by omega) (by omega) fun j hj=>?_⟩⟩,fun hge=>h2 fun j hj=>hinv j (by omega)⟩
  by_cases e:j=k
  · subst e;simpa using h
  · exact hinv j (by omega)
theorem p_ctfS{s:List Int}{F:Int→(Bool→Prop)→Prop}{p:Int→Bool}{R:Bool→Prop}(hl:s.length≤1000000000)(hF:∀ x (R':Bool→Prop),R' (p x)→F x R')(h:R (s.any p)):ybd s F R:=by
  unfold ybd
  refine p_ixfS hl hF (fun k hk hp _=>?_) (fun hn=>?_)
  · rw [any_gi.2 ⟨k,hk,hp⟩] at h
    have e:decide (0≤(k:Int))=true:=by simp
    rw [e];exact h
  · have e:s.any p=false:=by
      rw [Bool.eq_false_iff]
      intro q
      obtain ⟨k,hk,hp⟩:=any_gi.1 q
      rw [hn k hk] at hp;cases hp
    rw [e] at h;exact h
theorem any_gx{τ:Type} [Inhabited τ]{p:τ→Bool}{s:List τ} : s.any p=true↔∃ k,k<s.length∧p (gx s k)=true:=by
  rw [List.any_eq_true]
  constructor
  · rintro ⟨x,hx,hp⟩
    obtain ⟨k,hk,rfl⟩:=List.getElem_of_mem hx
    exact ⟨k,hk,by rw [ybx hk];exact hp⟩
  · rintro ⟨k,hk,hp⟩
    exact ⟨s[k],List.getElem_mem hk,by rw [ybx hk] at hp;exact hp⟩
theorem p_ctfSS{s:List (List Int)}{F:List Int→(Bool→Prop)→Prop}{p:List Int→Bool}{R:Bool→Prop}(hl:s.length≤1000000000)(hF:∀ k,k<s.length→∀ (R':Bool→Prop),R' (p (gx s k))→F (gx s k) R')(h:R (s.any p)):ybo s F R:=by
  unfold ybo ybS
  refine ⟨Cnt s.length (fun k=>∀ j,j<k→p (gx s j)=false),Cnt.start (fun j hj=>absurd hj (by omega)),?_⟩
  rintro m _ ⟨k,rfl,rfl,hk,hinv⟩
  simp only [Int.toNat_natCast]
  refine ⟨fun hlt=>⟨by omega,hF k (by omega) _ ⟨fun q=>?_,fun q=>Cnt.next (by omega) (by omega) fun j hj=>?_⟩⟩,fun hge=>?_⟩
  · rw [any_gx.2 ⟨k,by omega,q⟩] at h
    have e:decide (0≤(k:Int))=true:=by simp
    rw [e];exact h
  · by_cases e:j=k
    · subst e;simpa using q
    · exact hinv j (by omega)
  · have e:s.any p=false:=by
      rw [Bool.eq_false_iff]
      intro q
      obtain ⟨j,hj,hp⟩:=any_gx.1 q
      rw [hinv j (by omega)] at hp;cases hp
    rw [e] at h;exact h
structure NetOk(n:Nat)(rules:List (List (List ycJ))):Prop where
  len:rules.length=n
  one:∀ p,p<n→∀ s,s<(gx rules p).length→(gx (gx rules p) s).length=1
  next:∀ p,p<n→∀ s,s<(gx rules p).length→0≤(gx (gx (gx rules p) s) 0).1∧(gx (gx (gx rules p) s) 0).1<((gx rules p).length:Int)
  outl:∀ p,p<n→∀ s,s<(gx rules p).length→(gx (gx (gx rules p) s) 0).2.length≤12
  out:∀ p,p<n→∀ s,s<(gx rules p).length→∀ x∈(gx (gx (gx rules p) s) 0).2,0≤x.1∧x.1<(n:Int)∧x.2=0
def cntO(outs:List (Int×Int))(u:Nat):Nat:=outs.countP fun x=>decide (x.1=(u:Int))
theorem ye6(x:Int×Int)(t:List (Int×Int))(u:Nat):cntO (x::t) u=cntO t u+if x.1=(u:Int) then 1 else 0:=by
  unfold cntO
  rw [List.countP_cons]
  by_cases e:x.1=(u:Int)
  · simp [e]
  · simp [e]
theorem cntO_le(outs:List (Int×Int))(u:Nat):cntO outs u≤outs.length:=List.countP_le_length
structure OutOk(n p:Nat)(outs:List (Int×Int))(w x:Wst):Prop where
  st:x.st=w.st
  ct:x.ct=w.ct
  fl:x.fl=w.fl
  tk:x.tk=w.tk
  sn:x.sn=w.sn
  lg:x.lg=false
  wt:x.wt=w.wt.set p [gi (gx w.wt p) 0+cntO outs p]
  lnl:x.ln.length=n*n
  ln:∀ i,i<n*n→gx x.ln i = { gx w.ln i with q:=(gx w.ln i).q++List.replicate (if i / n=p∧i % n≠p then cntO outs (i % n) else 0) 0 }
theorem yib{l:List Int}(h:l.length=1):l=[gi l 0]:=by
  obtain ⟨a,rfl⟩:=List.length_eq_one_iff.1 h
  rfl
theorem ix_lt{n p u:Nat}(hp:p<n)(hu:u<n):p*n+u<n*n:=by
  have:(p+1)*n≤n*n:=Nat.mul_le_mul_right _ hp
  rw [Nat.add_mul] at this;omega
theorem ix_div{n p u:Nat}(hu:u<n):(p*n+u) / n=p:=by
  rw [Nat.add_comm,Nat.add_mul_div_right _ _ (by omega),Nat.div_eq_of_lt hu,Nat.zero_add]
theorem ix_mod{n p u:Nat}(hu:u<n):(p*n+u) % n=u:=by
  rw [Nat.add_comm,Nat.add_mul_mod_self_right,Nat.mod_eq_of_lt hu]
theorem ix_eta{n i:Nat} : i / n*n+i % n=i:=by
  have:=Nat.div_add_mod i n
  rw [Nat.mul_comm] at this;exact this
theorem outs_ok{n p:Nat}(hp:p<n):∀ (outs:List (Int×Int)) (w:Wst),(∀ x∈outs,0≤x.1∧x.1<(n:Int)∧x.2=0)→w.wt.length=n→w.ln.length=n*n→(gx w.wt p).length=1→gi (gx w.wt p) 0+outs.length≤1048576→w.lg=false→OutOk n p outs w (outs.foldl (outF n p) w)
  | [],w,_,hl,hln,h1,_,hlg=>⟨rfl,rfl,rfl,rfl,rfl,hlg,by
      have e:gi (gx w.wt p) 0+(cntO [] p:Int)=gi (gx w.wt p) 0:=by simp [cntO]
      rw [e,←yib h1,yfv];rfl,hln,fun i _=>by simp [cntO]⟩
  | x::t,w,ho,hl,hln,h1,hb,hlg=>by
    obtain ⟨x0,xn,xz⟩:=ho x (by simp)
    obtain ⟨u,hu⟩:∃ u:Nat,x.1=(u:Int):=⟨x.1.toNat,by omega⟩
    have hun:u<n:=by omega
    simp only [List.length_cons] at hb
    rw [List.foldl_cons]
    by_cases e:u=p
    · subst e
      have hw:outF n u w x=yge w u 0:=by unfold outF;rw [if_pos hu,xz]
      have ew:(yge w (u:Int) 0).wt=w.wt.set u ((gx w.wt u).set 0 (gi (gx w.wt u) 0+1)):=rfl
      have eg:gx (yge w (u:Int) 0).wt u=[gi (gx w.wt u) 0+1]:=by
        rw [ew,ybm (by omega),if_pos rfl]
        conv=>lhs;rw [yib h1]
        rfl
      rw [hw]
      have ih:=outs_ok hp t (yge w u 0) (fun y hy=>ho y (by simp [hy])) (by rw [ew,List.length_set];exact hl) hln (by rw [eg];rfl) (by rw [eg];show gi (gx w.wt u) 0+1+_≤_;omega) (waitF_lg hlg (by show gi (gx w.wt u) 0+1≤_;omega))
      refine ⟨ih.st,ih.ct,ih.fl,ih.tk,ih.sn,ih.lg,?_,ih.lnl,fun i hi=>?_⟩
      · rw [ih.wt,eg,ew,List.set_set,ye6,if_pos hu]
        have:gi [gi (gx w.wt u) 0+1] 0+((cntO t u:Nat):Int)=gi (gx w.wt u) 0+((cntO t u+1:Nat):Int):=by
          show gi (gx w.wt u) 0+1+((cntO t u:Nat):Int)=_
          omega
        rw [this]
      · rw [ih.ln i hi]
        have ec:(if i / n=u∧i % n≠u then cntO (x::t) (i % n) else 0)=if i / n=u∧i % n≠u then cntO t (i % n) else 0:=by
          by_cases q:i / n=u∧i % n≠u
          · rw [if_pos q,if_pos q,ye6,if_neg (by rw [hu];have:=q.2;omega)];rfl
          · rw [if_neg q,if_neg q]
        rw [ec];rfl
    · have hw:outF n p w x = { w with ln:=w.ln.set (p*n+u) { gx w.ln (p*n+u) with q:=(gx w.ln (p*n+u)).q++[0] } }:=by
        unfold outF;rw [if_neg (by rw [hu];omega),hu,Int.toNat_natCast,xz]
      rw [hw]
      have hix:=ix_lt hp hun
      have ih:=outs_ok hp t { w with ln:=w.ln.set (p*n+u) { gx w.ln (p*n+u) with q:=(gx w.ln (p*n+u)).q++[0] } } (fun y hy=>ho y (by simp [hy])) hl (by show (w.ln.set _ _).length=_;rw [List.length_set];exact hln) h1 (by show gi (gx w.wt p) 0+_≤_;omega) hlg
      refine ⟨ih.st,ih.ct,ih.fl,ih.tk,ih.sn,ih.lg,?_,ih.lnl,fun i hi=>?_⟩
      · rw [ih.wt,ye6,if_neg (by rw [hu];omega)];rfl
      · rw [ih.ln i hi]
        show ({ gx (w.ln.set (p*n+u) { gx w.ln (p*n+u) with q:=(gx w.ln (p*n+u)).q++[0] }) i with q:=(gx (w.ln.set (p*n+u) { gx w.ln (p*n+u) with q:=(gx w.ln (p*n+u)).q++[0] }) i).q++_ } : Ln)=_
        rw [ybm (by rw [hln];exact hix)]
        by_cases q:i=p*n+u
        · rw [if_pos q]
          subst q
          rw [ix_div hun,ix_mod hun,if_pos ⟨rfl,e⟩,if_pos ⟨rfl,e⟩,ye6,if_pos hu]
          simp only [List.append_assoc]
          rw [List.replicate_succ];rfl
        · rw [if_neg q]
          have ec:(if i / n=p∧i % n≠p then cntO (x::t) (i % n) else 0)=if i / n=p∧i % n≠p then cntO t (i % n) else 0:=by
            by_cases q2:i / n=p∧i % n≠p
            · rw [if_pos q2,if_pos q2,ye6,if_neg]
              · rfl
              · rw [hu];intro hq
                have h3:i % n=u:=by omega
                exact q (by rw [←q2.1,←h3];exact ix_eta.symm)
            · rw [if_neg q2,if_neg q2]
          rw [ec]
def yfF(rules:List (List (List ycJ)))(w:Wst)(p:Nat):ycJ:=gx (gx (gx rules p) (gi w.st p).toNat) 0
def yil(rules:List (List (List ycJ)))(w:Wst)(p:Nat):Wst :=
  { w with wt:=w.wt.set p ((gx w.wt p).set 0 (gi (gx w.wt p) 0-1)),ct:=w.ct.set p ((gx w.ct p).set 0 (gi (gx w.ct p) 0+1)),st:=w.st.set p (yfF rules w p).1 }
theorem yfh{rules:List (List (List ycJ))}{w:Wst}{p:Nat}(h1:(gx w.wt p).length=1)(h:¬0<gi (gx w.wt p) 0):ydw rules w p=w:=by
  unfold ydw
  rw [yib h1]
  have:List.findIdx? (fun n=>decide (0<n)) [gi (gx w.wt p) 0]=none:=by simp [List.findIdx?_cons,h]
  rw [this]
theorem readF_some{rules:List (List (List ycJ))}{w:Wst}{p:Nat}(h1:(gx w.wt p).length=1)(h:0<gi (gx w.wt p) 0):ydw rules w p=(yfF rules w p).2.foldl (outF rules.length p) (yil rules w p):=by
  have:List.findIdx? (fun n=>decide (0<n)) (gx w.wt p)=some 0:=by rw [yib h1];simp [List.findIdx?_cons,h]
  unfold ydw
  rw [this]
  rfl
structure ReadOk(n p:Nat)(r:ycJ)(w x:Wst):Prop where
  st:x.st=w.st.set p r.1
  ct:x.ct=w.ct.set p [gi (gx w.ct p) 0+1]
  fl:x.fl=w.fl
  tk:x.tk=w.tk
  sn:x.sn=w.sn
  lg:x.lg=false
  wt:x.wt=w.wt.set p [gi (gx w.wt p) 0-1+cntO r.2 p]
  lnl:x.ln.length=n*n
  ln:∀ i,i<n*n→gx x.ln i = { gx w.ln i with q:=(gx w.ln i).q++List.replicate (if i / n=p∧i % n≠p then cntO r.2 (i % n) else 0) 0 }
section
variable {n : Nat} {rules : List (List (List ycJ))} {W0 : Int} {v : Nat} {A : Int} {w : Wst} {fates : List Int}
theorem SI.wtb(h:SI n rules W0 v A w){p:Nat}(hp:p<n):gi (gx w.wt p) 0≤800000:=by
  have h1:=(h.wt p hp).2.2;have:=h.ctb hp;have:=h.sa;have:=h.a6;have:=h.w0
  omega
theorem readW_out(h:SI n rules W0 v A w)(hN:NetOk n rules){p:Nat}(hp:p<n){outs:List (Int×Int)}(ho:∀ x∈outs,0≤x.1∧x.1<(n:Int)∧x.2=0)(hl:outs.length≤12) :
    OutOk n p outs (yil rules w p) (outs.foldl (outF n p) (yil rules w p)):=by
  have h1:=(h.wt p hp).1
  have e:gx (yil rules w p).wt p=(gx w.wt p).set 0 (gi (gx w.wt p) 0-1):=by
    show gx (w.wt.set p _) p=_
    rw [ybm (by rw [h.wtl];exact hp),if_pos rfl]
  have hb:=h.wtb hp
  refine outs_ok hp _ _ ho (by show (w.wt.set p _).length=n;rw [List.length_set];exact h.wtl) h.lnl (by rw [e,List.length_set];exact h1) ?_ h.lg
  rw [e,ydh (by omega),if_pos rfl]
  omega
theorem read_ok(h:SI n rules W0 v A w)(hN:NetOk n rules){p:Nat}(hp:p<n)(hx:0<gi (gx w.wt p) 0):ReadOk n p (yfF rules w p) w (ydw rules w p):=by
  have h1:=(h.wt p hp).1
  have hc1:=(h.ct p hp).1
  have hs:=h.st p hp
  have hsl:(gi w.st p).toNat<(gx rules p).length:=by omega
  have hO:=readW_out h hN hp (outs:=(yfF rules w p).2) (hN.out p hp _ hsl) (hN.outl p hp _ hsl)
  rw [readF_some h1 hx,hN.len]
  have e:gx (yil rules w p).wt p=(gx w.wt p).set 0 (gi (gx w.wt p) 0-1):=by
    show gx (w.wt.set p _) p=_
    rw [ybm (by rw [h.wtl];exact hp),if_pos rfl]
  refine ⟨hO.st,?_,hO.fl,hO.tk,hO.sn,hO.lg,?_,hO.lnl,hO.ln⟩
  · rw [hO.ct]
    show w.ct.set p ((gx w.ct p).set 0 _)=_
    congr 1
    conv=>lhs;rw [yib hc1]
    rfl
  · rw [hO.wt,e,ydh (by omega),if_pos rfl]
    show (w.wt.set p _).set p _=_
    rw [List.set_set]
theorem SI.read(h:SI n rules W0 v A w)(hN:NetOk n rules)(hv:v<n):SI n rules W0 (v+1) A (ydw rules w v):=by
  have h1:=(h.wt v hv).1
  by_cases hx:0<gi (gx w.wt v) 0
  · have hR:=read_ok h hN hv hx
    have hs:=h.st v hv
    have hsl:(gi w.st v).toNat<(gx rules v).length:=by omega
    have hnx:=hN.next v hv _ hsl
    have hol:=hN.outl v hv _ hsl
    have hcl:=h.ctl
    have hcv:=h.ct v hv
    have hct:∀ p,p<n→gi (gx (ydw rules w v).ct p) 0=gi (gx w.ct p) 0+if p=v then 1 else 0:=fun p hp=>by
      rw [hR.ct,ybm (by omega)]
      by_cases e:p=v
      · rw [if_pos e,if_pos e,e];rfl
      · rw [if_neg e,if_neg e];omega
    refine ⟨h.n6,h.w0,by rw [hR.st,List.length_set];exact h.stl,fun p hp=>?_,by rw [hR.wt,List.length_set];exact h.wtl,fun p hp=>?_,by rw [hR.ct,List.length_set];exact hcl,fun p hp=>?_,hR.lnl,fun i hi=>?_,by rw [hR.fl];exact h.fl,by rw [hR.tk];exact h.tk,by rw [hR.sn];exact h.sn,by rw [hR.sn,hR.fl];exact h.sa,h.a6,by rw [hR.fl,hR.sn];exact h.fn,hR.lg⟩
    · rw [hR.st,ydh (by rw [h.stl];exact hv)]
      by_cases e:p=v
      · rw [if_pos e,e];exact hnx
      · rw [if_neg e];exact h.st p hp
    · rw [hct p hp,hR.sn,hR.wt,ybm (by rw [h.wtl];exact hv)]
      obtain ⟨b1,b2,b3⟩:=h.wt p hp
      by_cases e:p=v
      · subst e
        rw [if_pos rfl,if_pos rfl]
        have:=cntO_le (yfF rules w p).2 p
        have hol:(yfF rules w p).2.length≤12:=hol
        refine ⟨rfl,?_,?_⟩
        · show 0≤gi (gx w.wt p) 0-1+_;omega
        · show gi (gx w.wt p) 0-1+_≤_;omega
      · rw [if_neg e,if_neg e]
        exact ⟨b1,b2,by omega⟩
    · obtain ⟨c1,c2,c3⟩:=h.ct p hp
      rw [hct p hp,hR.tk]
      refine ⟨?_,by split <;> omega,?_⟩
      · rw [hR.ct,ybm (by omega)]
        split
        · rfl
        · exact c1
      · by_cases e:p=v
        · subst e
          rw [if_pos rfl,if_pos (by omega)]
          rw [if_neg (by omega)] at c3
          omega
        · rw [if_neg e]
          by_cases q:p<v
          · rw [if_pos (by omega)];rw [if_pos q] at c3;omega
          · rw [if_neg (by omega)];rw [if_neg q] at c3;omega
    · have hL:=h.ln i hi
      rw [hct _ (ygV hi),hR.tk,hR.sn,hR.ln i hi]
      refine ⟨hL.dst,hL.rem,hL.snt,hL.acc,?_,fun x hx=>?_⟩
      · show (gx w.ln i).rem+((((gx w.ln i).q++List.replicate _ 0).length:Nat):Int)≤_
        rw [List.length_append,List.length_replicate]
        have:=hL.len
        have:=cntO_le (yfF rules w v).2 (i % n)
        have hol:(yfF rules w v).2.length≤12:=hol
        by_cases q:i / n=v
        · rw [if_pos q];split <;> omega
        · rw [if_neg q,if_neg (by intro q2;exact q q2.1)];omega
      · rcases List.mem_append.1 hx with q | q
        · exact hL.zer x q
        · exact (List.mem_replicate.1 q).2
  · rw [yfh h1 hx]
    exact ⟨h.n6,h.w0,h.stl,h.st,h.wtl,h.wt,h.ctl,fun p hp=>by
      obtain ⟨c1,c2,c3⟩:=h.ct p hp
      refine ⟨c1,c2,?_⟩
      by_cases q:p<v
      · rw [if_pos (by omega)];rw [if_pos q] at c3;omega
      · rw [if_neg q] at c3;split <;> omega,h.lnl,h.ln,h.fl,h.tk,h.sn,h.sa,h.a6,h.fn,h.lg⟩
def yaB(d:PrL):List (List (List ycJ)):=d.map fun x=>x.2.2
theorem yfu{d:PrL}{p:Nat}(hp:p<d.length):gx (yaB d) p=(gx d p).2.2:=by
  unfold gx yaB
  simp [List.getD_eq_getElem?_getD,hp]
theorem yhL{m i:Nat}(h:i<m):gx (List.range m) i=i:=by
  rw [ybx (by rw [List.length_range];exact h)];simp
theorem take_len{τ:Type}(k:Nat)(l:List τ):(l.take k).length≤l.length:=by rw [List.length_take];exact Nat.min_le_right _ _
theorem p_wread{d:PrL}(h:SI n (yaB d) W0 v A w)(hN:NetOk n (yaB d))(hv:v<n){R:Bool→List Int→List (List Int)→List (List Int)→List Ln→Prop}
    (hR:let x:=ydw (yaB d) w v;R x.lg x.st x.wt x.ct x.ln):ycg d w.st w.wt w.ct (List.range (n*n)) w.ln fates w.fl w.tk w.sn w.lg (v:Int) R:=by
  have hdl:d.length=n:=by have:=hN.len;simpa [yaB] using this
  have h1:=(h.wt v hv).1
  have hc1:=(h.ct v hv).1
  have hwl:=h.wtl
  have hcl:=h.ctl
  have hsl0:=h.stl
  have hs:=h.st v hv
  have hn6:=h.n6
  have hwb:=h.wtb hv
  have hcb:=h.ctb hv
  have hc2:=(h.ct v hv).2.1
  have hw2:=(h.wt v hv).2.1
  rw [yfu (by omega)] at hs
  unfold ycg
  simp only [Int.toNat_natCast]
  refine ⟨by omega,p_ixfS (p:=fun n=>decide (0<n)) (by omega) (fun x R' q=>by unfold ycs;exact q) (fun k hk hp _=>?_) (fun hn=>⟨fun _=>?_,fun q=>absurd q (by omega)⟩)⟩
  · have hk0:k=0:=by omega
    subst hk0
    have hx:0<gi (gx w.wt v) 0:=by simpa using hp
    have hsl:(gi w.st v).toNat<(gx (yaB d) v).length:=by rw [yfu (by omega)];omega
    have h11:=hN.one v hv _ hsl
    have hol:=hN.outl v hv _ hsl
    have hou:=hN.out v hv _ hsl
    have her:yfF (yaB d) w v=gx (gx ((gx d v).2.2) (gi w.st v).toNat) 0:=by unfold yfF;rw [yfu (by omega)]
    rw [readF_some h1 hx,hN.len] at hR
    have hov:∀ k,OutOk n v ((yfF (yaB d) w v).2.take k) (yil (yaB d) w v) (((yfF (yaB d) w v).2.take k).foldl (outF n v) (yil (yaB d) w v)):=fun k =>
      readW_out h hN hv (fun x hx=>hou x (List.mem_of_mem_take hx)) (by have:=take_len k (yfF (yaB d) w v).2;have hol:(yfF (yaB d) w v).2.length≤12:=hol;omega)
    rw [yfu (by omega)] at h11 hol hou
    generalize hout:(yfF (yaB d) w v).2=outs at hR hov
    have hout2:(gx (gx ((gx d v).2.2) (gi w.st v).toNat) 0).2=outs:=by rw [←her];exact hout
    rw [hout2] at hol hou
    refine ⟨fun q=>absurd q (by omega),fun _=>?_⟩
    have et:(((0:Nat):Int)).toNat=0:=rfl
    rw [et]
    refine ⟨by omega,i64 (by omega),by omega,by rw [hc1];omega,i64 (by omega),by omega,by omega,by omega,by rw [h11];omega,?_⟩
    rw [hout2]
    refine ⟨fun m i wt LL lg=>Cnt outs.length (fun k=>∃ x:Wst,x=(outs.take k).foldl (outF n v) (yil (yaB d) w v)∧x.wt=wt∧x.ln=LL∧x.lg=lg) m i,Cnt.start ⟨_,rfl,rfl,rfl,rfl⟩,?_⟩
    rintro m _ _ _ _ ⟨k,rfl,rfl,hk,x,hx2,rfl,rfl,rfl⟩
    simp only [Int.toNat_natCast]
    have hO:=hov k
    rw [←hx2] at hO
    refine ⟨fun hlt=>?_,fun hge=>?_⟩
    · have hk2:k<outs.length:=by omega
      have hm:gx outs k∈outs:=by rw [ybx hk2];exact List.getElem_mem hk2
      obtain ⟨x0,xn,xz⟩:=hou _ hm
      have hnext:outF n v x (gx outs k)=(outs.take (k+1)).foldl (outF n v) (yil (yaB d) w v):=by rw [foldl_take _ _ hk2,hx2]
      have hct:(cntO (outs.take k) v:Int)≤12:=by have:=cntO_le (outs.take k) v;have:=List.length_take_le k outs;omega
      have ewr:gx (yil (yaB d) w v).wt v=(gx w.wt v).set 0 (gi (gx w.wt v) 0-1):=by
        show gx (w.wt.set v _) v=_
        rw [ybm (by rw [h.wtl];exact hv),if_pos rfl]
      have exw:gx x.wt v=[gi (gx w.wt v) 0-1+cntO (outs.take k) v]:=by
        rw [hO.wt,ewr,ybm (by show v<(w.wt.set v _).length;rw [List.length_set];omega),if_pos rfl,ydh (by omega),if_pos rfl]
      have exl:x.wt.length=n:=by rw [hO.wt,List.length_set];show (w.wt.set v _).length=n;rw [List.length_set];exact hwl
      refine ⟨by omega,fun he=>?_,fun he=>?_⟩
      · rw [xz]
        have hy:=p_wwait (d:=d) (st:=w.st.set v (gx (gx ((gx d v).2.2) (gi w.st v).toNat) 0).1) (ct:=w.ct.set v ((gx w.ct v).set 0 (gi (gx w.ct v) 0+1))) (ls:=List.range (n*n)) (fates:=fates) (fl:=w.fl) (tk:=w.tk) (sn:=w.sn) (wt:=x.wt) (LL:=x.ln) (lg:=x.lg) (p:=(v:Int)) (k:=0)
          (R:=fun y y2=>In64 ((k:Int)+1)∧∃ m3,m3<outs.length-k∧Cnt outs.length (fun k=>∃ x':Wst,x'=(outs.take k).foldl (outF n v) (yil (yaB d) w v)∧x'.wt=y2∧x'.ln=x.ln∧x'.lg=y) m3 ((k:Int)+1))
          (by rw [exl];omega) (by rw [Int.toNat_natCast,exw];exact ⟨by omega,by simp⟩) (by rw [Int.toNat_natCast,Int.toNat_zero,exw];show _≤gi (gx w.wt v) 0-1+_∧gi (gx w.wt v) 0-1+_≤_;omega) ?_
        · exact hy
        · refine Cnt.next hk2 (by omega) ⟨yge x v 0,?_,rfl,rfl,rfl⟩
          rw [←hnext];unfold outF;rw [if_pos he,xz]
      · obtain ⟨u,hu⟩:∃ u:Nat,(gx outs k).1=(u:Int):=⟨(gx outs k).1.toNat,by omega⟩
        rw [hu] at he xn ⊢
        have hun:u<n:=by omega
        have hix:=ix_lt hv hun
        have hle:v*n≤36:=by
          have:v*n≤6*6:=Nat.mul_le_mul (by omega) hn6.2
          omega
        have eidx:((v:Int)*((d.length:Nat):Int)+(u:Int))=((v*n+u:Nat):Int):=by rw [hdl];push_cast;rfl
        have hL:=h.ln _ hix
        have hql:(gx x.ln (v*n+u)).q.length≤100000:=by
          rw [hO.ln _ hix]
          show ((gx w.ln (v*n+u)).q++List.replicate _ 0).length≤_
          rw [List.length_append,List.length_replicate]
          have:=hL.len
          have:=hL.rem
          have:=h.ctb (ygV hix)
          have:=cntO_le (outs.take k) ((v*n+u) % n)
          have:=List.length_take_le k outs
          split <;> omega
        rw [eidx]
        simp only [Int.toNat_natCast]
        rw [yhL hix]
        have em:((v:Int)*((d.length:Nat):Int))=((v*n:Nat):Int):=by rw [hdl];push_cast;rfl
        refine ⟨by rw [em];exact i64 (by omega),i64 (by omega),⟨by omega,by rw [List.length_range];omega⟩,by rw [hO.lnl];exact hix,by omega,Cnt.next hk2 (by omega) ⟨outF n v x (gx outs k),hnext,?_,?_,?_⟩⟩
        · unfold outF;rw [if_neg (by rw [hu];omega)]
        · unfold outF;rw [if_neg (by rw [hu];omega),hu,Int.toNat_natCast]
        · unfold outF;rw [if_neg (by rw [hu];omega)]
    · have e:k=outs.length:=by omega
      subst e
      rw [List.take_length] at hx2 hO
      rw [←hx2] at hR
      have e1:x.st=w.st.set v (gx (gx ((gx d v).2.2) (gi w.st v).toNat) 0).1:=by rw [hO.st,←her];rfl
      have e2:x.ct=w.ct.set v ((gx w.ct v).set 0 (gi (gx w.ct v) 0+1)):=hO.ct
      rw [←e1,←e2]
      exact hR
  · have hx:¬0<gi (gx w.wt v) 0:=by have:=hn 0 (by omega);simpa using this
    rw [yfh h1 hx] at hR
    exact hR
end
end Go.Proofs.YtjepipbkiadcpaaGreat

/- What the functions of wire compute: a tick, a run. -/
namespace Go.Proofs.YtjepipbkiadcpaaGreat
open Go Go.RowKit Go.Shelf Go.Proofs.Tryz
section
variable {n : Nat} {rules : List (List (List ycJ))} {W0 : Int} {v : Nat} {A : Int} {w : Wst} {fates : List Int}
theorem readF_keep(h:SI n rules W0 v A w)(hN:NetOk n rules){p:Nat}(hp:p<n):(ydw rules w p).fl=w.fl∧(ydw rules w p).tk=w.tk∧(ydw rules w p).sn=w.sn:=by
  by_cases hx:0<gi (gx w.wt p) 0
  · have hR:=read_ok h hN hp hx;exact ⟨hR.fl,hR.tk,hR.sn⟩
  · rw [yfh (h.wt p hp).1 hx];exact ⟨rfl,rfl,rfl⟩
theorem ycU{σ:Type}(f:σ→Nat→σ)(a:σ)(k:Nat):(List.range (k+1)).foldl f a=f ((List.range k).foldl f a) k:=by
  rw [List.range_succ,List.foldl_append];rfl
theorem SI.reads(h:SI n rules W0 0 A w)(hN:NetOk n rules):∀ k,k≤n→SI n rules W0 k A ((List.range k).foldl (ydw rules) w)∧((List.range k).foldl (ydw rules) w).fl=w.fl∧((List.range k).foldl (ydw rules) w).tk=w.tk∧((List.range k).foldl (ydw rules) w).sn=w.sn
  | 0,_=>⟨h,rfl,rfl,rfl⟩
  | k+1,hk=>by
    obtain ⟨h1,e1,e2,e3⟩:=SI.reads h hN k (by omega)
    have h2:=readF_keep h1 hN (p:=k) (by omega)
    rw [ycU]
    exact ⟨h1.read hN (by omega),h2.1.trans e1,h2.2.1.trans e2,h2.2.2.trans e3⟩
theorem yg0{i:Nat}(hc:0<(gx w.ln i).q.length∧((gx w.ln i).snt=0∨4≤w.tk-(gx w.ln i).snt)):lineF fates w i = { yfz fates w (.lt i ((gx w.ln i).rem+1) (gi (gx w.ln i).q 0)) with ln:=w.ln.set i { gx w.ln i with snt:=w.tk } }:=by
  unfold lineF
  rw [if_pos hc]
  rfl
theorem lineF_f{i:Nat}(hc:¬(0<(gx w.ln i).q.length∧((gx w.ln i).snt=0∨4≤w.tk-(gx w.ln i).snt))):lineF fates w i=w:=by
  unfold lineF
  rw [if_neg hc]
theorem gi_mem0{l:List Int}(h:0<l.length):gi l 0∈l:=by rw [yba h];exact List.getElem_mem h
theorem SI.lineF(h:SI n rules W0 v A w){i:Nat}(hi:i<n*n)(hA:A+3≤600000):SI n rules W0 v (A+3) (lineF fates w i):=by
  by_cases hc:0<(gx w.ln i).q.length∧((gx w.ln i).snt=0∨4≤w.tk-(gx w.ln i).snt)
  · have hL:=h.ln i hi
    rw [yg0 hc]
    have h2:=h.send (fates:=fates) (p := .lt i ((gx w.ln i).rem+1) (gi (gx w.ln i).q 0)) ⟨hi,hL.zer _ (gi_mem0 hc.1)⟩ hA
    have htk:=h.tk
    exact h2.line hi (l:={ gx w.ln i with snt:=w.tk }) ⟨hL.dst,hL.rem,⟨htk.1,Int.le_refl _⟩,⟨hL.acc.1,by show (gx w.ln i).acc≤w.sn+1;have:=hL.acc.2;omega⟩,hL.len,hL.zer⟩
  · rw [lineF_f hc]
    exact h.mono (by omega) hA
theorem lineF_keep(fates:List Int)(w:Wst)(i:Nat):(lineF fates w i).st=w.st∧(lineF fates w i).wt=w.wt∧(lineF fates w i).ct=w.ct∧(lineF fates w i).tk=w.tk∧(lineF fates w i).lg=w.lg:=by
  by_cases hc:0<(gx w.ln i).q.length∧((gx w.ln i).snt=0∨4≤w.tk-(gx w.ln i).snt)
  · rw [yg0 hc];exact ⟨rfl,rfl,rfl,rfl,rfl⟩
  · rw [lineF_f hc];exact ⟨rfl,rfl,rfl,rfl,rfl⟩
theorem SI.lines(h:SI n rules W0 v A w)(hA:A+3*(n*n:Nat)≤600000):∀ k,k≤n*n→SI n rules W0 v (A+3*k) ((List.range k).foldl (Go.Proofs.YtjepipbkiadcpaaGreat.lineF fates) w)∧((List.range k).foldl (Go.Proofs.YtjepipbkiadcpaaGreat.lineF fates) w).st=w.st∧((List.range k).foldl (Go.Proofs.YtjepipbkiadcpaaGreat.lineF fates) w).wt=w.wt∧((List.range k).foldl (Go.Proofs.YtjepipbkiadcpaaGreat.lineF fates) w).ct=w.ct∧((List.range k).foldl (Go.Proofs.YtjepipbkiadcpaaGreat.lineF fates) w).tk=w.tk∧((List.range k).foldl (Go.Proofs.YtjepipbkiadcpaaGreat.lineF fates) w).lg=w.lg
  | 0,_=>⟨h.mono (by simp) (by omega),rfl,rfl,rfl,rfl,rfl⟩
  | k+1,hk=>by
    obtain ⟨h1,e1,e2,e3,e4,e5⟩:=SI.lines h hA k (by omega)
    rw [ycU]
    obtain ⟨f1,f2,f3,f4,f5⟩:=lineF_keep fates ((List.range k).foldl (Go.Proofs.YtjepipbkiadcpaaGreat.lineF fates) w) k
    exact ⟨(h1.lineF (fates:=fates) (i:=k) (by omega) (by omega)).mono (by omega) (by omega),f1.trans e1,f2.trans e2,f3.trans e3,f4.trans e4,f5.trans e5⟩
theorem SI.tick0(h:SI n rules W0 n A w)(ht:w.tk+1≤5000):SI n rules W0 0 A { w with tk:=w.tk+1 } :=
  ⟨h.n6,h.w0,h.stl,h.st,h.wtl,h.wt,h.ctl,fun p hp=>by
    obtain ⟨c1,c2,c3⟩:=h.ct p hp
    rw [if_pos hp] at c3
    exact ⟨c1,c2,by rw [if_neg (by omega)];show gi (gx w.ct p) 0≤w.tk+1-1;omega⟩,h.lnl,fun i hi=>by
    have hL:=h.ln i hi
    exact ⟨hL.dst,hL.rem,⟨hL.snt.1,by show _≤w.tk+1;have:=hL.snt.2;show (gx w.ln i).snt≤_;omega⟩,hL.acc,hL.len,hL.zer⟩,h.fl,⟨by show 0≤w.tk+1;have:=h.tk;omega,ht⟩,h.sn,h.sa,h.a6,h.fn,h.lg⟩
theorem yhJ(hr:rules.length=n)(h2:((List.range n).foldl (ydw rules) (arrF fates { w with tk:=w.tk+1 })).ln.length=n*n):yhX rules fates w=(List.range (n*n)).foldl (Go.Proofs.YtjepipbkiadcpaaGreat.lineF fates) ((List.range n).foldl (ydw rules) (arrF fates { w with tk:=w.tk+1 })):=by
  subst hr
  show (List.range (((List.range rules.length).foldl (ydw rules) (arrF fates { w with tk:=w.tk+1 })).ln.length)).foldl _ _=_
  rw [h2]
theorem SI.tick(h:SI n rules W0 n A w)(hN:NetOk n rules)(ht:w.tk+1≤5000)(hA:A+3*(n*n:Nat)≤600000):SI n rules W0 n (A+3*(n*n:Nat)) (yhX rules fates w)∧(yhX rules fates w).tk=w.tk+1:=by
  have h1:=(h.tick0 ht).arr (fates:=fates)
  have h2:=h1.reads hN n (Nat.le_refl _)
  have h3:=h2.1.lines (fates:=fates) hA (n*n) (Nat.le_refl _)
  have e:yhX rules fates w=(List.range (n*n)).foldl (Go.Proofs.YtjepipbkiadcpaaGreat.lineF fates) ((List.range n).foldl (ydw rules) (arrF fates { w with tk:=w.tk+1 })):=by
    exact yhJ hN.len h2.1.lnl
  rw [e]
  refine ⟨h3.1,h3.2.2.2.2.1.trans (h2.2.2.1.trans ?_)⟩
  have:∀ (l:List (Pk×Int)) (x:Wst),(l.foldl (fun w a=>yed fates w a.1) x).tk=x.tk:=by
    intro l
    induction l with
    | nil=>intro x;rfl
    | cons a t ih=>intro x;rw [List.foldl_cons,ih];exact (yfb fates x _).2.2
  exact this _ _
theorem arrF_keep(fates:List Int)(w:Wst):(arrF fates w).st=w.st∧(arrF fates w).ct=w.ct∧(arrF fates w).tk=w.tk:=by
  have:∀ (l:List (Pk×Int)) (x:Wst),(l.foldl (fun w a=>yed fates w a.1) x).st=x.st∧(l.foldl (fun w a=>yed fates w a.1) x).ct=x.ct∧(l.foldl (fun w a=>yed fates w a.1) x).tk=x.tk:=by
    intro l
    induction l with
    | nil=>intro x;exact ⟨rfl,rfl,rfl⟩
    | cons a t ih =>
      intro x
      rw [List.foldl_cons]
      obtain ⟨e1,e2,e3⟩:=ih (yed fates x a.1)
      obtain ⟨f1,f2,f3⟩:=yfb fates x a.1
      exact ⟨e1.trans f1,e2.trans f2,e3.trans f3⟩
  exact this _ _
theorem p_wtick{d:PrL}(h:SI n (yaB d) W0 n A w)(hN:NetOk n (yaB d))(ht:w.tk+1≤5000)(hA:A+3*(n*n:Nat)≤600000){R:Int→Int→Bool→List Int→List (List Int)→List (List Int)→List Ln→List (Pk×Int)→Prop}
    (hR:let x:=yhX (yaB d) fates w;R x.tk x.sn x.lg x.st x.wt x.ct x.ln x.fl):ycq d w.st w.wt w.ct (List.range (n*n)) w.ln fates w.fl w.tk w.sn w.lg R:=by
  have hdl:d.length=n:=by have:=hN.len;simpa [yaB] using this
  have hn6:=h.n6
  have htk:=h.tk
  have h0:=h.tick0 ht
  have h1:=h0.arr (fates:=fates)
  have hrs:=fun k hk=>h1.reads hN k hk
  have h2:=hrs n (Nat.le_refl _)
  have hls:=fun k hk=>h2.1.lines (fates:=fates) hA k hk
  have hnn:n*n≤36:=by
    have:n*n≤6*6:=Nat.mul_le_mul hn6.2 hn6.2
    omega
  obtain ⟨k1,k2,k3⟩:=arrF_keep fates { w with tk:=w.tk+1 }
  have e:yhX (yaB d) fates w=(List.range (n*n)).foldl (Go.Proofs.YtjepipbkiadcpaaGreat.lineF fates) ((List.range n).foldl (ydw (yaB d)) (arrF fates { w with tk:=w.tk+1 })):=by
    exact yhJ hN.len h2.1.lnl
  rw [e] at hR
  unfold ycq
  refine ⟨i64 (by omega),p_warrive (w:={ w with tk:=w.tk+1 }) h0 ?_⟩
  generalize hw1:arrF fates { w with tk:=w.tk+1 }=w1 at *
  have k1:w1.st=w.st:=k1
  have k2:w1.ct=w.ct:=k2
  have k3:w1.tk=w.tk+1:=k3
  refine ⟨fun m i st wt ct LL lg=>Cnt n (fun k=>∃ x:Wst,x=(List.range k).foldl (ydw (yaB d)) w1∧x.st=st∧x.wt=wt∧x.ct=ct∧x.ln=LL∧x.lg=lg) m i,Cnt.start ⟨w1,rfl,k1,rfl,k2,rfl,rfl⟩,?_⟩
  rintro m _ _ _ _ _ _ ⟨k,rfl,rfl,hk,x,hx,rfl,rfl,rfl,rfl,rfl⟩
  have hxk:=hrs k hk
  rw [←hx] at hxk
  obtain ⟨hxS,x1,x2,x3⟩:=hxk
  refine ⟨fun hlt=>?_,fun hge=>?_⟩
  · have hk2:k<n:=by omega
    have hy:=p_wread (d:=d) (fates:=fates) hxS hN hk2 (R:=fun y6 y7 y8 y9 y10=>In64 ((k:Int)+1)∧∃ m3,m3<n-k∧Cnt n (fun k=>∃ x:Wst,x=(List.range k).foldl (ydw (yaB d)) w1∧x.st=y7∧x.wt=y8∧x.ct=y9∧x.ln=y10∧x.lg=y6) m3 ((k:Int)+1)) (Cnt.next hk2 (by omega) ⟨ydw (yaB d) x k,by rw [ycU,hx],rfl,rfl,rfl,rfl,rfl⟩)
    rw [x1,x2,x3,k3] at hy
    exact hy
  · have e:k=n:=by omega
    subst e
    rw [←hx] at hR hls
    refine ⟨fun m i LL fl sn=>Cnt (k*k) (fun j=>∃ y:Wst,y=(List.range j).foldl (Go.Proofs.YtjepipbkiadcpaaGreat.lineF fates) x∧y.ln=LL∧y.fl=fl∧y.sn=sn) m i,Cnt.start ⟨x,rfl,rfl,x1,x3⟩,?_⟩
    rintro m _ _ _ _ ⟨j,rfl,rfl,hj,y,hy,rfl,rfl,rfl⟩
    have hyk:=hls j hj
    rw [←hy] at hyk
    obtain ⟨hyS,y1,y2,y3,y4,y5⟩:=hyk
    have hytk:y.tk=w.tk+1:=y4.trans (x2.trans k3)
    simp only [Int.toNat_natCast]
    rw [List.length_range]
    refine ⟨fun hlt=>?_,fun hge=>?_⟩
    · have hj2:j<k*k:=by omega
      have hL:=hyS.ln j hj2
      rw [yhL hj2,←hytk]
      have hcb:=hyS.ctb (ygV hj2)
      have hlen:=hL.len
      have hrem:=hL.rem
      have hsnt:=hL.snt
      have hend:¬(0<(gx y.ln j).q.length∧((gx y.ln j).snt=0∨4≤y.tk-(gx y.ln j).snt))→In64 ((j:Int)+1)∧∃ m7,m7<k*k-j∧Cnt (k*k) (fun j=>∃ y':Wst,y'=(List.range j).foldl (Go.Proofs.YtjepipbkiadcpaaGreat.lineF fates) x∧y'.ln=y.ln∧y'.fl=y.fl∧y'.sn=y.sn) m7 ((j:Int)+1):=fun hc =>
        Cnt.next hj2 (by omega) ⟨y,by rw [ycU,←hy,lineF_f hc],rfl,rfl,rfl⟩
      have hsend:(0<(gx y.ln j).q.length∧((gx y.ln j).snt=0∨4≤y.tk-(gx y.ln j).snt))→In64 ((j:Int)+1)∧∃ m7,m7<k*k-j∧Cnt (k*k) (fun j'=>∃ y':Wst,y'=(List.range j').foldl (Go.Proofs.YtjepipbkiadcpaaGreat.lineF fates) x∧y'.ln=y.ln.set j { gx y.ln j with snt:=y.tk }∧y'.fl=y.fl++(delF fates y.sn).map (fun d=>(Pk.lt j ((gx y.ln j).rem+1) (gi (gx y.ln j).q 0),y.tk+d))∧y'.sn=y.sn+1) m7 ((j:Int)+1):=fun hc =>
        Cnt.next hj2 (by omega) ⟨lineF fates y j,by rw [ycU,←hy],by rw [yg0 hc],by rw [yg0 hc];rfl,by rw [yg0 hc];rfl⟩
      have hsn:=hyS.sn
      have hsa:=hyS.sa
      have ha6:=hyS.a6
      have hfn:=hyS.fn
      have hty:=hyS.tk
      refine ⟨by omega,0<(gx y.ln j).q.length∧((gx y.ln j).snt=0∨4≤y.tk-(gx y.ln j).snt),fun hc=>⟨by rw [hyS.lnl];exact hj2,i64 (by omega),by omega,?_⟩,by rw [hyS.lnl];exact hj2,fun hq=>⟨fun hs=>⟨by omega, .inl hs⟩,fun hs=>⟨i64 (by omega),fun h4=>⟨by omega, .inr h4⟩,fun h4=>hend (by omega)⟩⟩,fun hq=>hend (by omega)⟩
      refine p_wsend (by omega) (by omega) (by omega) ?_
      exact hsend hc
    · have e:j=k*k:=by omega
      subst e
      rw [←hy] at hR
      rw [←y1,←y2,←y3,←y5,←hytk]
      exact hR
end
end Go.Proofs.YtjepipbkiadcpaaGreat

/- What wire.Run computes. -/
namespace Go.Proofs.YtjepipbkiadcpaaGreat
open Go Go.RowKit Go.Shelf Go.Proofs.Tryz
section
variable {n : Nat} {rules : List (List (List ycJ))} {W0 : Int} {v : Nat} {A : Int} {w : Wst} {fates : List Int}
theorem p_wlines{LL:List Ln}{R:Bool→Prop}(hl:LL.length≤1000000)(h:R (LL.any fun l=>!l.q.isEmpty)):yaU (List.range LL.length) LL R:=by
  unfold yaU ya8
  refine ⟨Cnt LL.length (fun k=>∀ j,j<k→(gx LL j).q.isEmpty=true),Cnt.start (fun j hj=>absurd hj (by omega)),?_⟩
  rintro m _ ⟨k,rfl,rfl,hk,hinv⟩
  simp only [Int.toNat_natCast,List.length_range]
  refine ⟨fun hlt=>?_,fun hge=>?_⟩
  · rw [yhL (by omega)]
    unfold ycu
    refine ⟨by omega,by omega,fun hq=>?_,fun hq=>Cnt.next (by omega) (by omega) fun j hj=>?_⟩
    · have hq:0<((gx LL k).q.length:Int):=by simpa using hq
      have e:(LL.any fun l=>!l.q.isEmpty)=true:=any_gx.2 ⟨k,by omega,by
        have:(gx LL k).q≠[]:=by intro q;rw [q] at hq;simp at hq
        simp [this]⟩
      rw [e] at h
      have e:decide (0≤(k:Int))=true:=by simp
      rw [e];exact h
    · by_cases e:j=k
      · subst e
        have hq:¬0<((gx LL j).q.length:Int):=by simpa using hq
        have:(gx LL j).q=[]:=List.eq_nil_of_length_eq_zero (by omega)
        rw [this];rfl
      · exact hinv j (by omega)
  · have e:(LL.any fun l=>!l.q.isEmpty)=false:=by
      rw [Bool.eq_false_iff]
      intro q
      obtain ⟨j,hj,hp⟩:=any_gx.1 q
      rw [hinv j (by omega)] at hp;cases hp
    rw [e] at h;exact h
theorem p_wwaiting{l:List (List Int)}{R:Bool→Prop}(hl:l.length≤1000000)(hr:∀ k,k<l.length→(gx l k).length≤1000000)(h:R (l.any fun r=>r.any fun n=>decide (n≠0))):ycV l R:=by
  unfold ycV
  refine p_ctfSS (p:=fun r=>r.any fun n=>decide (n≠0)) (by omega) (fun k hk R' q=>?_) h
  unfold yc0
  refine p_ctfS (p:=fun n=>decide (n≠0)) (by have:=hr k hk;omega) (fun x R'' q2=>?_) q
  unfold ycE
  rw [←decide_not]
  exact q2
theorem p_wbusy{d:PrL}{W:Int}{tk sn:Int}{lg:Bool}{ct:List (List Int)}{st:List Int}(hln:w.ln.length=n*n)(hn:n≤6)(hwl:w.wt.length=n)(hr:∀ k,k<n→(gx w.wt k).length=1){R:Bool→Prop}(h:R (ygr w)):ycj d st w.wt ct (List.range (n*n)) w.ln fates w.fl tk sn lg R:=by
  have hnn:n*n≤36:=by
    have:n*n≤6*6:=Nat.mul_le_mul hn hn
    omega
  unfold ycj
  unfold ygr at h
  refine ⟨fun hf=>?_,fun hf=>?_⟩
  · have:w.fl.isEmpty=false:=by
      cases hq:w.fl with
      | nil=>rw [hq] at hf;simp at hf
      | cons a t=>rfl
    rw [this] at h;exact h
  · have e0:w.fl=[]:=List.eq_nil_of_length_eq_zero (by omega)
    rw [e0] at h
    rw [←hln]
    refine p_wlines (by omega) ⟨fun hq=>?_,fun hq=>?_⟩
    · rw [hq] at h;exact h
    · have hq:(w.ln.any fun l=>!l.q.isEmpty)=false:=by simpa using hq
      rw [hq] at h
      exact p_wwaiting (by omega) (fun k hk=>by rw [hr k (by omega)];omega) h
theorem p_wseen{d:PrL}{st:List Int}{lg:Bool}(h:SI n rules W0 v A w)(hsz:d.length≤1000000∧∀ p∈d,p.2.2.length≤1000000∧∀ r∈p.2.2,r.length≤1000000∧∀ q∈r,q.2.length≤1000000){R:List Int→List (List Int)→List (List Int)→Int→Int→Int→Int→Prop}(hR:∀ s,R w.st w.wt w.ct w.tk w.sn w.fl.length s):ycn d w.st w.wt w.ct (List.range (n*n)) w.ln fates w.fl w.tk w.sn w.lg R:=by
  have hn6:=h.n6
  have hnn:n*n≤36:=by
    have:n*n≤6*6:=Nat.mul_le_mul hn6.2 hn6.2
    omega
  unfold ycn
  refine ⟨fun m i s=>Cnt (n*n) (fun k=>0≤s∧s≤k*100000) m i,Cnt.start (by simp),?_⟩
  rintro m _ s ⟨k,rfl,rfl,hk,h0,h1⟩
  simp only [Int.toNat_natCast,List.length_range]
  refine ⟨fun hlt=>?_,fun hge=>⟨hsz,hR s⟩⟩
  have hk2:k<n*n:=by omega
  rw [yhL hk2]
  have hL:=h.ln k hk2
  have:=hL.len
  have:=hL.rem
  have:=h.ctb (ygV hk2)
  exact ⟨by omega,by rw [h.lnl];exact hk2,i64 (by omega),Cnt.next hk2 (by omega) (by constructor <;> push_cast <;> omega)⟩
theorem yhQ{s:List Int}{R:List Int→Prop}(hl:s.length≤1000000000)(h:R s):ybj s R:=by
  unfold ybj
  exact fun nil hn=>⟨fun q=>by rw [hn q] at h;exact h,fun q=>⟨by omega,h⟩⟩
def lnRow(n p:Nat):List Ln:=(List.range n).map fun q:Nat=>(⟨[],0,0,((p:Nat):Int),((q:Nat):Int),0⟩:Ln)
def yhH(n k:Nat):List Ln:=(List.range k).flatMap (lnRow n)
theorem yhe(n k:Nat):yhH n (k+1)=yhH n k++lnRow n k:=by
  unfold yhH;rw [List.range_succ,List.flatMap_append];simp
theorem yeG(n k:Nat):(yhH n k).length=k*n:=by
  induction k with
  | zero=>simp [yhH]
  | succ k ih=>rw [yhe,List.length_append,ih];simp [lnRow,Nat.add_mul]
theorem p_wcheck{R:Int→Prop}(hl:fates.length≤4096)(hf:∀ x∈fates,0≤x∧x≤3)(h:R 0):ydD fates R:=by
  unfold ydD
  refine ⟨fun q=>absurd q (by omega),fun _=>p_ctfS (p:=fun x=>decide (x<0) || decide (3<x)) (by omega) (fun x R' q=>?_) ⟨fun q=>?_,fun _=>h⟩⟩
  · unfold ydA
    refine ⟨fun h0=>?_,fun h0=>?_⟩
    · rw [decide_eq_true h0] at q;exact q
    · rw [decide_eq_false h0] at q;exact q
  · obtain ⟨x,hx,hp⟩:=List.any_eq_true.1 q
    have:=hf x hx
    simp at hp;omega
theorem p_wbegun{d:PrL}{st:List Int}{wt:List (List Int)}{a:Int}{R0:Int→Prop}{R1:PrL→List Int→List (List Int)→List (List Int)→List Nat→List Ln→List Int→List (Pk×Int)→Int→Int→Bool→Int→Prop}
    (hN:NetOk n (yaB d)) (hn:n≤6) (hc:∀ R':Int→Prop,R' 0→ybu d st wt R') (hst:st.length=n) (hwl:wt.length=n) (hr:∀ k,k<n→(gx wt k).length=1) (hl:fates.length≤4096) (hf:∀ x∈fates,0≤x∧x≤3) (ha:0≤a∧a≤4096)
    (h:R1 d st wt (begF (yaB d) st wt).ct (List.range (n*n)) (begF (yaB d) st wt).ln fates [] 0 0 false 0):ydH d st wt fates a R0 R1:=by
  have hdl:d.length=n:=by have:=hN.len;simpa [yaB] using this
  have hnn:n*n≤36:=by
    have:n*n≤6*6:=Nat.mul_le_mul hn hn
    omega
  unfold ydH
  refine hc _ ⟨fun _=>p_wcheck hl hf ⟨fun _=>⟨True,fun _=>yhQ (by omega) ?_,fun q=>absurd q (by omega),fun _=>⟨fun q=>absurd q (by omega),fun _=>trivial⟩⟩,fun q=>absurd rfl q⟩,fun q=>absurd rfl q⟩
  have hlen:∀ k,k≤n→k*n≤n*n:=fun k hk=>Nat.mul_le_mul_right _ hk
  refine ⟨fun m i v2 v3 ls LL=>Cnt n (fun k=>v2=wt.take k∧v3=(wt.take k).map (fun r=>List.replicate r.length 0)∧ls=List.range (k*n)∧LL=yhH n k) m i,Cnt.start ⟨by simp,by simp,by simp,rfl⟩,?_⟩
  rintro m _ _ _ _ _ ⟨k,rfl,rfl,hk,rfl,rfl,rfl,rfl⟩
  simp only [Int.toNat_natCast]
  have htl:=List.length_take_le k wt
  refine ⟨fun hlt=>?_,fun hge=>?_⟩
  · have hk2:k<n:=by omega
    have hr1:=hr k hk2
    refine ⟨by omega,yhQ (by omega) ⟨by omega,by omega,by rw [List.length_map];omega,?_⟩⟩
    have hkn:=hlen (k+1) (by omega)
    rw [Nat.add_mul] at hkn
    refine ⟨fun m i ls LL=>Cnt n (fun j=>ls=List.range (k*n+j)∧LL=yhH n k++(List.range j).map (fun q:Nat=>(⟨[],0,0,((k:Nat):Int),((q:Nat):Int),0⟩:Ln))) m i,Cnt.start ⟨rfl,by simp⟩,?_⟩
    rintro m _ _ _ ⟨j,rfl,rfl,hj,rfl,rfl⟩
    have hll:(yhH n k++(List.range j).map (fun q:Nat=>(⟨[],0,0,((k:Nat):Int),((q:Nat):Int),0⟩:Ln))).length=k*n+j:=by rw [List.length_append,yeG,List.length_map,List.length_range]
    refine ⟨fun hlt2=>?_,fun hge2=>?_⟩
    · refine ⟨fun x hx=>by rw [List.mem_range] at hx;rw [hll];exact hx,by rw [List.length_range];omega,Cnt.next (by omega) (by omega) ⟨?_,?_⟩⟩
      · rw [hll,←Nat.add_assoc,List.range_succ]
      · rw [List.range_succ,List.map_append,List.append_assoc];rfl
    · have e:j=n:=by omega
      subst e
      refine Cnt.next hk2 (by omega) ⟨?_,?_,?_,?_⟩
      · rw [List.take_add_one,yaY (by omega)];rfl
      · rw [List.take_add_one,yaY (by omega)]
        simp only [Int.toNat_natCast,List.map_append,Option.toList_some,List.map_cons,List.map_nil]
      · rw [Nat.add_mul,Nat.one_mul]
      · rw [yhe];rfl
  · have e:k=n:=by omega
    subst e
    rw [List.take_of_length_le (by omega)]
    have e2:yhH k k=(begF (yaB d) st wt).ln:=by
      show _=(List.range (yaB d).length).flatMap _
      rw [hN.len];rfl
    rw [e2]
    exact h
def stK(rules:List (List (List ycJ)))(fates:List Int)(b:Wst):Nat→Wst
  | 0=>b
  | k+1=>yhX rules fates (stK rules fates b k)
theorem gx_flat{n:Nat} : ∀ {k i:Nat},i<k*n→gx (yhH n k) i=(⟨[],0,0,((i / n:Nat):Int),((i % n:Nat):Int),0⟩:Ln)
  | 0,i,h=>by omega
  | k+1,i,h=>by
    rw [yhe]
    rcases Nat.lt_or_ge i (k*n) with q | q
    · rw [ybx (by rw [List.length_append,yeG];omega),List.getElem_append_left (by rw [yeG];exact q),←ybx]
      exact gx_flat q
    · rw [Nat.add_mul] at h
      obtain ⟨u,rfl⟩:∃ u,i=k*n+u:=⟨i-k*n,by omega⟩
      have hu:u<n:=by omega
      rw [ybx (by rw [List.length_append,yeG];simp [lnRow];omega),List.getElem_append_right (by rw [yeG];omega)]
      simp only [yeG,Nat.add_sub_cancel_left]
      rw [ix_div hu,ix_mod hu]
      simp [lnRow]
theorem SI.beg{st:List Int}{wt:List (List Int)}(hN:NetOk n rules)(hn:1≤n∧n≤6)(hW:0≤W0∧W0≤100000)(hst:st.length=n)(hs:∀ p,p<n→0≤gi st p∧gi st p<((gx rules p).length:Int))(hwl:wt.length=n)(hw:∀ p,p<n→(gx wt p).length=1∧0≤gi (gx wt p) 0∧gi (gx wt p) 0≤W0):SI n rules W0 n 0 (begF rules st wt):=by
  have hct:∀ p,p<n→gx (begF rules st wt).ct p=[0]:=fun p hp=>by
    show gx (wt.map fun r=>List.replicate r.length 0) p=_
    rw [ybx (by rw [List.length_map];omega)]
    simp only [List.getElem_map]
    have:=(hw p hp).1
    rw [ybx (by omega)] at this
    rw [this];rfl
  have hln:(begF rules st wt).ln=yhH n n:=by
    show (List.range rules.length).flatMap _=_
    rw [hN.len];rfl
  refine ⟨hn,hW,hst,hs,hwl,fun p hp=>?_,by show (wt.map _).length=n;rw [List.length_map];exact hwl,fun p hp=>?_,by rw [hln,yeG],fun i hi=>?_,fun a ha=>(by cases ha),⟨Int.le_refl _,(by show (0:Int)≤5000;omega)⟩,Int.le_refl _,(by show (0:Int)+((0:Nat):Int)≤0;omega),by omega,(by show ((0:Nat):Int)≤2*0;omega),rfl⟩
  · obtain ⟨a1,a2,a3⟩:=hw p hp
    refine ⟨a1,a2,?_⟩
    rw [hct p hp]
    show gi (gx wt p) 0≤W0+0+12*0
    omega
  · rw [hct p hp,if_pos hp]
    exact ⟨rfl,Int.le_refl _,by show (0:Int)≤0-0;omega⟩
  · rw [hln,gx_flat hi,hct _ (ygV hi)]
    exact ⟨rfl,Int.le_refl _,⟨Int.le_refl _,Int.le_refl _⟩,⟨Int.le_refl _,Int.le_refl _⟩,by simp [gi],fun x hx=>by cases hx⟩
theorem SI.run{b:Wst}(h:SI n rules W0 n 0 b)(hN:NetOk n rules)(hb:b.tk=0):∀ k:Nat,k≤4096→SI n rules W0 n (108*k) (stK rules fates b k)∧(stK rules fates b k).tk=k
  | 0,_=>⟨h.mono (by simp) (by omega),hb⟩
  | k+1,hk=>by
    obtain ⟨h1,e1⟩:=SI.run h hN hb k (by omega)
    have hn6:=h.n6
    have hnn:n*n≤36:=by
      have:n*n≤6*6:=Nat.mul_le_mul hn6.2 hn6.2
      omega
    have h2:=h1.tick (fates:=fates) hN (by omega) (by omega)
    refine ⟨h2.1.mono (by push_cast;omega) (by push_cast;omega),?_⟩
    show (yhX rules fates (stK rules fates b k)).tk=_
    rw [h2.2,e1];push_cast;rfl
theorem p_wRun{d:PrL}{st:List Int}{wt:List (List Int)}{limit:Nat}{R:List Int→List (List Int)→List (List Int)→Int→Int→Int→Int→Int→Prop}
    (hN:NetOk n (yaB d)) (hn:1≤n∧n≤6) (hW:0≤W0∧W0≤100000) (hc:∀ R':Int→Prop,R' 0→ybu d st wt R') (hst:st.length=n) (hs:∀ p,p<n→0≤gi st p∧gi st p<((gx (yaB d) p).length:Int)) (hwl:wt.length=n) (hw:∀ p,p<n→(gx wt p).length=1∧0≤gi (gx wt p) 0∧gi (gx wt p) 0≤W0)
    (hl:fates.length≤4096) (hf:∀ x∈fates,0≤x∧x≤3) (hlim:limit≤4096) (hsz:d.length≤1000000∧∀ p∈d,p.2.2.length≤1000000∧∀ r∈p.2.2,r.length≤1000000∧∀ q∈r,q.2.length≤1000000)
    (h12:(∀ j,j≤limit→ygr (stK (yaB d) fates (begF (yaB d) st wt) j)=true)→R [] [] [] 0 0 0 0 12)
    (h0:∀ k,k≤limit→ygr (stK (yaB d) fates (begF (yaB d) st wt) k)=false→(∀ j,j<k→ygr (stK (yaB d) fates (begF (yaB d) st wt) j)=true)→∀ y s,let x:=stK (yaB d) fates (begF (yaB d) st wt) k;R x.st x.wt x.ct k x.sn y s 0) :
    ydp d st wt fates (limit:Int) R:=by
  have hb:=SI.beg hN hn hW hst hs hwl hw
  have hrun:=fun k hk=>hb.run (fates:=fates) hN rfl k hk
  unfold ydp
  refine p_wbegun hN hn.2 hc hst hwl (fun k hk=>(hw k hk).1) hl hf (by omega) ⟨fun _=>?_,fun q=>absurd rfl q⟩
  refine ⟨fun m st' wt' ct' LL' fl' tk' sn' lg'=>∃ k,k≤limit∧m=limit-k∧(∀ j,j<k→ygr (stK (yaB d) fates (begF (yaB d) st wt) j)=true)∧∃ x:Wst,x=stK (yaB d) fates (begF (yaB d) st wt) k∧x.st=st'∧x.wt=wt'∧x.ct=ct'∧x.ln=LL'∧x.fl=fl'∧x.tk=tk'∧x.sn=sn'∧x.lg=lg',⟨limit,0,by omega,by omega,fun j hj=>absurd hj (by omega),_,rfl,rfl,rfl,rfl,rfl,rfl,rfl,rfl,rfl⟩,?_⟩
  rintro m _ _ _ _ _ _ _ _ ⟨k,hk,rfl,hbz,x,hx,rfl,rfl,rfl,rfl,rfl,rfl,rfl,rfl⟩
  obtain ⟨hS,htk⟩:=hrun k (by omega)
  rw [←hx] at hS htk
  have hn6:=hn
  have hnn:n*n≤36:=by
    have:n*n≤6*6:=Nat.mul_le_mul hn.2 hn.2
    omega
  refine p_wbusy (W:=0) hS.lnl hn.2 hS.wtl (fun k hk=>(hS.wt k hk).1) ⟨fun hq=>?_,fun hq=>?_⟩
  · have hbz2:∀ j,j<k+1→ygr (stK (yaB d) fates (begF (yaB d) st wt) j)=true:=fun j hj=>by
      by_cases e:j=k
      · rw [e,←hx];exact hq
      · exact hbz j (by omega)
    refine ⟨fun e=>h12 fun j hj=>hbz2 j (by omega),fun e=>?_⟩
    have hk2:k<limit:=by omega
    have hT:=hS.tick (fates:=fates) hN (by omega) (by omega)
    refine p_wtick hS hN (by omega) (by omega) ⟨fun hlg=>?_,fun _=>⟨limit-(k+1),by omega,k+1,by omega,rfl,hbz2,_,by show _=yhX _ _ _;rw [←hx],rfl,rfl,rfl,rfl,rfl,rfl,rfl,rfl⟩⟩
    rw [hT.1.lg] at hlg;cases hlg
  · have hq:ygr x=false:=by simpa using hq
    refine p_wseen (st:=x.st) (lg:=x.lg) hS hsz fun s=>?_
    rw [htk]
    have:=h0 k hk (by rw [←hx];exact hq) hbz x.fl.length s
    rw [←hx] at this
    exact this
end
end Go.Proofs.YtjepipbkiadcpaaGreat
