/- Texts laid together: Sb, Sc, Rep, Bfs, Dist, Fire2, Settle, Lend, Sum, Result, Math, GoodL, GoodS, GoodT, Connect. -/
import Derived.Maps.Own
import Derived.Maps.OwnOps
import Derived.Deep.AppendLies
import Derived.Test.YtadpnlimiblniaaGreatK2
set_option linter.unusedVariables false
set_option linter.unusedSimpArgs false
set_option linter.unusedSectionVars false
/- Shallow forms of functions, made by program (sh.py), each with the proof that the code does so. -/
namespace Go.Proofs.YtadpnlimiblniaaGreat
open Go Go.RowKit Go.Shelf Go.Proofs.Tryz
set_option maxRecDepth 100000
set_option maxHeartbeats 8000000
def ycU(pd:Addr)(Ai:Option Addr)(li:Nat)(ci:Nat)(a:Int)(w:World)(R:World→Prop):Prop :=
(∀ (g:Nat) (w2:World),New w g w2 #[(Value.pointer (some pd))] 190 →
(∀ (g2:Nat) (w3:World),New w2 g2 w3 #[(Value.int .i64 a)] 3 →
(∃ I2:Nat→Int→World→Prop,(∃ m0,I2 m0 0 w3)∧∀ m1 i w4,I2 m1 i w4 → 
((i<((li:Nat):Int) →
(Ix Ai li i ∧
(∃ x:Bool,w4.cell? (ixA Ai i 1)=some (Value.bool (x)) ∧
(∀ (g3:Nat) (w5:World),New w4 g3 w5 #[(Value.int .i64 0)] 3 →
(g3≠g ∧
g3≠g2 ∧
∀ w6,w6=w5.setCell (⟨g3,0,none⟩:Addr) (Value.int .i64 i) →
((x=true →
(∃ Ax:Option Addr,∃ lx:Nat,∃ cx:Nat,w6.drew.cell? (Addr.add pd 4)=some (Value.slice Ax lx cx) ∧
(Ix Ax lx i ∧
(∃ x2:Int,w6.drew.cell? (ixA Ax i 1)=some (Value.int .i64 x2) ∧
(In64 (x2+a) ∧
(Ix Ax lx i ∧
(Wr w6.drew (ixA Ax i 1) ∧
(ixA Ax i 1).block≠g ∧
(ixA Ax i 1).block≠g2 ∧
(ixA Ax i 1).block≠g3 ∧
∀ w7,w7=w6.drew.setCell (ixA Ax i 1) (Value.int .i64 (x2+a)) →
(Calls Tryz.prog 192 #[(Value.pointer (some pd)),(Value.int .i64 i)] w7 fun e w8=>∃ r:Value,e = .returned r ∧
Kp w7 w8 g ∧
Kp w7 w8 g2 ∧
Kp w7 w8 g3 ∧
KpM w7 w8 ∧
(∃ (α:Type) (val:α→Array Value) (S:List α→Prop) (Kq:World→World→Prop) (len:Nat) (I3:List α→World→Prop),IterOf Tryz.prog r val S Kq len w8∧(∀ x,(val x).size=2)∧Stays w8.heap.size I3∧I3 [] w8∧(∀ pr W,I3 pr W→Kp w8 W g∧Kp w8 W g2∧Kp w8 W g3∧True) ∧
(∀ pre (el:α) w9,I3 pre w9→pre.length<len→∃ y:Int,∃ y2:Int,val el = #[(Value.int .i64 y),(Value.int .i64 y2)] ∧
(∃ Ax2:Option Addr,∃ lx2:Nat,∃ cx2:Nat,w9.drew.cell? (Addr.add pd 3)=some (Value.slice Ax2 lx2 cx2) ∧
(Ix Ax2 lx2 i ∧
(∃ x3:Int,w9.drew.cell? (ixA Ax2 i 1)=some (Value.int .i64 x3) ∧
(In64 (y2*a) ∧
(In64 (x3-(y2*a)) ∧
(Ix Ax2 lx2 i ∧
(Wr w9.drew (ixA Ax2 i 1) ∧
(ixA Ax2 i 1).block≠g ∧
(ixA Ax2 i 1).block≠g2 ∧
(ixA Ax2 i 1).block≠g3 ∧
∀ w11,w11=w9.drew.setCell (ixA Ax2 i 1) (Value.int .i64 (x3-(y2*a))) →
(∃ Ax3:Option Addr,∃ lx3:Nat,∃ cx3:Nat,w11.drew.cell? (Addr.add pd 3)=some (Value.slice Ax3 lx3 cx3) ∧
(Ix Ax3 lx3 y ∧
(∃ x4:Int,w11.drew.cell? (ixA Ax3 y 1)=some (Value.int .i64 x4) ∧
(In64 (y2*a) ∧
(In64 (x4+(y2*a)) ∧
(Ix Ax3 lx3 y ∧
(Wr w11.drew (ixA Ax3 y 1) ∧
(ixA Ax3 y 1).block≠g ∧
(ixA Ax3 y 1).block≠g2 ∧
(ixA Ax3 y 1).block≠g3 ∧
∀ w12,w12=w11.drew.setCell (ixA Ax3 y 1) (Value.int .i64 (x4+(y2*a))) →
(KeepsOthers w9 w12∧Kq w9 w12∧I3 (pre++[el]) w12)))))))))))))))) ∧
(∀ xs w10,S xs→I3 xs w10 →
KpM w8 w10 ∧
(In64 (i+1) ∧
∃ m2,m2<m1∧I2 m2 (i+1) w10))))))))))) ∧
(¬(x=true) →
(In64 (i+1) ∧
∃ m3,m3<m1∧I2 m3 (i+1) w6)))))))) ∧
(¬(i<((li:Nat):Int)) →
(∃ Ax4:Option Addr,∃ lx4:Nat,∃ cx4:Nat,w4.cell? (Addr.add pd 3)=some (Value.slice Ax4 lx4 cx4) ∧
(∃ I4:Nat→Int→World→Prop,(∃ m0,I4 m0 0 w4)∧∀ m4 i2 w13,I4 m4 i2 w13 → 
((i2<((lx4:Nat):Int) →
(∃ Ax5:Option Addr,∃ lx5:Nat,∃ cx5:Nat,w13.drew.cell? (Addr.add pd 3)=some (Value.slice Ax5 lx5 cx5) ∧
(Ix Ax5 lx5 i2 ∧
(∃ x5:Int,w13.drew.cell? (ixA Ax5 i2 1)=some (Value.int .i64 x5) ∧
(∃ Ax6:Option Addr,∃ lx6:Nat,∃ cx6:Nat,w13.drew.cell? (Addr.add pd 3)=some (Value.slice Ax6 lx6 cx6) ∧
(Ix Ax6 lx6 i2 ∧
(∃ x6:Int,w13.drew.cell? (ixA Ax6 i2 1)=some (Value.int .i64 x6) ∧
(In64 (-x6) ∧
(∃ Ax7:Option Addr,∃ lx7:Nat,∃ cx7:Nat,w13.drew.cell? (Addr.add pd 4)=some (Value.slice Ax7 lx7 cx7) ∧
(Ix Ax7 lx7 i2 ∧
(∃ x7:Int,w13.drew.cell? (ixA Ax7 i2 1)=some (Value.int .i64 x7) ∧
(∃ Ax8:Option Addr,∃ lx8:Nat,∃ cx8:Nat,w13.drew.cell? (Addr.add pd 4)=some (Value.slice Ax8 lx8 cx8) ∧
(Ix Ax8 lx8 i2 ∧
(∃ x8:Int,w13.drew.cell? (ixA Ax8 i2 1)=some (Value.int .i64 x8) ∧
(In64 (-x8) ∧
((2097152<(mxF4 x5 (-x6) x7 (-x8)) →
(∃ x9:Int,w13.drew.cell? (Addr.add pd 5)=some (Value.int .i64 x9) ∧
((x9=0 →
(Wr w13.drew (Addr.add pd 5) ∧
(Addr.add pd 5).block≠g ∧
(Addr.add pd 5).block≠g2 ∧
∀ w14,w14=w13.drew.setCell (Addr.add pd 5) (Value.int .i64 11) →
(In64 (i2+1) ∧
∃ m5,m5<m4∧I4 m5 (i2+1) w14))) ∧
(¬(x9=0) →
(In64 (i2+1) ∧
∃ m6,m6<m4∧I4 m6 (i2+1) w13.drew))))) ∧
(¬(2097152<(mxF4 x5 (-x6) x7 (-x8))) →
(In64 (i2+1) ∧
∃ m7,m7<m4∧I4 m7 (i2+1) w13.drew)))))))))))))))))) ∧
(¬(i2<((lx4:Nat):Int)) →
(∀ wz,After w.heap.size w13 wz→R wz))))))))))
theorem ygx(pd:Addr)(Ai:Option Addr)(li:Nat)(ci:Nat)(a:Int)(w:World)(R:World→Prop)(h:ycU pd Ai li ci a w R) :
    Calls Tryz.prog 175 #[(.pointer (some pd)),(.slice Ai li ci),(ii a)] w fun e w'=>e = .returned (.tuple #[])∧R  w':=by
  unfold ycU at h;refine yei (l:=[(.pointer (some pd)),(.slice Ai li ci),(ii a)]) func175 rfl ntmps175 zY ?_;have hM:=ydY.nil w;refine zs (zn (ya8 (v:=(.pointer (some pd))) rfl ?_));intro g w2 hN;replace h:=h g w2 hN;replace hM:=hM.kp hN.kpm;have rB:Row w2 g 190 1 [(.pointer (some pd))]:=hN.row;clear hN;refine zb (zn (ya8 (v:=(ii a)) rfl ?_));intro g2 w3 hN2;replace h:=h g2 w3 hN2;replace hM:=hM.kp hN2.kpm;replace rB:=rB.kp (hN2.kp _);have rB2:Row w3 g2 3 1 [(ii a)]:=hN2.row;clear hN2;refine zb (yaa (yaf (zs (zM (.slice Ai li ci) (zq (yiB rfl underlying160) (zM (ii 0) (yaa (yai ?_))))))));obtain ⟨I2,⟨m0,h0⟩,hr⟩:=h;refine yaz (fun m E ds w'=>∃ i,I2 m i w'∧ydY w.heap.size ds w'∧E 3=(Value.pointer (some ⟨g,0,none⟩))∧E 5=(Value.pointer (some ⟨g2,0,none⟩))∧E 11=(Value.slice Ai li ci)∧E 12=(ii ((li:Nat):Int))∧E 13=(ii i)∧Row w' g 190 1 [(.pointer (some pd))]∧Row w' g2 3 1 [(ii a)]) m0 ⟨_,h0,hM,rfl,rfl,rfl,rfl,rfl,rB,rB2⟩ ?_;clear h0;rintro m1 E ds w4 ⟨i,h,hM,hE3,hE5,hE11,hE12,hE13,rB,rB2⟩ again;replace h:=hr m1 i w4 h;clear hr;refine zs (zq (ydj hE13 hE12) (yaa (yaf ?_)));by_cases hp:i<((li:Nat):Int)
  · replace h:=h.1 hp;refine zc hp (yag (yaf (yai (zs (zq (yad hE13) ?_)))));obtain ⟨hx,h⟩:=h;refine zq (ycI hE11 hE13 underlying160 ydi hx) ?_;obtain ⟨x,hc,h⟩:=h;refine zq (zl underlying4 hc) (zn (yaO yaj ?_));intro g3 w5 hN3;replace h:=h g3 w5 hN3;replace hM:=hM.kp hN3.kpm;replace rB:=rB.kp (hN3.kp _);replace rB2:=rB2.kp (hN3.kp _);have rB3:Row w5 g3 3 1 [(ii 0)]:=hN3.row;clear hN3;refine zb ?_;obtain ⟨hb,h⟩:=h;obtain ⟨hb2,h⟩:=h;refine zo (zt (ii i) yaj (wr_row rB3 (i:=0) rfl) ?_);intro w6 ew;replace h:=h w6 ew;replace hM:ydY _ _ w6:=hM.kp (by rw [ew];exact ygs);replace rB3:Row w6 g3 3 1 [(ii i)]:=row_set rB3 0 (ii i) ew;replace rB:Row w6 g 190 1 [(.pointer (some pd))]:=rB.kp (by rw [ew];exact yda hb);replace rB2:Row w6 g2 3 1 [(ii a)]:=rB2.kp (by rw [ew];exact yda hb2);clear ew;refine zb (zQ (.bool (x)) (yaa (yaf (zs (zM (.bool (x)) (zq (ycX rfl) (yaa ?_)))))));by_cases hp2:x=true
    · replace h:=h.1 hp2;refine yat (zC (zB hp2)) (yag (yaf (yaT [0,1,2,3,4,5,6,7,8,9,10] st0 yaD (by kernel_rfl) (by kernel_rfl) ?_)));replace hM:=hM.kp (KpM.drew _);replace rB:=rB.drew;replace rB2:=rB2.drew;replace rB3:=rB3.drew;refine zp (yau hE3 underlying190 rfl (Row.cell rB (i:=0) rfl)) (zp (ybU rfl) (zp (yan rfl underlying203 rfl ye8) ?_));obtain ⟨Ax,lx,cx,hc2,h⟩:=h;refine zp (zl underlying152 hc2) (zp (zl underlying3 (Row.cell rB3 (i:=0) rfl)) ?_);obtain ⟨hx2,h⟩:=h;refine zp (zi underlying152 yaj hx2) ?_;obtain ⟨x2,hc3,h⟩:=h;refine zp (zl underlying3 hc3) (zp (yau hE5 underlying3 rfl (Row.cell rB2 (i:=0) rfl)) ?_);obtain ⟨hi,h⟩:=h;refine zp (zA hi) ?_;obtain ⟨hx3,h⟩:=h;refine zp (zi underlying152 yaj hx3) ?_;obtain ⟨hw2,h⟩:=h;obtain ⟨hb3,h⟩:=h;obtain ⟨hb4,h⟩:=h;obtain ⟨hb5,h⟩:=h;refine yjg rfl rfl rfl (zt (ii (x2+a)) yaj hw2 ?_);intro w7 ew2;replace h:=h w7 ew2;replace hM:ydY _ _ w7:=hM.kp (by rw [ew2];exact ygs);replace rB:Row w7 g 190 1 [(.pointer (some pd))]:=rB.kp (by rw [ew2];exact yda hb3);replace rB2:Row w7 g2 3 1 [(ii a)]:=rB2.kp (by rw [ew2];exact yda hb4);replace rB3:Row w7 g3 3 1 [(ii i)]:=rB3.kp (by rw [ew2];exact yda hb5);clear ew2;refine zb (yaZ (zs (zq (yau hE3 underlying190 rfl (Row.cell rB (i:=0) rfl)) (zq (zl underlying3 (Row.cell rB3 (i:=0) rfl)) (zn (yam rfl (am2 rfl rfl) enter_192 (h.mono ?_)))))));rintro _ w8 ⟨r,rfl,hk,hk2,hk3,hkm,h⟩;replace hM:=hM.kp hkm;replace rB:=rB.kp hk;replace rB2:=rB2.kp hk2;replace rB3:=rB3.kp hk3;refine ⟨_,rfl,Stb.none _,?_⟩;refine yaa (yai ?_);obtain ⟨α,val,S,Kq,len,I3,hIt,hsz,hst,h0,hkp,hb,h⟩:=h;refine wt_range rfl hIt hsz rfl rfl I3 hst h0 ?_ ?_
      · intro ll pre el w9 hIp hlen;obtain ⟨y,y2,hv,h⟩:=hb pre el w9 hIp hlen;rw [hv];replace rB:=rB.kp (hkp pre w9 hIp).1;replace rB2:=rB2.kp (hkp pre w9 hIp).2.1;replace rB3:=rB3.kp (hkp pre w9 hIp).2.2.1;refine yai (yaf (yaT [0,1,2,3,4,5,6,7,8,9,10,11,12] st0 (ya7 ll) (by kernel_rfl) (by kernel_rfl) ?_));replace rB:=rB.drew;replace rB2:=rB2.drew;replace rB3:=rB3.drew;refine zp (yau hE3 underlying190 rfl (Row.cell rB (i:=0) rfl)) (zp (ybU rfl) (zp (yan rfl underlying203 rfl ycm) ?_));obtain ⟨Ax2,lx2,cx2,hc4,h⟩:=h;refine zp (zl underlying43 hc4) (zp (zl underlying3 (Row.cell rB3 (i:=0) rfl)) ?_);obtain ⟨hx4,h⟩:=h;refine zp (zi underlying43 yaj hx4) ?_;obtain ⟨x3,hc5,h⟩:=h;refine zp (zl underlying3 hc5) (zp (zm (ii y2)) (zp (yau hE5 underlying3 rfl (Row.cell rB2 (i:=0) rfl)) ?_));obtain ⟨hi2,h⟩:=h;refine zp (v_mul rfl rfl hi2) ?_;obtain ⟨hi3,h⟩:=h;refine zp (zS hi3) ?_;obtain ⟨hx5,h⟩:=h;refine zp (zi underlying43 yaj hx5) ?_;obtain ⟨hw3,h⟩:=h;obtain ⟨hb6,h⟩:=h;obtain ⟨hb7,h⟩:=h;obtain ⟨hb8,h⟩:=h;refine yjg rfl rfl rfl (zt (ii (x3-(y2*a))) yaj hw3 ?_);intro w11 ew3;replace h:=h w11 ew3;replace rB:Row w11 g 190 1 [(.pointer (some pd))]:=rB.kp (by rw [ew3];exact yda hb6);replace rB2:Row w11 g2 3 1 [(ii a)]:=rB2.kp (by rw [ew3];exact yda hb7);replace rB3:Row w11 g3 3 1 [(ii i)]:=rB3.kp (by rw [ew3];exact yda hb8);clear ew3;refine zb (yaZ (yaT [0,1,2,3,4,5,6,7,8,9,10,11,12] st0 (ya7 ll) (by kernel_rfl) (by kernel_rfl) ?_));replace rB:=rB.drew;replace rB2:=rB2.drew;replace rB3:=rB3.drew;refine zp (yau hE3 underlying190 rfl (Row.cell rB (i:=0) rfl)) (zp (ybU rfl) (zp (yan rfl underlying203 rfl ycm) ?_));obtain ⟨Ax3,lx3,cx3,hc6,h⟩:=h;refine zp (zl underlying43 hc6) (zp (zm (ii y)) ?_);obtain ⟨hx6,h⟩:=h;refine zp (zi underlying43 yaj hx6) ?_;obtain ⟨x4,hc7,h⟩:=h;refine zp (zl underlying3 hc7) (zp (zm (ii y2)) (zp (yau hE5 underlying3 rfl (Row.cell rB2 (i:=0) rfl)) ?_));obtain ⟨hi4,h⟩:=h;refine zp (v_mul rfl rfl hi4) ?_;obtain ⟨hi5,h⟩:=h;refine zp (zA hi5) ?_;obtain ⟨hx7,h⟩:=h;refine zp (zi underlying43 yaj hx7) ?_;obtain ⟨hw4,h⟩:=h;obtain ⟨hb9,h⟩:=h;obtain ⟨hb10,h⟩:=h;obtain ⟨hb11,h⟩:=h;refine yjg rfl rfl rfl (zt (ii (x4+(y2*a))) yaj hw4 ?_);intro w12 ew4;replace h:=h w12 ew4;replace rB:Row w12 g 190 1 [(.pointer (some pd))]:=rB.kp (by rw [ew4];exact yda hb9);replace rB2:Row w12 g2 3 1 [(ii a)]:=rB2.kp (by rw [ew4];exact yda hb10);replace rB3:Row w12 g3 3 1 [(ii i)]:=rB3.kp (by rw [ew4];exact yda hb11);clear ew4;exact zb (yaZ (yah (ycO (fun a r=>h))))
      · intro D xs w10 hD hS hIp hK;replace h:=h xs w10 hS hIp;replace rB:=rB.kp (hkp xs w10 hIp).1;replace rB2:=rB2.kp (hkp xs w10 hIp).2.1;replace rB3:=rB3.kp (hkp xs w10 hIp).2.2.1;obtain ⟨hkm,h⟩:=h;replace hM:=ydY.push hM hkm hD hK;refine yah (yah (zr ?_));obtain ⟨hi6,h⟩:=h;refine zq (ybS hE13 rfl hi6) (zM (ii (i+1)) (yaa ?_));obtain ⟨mq,hlt,h⟩:=h;exact again mq _ _ _ ⟨_,h,hM,hE3,hE5,hE11,hE12,rfl,rB,rB2⟩ hlt
    · replace h:=h.2 hp2;refine yar (zC (zB (zI hp2))) (yax rfl (zr ?_));obtain ⟨hi7,h⟩:=h;refine zq (ybS hE13 rfl hi7) (zM (ii (i+1)) (yaa ?_));obtain ⟨mq,hlt,h⟩:=h;exact again mq _ _ _ ⟨_,h,hM,hE3,hE5,hE11,hE12,rfl,rB,rB2⟩ hlt
  · replace h:=h.2 hp;refine zd hp (yax rfl (zs (zq (yau hE3 underlying190 rfl (Row.cell rB (i:=0) rfl)) (zq (ybU rfl) (zq (yan rfl underlying203 rfl ycm) ?_)))));obtain ⟨Ax4,lx4,cx4,hc8,h⟩:=h;refine zq (zl underlying43 hc8) (zq (yiB rfl underlying43) (zM (ii 0) (yaa (yai ?_))));obtain ⟨I4,⟨m0,h0⟩,hr⟩:=h;refine yaz (fun m E ds w'=>∃ i2,I4 m i2 w'∧ydY w.heap.size ds w'∧E 3=(Value.pointer (some ⟨g,0,none⟩))∧E 64=(ii ((lx4:Nat):Int))∧E 65=(ii i2)∧Row w' g 190 1 [(.pointer (some pd))]∧Row w' g2 3 1 [(ii a)]) m0 ⟨_,h0,hM,hE3,rfl,rfl,rB,rB2⟩ ?_;clear h0;rintro m4 E ds w13 ⟨i2,h,hM,hE3,hE64,hE65,rB,rB2⟩ again2;replace h:=hr m4 i2 w13 h;clear hr;refine zs (zq (ydj hE65 hE64) (yaa (yaf ?_)));by_cases hp3:i2<((lx4:Nat):Int)
    · replace h:=h.1 hp3;refine zc hp3 (yag (yaf (yai (zs (zq (yad hE65) (zQ (ii i2) (yaa (yaf (yaT [0,1,2,3,4,5,6,7,8,9,10,11,12,13,14,15,16,17,18,19,20,21,22,23,24,25,26,27,28,29,30,31,32,33,34,35,36,37,38] st0 yaD (by kernel_rfl) (by kernel_rfl) ?_)))))))));replace hM:=hM.kp (KpM.drew _);replace rB:=rB.drew;replace rB2:=rB2.drew;refine zp (yau hE3 underlying190 rfl (Row.cell rB (i:=0) rfl)) (zp (ybU rfl) (zp (yan rfl underlying203 rfl ycm) ?_));obtain ⟨Ax5,lx5,cx5,hc9,h⟩:=h;refine zp (zl underlying43 hc9) (zp (zm (ii i2)) ?_);obtain ⟨hx8,h⟩:=h;refine zp (zi underlying43 yaj hx8) ?_;obtain ⟨x5,hc10,h⟩:=h;refine zp (zl underlying3 hc10) (zp (yau hE3 underlying190 rfl (Row.cell rB (i:=0) rfl)) (zp (ybU rfl) (zp (yan rfl underlying203 rfl ycm) ?_)));obtain ⟨Ax6,lx6,cx6,hc11,h⟩:=h;refine zp (zl underlying43 hc11) (zp (zm (ii i2)) ?_);obtain ⟨hx9,h⟩:=h;refine zp (zi underlying43 yaj hx9) ?_;obtain ⟨x6,hc12,h⟩:=h;refine zp (zl underlying3 hc12) ?_;obtain ⟨hi8,h⟩:=h;refine zp (v_neg rfl hi8) (zp (yau hE3 underlying190 rfl (Row.cell rB (i:=0) rfl)) (zp (ybU rfl) (zp (yan rfl underlying203 rfl ye8) ?_)));obtain ⟨Ax7,lx7,cx7,hc13,h⟩:=h;refine zp (zl underlying152 hc13) (zp (zm (ii i2)) ?_);obtain ⟨hx10,h⟩:=h;refine zp (zi underlying152 yaj hx10) ?_;obtain ⟨x7,hc14,h⟩:=h;refine zp (zl underlying3 hc14) (zp (yau hE3 underlying190 rfl (Row.cell rB (i:=0) rfl)) (zp (ybU rfl) (zp (yan rfl underlying203 rfl ye8) ?_)));obtain ⟨Ax8,lx8,cx8,hc15,h⟩:=h;refine zp (zl underlying152 hc15) (zp (zm (ii i2)) ?_);obtain ⟨hx11,h⟩:=h;refine zp (zi underlying152 yaj hx11) ?_;obtain ⟨x8,hc16,h⟩:=h;refine zp (zl underlying3 hc16) ?_;obtain ⟨hi9,h⟩:=h;refine zp (v_neg rfl hi9) (zp (v_max4 rfl rfl rfl rfl) (zp zG (zp (zm (.bool (decide (2097152<(mxF4 x5 (-x6) x7 (-x8)))))) ?_)));by_cases hp4:2097152<(mxF4 x5 (-x6) x7 (-x8))
      · replace h:=h.1 hp4;refine rp_q (yae rfl (yac rfl (zT hp4))) rfl rfl (yau hE3 underlying190 rfl (Row.cell rB (i:=0) rfl)) (rp_q (yae rfl (yac rfl (zT hp4))) rfl rfl (ybU rfl) (rp_q (yae rfl (yac rfl (zT hp4))) rfl rfl (yan rfl underlying203 rfl yfv) ?_));obtain ⟨x9,hc17,h⟩:=h;refine rp_q (yae rfl (yac rfl (zT hp4))) rfl rfl (zl underlying30 hc17) (rp_q (yae rfl (yac rfl (zT hp4))) rfl rfl zE (zp (yas (v:=(.bool (decide (x9=0)))) (zT hp4) rfl) (yaZ ?_)));by_cases hp5:x9=0
        · replace h:=h.1 hp5;refine zc hp5 (zr (zq (yau hE3 underlying190 rfl (Row.cell rB (i:=0) rfl)) (zq (ybU rfl) (zq (yan rfl underlying203 rfl yfv) ?_))));obtain ⟨hw5,h⟩:=h;obtain ⟨hb12,h⟩:=h;obtain ⟨hb13,h⟩:=h;refine zo (zt (ii 11) yfv hw5 ?_);intro w14 ew5;replace h:=h w14 ew5;replace hM:ydY _ _ w14:=hM.kp (by rw [ew5];exact ygs);replace rB:Row w14 g 190 1 [(.pointer (some pd))]:=rB.kp (by rw [ew5];exact yda hb12);replace rB2:Row w14 g2 3 1 [(ii a)]:=rB2.kp (by rw [ew5];exact yda hb13);clear ew5;refine zb (yaa (yah (zr ?_)));obtain ⟨hi10,h⟩:=h;refine zq (ybS hE65 rfl hi10) (zM (ii (i2+1)) (yaa ?_));obtain ⟨mq,hlt,h⟩:=h;exact again2 mq _ _ _ ⟨_,h,hM,hE3,hE64,rfl,rB,rB2⟩ hlt
        · replace h:=h.2 hp5;refine zd hp5 (yag (yah (zr ?_)));obtain ⟨hi11,h⟩:=h;refine zq (ybS hE65 rfl hi11) (zM (ii (i2+1)) (yaa ?_));obtain ⟨mq,hlt,h⟩:=h;exact again2 mq _ _ _ ⟨_,h,hM,hE3,hE64,rfl,rB,rB2⟩ hlt
      · replace h:=h.2 hp4;refine rp_p (yab rfl (yac rfl (zF hp4)) rfl) rfl (rp_p (yab rfl (yac rfl (zF hp4)) rfl) rfl (rp_p (yab rfl (yac rfl (zF hp4)) rfl) rfl (rp_p (yab rfl (yac rfl (zF hp4)) rfl) rfl (rp_p (yab rfl (yac rfl (zF hp4)) rfl) rfl (zp (yal (v:=(.bool (false))) (zF hp4) rfl) (yaZ (yat rfl (yag (yah (zr ?_))))))))));obtain ⟨hi12,h⟩:=h;refine zq (ybS hE65 rfl hi12) (zM (ii (i2+1)) (yaa ?_));obtain ⟨mq,hlt,h⟩:=h;exact again2 mq _ _ _ ⟨_,h,hM,hE3,hE64,rfl,rB,rB2⟩ hlt
    · replace h:=h.2 hp3;exact zd hp3 (yax rfl (wt_endm0 hM rfl fun wz hz=>⟨rfl,h wz hz⟩))
def ybT(px:Addr)(w:World)(R:Option Addr→Nat→Nat→World→Prop):Prop :=
(∀ (g:Nat) (w2:World),New w g w2 #[(Value.int .i64 (-1))] 3 →
(∃ x:Int,w2.cell? (Addr.add (Addr.add px 0) 0)=some (Value.int .i64 x) ∧
(Calls Tryz.prog 191 #[(Value.slice (some ⟨g,0,none⟩) 1 1),(Value.int .i64 x)] w2 fun e w3=>∃ Ar2:Option Addr,∃ lr2:Nat,∃ cr2:Nat,e = .returned (Value.slice Ar2 lr2 cr2) ∧
KpM w2 w3 ∧
(∀ (g2:Nat) (w4:World),New w3 g2 w4 #[(Value.slice none 0 0)] 29 →
(∀ w5,w5=w4.setCell (⟨g2,0,none⟩:Addr) (Value.slice Ar2 lr2 cr2) →
(∃ x2:Int,w5.drew.cell? (Addr.add px 2)=some (Value.int .i64 x2) ∧
(Ix Ar2 lr2 x2 ∧
(Wr w5.drew (ixA Ar2 x2 1) ∧
(ixA Ar2 x2 1).block≠g2 ∧
∀ w6,w6=w5.drew.setCell (ixA Ar2 x2 1) (Value.int .i64 0) →
(∃ x3:Int,w6.cell? (Addr.add px 2)=some (Value.int .i64 x3) ∧
(∀ (g3:Nat) (w7:World),New w6 g3 w7 #[(Value.int .i64 x3)] 3 →
(∀ (g4:Nat) (w8:World),New w7 g4 w8 #[(Value.slice none 0 0)] 29 →
(Wr w8 (⟨g4,0,none⟩:Addr) ∧
(⟨g4,0,none⟩:Addr).block≠g2 ∧
∀ w9,w9=w8.setCell (⟨g4,0,none⟩:Addr) (Value.slice (some ⟨g3,0,none⟩) 1 1) →
(∃ I2:Nat→World→Prop,(∃ m0,I2 m0 w9)∧∀ m1 w10,I2 m1 w10 → 
(∃ Ax:Option Addr,∃ lx:Nat,∃ cx:Nat,w10.cell? (⟨g4,0,none⟩:Addr)=some (Value.slice Ax lx cx) ∧
((0<((lx:Nat):Int) →
(∃ Ax2:Option Addr,∃ lx2:Nat,∃ cx2:Nat,w10.cell? (⟨g4,0,none⟩:Addr)=some (Value.slice Ax2 lx2 cx2) ∧
(Ix Ax2 lx2 0 ∧
(∃ x4:Int,w10.cell? (ixA Ax2 0 1)=some (Value.int .i64 x4) ∧
(∀ (g5:Nat) (w11:World),New w10 g5 w11 #[(Value.int .i64 0)] 3 →
(g5≠g2 ∧
∀ w12,w12=w11.setCell (⟨g5,0,none⟩:Addr) (Value.int .i64 x4) →
(∃ Ax3:Option Addr,∃ lx3:Nat,∃ cx3:Nat,w12.cell? (⟨g4,0,none⟩:Addr)=some (Value.slice Ax3 lx3 cx3) ∧
((0≤(1:Int)∧(1:Int)≤((lx3:Nat):Int)) ∧
(Wr w12 (⟨g4,0,none⟩:Addr) ∧
(⟨g4,0,none⟩:Addr).block≠g2 ∧
(⟨g4,0,none⟩:Addr).block≠g5 ∧
∀ w13,w13=w12.setCell (⟨g4,0,none⟩:Addr) (Value.slice (slA Ax3 cx3 (1:Int).toNat 1) (lx3-(1:Int).toNat) (cx3-(1:Int).toNat)) →
(Calls Tryz.prog 192 #[(Value.pointer (some px)),(Value.int .i64 x4)] w13 fun e w14=>∃ r:Value,e = .returned r ∧
Kp w13 w14 g2 ∧
Kp w13 w14 g5 ∧
KpM w13 w14 ∧
(∃ (α:Type) (val:α→Array Value) (S:List α→Prop) (Kq:World→World→Prop) (len:Nat) (I3:List α→World→Prop),IterOf Tryz.prog r val S Kq len w14∧(∀ x,(val x).size=2)∧Stays w14.heap.size I3∧I3 [] w14∧(∀ pr W,I3 pr W→Kp w14 W g2∧Kp w14 W g5∧True) ∧
(∀ pre (el:α) w15,I3 pre w15→pre.length<len→∃ y:Int,∃ y2:Int,val el = #[(Value.int .i64 y),(Value.int .i64 y2)] ∧
(Ix Ar2 lr2 y ∧
(∃ x5:Int,w15.cell? (ixA Ar2 y 1)=some (Value.int .i64 x5) ∧
((x5<0 →
(Ix Ar2 lr2 x4 ∧
(∃ x6:Int,w15.drew.cell? (ixA Ar2 x4 1)=some (Value.int .i64 x6) ∧
(In64 (x6+1) ∧
(Ix Ar2 lr2 y ∧
(Wr w15.drew (ixA Ar2 y 1) ∧
(ixA Ar2 y 1).block≠g2 ∧
(ixA Ar2 y 1).block≠g5 ∧
∀ w17,w17=w15.drew.setCell (ixA Ar2 y 1) (Value.int .i64 (x6+1)) →
(∃ Ax4:Option Addr,∃ lx4:Nat,∃ cx4:Nat,w17.cell? (⟨g4,0,none⟩:Addr)=some (Value.slice Ax4 lx4 cx4) ∧
(∀ (g6:Nat) (w18:World),New w17 g6 w18 #[(Value.int .i64 y)] 3 →
(∃ (B:Nat) (xs2 nw:List Value) (ad:Addr),OwnS w18 B 3 1 Ax4 lx4 cx4 xs2∧(some ⟨g6,0,none⟩)=some ad∧nw.length=1*1∧(∀ j u,nw[j]? = some u→w18.cell? (ad.add j)=some u)∧(∀ u∈nw,u.oneCell'=true)∧lx4+1≤maxLen∧(lx4+1)*8≤140737488355328∧B≤w18.heap.size ∧
∀ A c w19,OwnS w19 B 3 1 A (lx4+1) c (xs2++nw)→w18.grownBy w19 (Option.map Addr.block Ax4)→(Option.map Addr.block A=Option.map Addr.block Ax4∨Option.map Addr.block A=some w18.heap.size) →
Kp w18 w19 g2 ∧
Kp w18 w19 g5 ∧
(Wr w19 (⟨g4,0,none⟩:Addr) ∧
(⟨g4,0,none⟩:Addr).block≠g2 ∧
(⟨g4,0,none⟩:Addr).block≠g5 ∧
∀ w20,w20=w19.setCell (⟨g4,0,none⟩:Addr) (Value.slice A (lx4+1) c) →
(KeepsOthers w15 w20∧Kq w15 w20∧I3 (pre++[el]) w20))))))))))) ∧
(¬(x5<0) →
(KeepsOthers w15 w15∧Kq w15 w15∧I3 (pre++[el]) w15)))))) ∧
(∀ xs w16,S xs→I3 xs w16 →
KpM w14 w16 ∧
∃ m2,m2<m1∧I2 m2 w16)))))))))))) ∧
(¬(0<((lx:Nat):Int)) →
(∀ wz,After w.heap.size w10 wz→R Ar2 lr2 cr2 wz)))))))))))))))))
theorem ye5(px:Addr)(w:World)(R:Option Addr→Nat→Nat→World→Prop)(h:ybT px w R) :
    Calls Tryz.prog 174 #[(.pointer (some px))] w fun e w'=>∃ Ar lr cr,e = .returned (.slice Ar lr cr)∧R Ar lr cr w':=by
  unfold ybT at h;refine yei (l:=[(.pointer (some px))]) func174 rfl ntmps174 zY ?_;have hM:=ydY.nil w;refine zs (zQ (.slice none 0 0) (yaa (zs (zn (yaX (l:=[(0,(ii (-1)))]) (cells:=[(ii (-1))]) (bp1 rfl) underlying29 yaj rfl rfl ?_)))));intro g w2 hN;replace h:=h g w2 hN;replace hM:=hM.kp hN.kpm;clear hN;refine zb (zM (.pointer (some px)) (zq (ybU rfl) (zq (yan rfl underlying203 rfl yao) (zq (yan rfl underlying24 rfl yaj) ?_))));obtain ⟨x,hc,h⟩:=h;refine zq (zl underlying3 hc) (zn (yam rfl (am2 rfl rfl) enter_191 (h.mono ?_)));rintro _ w3 ⟨Ar2,lr2,cr2,rfl,hkm,h⟩;replace hM:=hM.kp hkm;refine ⟨_,rfl,Stb.none _,?_⟩;refine zn (yaO yaL ?_);intro g2 w4 hN2;replace h:=h g2 w4 hN2;replace hM:=hM.kp hN2.kpm;have rB:Row w4 g2 29 1 [(.slice none 0 0)]:=hN2.row;clear hN2;refine zb (zo (zt (.slice Ar2 lr2 cr2) yaL (wr_row rB (i:=0) rfl) ?_));intro w5 ew;replace h:=h w5 ew;replace hM:ydY _ _ w5:=hM.kp (by rw [ew];exact ygs);replace rB:Row w5 g2 29 1 [(.slice Ar2 lr2 cr2)]:=row_set rB 0 (.slice Ar2 lr2 cr2) ew;clear ew;refine zb (yaa (yaf (yaT [0,1,2,3,4,5,6] st0 yaD (by kernel_rfl) (by kernel_rfl) ?_)));replace hM:=hM.kp (KpM.drew _);replace rB:=rB.drew;refine zp (zl underlying29 (Row.cell rB (i:=0) rfl)) (zp (zm (.pointer (some px))) (zp (ybU rfl) (zp (yan rfl underlying203 rfl yaj) ?_)));obtain ⟨x2,hc2,h⟩:=h;refine zp (zl underlying3 hc2) ?_;obtain ⟨hx,h⟩:=h;refine zp (zi underlying29 yaj hx) ?_;obtain ⟨hw2,h⟩:=h;obtain ⟨hb,h⟩:=h;refine yjg rfl rfl rfl (zt (ii 0) yaj hw2 ?_);intro w6 ew2;replace h:=h w6 ew2;replace hM:ydY _ _ w6:=hM.kp (by rw [ew2];exact ygs);replace rB:Row w6 g2 29 1 [(.slice Ar2 lr2 cr2)]:=rB.kp (by rw [ew2];exact yda hb);clear ew2;refine zb (yaZ (zs (zM (.pointer (some px)) (zq (ybU rfl) (zq (yan rfl underlying203 rfl yaj) ?_)))));obtain ⟨x3,hc3,h⟩:=h;refine zq (zl underlying3 hc3) (zn (yaX (l:=[(0,(ii x3))]) (cells:=[(ii x3)]) (bp1 rfl) underlying29 yaj rfl rfl ?_));intro g3 w7 hN3;replace h:=h g3 w7 hN3;replace hM:=hM.kp hN3.kpm;replace rB:=rB.kp (hN3.kp _);clear hN3;refine zb (zn (yaO yaL ?_));intro g4 w8 hN4;replace h:=h g4 w8 hN4;replace hM:=hM.kp hN4.kpm;replace rB:=rB.kp (hN4.kp _);clear hN4;refine zb ?_;obtain ⟨hw3,h⟩:=h;obtain ⟨hb2,h⟩:=h;refine zo (zt (.slice (some ⟨g3,0,none⟩) 1 1) yaL hw3 ?_);intro w9 ew3;replace h:=h w9 ew3;replace hM:ydY _ _ w9:=hM.kp (by rw [ew3];exact ygs);replace rB:Row w9 g2 29 1 [(.slice Ar2 lr2 cr2)]:=rB.kp (by rw [ew3];exact yda hb2);clear ew3;refine zb (yaa (yaf (yai ?_)));obtain ⟨I2,⟨m0,h0⟩,hr⟩:=h;refine yaz (fun m E ds w'=>I2 m w'∧ydY w.heap.size ds w'∧E 0=(Value.pointer (some px))∧E 3=(Value.pointer (some ⟨g2,0,none⟩))∧E 4=(Value.pointer (some ⟨g4,0,none⟩))∧Row w' g2 29 1 [(.slice Ar2 lr2 cr2)]) m0 ⟨h0,hM,rfl,rfl,rfl,rB⟩ ?_;clear h0;rintro m1 E ds w10 ⟨h,hM,hE0,hE3,hE4,rB⟩ again;replace h:=hr m1 w10 h;clear hr;refine yaf (zs ?_);obtain ⟨Ax,lx,cx,hc4,h⟩:=h;refine zq (yau hE4 underlying29 rfl hc4) (zq (yiB rfl underlying29) (zq zG (yaa ?_)));by_cases hp:0<((lx:Nat):Int)
  · replace h:=h.1 hp;refine zc hp (yag (yai (zs ?_)));obtain ⟨Ax2,lx2,cx2,hc5,h⟩:=h;refine zq (yau hE4 underlying29 rfl hc5) ?_;obtain ⟨hx2,h⟩:=h;refine zq (zi underlying29 yaj hx2) ?_;obtain ⟨x4,hc6,h⟩:=h;refine zq (zl underlying3 hc6) (zn (yaO yaj ?_));intro g5 w11 hN5;replace h:=h g5 w11 hN5;replace hM:=hM.kp hN5.kpm;replace rB:=rB.kp (hN5.kp _);have rB2:Row w11 g5 3 1 [(ii 0)]:=hN5.row;clear hN5;refine zb ?_;obtain ⟨hb3,h⟩:=h;refine zo (zt (ii x4) yaj (wr_row rB2 (i:=0) rfl) ?_);intro w12 ew4;replace h:=h w12 ew4;replace hM:ydY _ _ w12:=hM.kp (by rw [ew4];exact ygs);replace rB2:Row w12 g5 3 1 [(ii x4)]:=row_set rB2 0 (ii x4) ew4;replace rB:Row w12 g2 29 1 [(.slice Ar2 lr2 cr2)]:=rB.kp (by rw [ew4];exact yda hb3);clear ew4;refine zb (yaa (zs ?_));obtain ⟨Ax3,lx3,cx3,hc7,h⟩:=h;refine zq (yau hE4 underlying29 rfl hc7) ?_;obtain ⟨hs,h⟩:=h;refine zq (v_slice_l rfl rfl underlying29 yaj hs) ?_;obtain ⟨hw5,h⟩:=h;obtain ⟨hb4,h⟩:=h;obtain ⟨hb5,h⟩:=h;refine zo (yhn (v:=(.slice (slA Ax3 cx3 (1:Int).toNat 1) (lx3-(1:Int).toNat) (cx3-(1:Int).toNat))) hE4 rfl rfl yaL hw5 ?_);intro w13 ew5;replace h:=h w13 ew5;replace hM:ydY _ _ w13:=hM.kp (by rw [ew5];exact ygs);replace rB:Row w13 g2 29 1 [(.slice Ar2 lr2 cr2)]:=rB.kp (by rw [ew5];exact yda hb4);replace rB2:Row w13 g5 3 1 [(ii x4)]:=rB2.kp (by rw [ew5];exact yda hb5);clear ew5;refine zb (yaa (zs (zq (yad hE0) (zq (zl underlying3 (Row.cell rB2 (i:=0) rfl)) (zn (yam rfl (am2 rfl rfl) enter_192 (h.mono ?_)))))));rintro _ w14 ⟨r,rfl,hk,hk2,hkm,h⟩;replace hM:=hM.kp hkm;replace rB:=rB.kp hk;replace rB2:=rB2.kp hk2;refine ⟨_,rfl,Stb.none _,?_⟩;refine yaa (yai ?_);obtain ⟨α,val,S,Kq,len,I3,hIt,hsz,hst,h0,hkp,hb,h⟩:=h;refine wt_range rfl hIt hsz rfl rfl I3 hst h0 ?_ ?_
    · intro ll pre el w15 hIp hlen;obtain ⟨y,y2,hv,h⟩:=hb pre el w15 hIp hlen;rw [hv];replace rB:=rB.kp (hkp pre w15 hIp).1;replace rB2:=rB2.kp (hkp pre w15 hIp).2.1;refine yai (yaf (yay (ya7 ll) (zq (yau hE3 underlying29 rfl (Row.cell rB (i:=0) rfl)) (zM (ii y) ?_))));obtain ⟨hx3,h⟩:=h;refine zq (zi underlying29 yaj hx3) ?_;obtain ⟨x5,hc8,h⟩:=h;refine zq (zl underlying3 hc8) (zq zL (yaa ?_));by_cases hp2:x5<0
      · replace h:=h.1 hp2;refine zc hp2 (yaf (yaT [0,1,2,3,4,5,6,7,8] st0 (ya7 ll) (by kernel_rfl) (by kernel_rfl) ?_));replace rB:=rB.drew;replace rB2:=rB2.drew;refine zp (yau hE3 underlying29 rfl (Row.cell rB (i:=0) rfl)) (zp (zm (ii y)) (zp (yau hE3 underlying29 rfl (Row.cell rB (i:=0) rfl)) (zp (zl underlying3 (Row.cell rB2 (i:=0) rfl)) ?_)));obtain ⟨hx4,h⟩:=h;refine zp (zi underlying29 yaj hx4) ?_;obtain ⟨x6,hc9,h⟩:=h;refine zp (zl underlying3 hc9) ?_;obtain ⟨hi,h⟩:=h;refine zp (zA hi) ?_;obtain ⟨hx5,h⟩:=h;refine zp (zi underlying29 yaj hx5) ?_;obtain ⟨hw6,h⟩:=h;obtain ⟨hb6,h⟩:=h;obtain ⟨hb7,h⟩:=h;refine yjg rfl rfl rfl (zt (ii (x6+1)) yaj hw6 ?_);intro w17 ew6;replace h:=h w17 ew6;replace rB:Row w17 g2 29 1 [(.slice Ar2 lr2 cr2)]:=rB.kp (by rw [ew6];exact yda hb6);replace rB2:Row w17 g5 3 1 [(ii x4)]:=rB2.kp (by rw [ew6];exact yda hb7);clear ew6;refine zb (yaZ (yay (ya7 ll) ?_));obtain ⟨Ax4,lx4,cx4,hc10,h⟩:=h;refine zq (yau hE4 underlying29 rfl hc10) (zM (ii y) (zn (yaX (l:=[(0,(ii y))]) (cells:=[(ii y)]) (bp1 rfl) underlying29 yaj rfl rfl ?_)));intro g6 w18 hN6;replace h:=h g6 w18 hN6;replace rB:=rB.kp (hN6.kp _);replace rB2:=rB2.kp (hN6.kp _);clear hN6;refine zb ?_;obtain ⟨B,xs2,nw,ad,q1,q2,q3,q4,q5,q6,q7,q8,h⟩:=h;refine zn (n_append rfl rfl underlying29 yaj rfl ⟨B,xs2,nw,ad,q1,q2,q3,q4,q5,q6,q7,q8,?_⟩);intro A c w19 q9 q10 q11;replace h:=h A c w19 q9 q10 q11;clear q1 q2 q3 q4 q5 q6 q7 q8 q9 q10 q11;obtain ⟨hk3,hk4,h⟩:=h;replace rB:=rB.kp hk3;replace rB2:=rB2.kp hk4;refine zb ?_;obtain ⟨hw7,h⟩:=h;obtain ⟨hb8,h⟩:=h;obtain ⟨hb9,h⟩:=h;refine zo (yhn (v:=(.slice A (lx4+1) c)) hE4 rfl rfl yaL hw7 ?_);intro w20 ew7;replace h:=h w20 ew7;replace rB:Row w20 g2 29 1 [(.slice Ar2 lr2 cr2)]:=rB.kp (by rw [ew7];exact yda hb8);replace rB2:Row w20 g5 3 1 [(ii x4)]:=rB2.kp (by rw [ew7];exact yda hb9);clear ew7;exact zb (yaa (yah (ycO (fun a r=>h))))
      · replace h:=h.2 hp2;exact zd hp2 (yag (yah (ycO (fun a r=>h))))
    · intro D xs w16 hD hS hIp hK;replace h:=h xs w16 hS hIp;replace rB:=rB.kp (hkp xs w16 hIp).1;replace rB2:=rB2.kp (hkp xs w16 hIp).2.1;obtain ⟨hkm,h⟩:=h;replace hM:=ydY.push hM hkm hD hK;refine yah (yah ?_);obtain ⟨mq,hlt,h⟩:=h;exact again mq _ _ _ ⟨h,hM,hE0,hE3,hE4,rB⟩ hlt
  · replace h:=h.2 hp;exact zd hp (yax rfl (zs (zq (yau hE3 underlying29 rfl (Row.cell rB (i:=0) rfl)) (zQ (.slice Ar2 lr2 cr2) (yaa (wt_retm1 hM rfl rfl fun wz hz=>⟨_,_,_,rfl,h wz hz⟩))))))
def ycR(pd:Addr)(w:World)(R:World→Prop):Prop :=
(Calls Tryz.prog 174 #[(Value.pointer (some pd))] w fun e w2=>∃ Ar:Option Addr,∃ lr:Nat,∃ cr:Nat,e = .returned (Value.slice Ar lr cr) ∧
(Calls Tryz.prog 176 #[(Value.slice Ar lr cr)] w2 fun e w3=>∃ r:Int,e = .returned (Value.int .i64 r) ∧
(∃ I2:Nat→Int→World→Prop,(∃ m0,I2 m0 r w3)∧∀ m1 i w4,I2 m1 i w4 → 
(∃ J2:World→Prop,(∀ (w5:World),J2 w5→(∃ x:Int,w5.cell? (Addr.add (Addr.add pd 0) 0)=some (Value.int .i64 x) ∧
((0≤x∧x≤1000000) ∧
∀ (g:Nat) (w6:World),New w5 g w6 (Array.replicate x.toNat (Value.bool (false))) 4 →
(∀ (g2:Nat) (w7:World),New w6 g2 w7 #[(Value.slice none 0 0)] 160 →
(Wr w7 (⟨g2,0,none⟩:Addr) ∧
∀ w8,w8=w7.setCell (⟨g2,0,none⟩:Addr) (Value.slice (some ⟨g,0,none⟩) x.toNat x.toNat) →
(∃ Ax:Option Addr,∃ lx:Nat,∃ cx:Nat,w8.cell? (⟨g2,0,none⟩:Addr)=some (Value.slice Ax lx cx) ∧
(∃ I3:Nat→Int→World→Prop,(∃ m0,I3 m0 0 w8)∧∀ m2 i2 w9,I3 m2 i2 w9 → 
((i2<((lx:Nat):Int) →
(∃ Ax2:Option Addr,∃ lx2:Nat,∃ cx2:Nat,w9.drew.cell? (⟨g2,0,none⟩:Addr)=some (Value.slice Ax2 lx2 cx2) ∧
(Ix Ar lr i2 ∧
(∃ x2:Int,w9.drew.cell? (ixA Ar i2 1)=some (Value.int .i64 x2) ∧
(Ix Ax2 lx2 i2 ∧
(Wr w9.drew (ixA Ax2 i2 1) ∧
∀ w10,w10=w9.drew.setCell (ixA Ax2 i2 1) (Value.bool (decide (x2<i))) →
(In64 (i2+1) ∧
∃ m3,m3<m2∧I3 m3 (i2+1) w10))))))) ∧
(¬(i2<((lx:Nat):Int)) →
(∃ I4:Nat→Int→Int→World→Prop,(∃ m0,I4 m0 0 0 w9)∧∀ m4 i3 i4 w11,I4 m4 i3 i4 w11 → 
((i4<((lr:Nat):Int) →
(Ix Ar lr i4 ∧
(∃ x3:Int,w11.cell? (ixA Ar i4 1)=some (Value.int .i64 x3) ∧
(∃ J3:World→Prop,(∀ (w12:World),J3 w12→(Calls Tryz.prog 177 #[(Value.pointer (some pd)),(Value.int .i64 i4),(Value.func (Fn.func 178) #[] #[(Value.pointer (some ⟨g2,0,none⟩))])] w12 fun e w13=>∃ r2:Int,e = .returned (Value.int .i64 r2) ∧
(∃ Ax3:Option Addr,∃ lx3:Nat,∃ cx3:Nat,w13.cell? (Addr.add pd 3)=some (Value.slice Ax3 lx3 cx3) ∧
(Ix Ax3 lx3 i4 ∧
(∃ x4:Int,w13.cell? (ixA Ax3 i4 1)=some (Value.int .i64 x4) ∧
(In64 (-x4) ∧
(In64 ((-x4)+r2) ∧
(In64 (((-x4)+r2)-1) ∧
(r2≠0 ∧
In64 ((((-x4)+r2)-1).tdiv r2) ∧
(In64 (i4+1) ∧
∃ m5,m5<m4∧I4 m5 (mxF i3 ((((-x4)+r2)-1).tdiv r2)) (i4+1) w13)))))))))) ∧
((x3=i →
(∃ Ax4:Option Addr,∃ lx4:Nat,∃ cx4:Nat,w11.cell? (Addr.add pd 3)=some (Value.slice Ax4 lx4 cx4) ∧
(Ix Ax4 lx4 i4 ∧
(∃ x5:Int,w11.cell? (ixA Ax4 i4 1)=some (Value.int .i64 x5) ∧
((x5<0 →
J3 w11) ∧
(¬(x5<0) →
(In64 (i4+1) ∧
∃ m6,m6<m4∧I4 m6 i3 (i4+1) w11))))))) ∧
(¬(x3=i) →
(In64 (i4+1) ∧
∃ m7,m7<m4∧I4 m7 i3 (i4+1) w11))))))) ∧
(¬(i4<((lr:Nat):Int)) →
((0<i3 →
(∃ Ax5:Option Addr,∃ lx5:Nat,∃ cx5:Nat,w11.cell? (⟨g2,0,none⟩:Addr)=some (Value.slice Ax5 lx5 cx5) ∧
(Calls Tryz.prog 175 #[(Value.pointer (some pd)),(Value.slice Ax5 lx5 cx5),(Value.int .i64 i3)] w11 fun e w14=>e = .returned (Value.tuple #[]) ∧
(In64 (i-1) ∧
∃ m8,m8<m1∧I2 m8 (i-1) w14)))) ∧
(¬(0<i3) →
(In64 (i-1) ∧
∃ m9,m9<m1∧I2 m9 (i-1) w11))))))))))))))) ∧
((0<i →
(∃ x6:Int,w4.cell? (Addr.add pd 5)=some (Value.int .i64 x6) ∧
((x6=0 →
J2 w4) ∧
(¬(x6=0) →
R w4)))) ∧
(¬(0<i) →
R w4))))))
theorem ygP(pd:Addr)(w:World)(R:World→Prop)(h:ycR pd w R) :
    Calls Tryz.prog 164 #[(.pointer (some pd))] w fun e w'=>e = .returned (.tuple #[])∧R  w':=by
  unfold ycR at h;refine yap (l:=[(.pointer (some pd))]) func164 rfl ntmps164 zY (zs (zM (.pointer (some pd)) (zn (yam rfl (am1 rfl) enter_174 (h.mono ?_)))));rintro _ w2 ⟨Ar,lr,cr,rfl,h⟩;refine ⟨_,rfl,Stb.none _,?_⟩;refine zQ (.slice Ar lr cr) (yaa (zs (zM (.pointer (some pd)) (zq (yeZ (am1 rfl) (am0)) (zQ (.func (Fn.func 175) #[(.pointer (some pd))] #[]) (yaa (zs (zM (.slice Ar lr cr) (zn (yam rfl (am1 rfl) enter_176 (h.mono ?_)))))))))));rintro _ w3 ⟨r,rfl,h⟩;refine ⟨_,rfl,Stb.none _,?_⟩;refine zQ (ii r) (yaa (yai ?_));obtain ⟨I2,⟨m0,h0⟩,hr⟩:=h;refine yaz (fun m E ds w'=>∃ i,I2 m i w'∧ds=[]∧E 0=(Value.pointer (some pd))∧E 2=(Value.slice Ar lr cr)∧E 3=(Value.func (Fn.func 175) #[(.pointer (some pd))] #[])∧E 4=(ii i)) m0 ⟨_,h0,rfl,rfl,rfl,rfl,rfl⟩ ?_;clear h0;rintro m1 E ds w4 ⟨i,h,rfl,hE0,hE2,hE3,hE4⟩ again;replace h:=hr m1 i w4 h;clear hr;refine yaf (yaf ?_);obtain ⟨J2,hJ,h⟩:=h;refine yc1 (fun E ds w'=>J2 w'∧ds=[]∧E 0=(Value.pointer (some pd))∧E 2=(Value.slice Ar lr cr)∧E 3=(Value.func (Fn.func 175) #[(.pointer (some pd))] #[])∧E 4=(ii i)) ?_ ?_
  · rintro E ds w5 ⟨h,rfl,hE0,hE2,hE3,hE4⟩;replace h:=hJ w5 h;refine yaf (yai (zs (zq (yad hE0) (zq (ybU rfl) (zq (yan rfl underlying203 rfl yao) (zq (yan rfl underlying24 rfl yaj) ?_))))));obtain ⟨x,hc,h⟩:=h;refine zq (zl underlying3 hc) ?_;obtain ⟨hn,h⟩:=h;refine zn (ykw rfl rfl underlying160 ydi (by decide) rfl hn ?_);intro g w6 hN;replace h:=h g w6 hN;clear hN;refine zb (zn (yaO yiZ ?_));intro g2 w7 hN2;replace h:=h g2 w7 hN2;clear hN2;refine zb ?_;obtain ⟨hw,h⟩:=h;refine zo (zt (.slice (some ⟨g,0,none⟩) x.toNat x.toNat) yiZ hw ?_);intro w8 ew;replace h:=h w8 ew;clear ew;refine zb (yaa (yaf (zs ?_)));obtain ⟨Ax,lx,cx,hc2,h⟩:=h;refine zq (zl underlying160 hc2) (zq (yiB rfl underlying160) (zM (ii 0) (yaa (yai ?_))));obtain ⟨I3,⟨m0,h0⟩,hr⟩:=h;refine yaz (fun m E ds w'=>∃ i2,I3 m i2 w'∧ds=[]∧E 0=(Value.pointer (some pd))∧E 2=(Value.slice Ar lr cr)∧E 3=(Value.func (Fn.func 175) #[(.pointer (some pd))] #[])∧E 4=(ii i)∧E 5=(Value.pointer (some ⟨g2,0,none⟩))∧E 35=(ii ((lx:Nat):Int))∧E 36=(ii i2)) m0 ⟨_,h0,rfl,hE0,hE2,hE3,hE4,rfl,rfl,rfl⟩ ?_;clear h0;rintro m2 E ds w9 ⟨i2,h,rfl,hE0,hE2,hE3,hE4,hE5,hE35,hE36⟩ again2;replace h:=hr m2 i2 w9 h;clear hr;refine zs (zq (ydj hE36 hE35) (yaa (yaf ?_)));by_cases hp:i2<((lx:Nat):Int)
    · replace h:=h.1 hp;refine zc hp (yag (yaf (yai (zs (zq (yad hE36) (zQ (ii i2) (yaa (yaT [0,1,2,3,4,5,6,7,8,9] st0 yaD (by kernel_rfl) (by kernel_rfl) ?_))))))));obtain ⟨Ax2,lx2,cx2,hc3,h⟩:=h;refine zp (yau hE5 underlying160 rfl hc3) (zp (zm (ii i2)) (zp (yad hE2) (zp (zm (ii i2)) ?_)));obtain ⟨hx,h⟩:=h;refine zp (zi underlying29 yaj hx) ?_;obtain ⟨x2,hc4,h⟩:=h;refine zp (zl underlying3 hc4) (zp (yad hE4) (zp zL ?_));obtain ⟨hx2,h⟩:=h;refine zp (zi underlying160 ydi hx2) ?_;obtain ⟨hw2,h⟩:=h;refine yjg rfl rfl rfl (zt (.bool (decide (x2<i))) ydi hw2 ?_);intro w10 ew2;replace h:=h w10 ew2;clear ew2;refine zb (yaZ (yah (zr ?_)));obtain ⟨hi,h⟩:=h;refine zq (ybS hE36 rfl hi) (zM (ii (i2+1)) (yaa ?_));obtain ⟨mq,hlt,h⟩:=h;exact again2 mq _ _ _ ⟨_,h,rfl,hE0,hE2,hE3,hE4,hE5,hE35,rfl⟩ hlt
    · replace h:=h.2 hp;refine zd hp (yax rfl (zs (zQ (ii 0) (yaa (yaf (zs (zq (yad hE2) (zq (yiB rfl underlying29) (zM (ii 0) (yaa (yai ?_)))))))))));obtain ⟨I4,⟨m0,h0⟩,hr⟩:=h;refine yaz (fun m E ds w'=>∃ i3 i4,I4 m i3 i4 w'∧ds=[]∧E 0=(Value.pointer (some pd))∧E 2=(Value.slice Ar lr cr)∧E 3=(Value.func (Fn.func 175) #[(.pointer (some pd))] #[])∧E 4=(ii i)∧E 5=(Value.pointer (some ⟨g2,0,none⟩))∧E 7=(ii i3)∧E 49=(Value.slice Ar lr cr)∧E 50=(ii ((lr:Nat):Int))∧E 51=(ii i4)) m0 ⟨_,_,h0,rfl,hE0,hE2,hE3,hE4,hE5,rfl,rfl,rfl,rfl⟩ ?_;clear h0;rintro m4 E ds w11 ⟨i3,i4,h,rfl,hE0,hE2,hE3,hE4,hE5,hE7,hE49,hE50,hE51⟩ again3;replace h:=hr m4 i3 i4 w11 h;clear hr;refine zs (zq (ydj hE51 hE50) (yaa (yaf ?_)));by_cases hp2:i4<((lr:Nat):Int)
      · replace h:=h.1 hp2;refine zc hp2 (yag (yaf (yai (zs (zq (yad hE51) ?_)))));obtain ⟨hx3,h⟩:=h;refine zq (ycI hE49 hE51 underlying29 yaj hx3) ?_;obtain ⟨x3,hc5,h⟩:=h;refine zq (zl underlying3 hc5) (zQ (ii i4) (zQ (ii x3) (yaa (yaf ?_))));obtain ⟨J3,hJ,h⟩:=h;refine wt_cutA1 (fun E ds w'=>J3 w'∧ds=[]∧E 0=(Value.pointer (some pd))∧E 2=(Value.slice Ar lr cr)∧E 3=(Value.func (Fn.func 175) #[(.pointer (some pd))] #[])∧E 4=(ii i)∧E 5=(Value.pointer (some ⟨g2,0,none⟩))∧E 7=(ii i3)∧E 8=(ii i4)∧E 49=(Value.slice Ar lr cr)∧E 50=(ii ((lr:Nat):Int))∧E 51=(ii i4)) ?_ ?_
        · rintro E ds w12 ⟨h,rfl,hE0,hE2,hE3,hE4,hE5,hE7,hE8,hE49,hE50,hE51⟩;replace h:=hJ w12 h;refine zs (zq (yad hE0) (zq (yad hE8) (zq (yeZ (am0) (am1 hE5)) (zn (yam rfl (am3 rfl rfl rfl) enter_177 (h.mono ?_))))));rintro _ w13 ⟨r2,rfl,h⟩;refine ⟨_,rfl,Stb.none _,?_⟩;refine zQ (ii r2) (yaa (zr (zq (yad hE7) (zq (yad hE0) (zq (ybU rfl) (zq (yan rfl underlying203 rfl ycm) ?_))))));obtain ⟨Ax3,lx3,cx3,hc6,h⟩:=h;refine zq (zl underlying43 hc6) (zq (yad hE8) ?_);obtain ⟨hx4,h⟩:=h;refine zq (zi underlying43 yaj hx4) ?_;obtain ⟨x4,hc7,h⟩:=h;refine zq (zl underlying3 hc7) ?_;obtain ⟨hi2,h⟩:=h;refine zq (v_neg rfl hi2) (zM (ii r2) ?_);obtain ⟨hi3,h⟩:=h;refine zq (zA hi3) ?_;obtain ⟨hi4,h⟩:=h;refine zq (zS hi4) (zM (ii r2) ?_);obtain ⟨hz,h⟩:=h;obtain ⟨hi5,h⟩:=h;refine zq (v_quo rfl rfl hz hi5) (zq (v_max2 rfl rfl) (zQ (ii (mxF i3 ((((-x4)+r2)-1).tdiv r2))) (yaa (yah (zr ?_)))));obtain ⟨hi6,h⟩:=h;refine zq (ybS hE51 rfl hi6) (zM (ii (i4+1)) (yaa ?_));obtain ⟨mq,hlt,h⟩:=h;exact again3 mq _ _ _ ⟨_,_,h,rfl,hE0,hE2,hE3,hE4,hE5,rfl,hE49,hE50,rfl⟩ hlt
        clear hJ;intro j2;refine zr (zM (ii x3) (zq (yad hE4) (zq zE (zM (.bool (decide (x3=i))) ?_))));by_cases hp3:x3=i
        · replace h:=h.1 hp3;refine zW rfl rfl (zT hp3) (yad hE0) (zW rfl rfl (zT hp3) (ybU rfl) (zW rfl rfl (zT hp3) (yan rfl underlying203 rfl ycm) ?_));obtain ⟨Ax4,lx4,cx4,hc8,h⟩:=h;refine zW rfl rfl (zT hp3) (zl underlying43 hc8) (zW rfl rfl (zT hp3) (zm (ii i4)) ?_);obtain ⟨hx5,h⟩:=h;refine zW rfl rfl (zT hp3) (zi underlying43 yaj hx5) ?_;obtain ⟨x5,hc9,h⟩:=h;refine zW rfl rfl (zT hp3) (zl underlying3 hc9) (zW rfl rfl (zT hp3) zL (zq (yas (v:=(.bool (decide (x5<0)))) (zT hp3) rfl) (yaa ?_)));by_cases hp4:x5<0
          · replace h:=h.1 hp4;exact zc hp4 (j2 _ _ _ ⟨h,rfl,hE0,hE2,hE3,hE4,hE5,hE7,rfl,hE49,hE50,hE51⟩)
          · replace h:=h.2 hp4;refine zd hp4 (yag (yah (zr ?_)));obtain ⟨hi7,h⟩:=h;refine zq (ybS hE51 rfl hi7) (zM (ii (i4+1)) (yaa ?_));obtain ⟨mq,hlt,h⟩:=h;exact again3 mq _ _ _ ⟨_,_,h,rfl,hE0,hE2,hE3,hE4,hE5,hE7,hE49,hE50,rfl⟩ hlt
        · replace h:=h.2 hp3;refine zV rfl rfl (zF hp3) (zV rfl rfl (zF hp3) (zV rfl rfl (zF hp3) (zV rfl rfl (zF hp3) (zV rfl rfl (zF hp3) (zV rfl rfl (zF hp3) (zV rfl rfl (zF hp3) (zV rfl rfl (zF hp3) (zq (yal (v:=(.bool (false))) (zF hp3) rfl) (yaa (yat rfl (yag (yah (zr ?_)))))))))))));obtain ⟨hi8,h⟩:=h;refine zq (ybS hE51 rfl hi8) (zM (ii (i4+1)) (yaa ?_));obtain ⟨mq,hlt,h⟩:=h;exact again3 mq _ _ _ ⟨_,_,h,rfl,hE0,hE2,hE3,hE4,hE5,hE7,hE49,hE50,rfl⟩ hlt
      · replace h:=h.2 hp2;refine zd hp2 (yax rfl (zs (zq (yad hE7) (zq zG (yaa ?_)))));by_cases hp5:0<i3
        · replace h:=h.1 hp5;refine zc hp5 (zr (zq (yad (v:=(Value.func (Fn.func 175) #[(.pointer (some pd))] #[])) hE3) ?_));obtain ⟨Ax5,lx5,cx5,hc10,h⟩:=h;refine zq (yau hE5 underlying160 rfl hc10) (zq (yad hE7) (zn (n_callx (all:=[(.pointer (some pd)),(.slice Ax5 lx5 cx5),(ii i3)]) rfl (am2 rfl rfl) enter_175 rfl (h.mono ?_))));rintro _ w14 ⟨rfl,h⟩;refine ⟨_,rfl,Stb.none _,?_⟩;refine yaa (yah (zr (zq (yad hE4) ?_)));obtain ⟨hi9,h⟩:=h;refine zq (zS hi9) (zQ (ii (i-1)) (yaa ?_));obtain ⟨mq,hlt,h⟩:=h;exact again mq _ _ _ ⟨_,h,rfl,hE0,hE2,hE3,rfl⟩ hlt
        · replace h:=h.2 hp5;refine zd hp5 (yag (yah (zr (zq (yad hE4) ?_))));obtain ⟨hi10,h⟩:=h;refine zq (zS hi10) (zQ (ii (i-1)) (yaa ?_));obtain ⟨mq,hlt,h⟩:=h;exact again mq _ _ _ ⟨_,h,rfl,hE0,hE2,hE3,rfl⟩ hlt
  clear hJ;intro j;refine zr (zq (yad hE4) (zq zG (zM (.bool (decide (0<i))) ?_)));by_cases hp6:0<i
  · replace h:=h.1 hp6;refine zW rfl rfl (zT hp6) (yad hE0) (zW rfl rfl (zT hp6) (ybU rfl) (zW rfl rfl (zT hp6) (yan rfl underlying203 rfl yfv) ?_));obtain ⟨x6,hc11,h⟩:=h;refine zW rfl rfl (zT hp6) (zl underlying30 hc11) (zW rfl rfl (zT hp6) zE (zq (yas (v:=(.bool (decide (x6=0)))) (zT hp6) rfl) (yaa ?_)));by_cases hp7:x6=0
    · replace h:=h.1 hp7;exact zc hp7 (yag (j _ _ _ ⟨h,rfl,hE0,hE2,hE3,hE4⟩))
    · replace h:=h.2 hp7;exact zd hp7 (yax rfl (yhj rfl ⟨rfl,h⟩))
  · replace h:=h.2 hp6;exact zV rfl rfl (zF hp6) (zV rfl rfl (zF hp6) (zV rfl rfl (zF hp6) (zV rfl rfl (zF hp6) (zV rfl rfl (zF hp6) (zq (yal (v:=(.bool (false))) (zF hp6) rfl) (yaa (yat rfl (yax rfl (yhj rfl ⟨rfl,h⟩)))))))))
def ycs(px:Addr)(w:World)(R:World→Prop):Prop :=
(∃ I2:Nat→World→Prop,(∃ m0,I2 m0 w)∧∀ m1 w2,I2 m1 w2 → 
(∃ x:Int,w2.cell? (Addr.add px 5)=some (Value.int .i64 x) ∧
((x=0 →
(Calls Tryz.prog 179 #[(Value.pointer (some px))] w2 fun e w3=>∃ Ar:Option Addr,∃ lr:Nat,∃ cr:Nat,∃ r:Bool,e = .returned (Value.tuple #[(Value.slice Ar lr cr),(Value.bool (r))]) ∧
(∀ (g:Nat) (w4:World),New w3 g w4 #[(Value.slice none 0 0)] 160 →
(Wr w4 (⟨g,0,none⟩:Addr) ∧
∀ w5,w5=w4.setCell (⟨g,0,none⟩:Addr) (Value.slice Ar lr cr) →
((r=true →
(∃ Ax:Option Addr,∃ lx:Nat,∃ cx:Nat,w5.cell? (⟨g,0,none⟩:Addr)=some (Value.slice Ax lx cx) ∧
(∃ I3:Nat→Int→Int→World→Prop,(∃ m0,I3 m0 0 0 w5)∧∀ m2 times i w6,I3 m2 times i w6 → 
((i<((lx:Nat):Int) →
(Ix Ax lx i ∧
(∃ x2:Bool,w6.cell? (ixA Ax i 1)=some (Value.bool (x2)) ∧
((x2=true →
(Calls Tryz.prog 177 #[(Value.pointer (some px)),(Value.int .i64 i),(Value.func (Fn.func 180) #[] #[(Value.pointer (some ⟨g,0,none⟩))])] w6 fun e w7=>∃ r2:Int,e = .returned (Value.int .i64 r2) ∧
((0<r2 →
(∃ Ax2:Option Addr,∃ lx2:Nat,∃ cx2:Nat,w7.cell? (Addr.add px 3)=some (Value.slice Ax2 lx2 cx2) ∧
(Ix Ax2 lx2 i ∧
(∃ x3:Int,w7.cell? (ixA Ax2 i 1)=some (Value.int .i64 x3) ∧
(r2≠0 ∧
In64 (x3.tdiv r2) ∧
((times=0 →
(In64 (i+1) ∧
∃ m3,m3<m2∧I3 m3 (x3.tdiv r2) (i+1) w7)) ∧
(¬(times=0) →
(((x3.tdiv r2)<times →
(In64 (i+1) ∧
∃ m4,m4<m2∧I3 m4 (x3.tdiv r2) (i+1) w7)) ∧
(¬((x3.tdiv r2)<times) →
(In64 (i+1) ∧
∃ m5,m5<m2∧I3 m5 times (i+1) w7)))))))))) ∧
(¬(0<r2) →
(In64 (i+1) ∧
∃ m6,m6<m2∧I3 m6 times (i+1) w7))))) ∧
(¬(x2=true) →
(In64 (i+1) ∧
∃ m7,m7<m2∧I3 m7 times (i+1) w6)))))) ∧
(¬(i<((lx:Nat):Int)) →
(∃ Ax3:Option Addr,∃ lx3:Nat,∃ cx3:Nat,w6.cell? (⟨g,0,none⟩:Addr)=some (Value.slice Ax3 lx3 cx3) ∧
(Calls Tryz.prog 175 #[(Value.pointer (some px)),(Value.slice Ax3 lx3 cx3),(Value.int .i64 times)] w6 fun e w8=>e = .returned (Value.tuple #[]) ∧
∃ m8,m8<m1∧I2 m8 w8))))))) ∧
(¬(r=true) →
R w5)))))) ∧
(¬(x=0) →
R w2))))
theorem yfS(px:Addr)(w:World)(R:World→Prop)(h:ycs px w R) :
    Calls Tryz.prog 165 #[(.pointer (some px))] w fun e w'=>e = .returned (.tuple #[])∧R  w':=by
  unfold ycs at h;refine yap (l:=[(.pointer (some px))]) func165 rfl ntmps165 zY (yai ?_);obtain ⟨I2,⟨m0,h0⟩,hr⟩:=h;refine yaz (fun m E ds w'=>I2 m w'∧ds=[]∧E 0=(Value.pointer (some px))) m0 ⟨h0,rfl,rfl⟩ ?_;clear h0;rintro m1 E ds w2 ⟨h,rfl,hE0⟩ again;replace h:=hr m1 w2 h;clear hr;refine yaf (zs (zq (yad hE0) (zq (ybU rfl) (zq (yan rfl underlying203 rfl yfv) ?_))));obtain ⟨x,hc,h⟩:=h;refine zq (zl underlying30 hc) (zq zE (yaa ?_));by_cases hp:x=0
  · replace h:=h.1 hp;refine zc hp (yag (yai (zs (zq (yad hE0) (zn (yam rfl (am1 rfl) enter_179 (h.mono ?_)))))));rintro _ w3 ⟨Ar,lr,cr,r,rfl,h⟩;refine ⟨_,rfl,Stb.none _,?_⟩;refine zM (.tuple #[(.slice Ar lr cr),(.bool (r))]) (zq (zx (.slice Ar lr cr)) (zq (zx (.bool (r))) (zn (yaO yiZ ?_))));intro g w4 hN;replace h:=h g w4 hN;clear hN;refine zb ?_;obtain ⟨hw,h⟩:=h;refine zo (zt (.slice Ar lr cr) yiZ hw ?_);intro w5 ew;replace h:=h w5 ew;clear ew;refine zb (zQ (.bool (r)) (yaa (yaf (zs (zM (.bool (r)) (zq (ycX rfl) (yaa ?_)))))));by_cases hp2:r=true
    · replace h:=h.1 hp2;refine yat (zC (zB hp2)) (yag (zs (zQ (ii 0) (yaa (yaf (zs ?_))))));obtain ⟨Ax,lx,cx,hc2,h⟩:=h;refine zq (zl underlying160 hc2) (zq (yiB rfl underlying160) (zM (ii 0) (yaa (yai ?_))));obtain ⟨I3,⟨m0,h0⟩,hr⟩:=h;refine yaz (fun m E ds w'=>∃ times i,I3 m times i w'∧ds=[]∧E 0=(Value.pointer (some px))∧E 2=(Value.pointer (some ⟨g,0,none⟩))∧E 4=(ii times)∧E 21=(Value.slice Ax lx cx)∧E 22=(ii ((lx:Nat):Int))∧E 23=(ii i)) m0 ⟨_,_,h0,rfl,hE0,rfl,rfl,rfl,rfl,rfl⟩ ?_;clear h0;rintro m2 E ds w6 ⟨times,i,h,rfl,hE0,hE2,hE4,hE21,hE22,hE23⟩ again2;replace h:=hr m2 times i w6 h;clear hr;refine zs (zq (ydj hE23 hE22) (yaa (yaf ?_)));by_cases hp3:i<((lx:Nat):Int)
      · replace h:=h.1 hp3;refine zc hp3 (yag (yaf (yai (zs (zq (yad hE23) ?_)))));obtain ⟨hx,h⟩:=h;refine zq (ycI hE21 hE23 underlying160 ydi hx) ?_;obtain ⟨x2,hc3,h⟩:=h;refine zq (zl underlying4 hc3) (zQ (ii i) (zQ (.bool (x2)) (yaa (yaf (zs (zM (.bool (x2)) (zq (ycX rfl) (yaa ?_))))))));by_cases hp4:x2=true
        · replace h:=h.1 hp4;refine yat (zC (zB hp4)) (yag (zs (zq (yad hE0) (zM (ii i) (zq (yeZ (am0) (am1 hE2)) (zn (yam rfl (am3 rfl rfl rfl) enter_177 (h.mono ?_))))))));rintro _ w7 ⟨r2,rfl,h⟩;refine ⟨_,rfl,Stb.none _,?_⟩;refine zQ (ii r2) (yaa (zs (zM (ii r2) (zq zG (yaa ?_)))));by_cases hp5:0<r2
          · replace h:=h.1 hp5;refine zc hp5 (zs (zq (yad hE0) (zq (ybU rfl) (zq (yan rfl underlying203 rfl ycm) ?_))));obtain ⟨Ax2,lx2,cx2,hc4,h⟩:=h;refine zq (zl underlying43 hc4) (zM (ii i) ?_);obtain ⟨hx2,h⟩:=h;refine zq (zi underlying43 yaj hx2) ?_;obtain ⟨x3,hc5,h⟩:=h;refine zq (zl underlying3 hc5) (zM (ii r2) ?_);obtain ⟨hz,h⟩:=h;obtain ⟨hi,h⟩:=h;refine zq (v_quo rfl rfl hz hi) (zQ (ii (x3.tdiv r2)) (yaa (zs (zq (yad hE4) (zq zE (zM (.bool (decide (times=0))) ?_))))));by_cases hp6:times=0
            · replace h:=h.1 hp6;refine zV rfl rfl (zT hp6) (zV rfl rfl (zT hp6) (zV rfl rfl (zT hp6) (zq (yas (v:=(.bool (true))) (zT hp6) rfl) (yaa (yar rfl (zr (zM (ii (x3.tdiv r2)) (zQ (ii (x3.tdiv r2)) (yaa (yah (zr ?_)))))))))));obtain ⟨hi2,h⟩:=h;refine zq (ybS hE23 rfl hi2) (zM (ii (i+1)) (yaa ?_));obtain ⟨mq,hlt,h⟩:=h;exact again2 mq _ _ _ ⟨_,_,h,rfl,hE0,hE2,rfl,hE21,hE22,rfl⟩ hlt
            · replace h:=h.2 hp6;refine zW rfl rfl (zF hp6) (zm (ii (x3.tdiv r2))) (zW rfl rfl (zF hp6) (yad hE4) (zW rfl rfl (zF hp6) zL (zq (yal (v:=(.bool (decide ((x3.tdiv r2)<times)))) (zF hp6) rfl) (yaa ?_))));by_cases hp7:(x3.tdiv r2)<times
              · replace h:=h.1 hp7;refine zc hp7 (zr (zM (ii (x3.tdiv r2)) (zQ (ii (x3.tdiv r2)) (yaa (yah (zr ?_))))));obtain ⟨hi3,h⟩:=h;refine zq (ybS hE23 rfl hi3) (zM (ii (i+1)) (yaa ?_));obtain ⟨mq,hlt,h⟩:=h;exact again2 mq _ _ _ ⟨_,_,h,rfl,hE0,hE2,rfl,hE21,hE22,rfl⟩ hlt
              · replace h:=h.2 hp7;refine zd hp7 (yag (yah (zr ?_)));obtain ⟨hi4,h⟩:=h;refine zq (ybS hE23 rfl hi4) (zM (ii (i+1)) (yaa ?_));obtain ⟨mq,hlt,h⟩:=h;exact again2 mq _ _ _ ⟨_,_,h,rfl,hE0,hE2,hE4,hE21,hE22,rfl⟩ hlt
          · replace h:=h.2 hp5;refine zd hp5 (yag (yah (zr ?_)));obtain ⟨hi5,h⟩:=h;refine zq (ybS hE23 rfl hi5) (zM (ii (i+1)) (yaa ?_));obtain ⟨mq,hlt,h⟩:=h;exact again2 mq _ _ _ ⟨_,_,h,rfl,hE0,hE2,hE4,hE21,hE22,rfl⟩ hlt
        · replace h:=h.2 hp4;refine yar (zC (zB (zI hp4))) (yax rfl (zr ?_));obtain ⟨hi6,h⟩:=h;refine zq (ybS hE23 rfl hi6) (zM (ii (i+1)) (yaa ?_));obtain ⟨mq,hlt,h⟩:=h;exact again2 mq _ _ _ ⟨_,_,h,rfl,hE0,hE2,hE4,hE21,hE22,rfl⟩ hlt
      · replace h:=h.2 hp3;refine zd hp3 (yax rfl (zr (zq (yad hE0) ?_)));obtain ⟨Ax3,lx3,cx3,hc6,h⟩:=h;refine zq (yau hE2 underlying160 rfl hc6) (zq (yad hE4) (zn (yam rfl (am3 rfl rfl rfl) enter_175 (h.mono ?_))));rintro _ w8 ⟨rfl,h⟩;refine ⟨_,rfl,Stb.none _,?_⟩;refine yaa (yah ?_);obtain ⟨mq,hlt,h⟩:=h;exact again mq _ _ _ ⟨h,rfl,hE0⟩ hlt
    · replace h:=h.2 hp2;exact yar (zC (zB (zI hp2))) (wt_ret0 rfl ⟨rfl,h⟩)
  · replace h:=h.2 hp;exact zd hp (yax rfl (yhj rfl ⟨rfl,h⟩))
def yct(pd:Addr)(w:World)(R:Option Addr→Nat→Nat→Option Addr→Nat→Nat→Int→World→Prop):Prop :=
(∃ x:Int,w.cell? (Addr.add pd 5)=some (Value.int .i64 x) ∧
((x=0 →
(∃ Ax:Option Addr,∃ lx:Nat,∃ cx:Nat,w.drew.cell? (Addr.add pd 4)=some (Value.slice Ax lx cx) ∧
(∃ x2:Int,w.drew.cell? (Addr.add pd 2)=some (Value.int .i64 x2) ∧
(Ix Ax lx x2 ∧
(∃ x3:Int,w.drew.cell? (ixA Ax x2 1)=some (Value.int .i64 x3) ∧
(∃ Ax2:Option Addr,∃ lx2:Nat,∃ cx2:Nat,w.drew.cell? (Addr.add pd 4)=some (Value.slice Ax2 lx2 cx2) ∧
(∃ I2:Nat→Int→World→Prop,(∃ m0,I2 m0 0 w.drew)∧∀ m1 i w2,I2 m1 i w2 → 
((i<((lx2:Nat):Int) →
(∃ Ax3:Option Addr,∃ lx3:Nat,∃ cx3:Nat,w2.cell? (Addr.add pd 4)=some (Value.slice Ax3 lx3 cx3) ∧
(Ix Ax3 lx3 i ∧
(∃ x4:Int,w2.cell? (ixA Ax3 i 1)=some (Value.int .i64 x4) ∧
(In64 (x4-x3) ∧
(Ix Ax3 lx3 i ∧
(Wr w2 (ixA Ax3 i 1) ∧
∀ w3,w3=w2.setCell (ixA Ax3 i 1) (Value.int .i64 (x4-x3)) →
(In64 (i+1) ∧
∃ m2,m2<m1∧I2 m2 (i+1) w3)))))))) ∧
(¬(i<((lx2:Nat):Int)) →
(∃ J2:World→Prop,(∀ (w4:World),J2 w4→(∃ Ax4:Option Addr,∃ lx4:Nat,∃ cx4:Nat,w4.drew.cell? (Addr.add pd 3)=some (Value.slice Ax4 lx4 cx4) ∧
(∃ Ax5:Option Addr,∃ lx5:Nat,∃ cx5:Nat,w4.drew.cell? (Addr.add pd 4)=some (Value.slice Ax5 lx5 cx5) ∧
R Ax4 lx4 cx4 Ax5 lx5 cx5 0 w4.drew))) ∧
(∃ Ax6:Option Addr,∃ lx6:Nat,∃ cx6:Nat,w2.drew.cell? (Addr.add pd 3)=some (Value.slice Ax6 lx6 cx6) ∧
(∃ x5:Int,w2.drew.cell? (Addr.add (Addr.add pd 0) 0)=some (Value.int .i64 x5) ∧
(Calls Tryz.prog 85 #[(Value.slice Ax6 lx6 cx6),(Value.int .i64 x5)] w2.drew fun e w5=>∃ r2:Int,e = .returned (Value.int .i64 r2) ∧
((r2=0 →
(∃ Ax7:Option Addr,∃ lx7:Nat,∃ cx7:Nat,w5.cell? (Addr.add pd 4)=some (Value.slice Ax7 lx7 cx7) ∧
(∃ x6:Int,w5.cell? (Addr.add (Addr.add pd 0) 0)=some (Value.int .i64 x6) ∧
(Calls Tryz.prog 85 #[(Value.slice Ax7 lx7 cx7),(Value.int .i64 x6)] w5 fun e w6=>∃ r3:Int,e = .returned (Value.int .i64 r3) ∧
((r3=0 →
J2 w6) ∧
(¬(r3=0) →
R none 0 0 none 0 0 11 w6)))))) ∧
(¬(r2=0) →
R none 0 0 none 0 0 11 w5))))))))))))))) ∧
(¬(x=0) →
(∃ x7:Int,w.drew.cell? (Addr.add pd 5)=some (Value.int .i64 x7) ∧
R none 0 0 none 0 0 x7 w.drew))))
theorem ygc(pd:Addr)(w:World)(R:Option Addr→Nat→Nat→Option Addr→Nat→Nat→Int→World→Prop)(h:yct pd w R) :
    Calls Tryz.prog 166 #[(.pointer (some pd))] w fun e w'=>∃ Ar lr cr Ar2 lr2 cr2 r,e = .returned (.tuple #[(.slice Ar lr cr),(.slice Ar2 lr2 cr2),(ii r)])∧R Ar lr cr Ar2 lr2 cr2 r w':=by
  unfold yct at h;refine yap (l:=[(.pointer (some pd))]) func166 rfl ntmps166 zY (zs (zQ (.slice none 0 0) (zQ (.slice none 0 0) (zQ (ii 0) (yaa (yaf (zs (zM (.pointer (some pd)) (zq (ybU rfl) (zq (yan rfl underlying203 rfl yfv) ?_))))))))));obtain ⟨x,hc,h⟩:=h;refine zq (zl underlying30 hc) (zq zN (yaa ?_));by_cases hp:x=0
  · replace h:=h.1 hp;refine ze hp (yag (yaf (yaT [0,1,2,3,4,5,6,7,8,9,10] st0 yaD (by kernel_rfl) (by kernel_rfl) (zp (zm (.pointer (some pd))) (zp (ybU rfl) (zp (yan rfl underlying203 rfl ye8) ?_))))));obtain ⟨Ax,lx,cx,hc2,h⟩:=h;refine zp (zl underlying152 hc2) (zp (zm (.pointer (some pd))) (zp (ybU rfl) (zp (yan rfl underlying203 rfl yaj) ?_)));obtain ⟨x2,hc3,h⟩:=h;refine zp (zl underlying3 hc3) ?_;obtain ⟨hx,h⟩:=h;refine zp (zi underlying152 yaj hx) ?_;obtain ⟨x3,hc4,h⟩:=h;refine zp (zl underlying3 hc4) (zp (za (ii x3)) (yaZ (yaf (zs (zM (.pointer (some pd)) (zq (ybU rfl) (zq (yan rfl underlying203 rfl ye8) ?_)))))));obtain ⟨Ax2,lx2,cx2,hc5,h⟩:=h;refine zq (zl underlying152 hc5) (zq (yiB rfl underlying152) (zM (ii 0) (yaa (yai ?_))));obtain ⟨I2,⟨m0,h0⟩,hr⟩:=h;refine yaz (fun m E ds w'=>∃ i,I2 m i w'∧ds=[]∧E 0=(Value.pointer (some pd))∧E 5=(ii x3)∧E 30=(ii ((lx2:Nat):Int))∧E 31=(ii i)) m0 ⟨_,h0,rfl,rfl,rfl,rfl,rfl⟩ ?_;clear h0;rintro m1 E ds w2 ⟨i,h,rfl,hE0,hE5,hE30,hE31⟩ again;replace h:=hr m1 i w2 h;clear hr;refine zs (zq (ydj hE31 hE30) (yaa (yaf ?_)));by_cases hp2:i<((lx2:Nat):Int)
    · replace h:=h.1 hp2;refine zc hp2 (yag (yaf (yai (zs (zq (yad hE31) (zQ (ii i) (yaa (zr (zq (yad hE0) (zq (ybU rfl) (zq (yan rfl underlying203 rfl ye8) ?_)))))))))));obtain ⟨Ax3,lx3,cx3,hc6,h⟩:=h;refine zq (zl underlying152 hc6) (zM (ii i) ?_);obtain ⟨hx2,h⟩:=h;refine zq (zi underlying152 yaj hx2) ?_;obtain ⟨x4,hc7,h⟩:=h;refine zq (zl underlying3 hc7) (zq (yad hE5) ?_);obtain ⟨hi,h⟩:=h;refine zq (zS hi) ?_;obtain ⟨hx3,h⟩:=h;refine zq (zi underlying152 yaj hx3) ?_;obtain ⟨hw,h⟩:=h;refine zo (zt (ii (x4-x3)) yaj hw ?_);intro w3 ew;replace h:=h w3 ew;clear ew;refine zb (yaa (yah (zr ?_)));obtain ⟨hi2,h⟩:=h;refine zq (ybS hE31 rfl hi2) (zM (ii (i+1)) (yaa ?_));obtain ⟨mq,hlt,h⟩:=h;exact again mq _ _ _ ⟨_,h,rfl,hE0,hE5,hE30,rfl⟩ hlt
    · replace h:=h.2 hp2;refine zd hp2 (yax rfl (yaf (yaf ?_)));obtain ⟨J2,hJ,h⟩:=h;refine yc1 (fun E ds w'=>J2 w'∧ds=[]∧E 0=(Value.pointer (some pd))) ?_ ?_
      · rintro E ds w4 ⟨h,rfl,hE0⟩;replace h:=hJ w4 h;refine yaf (yaT [0,1,2,3,4,5,6,7,8,9,10] st0 yaD (by kernel_rfl) (by kernel_rfl) (zp (yad hE0) (zp (ybU rfl) (zp (yan rfl underlying203 rfl ycm) ?_))));obtain ⟨Ax4,lx4,cx4,hc8,h⟩:=h;refine zp (zl underlying43 hc8) (zp (yad hE0) (zp (ybU rfl) (zp (yan rfl underlying203 rfl ye8) ?_)));obtain ⟨Ax5,lx5,cx5,hc9,h⟩:=h;exact zp (zl underlying152 hc9) (zp (za (.slice Ax4 lx4 cx4)) (zp (za (.slice Ax5 lx5 cx5)) (zp (za (ii 0)) (yaZ (ybR rfl rfl rfl rfl ⟨_,_,_,_,_,_,_,rfl,h⟩)))))
      clear hJ;intro j;refine yaT [0,1,2,3,4,5,6,7,8,9,10,11,12,13,14,15,16,17,18,19,20,21,22,23] st0 yaD (by kernel_rfl) (by kernel_rfl) (zp (yad hE0) (zp (ybU rfl) (zp (yan rfl underlying203 rfl ycm) ?_)));obtain ⟨Ax6,lx6,cx6,hc10,h⟩:=h;refine zp (zl underlying43 hc10) (zp (yad hE0) (zp (ybU rfl) (zp (yan rfl underlying203 rfl yao) (zp (yan rfl underlying24 rfl yaj) ?_))));obtain ⟨x5,hc11,h⟩:=h;refine zp (zl underlying3 hc11) (rp_n rfl rfl rfl rfl (yam rfl (am2 rfl rfl) yiX (h.mono ?_)));rintro _ w5 ⟨r2,rfl,h⟩;refine ⟨_,rfl,Stb.none _,?_⟩;refine zp zN (zp (zm (.bool (!(decide (r2=0))))) ?_);by_cases hp3:r2=0
      · replace h:=h.1 hp3;refine rp_q (yae rfl (yac rfl (zC (zB (decide_eq_true hp3))))) rfl rfl (yad hE0) (rp_q (yae rfl (yac rfl (zC (zB (decide_eq_true hp3))))) rfl rfl (ybU rfl) (rp_q (yae rfl (yac rfl (zC (zB (decide_eq_true hp3))))) rfl rfl (yan rfl underlying203 rfl ye8) ?_));obtain ⟨Ax7,lx7,cx7,hc12,h⟩:=h;refine rp_q (yae rfl (yac rfl (zC (zB (decide_eq_true hp3))))) rfl rfl (zl underlying152 hc12) (rp_q (yae rfl (yac rfl (zC (zB (decide_eq_true hp3))))) rfl rfl (yad hE0) (rp_q (yae rfl (yac rfl (zC (zB (decide_eq_true hp3))))) rfl rfl (ybU rfl) (rp_q (yae rfl (yac rfl (zC (zB (decide_eq_true hp3))))) rfl rfl (yan rfl underlying203 rfl yao) (rp_q (yae rfl (yac rfl (zC (zB (decide_eq_true hp3))))) rfl rfl (yan rfl underlying24 rfl yaj) ?_))));obtain ⟨x6,hc13,h⟩:=h;refine rp_q (yae rfl (yac rfl (zC (zB (decide_eq_true hp3))))) rfl rfl (zl underlying3 hc13) (rp_n (yae rfl (yac rfl (zC (zB (decide_eq_true hp3))))) rfl rfl rfl (yam rfl (am2 rfl rfl) yiX (h.mono ?_)));rintro _ w6 ⟨r3,rfl,h⟩;refine ⟨_,rfl,Stb.none _,?_⟩;refine rp_q (yae rfl (yac rfl (zC (zB (decide_eq_true hp3))))) rfl rfl zN (zp (yal (v:=(.bool (!(decide (r3=0))))) (zC (zB (decide_eq_true hp3))) rfl) (yaZ ?_));by_cases hp4:r3=0
        · replace h:=h.1 hp4;exact ze hp4 (yag (j _ _ _ ⟨h,rfl,hE0⟩))
        · replace h:=h.2 hp4;exact zf hp4 (zs (zQ (.slice none 0 0) (zQ (.slice none 0 0) (zQ (ii 11) (yaa (ybR rfl rfl rfl rfl ⟨_,_,_,_,_,_,_,rfl,h⟩))))))
      · replace h:=h.2 hp3;exact rp_p (yab rfl (yac rfl (zC (zB (decide_eq_false hp3)))) rfl) rfl (rp_p (yab rfl (yac rfl (zC (zB (decide_eq_false hp3)))) rfl) rfl (rp_p (yab rfl (yac rfl (zC (zB (decide_eq_false hp3)))) rfl) rfl (rp_p (yab rfl (yac rfl (zC (zB (decide_eq_false hp3)))) rfl) rfl (rp_p (yab rfl (yac rfl (zC (zB (decide_eq_false hp3)))) rfl) rfl (rp_p (yab rfl (yac rfl (zC (zB (decide_eq_false hp3)))) rfl) rfl (rp_p (yab rfl (yac rfl (zC (zB (decide_eq_false hp3)))) rfl) rfl (rp_p (yab rfl (yac rfl (zC (zB (decide_eq_false hp3)))) rfl) rfl (rp_p (yab rfl (yac rfl (zC (zB (decide_eq_false hp3)))) rfl) rfl (rp_p (yab rfl (yac rfl (zC (zB (decide_eq_false hp3)))) rfl) rfl (rp_p (yab rfl (yac rfl (zC (zB (decide_eq_false hp3)))) rfl) rfl (zp (yas (v:=(.bool (true))) (zC (zB (decide_eq_false hp3))) rfl) (yaZ (yar rfl (zs (zQ (.slice none 0 0) (zQ (.slice none 0 0) (zQ (ii 11) (yaa (ybR rfl rfl rfl rfl ⟨_,_,_,_,_,_,_,rfl,h⟩)))))))))))))))))))
  · replace h:=h.2 hp;refine zf hp (yaf (yaT [0,1,2,3,4,5,6] st0 yaD (by kernel_rfl) (by kernel_rfl) (zp (zm (.pointer (some pd))) (zp (ybU rfl) (zp (yan rfl underlying203 rfl yfv) ?_)))));obtain ⟨x7,hc14,h⟩:=h;exact zp (zl underlying30 hc14) (zp (za (.slice none 0 0)) (zp (za (.slice none 0 0)) (zp (za (ii x7)) (yaZ (ybR rfl rfl rfl rfl ⟨_,_,_,_,_,_,_,rfl,h⟩)))))
def ycx(u:Int)(cap:Addr)(w:World)(R:Bool→World→Prop):Prop :=
(∃ Ax:Option Addr,∃ lx:Nat,∃ cx:Nat,w.cell? cap=some (Value.slice Ax lx cx) ∧
(Ix Ax lx u ∧
(∃ x:Bool,w.cell? (ixA Ax u 1)=some (Value.bool (x)) ∧
R x w)))
theorem ygb(u:Int)(cap:Addr)(w:World)(R:Bool→World→Prop)(h:ycx u cap w R) :
    Calls Tryz.prog 178 #[(ii u),(.pointer (some cap))] w fun e w'=>∃ r,e = .returned (.bool (r))∧R r w':=by
  unfold ycx at h;refine yap (l:=[(ii u),(.pointer (some cap))]) func178 rfl ntmps178 zY (zs (zQ (.bool (false)) (yaa (zs ?_))));obtain ⟨Ax,lx,cx,hc,h⟩:=h;refine zq (zl underlying160 hc) (zM (ii u) ?_);obtain ⟨hx,h⟩:=h;refine zq (zi underlying160 ydi hx) ?_;obtain ⟨x,hc2,h⟩:=h;exact zq (zl underlying4 hc2) (zQ (.bool (x)) (yaa (yak rfl rfl ⟨_,rfl,h⟩)))
def yb8(u:Int)(cap:Addr)(w:World)(R:Bool→World→Prop):Prop :=
(∃ Ax:Option Addr,∃ lx:Nat,∃ cx:Nat,w.cell? cap=some (Value.slice Ax lx cx) ∧
(Ix Ax lx u ∧
(∃ x:Bool,w.cell? (ixA Ax u 1)=some (Value.bool (x)) ∧
R (!(x)) w)))
theorem yfr(u:Int)(cap:Addr)(w:World)(R:Bool→World→Prop)(h:yb8 u cap w R) :
    Calls Tryz.prog 180 #[(ii u),(.pointer (some cap))] w fun e w'=>∃ r,e = .returned (.bool (r))∧R r w':=by
  unfold yb8 at h;refine yap (l:=[(ii u),(.pointer (some cap))]) func180 rfl ntmps180 zY (zs (zQ (.bool (false)) (yaa (zs ?_))));obtain ⟨Ax,lx,cx,hc,h⟩:=h;refine zq (zl underlying160 hc) (zM (ii u) ?_);obtain ⟨hx,h⟩:=h;refine zq (zi underlying160 ydi hx) ?_;obtain ⟨x,hc2,h⟩:=h;exact zq (zl underlying4 hc2) (zq (ycX rfl) (zQ (.bool (!(x))) (yaa (yak rfl rfl ⟨_,rfl,h⟩))))
def yc5(g:Int)(Ag:Option Addr)(lg:Nat)(cg:Nat)(q:Int)(Ad:Option Addr)(ld:Nat)(cd:Nat)(w:World)(R:Option Addr→Nat→Nat→Option Addr→Nat→Nat→Int→World→Prop):Prop :=
(∀ (g2:Nat) (w2:World),New w g2 w2 #[(Value.int .i64 g),(Value.slice Ag lg cg)] 24 →
(Calls Tryz.prog 162 #[(Value.agg #[(Value.int .i64 g),(Value.slice Ag lg cg)]),(Value.int .i64 q),(Value.slice Ad ld cd)] w2 fun e w3=>∃ r2:Int,e = .returned (Value.int .i64 r2) ∧
Kp w2 w3 g2 ∧
((r2=0 →
(Calls Tryz.prog 163 #[(Value.agg #[(Value.int .i64 g),(Value.slice Ag lg cg)]),(Value.int .i64 q),(Value.slice Ad ld cd)] w3 fun e w4=>∃ pr:Addr,e = .returned (Value.pointer (some pr)) ∧
Kp w3 w4 g2 ∧
(Calls Tryz.prog 164 #[(Value.pointer (some pr))] w4 fun e w5=>e = .returned (Value.tuple #[]) ∧
Kp w4 w5 g2 ∧
(Calls Tryz.prog 165 #[(Value.pointer (some pr))] w5 fun e w6=>e = .returned (Value.tuple #[]) ∧
Kp w5 w6 g2 ∧
(Calls Tryz.prog 166 #[(Value.pointer (some pr))] w6 fun e w7=>∃ Ar3:Option Addr,∃ lr3:Nat,∃ cr3:Nat,∃ Ar4:Option Addr,∃ lr4:Nat,∃ cr4:Nat,∃ r3:Int,e = .returned (Value.tuple #[(Value.slice Ar3 lr3 cr3),(Value.slice Ar4 lr4 cr4),(Value.int .i64 r3)]) ∧
Kp w6 w7 g2 ∧
R Ar3 lr3 cr3 Ar4 lr4 cr4 r3 w7))))) ∧
(¬(r2=0) →
R none 0 0 none 0 0 r2 w3))))
theorem yfQ(g:Int)(Ag:Option Addr)(lg:Nat)(cg:Nat)(q:Int)(Ad:Option Addr)(ld:Nat)(cd:Nat)(w:World)(R:Option Addr→Nat→Nat→Option Addr→Nat→Nat→Int→World→Prop)(h:yc5 g Ag lg cg q Ad ld cd w R) :
    Calls Tryz.prog 153 #[(.agg #[(ii g),(.slice Ag lg cg)]),(ii q),(.slice Ad ld cd)] w fun e w'=>∃ Ar lr cr Ar2 lr2 cr2 r,e = .returned (.tuple #[(.slice Ar lr cr),(.slice Ar2 lr2 cr2),(ii r)])∧R Ar lr cr Ar2 lr2 cr2 r w':=by
  unfold yc5 at h;refine yap (l:=[(.agg #[(ii g),(.slice Ag lg cg)]),(ii q),(.slice Ad ld cd)]) func153 rfl ntmps153 zY (zs (zn (ya8 (v:=(.agg #[(ii g),(.slice Ag lg cg)])) rfl ?_)));intro g2 w2 hN;replace h:=h g2 w2 hN;have rB:Row w2 g2 24 2 [(ii g),(.slice Ag lg cg)]:=hN.row;clear hN;refine zb (zQ (.slice none 0 0) (zQ (.slice none 0 0) (zQ (ii 0) (yaa (yaf (zs (zq (yaq (vs:=[(ii g),(.slice Ag lg cg)]) rfl underlying24 rfl yao ⟨Row.cell rB (i:=0) rfl,Row.cell rB (i:=1) rfl,trivial⟩) (zM (ii q) (zM (.slice Ad ld cd) (zn (yam rfl (am3 rfl rfl rfl) enter_162 (h.mono ?_))))))))))));rintro _ w3 ⟨r2,rfl,hk,h⟩;replace rB:=rB.kp hk;refine ⟨_,rfl,Stb.none _,?_⟩;refine zQ (ii r2) (yaa (zs (zM (ii r2) (zq zN (yaa ?_)))));by_cases hp:r2=0
  · replace h:=h.1 hp;refine ze hp (yag (zs (zq (yaq (vs:=[(ii g),(.slice Ag lg cg)]) rfl underlying24 rfl yao ⟨Row.cell rB (i:=0) rfl,Row.cell rB (i:=1) rfl,trivial⟩) (zM (ii q) (zM (.slice Ad ld cd) (zn (yam rfl (am3 rfl rfl rfl) enter_163 (h.mono ?_))))))));rintro _ w4 ⟨pr,rfl,hk2,h⟩;replace rB:=rB.kp hk2;refine ⟨_,rfl,Stb.none _,?_⟩;refine zQ (.pointer (some pr)) (yaa (zs (zM (.pointer (some pr)) (zn (yam rfl (am1 rfl) enter_164 (h.mono ?_))))));rintro _ w5 ⟨rfl,hk3,h⟩;replace rB:=rB.kp hk3;refine ⟨_,rfl,Stb.none _,?_⟩;refine yaa (zs (zM (.pointer (some pr)) (zn (yam rfl (am1 rfl) enter_165 (h.mono ?_)))));rintro _ w6 ⟨rfl,hk4,h⟩;replace rB:=rB.kp hk4;refine ⟨_,rfl,Stb.none _,?_⟩;refine yaa (zs (zM (.pointer (some pr)) (zn (yam rfl (am1 rfl) enter_166 (h.mono ?_)))));rintro _ w7 ⟨Ar3,lr3,cr3,Ar4,lr4,cr4,r3,rfl,hk5,h⟩;replace rB:=rB.kp hk5;refine ⟨_,rfl,Stb.none _,?_⟩;exact zq (zx (.slice Ar3 lr3 cr3)) (zq (zx (.slice Ar4 lr4 cr4)) (zq (zx (ii r3)) (zQ (.slice Ar3 lr3 cr3) (zQ (.slice Ar4 lr4 cr4) (zQ (ii r3) (yaa (ybR rfl rfl rfl rfl ⟨_,_,_,_,_,_,_,rfl,h⟩)))))))
  · replace h:=h.2 hp;exact zf hp (zs (zM (ii r2) (zQ (.slice none 0 0) (zQ (.slice none 0 0) (zQ (ii r2) (yaa (ybR rfl rfl rfl rfl ⟨_,_,_,_,_,_,_,rfl,h⟩)))))))
def yfq(Ax:Option Addr)(lx:Nat)(cx:Nat)(w:World)(R:Int→World→Prop):Prop :=
(∃ J2:World→Prop,(∀ (w2:World),J2 w2→(Ix Ax lx 0 ∧
(∃ x:Int,w2.cell? (ixA Ax 0 1)=some (Value.int .i64 x) ∧
(∃ I2:Nat→Int→Int→World→Prop,(∃ m0,I2 m0 x 1 w2)∧∀ m1 m2 i w3,I2 m1 m2 i w3 → 
((i<((lx:Nat):Int) →
(Ix Ax lx i ∧
(∃ x2:Int,w3.cell? (ixA Ax i 1)=some (Value.int .i64 x2) ∧
(In64 (i+1) ∧
∃ m3,m3<m1∧I2 m3 (mxF m2 x2) (i+1) w3)))) ∧
(¬(i<((lx:Nat):Int)) →
R m2 w3)))))) ∧
((((lx:Nat):Int)<1 →
False) ∧
(¬(((lx:Nat):Int)<1) →
J2 w)))
theorem ok_slices_Max_ (Ax:Option Addr)(lx:Nat)(cx:Nat)(w:World)(R:Int→World→Prop)(h:yfq Ax lx cx w R) :
    Calls Tryz.prog 176 #[(.slice Ax lx cx)] w fun e w'=>∃ r,e = .returned (ii r)∧R r w':=by
  unfold yfq at h;refine yap (l:=[(.slice Ax lx cx)]) func176 rfl ntmps176 zY (zs (zQ (ii 0) (yaa (yaf (zs (zM (.slice Ax lx cx) (zq (yiB rfl underlying29) (zq zL (yaa ?_)))))))));obtain ⟨J2,hJ,h⟩:=h;refine yi2 (fun E ds w'=>J2 w'∧ds=[]∧E 0=(Value.slice Ax lx cx)) ?_ ?_
  · rintro E ds w2 ⟨h,rfl,hE0⟩;replace h:=hJ w2 h;refine zs (zq (yad hE0) ?_);obtain ⟨hx,h⟩:=h;refine zq (zi underlying29 yaj hx) ?_;obtain ⟨x,hc,h⟩:=h;refine zq (zl underlying3 hc) (zQ (ii x) (yaa (yaf (zs (zQ (ii 1) (yaa (yai ?_)))))));obtain ⟨I2,⟨m0,h0⟩,hr⟩:=h;refine yaz (fun m E ds w'=>∃ m2 i,I2 m m2 i w'∧ds=[]∧E 0=(Value.slice Ax lx cx)∧E 3=(ii m2)∧E 4=(ii i)) m0 ⟨_,_,h0,rfl,hE0,rfl,rfl⟩ ?_;clear h0;rintro m1 E ds w3 ⟨m2,i,h,rfl,hE0,hE3,hE4⟩ again;replace h:=hr m1 m2 i w3 h;clear hr;refine yaf (zs (zq (yad hE4) (zq (yad hE0) (zq (yiB rfl underlying29) (zq zL (yaa ?_))))));by_cases hp:i<((lx:Nat):Int)
    · replace h:=h.1 hp;refine zc hp (yag (yaf (yai (zr (zq (yad hE3) (zq (yad hE0) (zq (yad hE4) ?_)))))));obtain ⟨hx2,h⟩:=h;refine zq (zi underlying29 yaj hx2) ?_;obtain ⟨x2,hc2,h⟩:=h;refine zq (zl underlying3 hc2) (zq (v_max2 rfl rfl) (zQ (ii (mxF m2 x2)) (yaa (yah (zr (zq (yad hE4) ?_))))));obtain ⟨hi,h⟩:=h;refine zq (zA hi) (zQ (ii (i+1)) (yaa ?_));obtain ⟨mq,hlt,h⟩:=h;exact again mq _ _ _ ⟨_,_,h,rfl,hE0,rfl,rfl⟩ hlt
    · replace h:=h.2 hp;exact zd hp (yax rfl (zs (zq (yad hE3) (zQ (ii m2) (yaa (yak rfl rfl ⟨_,rfl,h⟩))))))
  clear hJ;intro j;by_cases hp2:((lx:Nat):Int)<1
  · replace h:=h.1 hp2;exact zc hp2 (zr h.elim)
  · replace h:=h.2 hp2;exact zd hp2 (yag (j _ _ _ ⟨h,rfl,rfl⟩))
end Go.Proofs.YtadpnlimiblniaaGreat

/- Shallow forms of functions, made by program (sh.py), each with the proof that the code does so. -/
namespace Go.Proofs.YtadpnlimiblniaaGreat
open Go Go.RowKit Go.Shelf Go.Proofs.Tryz
set_option maxRecDepth 100000
set_option maxHeartbeats 8000000
def yd2(Ax:Option Addr)(lx:Nat)(cx:Nat)(count:Int)(w:World)(R:Option Addr→Nat→Nat→World→Prop):Prop :=
(∃ J2:World→Prop,(∀ (w2:World),J2 w2→(InK .u64 ((lx:Nat):Int) ∧
(InK .u64 count ∧
(Calls Tryz.prog 199 #[(Value.int .u64 ((lx:Nat):Int)),(Value.int .u64 count)] w2 fun e w3=>∃ r:Int,∃ r2:Int,e = .returned (Value.tuple #[(Value.int .u64 r),(Value.int .u64 r2)]) ∧
(∃ J3:World→Prop,(∀ (w4:World),J3 w4→(In64 r2 ∧
((0≤r2∧r2≤1000000) ∧
∀ (g:Nat) (w5:World),New w4 g w5 (Array.replicate r2.toNat (Value.int .i64 0)) 3 →
(∃ (bl o:Nat) (ad:Addr) (nw:List Value),((some ⟨g,0,none⟩):Option Addr)=some ⟨bl,o,none⟩∧Ax=some ad∧nw.length=min lx r2.toNat∧(∀ j u,nw[j]? = some u→w5.cell? (ad.add j)=some u)∧(∀ u∈nw,u.oneCell'=true)∧w5.there bl o nw.length ∧
∀ w6,w6=w5.setCells bl o nw →
(∃ I2:Nat→Int→World→Prop,(∃ m0,I2 m0 ((min lx r2.toNat:Nat):Int) w6)∧∀ m1 n w7,I2 m1 n w7 → 
((n<((r2.toNat:Nat):Int) →
((0≤n∧n≤((r2.toNat:Nat):Int)) ∧
((0≤n∧n≤((r2.toNat:Nat):Int)) ∧
(∃ (bl2 o2:Nat) (ad2:Addr) (nw2:List Value),((slA (some ⟨g,0,none⟩) r2.toNat n.toNat 1):Option Addr)=some ⟨bl2,o2,none⟩∧(some ⟨g,0,none⟩)=some ad2∧nw2.length=min (n.toNat) (r2.toNat-n.toNat)∧(∀ j u,nw2[j]? = some u→w7.drew.cell? (ad2.add j)=some u)∧(∀ u∈nw2,u.oneCell'=true)∧w7.drew.there bl2 o2 nw2.length ∧
∀ w8,w8=w7.drew.setCells bl2 o2 nw2 →
(In64 (n+((min (n.toNat) (r2.toNat-n.toNat):Nat):Int)) ∧
∃ m2,m2<m1∧I2 m2 (n+((min (n.toNat) (r2.toNat-n.toNat):Nat):Int)) w8))))) ∧
(¬(n<((r2.toNat:Nat):Int)) →
R (some ⟨g,0,none⟩) r2.toNat r2.toNat w7))))))) ∧
((0<r →
False) ∧
(¬(0<r) →
((9223372036854775807<r2 →
False) ∧
(¬(9223372036854775807<r2) →
J3 w3))))))))) ∧
((count<0 →
False) ∧
(¬(count<0) →
J2 w)))
theorem yh9(Ax:Option Addr)(lx:Nat)(cx:Nat)(count:Int)(w:World)(R:Option Addr→Nat→Nat→World→Prop)(h:yd2 Ax lx cx count w R) :
    Calls Tryz.prog 191 #[(.slice Ax lx cx),(ii count)] w fun e w'=>∃ Ar lr cr,e = .returned (.slice Ar lr cr)∧R Ar lr cr w':=by
  unfold yd2 at h;refine yap (l:=[(.slice Ax lx cx),(ii count)]) func191 rfl ntmps191 zY (zs (zQ (.slice none 0 0) (yaa (yaf (zs (zM (ii count) (zq zL (yaa ?_))))))));obtain ⟨J2,hJ,h⟩:=h;refine yi2 (fun E ds w'=>J2 w'∧ds=[]∧E 0=(Value.slice Ax lx cx)∧E 1=(ii count)) ?_ ?_
  · rintro E ds w2 ⟨h,rfl,hE0,hE1⟩;replace h:=hJ w2 h;refine zs (zq (yad hE0) (zq (yiB rfl underlying29) ?_));obtain ⟨hi,h⟩:=h;refine zq (v_convk rfl underlying3 underlying201 hi) (zq (yad hE1) ?_);obtain ⟨hi2,h⟩:=h;refine zq (v_convk rfl underlying3 underlying201 hi2) (zn (yam rfl (am2 rfl rfl) enter_199 (h.mono ?_)));rintro _ w3 ⟨r,r2,rfl,h⟩;refine ⟨_,rfl,Stb.none _,?_⟩;refine zM (.tuple #[(.int .u64 r),(.int .u64 r2)]) (zq (zx (.int .u64 r)) (zq (zx (.int .u64 r2)) (zQ (.int .u64 r) (zQ (.int .u64 r2) (yaa (yaf (yaf ?_)))))));obtain ⟨J3,hJ,h⟩:=h;refine yc1 (fun E ds w'=>J3 w'∧ds=[]∧E 0=(Value.slice Ax lx cx)∧E 6=(Value.int .u64 r2)) ?_ ?_
    · rintro E ds w4 ⟨h,rfl,hE0,hE6⟩;replace h:=hJ w4 h;refine zs (zq (yad hE6) ?_);obtain ⟨hi3,h⟩:=h;refine zq (v_conv rfl underlying201 underlying3 hi3) ?_;obtain ⟨hn,h⟩:=h;refine zn (ykw rfl rfl underlying29 yaj (by decide) rfl hn ?_);intro g w5 hN;replace h:=h g w5 hN;clear hN;refine zb (zQ (.slice (some ⟨g,0,none⟩) r2.toNat r2.toNat) (yaa (zs (zM (.slice (some ⟨g,0,none⟩) r2.toNat r2.toNat) (zq (yad hE0) ?_)))));obtain ⟨bl,o,ad,nw,q1,q2,q3,q4,q5,q6,h⟩:=h;refine zn (n_copy rfl rfl underlying29 yaj ⟨bl,o,ad,nw,q1,q2,q3,q4,q5,q6,?_⟩);intro w6 ew;replace h:=h w6 ew;clear ew q1 q2 q3 q4 q5 q6;refine zb (zQ (ii ((min lx r2.toNat:Nat):Int)) (yaa (yaf (yai ?_))));obtain ⟨I2,⟨m0,h0⟩,hr⟩:=h;refine yaz (fun m E ds w'=>∃ n,I2 m n w'∧ds=[]∧E 7=(Value.slice (some ⟨g,0,none⟩) r2.toNat r2.toNat)∧E 8=(ii n)) m0 ⟨_,h0,rfl,rfl,rfl⟩ ?_;clear h0;rintro m1 E ds w7 ⟨n,h,rfl,hE7,hE8⟩ again;replace h:=hr m1 n w7 h;clear hr;refine yaf (zs (zq (yad hE8) (zq (yad hE7) (zq (yiB rfl underlying29) (zq zL (yaa ?_))))));by_cases hp:n<((r2.toNat:Nat):Int)
      · replace h:=h.1 hp;refine zc hp (yag (yai (yaT [0,1,2,3,4,5,6,7,8,9] (fun i=>match i with | 7=>[0] | _=>[]) yaD (by kernel_rfl) (by kernel_rfl) ?_)));refine zp (yad hE8) (zp (yad hE7) (zp (yad hE8) ?_));obtain ⟨hs,h⟩:=h;refine zp (v_slice_l rfl rfl underlying29 yaj hs) (zp (yad hE7) (zp (yad hE8) ?_));obtain ⟨hs2,h⟩:=h;refine zp (ykR rfl rfl underlying29 yaj hs2) ?_;obtain ⟨bl2,o2,ad2,nw2,q1,q2,q3,q4,q5,q6,h⟩:=h;refine rp_n rfl rfl rfl rfl (n_copy rfl rfl underlying29 yaj ⟨bl2,o2,ad2,nw2,q1,q2,q3,q4,q5,q6,?_⟩);intro w8 ew2;replace h:=h w8 ew2;clear ew2 q1 q2 q3 q4 q5 q6;refine ⟨⟨fun hh=>zZ hh,⟨fun hh=>zZ hh,⟨fun hh=>zZ hh,⟨fun hh=>zZ hh,⟨fun hh=>zZ hh,⟨fun hh=>zZ hh,⟨fun _=>(yad hE8),trivial⟩⟩⟩⟩⟩⟩⟩,?_⟩;obtain ⟨hi4,h⟩:=h;refine zp (zA hi4) (zp (za (ii (n+((min (n.toNat) (r2.toNat-n.toNat):Nat):Int)))) (yaZ (yah ?_)));obtain ⟨mq,hlt,h⟩:=h;exact again mq _ _ _ ⟨_,h,rfl,hE7,rfl⟩ hlt
      · replace h:=h.2 hp;exact zd hp (yax rfl (zs (zq (yad hE7) (zQ (.slice (some ⟨g,0,none⟩) r2.toNat r2.toNat) (yaa (yak rfl rfl ⟨_,_,_,rfl,h⟩))))))
    clear hJ;intro j2;refine zr (zM (.int .u64 r) (zq zG (zM (.bool (decide (0<r))) ?_)));by_cases hp2:0<r
    · replace h:=h.1 hp2;exact zV rfl rfl (zT hp2) (zV rfl rfl (zT hp2) (zq (yas (v:=(.bool (true))) (zT hp2) rfl) (yaa (yar rfl (zr h.elim)))))
    · replace h:=h.2 hp2;refine zW rfl rfl (zF hp2) (zm (.int .u64 r2)) (zW rfl rfl (zF hp2) zG (zq (yal (v:=(.bool (decide (9223372036854775807<r2)))) (zF hp2) rfl) (yaa ?_)));by_cases hp3:9223372036854775807<r2
      · replace h:=h.1 hp3;exact zc hp3 (zr h.elim)
      · replace h:=h.2 hp3;exact zd hp3 (yag (j2 _ _ _ ⟨h,rfl,hE0,rfl⟩))
  clear hJ;intro j;by_cases hp4:count<0
  · replace h:=h.1 hp4;exact zc hp4 (zr h.elim)
  · replace h:=h.2 hp4;exact zd hp4 (yag (j _ _ _ ⟨h,rfl,rfl,rfl⟩))
def yeq(x:Int)(y:Int)(w:World)(R:Int→Int→World→Prop):Prop :=
(Calls Tryz.prog 203 #[(Value.int .u64 x),(Value.int .u64 y)] w fun e w2=>∃ r3:Int,∃ r4:Int,e = .returned (Value.tuple #[(Value.int .u64 r3),(Value.int .u64 r4)]) ∧
R r3 r4 w2)
theorem yiG(x:Int)(y:Int)(w:World)(R:Int→Int→World→Prop)(h:yeq x y w R) :
    Calls Tryz.prog 199 #[(.int .u64 x),(.int .u64 y)] w fun e w'=>∃ r r2,e = .returned (.tuple #[(.int .u64 r),(.int .u64 r2)])∧R r r2 w':=by
  unfold yeq at h;refine yap (l:=[(.int .u64 x),(.int .u64 y)]) func199 rfl ntmps199 zY (zs (zQ (.int .u64 0) (zQ (.int .u64 0) (yaa (yaf (yat rfl (yag (zs (zM (.int .u64 x) (zM (.int .u64 y) (zn (yam rfl (am2 rfl rfl) enter_203 (h.mono ?_)))))))))))));rintro _ w2 ⟨r3,r4,rfl,h⟩;refine ⟨_,rfl,Stb.none _,?_⟩;exact zM (.tuple #[(.int .u64 r3),(.int .u64 r4)]) (zq (zx (.int .u64 r3)) (zq (zx (.int .u64 r4)) (zQ (.int .u64 r3) (zQ (.int .u64 r4) (yaa (zs (zM (.int .u64 r3) (zM (.int .u64 r4) (zQ (.int .u64 r3) (zQ (.int .u64 r4) (yaa (yaG rfl rfl rfl ⟨_,_,rfl,h⟩))))))))))))
def ydN(x:Int)(y:Int)(w:World)(R:Int→Int→World→Prop):Prop :=
((0≤x∧x<18446744073709551616∧0≤(4294967295:Int)∧(4294967295:Int)<18446744073709551616) ∧
((0≤(32:Int)∧(32:Int)<64) ∧
((0≤y∧y<18446744073709551616∧0≤(4294967295:Int)∧(4294967295:Int)<18446744073709551616) ∧
((0≤(32:Int)∧(32:Int)<64) ∧
(InK .u64 (((x.toNat &&& (4294967295:Int).toNat:Nat):Int)*((y.toNat &&& (4294967295:Int).toNat:Nat):Int)) ∧
(InK .u64 ((x / 2^(32:Int).toNat)*((y.toNat &&& (4294967295:Int).toNat:Nat):Int)) ∧
((0≤(32:Int)∧(32:Int)<64) ∧
(InK .u64 (((x / 2^(32:Int).toNat)*((y.toNat &&& (4294967295:Int).toNat:Nat):Int))+((((x.toNat &&& (4294967295:Int).toNat:Nat):Int)*((y.toNat &&& (4294967295:Int).toNat:Nat):Int)) / 2^(32:Int).toNat)) ∧
((0≤(((x / 2^(32:Int).toNat)*((y.toNat &&& (4294967295:Int).toNat:Nat):Int))+((((x.toNat &&& (4294967295:Int).toNat:Nat):Int)*((y.toNat &&& (4294967295:Int).toNat:Nat):Int)) / 2^(32:Int).toNat))∧(((x / 2^(32:Int).toNat)*((y.toNat &&& (4294967295:Int).toNat:Nat):Int))+((((x.toNat &&& (4294967295:Int).toNat:Nat):Int)*((y.toNat &&& (4294967295:Int).toNat:Nat):Int)) / 2^(32:Int).toNat))<18446744073709551616∧0≤(4294967295:Int)∧(4294967295:Int)<18446744073709551616) ∧
((0≤(32:Int)∧(32:Int)<64) ∧
(InK .u64 (((x.toNat &&& (4294967295:Int).toNat:Nat):Int)*(y / 2^(32:Int).toNat)) ∧
(InK .u64 ((((((x / 2^(32:Int).toNat)*((y.toNat &&& (4294967295:Int).toNat:Nat):Int))+((((x.toNat &&& (4294967295:Int).toNat:Nat):Int)*((y.toNat &&& (4294967295:Int).toNat:Nat):Int)) / 2^(32:Int).toNat)).toNat &&& (4294967295:Int).toNat:Nat):Int)+(((x.toNat &&& (4294967295:Int).toNat:Nat):Int)*(y / 2^(32:Int).toNat))) ∧
(InK .u64 ((x / 2^(32:Int).toNat)*(y / 2^(32:Int).toNat)) ∧
(InK .u64 (((x / 2^(32:Int).toNat)*(y / 2^(32:Int).toNat))+((((x / 2^(32:Int).toNat)*((y.toNat &&& (4294967295:Int).toNat:Nat):Int))+((((x.toNat &&& (4294967295:Int).toNat:Nat):Int)*((y.toNat &&& (4294967295:Int).toNat:Nat):Int)) / 2^(32:Int).toNat)) / 2^(32:Int).toNat)) ∧
((0≤(32:Int)∧(32:Int)<64) ∧
(InK .u64 ((((x / 2^(32:Int).toNat)*(y / 2^(32:Int).toNat))+((((x / 2^(32:Int).toNat)*((y.toNat &&& (4294967295:Int).toNat:Nat):Int))+((((x.toNat &&& (4294967295:Int).toNat:Nat):Int)*((y.toNat &&& (4294967295:Int).toNat:Nat):Int)) / 2^(32:Int).toNat)) / 2^(32:Int).toNat))+(((((((x / 2^(32:Int).toNat)*((y.toNat &&& (4294967295:Int).toNat:Nat):Int))+((((x.toNat &&& (4294967295:Int).toNat:Nat):Int)*((y.toNat &&& (4294967295:Int).toNat:Nat):Int)) / 2^(32:Int).toNat)).toNat &&& (4294967295:Int).toNat:Nat):Int)+(((x.toNat &&& (4294967295:Int).toNat:Nat):Int)*(y / 2^(32:Int).toNat))) / 2^(32:Int).toNat)) ∧
(InK .u64 (x*y) ∧
R ((((x / 2^(32:Int).toNat)*(y / 2^(32:Int).toNat))+((((x / 2^(32:Int).toNat)*((y.toNat &&& (4294967295:Int).toNat:Nat):Int))+((((x.toNat &&& (4294967295:Int).toNat:Nat):Int)*((y.toNat &&& (4294967295:Int).toNat:Nat):Int)) / 2^(32:Int).toNat)) / 2^(32:Int).toNat))+(((((((x / 2^(32:Int).toNat)*((y.toNat &&& (4294967295:Int).toNat:Nat):Int))+((((x.toNat &&& (4294967295:Int).toNat:Nat):Int)*((y.toNat &&& (4294967295:Int).toNat:Nat):Int)) / 2^(32:Int).toNat)).toNat &&& (4294967295:Int).toNat:Nat):Int)+(((x.toNat &&& (4294967295:Int).toNat:Nat):Int)*(y / 2^(32:Int).toNat))) / 2^(32:Int).toNat)) (x*y) w)))))))))))))))))
theorem yhL(x:Int)(y:Int)(w:World)(R:Int→Int→World→Prop)(h:ydN x y w R) :
    Calls Tryz.prog 203 #[(.int .u64 x),(.int .u64 y)] w fun e w'=>∃ r r2,e = .returned (.tuple #[(.int .u64 r),(.int .u64 r2)])∧R r r2 w':=by
  unfold ydN at h;refine yap (l:=[(.int .u64 x),(.int .u64 y)]) func203 rfl ntmps203 zY (zs (zQ (.int .u64 0) (zQ (.int .u64 0) (yaa (zs (zM (.int .u64 x) ?_))))));obtain ⟨hz,h⟩:=h;refine zq (v_andu rfl rfl hz) (zQ (.int .u64 ((x.toNat &&& (4294967295:Int).toNat:Nat):Int)) (yaa (zs (zM (.int .u64 x) ?_))));obtain ⟨hz2,h⟩:=h;refine zq (v_shru rfl rfl hz2) (zQ (.int .u64 (x / 2^(32:Int).toNat)) (yaa (zs (zM (.int .u64 y) ?_))));obtain ⟨hz3,h⟩:=h;refine zq (v_andu rfl rfl hz3) (zQ (.int .u64 ((y.toNat &&& (4294967295:Int).toNat:Nat):Int)) (yaa (zs (zM (.int .u64 y) ?_))));obtain ⟨hz4,h⟩:=h;refine zq (v_shru rfl rfl hz4) (zQ (.int .u64 (y / 2^(32:Int).toNat)) (yaa (zs (zM (.int .u64 ((x.toNat &&& (4294967295:Int).toNat:Nat):Int)) (zM (.int .u64 ((y.toNat &&& (4294967295:Int).toNat:Nat):Int)) ?_)))));obtain ⟨hi,h⟩:=h;refine zq (v_mulk rfl rfl hi) (zQ (.int .u64 (((x.toNat &&& (4294967295:Int).toNat:Nat):Int)*((y.toNat &&& (4294967295:Int).toNat:Nat):Int))) (yaa (zs (zM (.int .u64 (x / 2^(32:Int).toNat)) (zM (.int .u64 ((y.toNat &&& (4294967295:Int).toNat:Nat):Int)) ?_)))));obtain ⟨hi2,h⟩:=h;refine zq (v_mulk rfl rfl hi2) (zM (.int .u64 (((x.toNat &&& (4294967295:Int).toNat:Nat):Int)*((y.toNat &&& (4294967295:Int).toNat:Nat):Int))) ?_);obtain ⟨hz5,h⟩:=h;refine zq (v_shru rfl rfl hz5) ?_;obtain ⟨hi3,h⟩:=h;refine zq (v_addk rfl rfl hi3) (zQ (.int .u64 (((x / 2^(32:Int).toNat)*((y.toNat &&& (4294967295:Int).toNat:Nat):Int))+((((x.toNat &&& (4294967295:Int).toNat:Nat):Int)*((y.toNat &&& (4294967295:Int).toNat:Nat):Int)) / 2^(32:Int).toNat))) (yaa (zs (zM (.int .u64 (((x / 2^(32:Int).toNat)*((y.toNat &&& (4294967295:Int).toNat:Nat):Int))+((((x.toNat &&& (4294967295:Int).toNat:Nat):Int)*((y.toNat &&& (4294967295:Int).toNat:Nat):Int)) / 2^(32:Int).toNat))) ?_))));obtain ⟨hz6,h⟩:=h;refine zq (v_andu rfl rfl hz6) (zQ (.int .u64 (((((x / 2^(32:Int).toNat)*((y.toNat &&& (4294967295:Int).toNat:Nat):Int))+((((x.toNat &&& (4294967295:Int).toNat:Nat):Int)*((y.toNat &&& (4294967295:Int).toNat:Nat):Int)) / 2^(32:Int).toNat)).toNat &&& (4294967295:Int).toNat:Nat):Int)) (yaa (zs (zM (.int .u64 (((x / 2^(32:Int).toNat)*((y.toNat &&& (4294967295:Int).toNat:Nat):Int))+((((x.toNat &&& (4294967295:Int).toNat:Nat):Int)*((y.toNat &&& (4294967295:Int).toNat:Nat):Int)) / 2^(32:Int).toNat))) ?_))));obtain ⟨hz7,h⟩:=h;refine zq (v_shru rfl rfl hz7) (zQ (.int .u64 ((((x / 2^(32:Int).toNat)*((y.toNat &&& (4294967295:Int).toNat:Nat):Int))+((((x.toNat &&& (4294967295:Int).toNat:Nat):Int)*((y.toNat &&& (4294967295:Int).toNat:Nat):Int)) / 2^(32:Int).toNat)) / 2^(32:Int).toNat)) (yaa (zs (zM (.int .u64 (((((x / 2^(32:Int).toNat)*((y.toNat &&& (4294967295:Int).toNat:Nat):Int))+((((x.toNat &&& (4294967295:Int).toNat:Nat):Int)*((y.toNat &&& (4294967295:Int).toNat:Nat):Int)) / 2^(32:Int).toNat)).toNat &&& (4294967295:Int).toNat:Nat):Int)) (zM (.int .u64 ((x.toNat &&& (4294967295:Int).toNat:Nat):Int)) (zM (.int .u64 (y / 2^(32:Int).toNat)) ?_))))));obtain ⟨hi4,h⟩:=h;refine zq (v_mulk rfl rfl hi4) ?_;obtain ⟨hi5,h⟩:=h;refine zq (v_addk rfl rfl hi5) (zQ (.int .u64 ((((((x / 2^(32:Int).toNat)*((y.toNat &&& (4294967295:Int).toNat:Nat):Int))+((((x.toNat &&& (4294967295:Int).toNat:Nat):Int)*((y.toNat &&& (4294967295:Int).toNat:Nat):Int)) / 2^(32:Int).toNat)).toNat &&& (4294967295:Int).toNat:Nat):Int)+(((x.toNat &&& (4294967295:Int).toNat:Nat):Int)*(y / 2^(32:Int).toNat)))) (yaa (zs (zM (.int .u64 (x / 2^(32:Int).toNat)) (zM (.int .u64 (y / 2^(32:Int).toNat)) ?_)))));obtain ⟨hi6,h⟩:=h;refine zq (v_mulk rfl rfl hi6) (zM (.int .u64 ((((x / 2^(32:Int).toNat)*((y.toNat &&& (4294967295:Int).toNat:Nat):Int))+((((x.toNat &&& (4294967295:Int).toNat:Nat):Int)*((y.toNat &&& (4294967295:Int).toNat:Nat):Int)) / 2^(32:Int).toNat)) / 2^(32:Int).toNat)) ?_);obtain ⟨hi7,h⟩:=h;refine zq (v_addk rfl rfl hi7) (zM (.int .u64 ((((((x / 2^(32:Int).toNat)*((y.toNat &&& (4294967295:Int).toNat:Nat):Int))+((((x.toNat &&& (4294967295:Int).toNat:Nat):Int)*((y.toNat &&& (4294967295:Int).toNat:Nat):Int)) / 2^(32:Int).toNat)).toNat &&& (4294967295:Int).toNat:Nat):Int)+(((x.toNat &&& (4294967295:Int).toNat:Nat):Int)*(y / 2^(32:Int).toNat)))) ?_);obtain ⟨hz8,h⟩:=h;refine zq (v_shru rfl rfl hz8) ?_;obtain ⟨hi8,h⟩:=h;refine zq (v_addk rfl rfl hi8) (zQ (.int .u64 ((((x / 2^(32:Int).toNat)*(y / 2^(32:Int).toNat))+((((x / 2^(32:Int).toNat)*((y.toNat &&& (4294967295:Int).toNat:Nat):Int))+((((x.toNat &&& (4294967295:Int).toNat:Nat):Int)*((y.toNat &&& (4294967295:Int).toNat:Nat):Int)) / 2^(32:Int).toNat)) / 2^(32:Int).toNat))+(((((((x / 2^(32:Int).toNat)*((y.toNat &&& (4294967295:Int).toNat:Nat):Int))+((((x.toNat &&& (4294967295:Int).toNat:Nat):Int)*((y.toNat &&& (4294967295:Int).toNat:Nat):Int)) / 2^(32:Int).toNat)).toNat &&& (4294967295:Int).toNat:Nat):Int)+(((x.toNat &&& (4294967295:Int).toNat:Nat):Int)*(y / 2^(32:Int).toNat))) / 2^(32:Int).toNat))) (yaa (zs (zM (.int .u64 x) (zM (.int .u64 y) ?_)))));obtain ⟨hi9,h⟩:=h;exact zq (v_mulk rfl rfl hi9) (zQ (.int .u64 (x*y)) (yaa (yaG rfl rfl rfl ⟨_,_,rfl,h⟩)))
end Go.Proofs.YtadpnlimiblniaaGreat

/- The contracts of slices.Repeat at one number, of bits.Mul at small numbers, of slices.Max. -/
namespace Go.Proofs.YtadpnlimiblniaaGreat
open Go Go.RowKit Go.Shelf Go.Proofs.Tryz
set_option maxRecDepth 100000
set_option maxHeartbeats 8000000
theorem inU64{a:Int}(h0:0≤a)(h1:a<18446744073709551616):InK .u64 a:=by
  unfold InK IntKind.wrap
  simp [IntKind.bits,IntKind.signed]
  omega
theorem and32{x:Int}(h0:0≤x)(h1:x≤65535):((x.toNat &&& (4294967295:Int).toNat:Nat):Int)=x:=by
  have:(4294967295:Int).toNat=2^32-1:=rfl
  rw [this,Nat.and_two_pow_sub_one_eq_mod]
  omega
theorem mul64_any(x y:Int)(w:World)(hx:0≤x∧x≤65535)(hy:0≤y∧y≤65535) :
    Calls Tryz.prog 203 #[.int .u64 x, .int .u64 y] w fun e w'=>∃ r r2:Int,e = .returned (.tuple #[.int .u64 r, .int .u64 r2])∧r=0∧r2=x*y∧w=w':=by
  refine yhL x y w (fun r r2 w'=>r=0∧r2=x*y∧w=w') ?_
  unfold ydN
  have e1:=and32 hx.1 hx.2
  have e2:=and32 hy.1 hy.2
  have hxy0:0≤x*y:=Int.mul_nonneg hx.1 hy.1
  have hxy1:x*y≤65535*65535:=Int.mul_le_mul hx.2 hy.2 hy.1 (by omega)
  have p32:(2:Int)^(32:Int).toNat=4294967296:=rfl
  have e3:x / 4294967296=0:=by omega
  have e4:y / 4294967296=0:=by omega
  have e5:x*y / 4294967296=0:=by omega
  have e6:=and32 (x:=0) (by omega) (by omega)
  simp only [e1,e2,p32,e3,e4,e5,Int.zero_mul,Int.mul_zero,Int.add_zero,Int.zero_add,e6]
  have z:InK .u64 0:=inU64 (by omega) (by omega)
  have zz:(0:Int) / 4294967296=0:=by omega
  simp only [zz,Int.add_zero,Int.zero_add]
  refine ⟨by omega,by omega,by omega,by omega,inU64 (by omega) (by omega),z,by omega,z,by omega,by omega,z,z,z,z,by omega,z,inU64 (by omega) (by omega),trivial,trivial,trivial⟩
theorem mul_any(x y:Int)(w:World)(hx:0≤x∧x≤65535)(hy:0≤y∧y≤65535) :
    Calls Tryz.prog 199 #[.int .u64 x, .int .u64 y] w fun e w'=>∃ r r2:Int,e = .returned (.tuple #[.int .u64 r, .int .u64 r2])∧r=0∧r2=x*y∧w=w':=by
  refine yiG x y w (fun r r2 w'=>r=0∧r2=x*y∧w=w') ?_
  unfold yeq
  refine (mul64_any x y w hx hy).mono ?_
  rintro _ w2 ⟨r,r2,rfl,h1,h2,h3⟩
  exact ⟨_,_,rfl,h1,h2,h3⟩
theorem setL_rep(v:Int):∀ (j k m:Nat),j≤m→setL ((List.replicate k v++List.replicate m 0).map (Value.int .i64)) k (List.replicate j (Value.int .i64 v))=(List.replicate (k+j) v++List.replicate (m-j) 0).map (Value.int .i64)
  | 0,k,m,_=>by simp [setL]
  | j+1,k,m,h=>by
    obtain ⟨m,rfl⟩:∃ m',m=m'+1:=⟨m-1,by omega⟩
    rw [show List.replicate (j+1) (Value.int .i64 v)=Value.int .i64 v::List.replicate j (Value.int .i64 v) from rfl]
    show setL (((List.replicate k v++List.replicate (m+1) 0).map (Value.int .i64)).set k (Value.int .i64 v)) (k+1) (List.replicate j (Value.int .i64 v))=_
    have h1:((List.replicate k v++List.replicate (m+1) 0).map (Value.int .i64)).set k (Value.int .i64 v)=(List.replicate (k+1) v++List.replicate m 0).map (Value.int .i64):=by
      rw [←List.map_set]
      congr 1
      rw [List.set_append_right _ _ (by simp)]
      rw [List.length_replicate,Nat.sub_self,List.replicate_succ,List.set_cons_zero,List.replicate_succ' (n:=k),List.append_assoc]
      rfl
    rw [h1,setL_rep v j (k+1) m (by omega)]
    congr 3 <;> omega
def RepPost(v:Int)(n:Nat)(w:World)(A:Option Addr)(l c:Nat)(w':World):Prop :=
  ∃ g,A=some ⟨g,0,none⟩∧l=n∧c=n∧w.heap.size≤g∧IRow w' g 3 n (List.replicate n v)∧Pure w w'
theorem repeat_any(A:Option Addr)(v:Int)(c n:Nat)(w:World)(hA:Ints w A [v])(hn:1≤n)(hn2:n≤1000) :
    Calls Tryz.prog 191 #[.slice A 1 c, .int .i64 (n:Int)] w fun e w'=>∃ A' l' c',e = .returned (.slice A' l' c')∧RepPost v n w A' l' c' w':=by
  refine yh9 A 1 c n w (RepPost v n w) ?_
  unfold yd2
  refine ⟨fun w'=>w'=w,?_,fun h=>absurd h (by omega),fun _=>rfl⟩
  intro w2 hw2
  have hw2:=hw2.symm
  subst hw2
  refine ⟨inU64 (by omega) (by omega),inU64 (by omega) (by omega),(mul_any _ _ _ (by omega) (by omega)).mono ?_⟩
  rintro _ w3 ⟨r,r2,rfl,rfl,rfl,rfl⟩
  refine ⟨_,_,rfl,fun w'=>w'=w,?_,fun h=>absurd h (by omega),fun _=>⟨fun h=>absurd h (by omega),fun _=>rfl⟩⟩
  intro w4 hw4
  have hw4:=hw4.symm
  subst hw4
  obtain ⟨b,off,rfl,hb,hc⟩:=hA (by simp)
  have e1:((1:Nat):Int)*(n:Int)=(n:Int):=by omega
  rw [e1]
  simp only [Int.toNat_natCast]
  refine ⟨in64 (by omega),by omega,fun g w5 hN=>?_⟩
  have ag:=hN.at_
  have hr5:IRow w5 g 3 n (List.replicate n 0):=by
    have:=hN.row
    simpa [IRow] using this
  have hr5':Row w5 g 3 n ((List.replicate 0 v++List.replicate n 0).map (Value.int .i64)):=by simpa [IRow] using hr5
  have hcv:=(hN.keeps (fun _=>False)).cell (p:=⟨b,off,none⟩) id (hc 0 (by simp))
  refine ⟨g,0,⟨b,off,none⟩,[.int .i64 v],rfl,rfl,by simp;omega,?_,by simp [Value.oneCell'],yaI hr5' (by simp;omega),fun w6 e6=>?_⟩
  · intro j u hj
    cases j with
    | zero=>simp only [List.getElem?_cons_zero,Option.some.injEq] at hj;subst hj;exact hcv
    | succ j=>simp at hj
  have hr6:IRow w6 g 3 n (List.replicate 1 v++List.replicate (n-1) 0):=by
    rw [e6]
    have:=yiS [.int .i64 v] 0 hr5'
    rw [show [Value.int .i64 v]=List.replicate 1 (Value.int .i64 v) from rfl,setL_rep v 1 0 n (by omega)] at this
    exact this
  have hp6:Pure w w6:=by
    rw [e6]
    exact (hN.keeps _).setCell (fun h=>absurd h (by simp;omega)) _
  refine ⟨fun m i w7=>∃ k:Nat,m=n-k∧1≤k∧k≤n∧i=(k:Int)∧IRow w7 g 3 n (List.replicate k v++List.replicate (n-k) 0)∧Pure w w7,⟨n-1,1,rfl,by omega,by omega,by omega,hr6,hp6⟩,?_⟩
  clear hr6 hp6
  rintro m i w7 ⟨k,rfl,hk1,hk2,rfl,hr,hp⟩
  simp only [Int.toNat_natCast]
  refine ⟨fun hlt=>?_,fun hge=>?_⟩
  · have hs:slA (some ⟨g,0,none⟩) n k 1=some ⟨g,k,none⟩:=by
      unfold slA
      rw [if_neg (by omega)]
      simp [Addr.add_mid]
    have hrd:Row w7.drew g 3 n ((List.replicate k v++List.replicate (n-k) 0).map (Value.int .i64)):=Row.drew hr
    refine ⟨by omega,by omega,g,k,⟨g,0,none⟩,List.replicate (min k (n-k)) (.int .i64 v),hs,rfl,by simp,?_,?_,yaI hrd (by simp;omega),fun w8 e8=>?_⟩
    · intro j u hj
      have hj1:j<min k (n-k):=by
        rcases Nat.lt_or_ge j (min k (n-k)) with h | h
        · exact h
        · rw [List.getElem?_eq_none (by simpa using h)] at hj;cases hj
      rw [List.getElem?_replicate,if_pos hj1] at hj
      cases hj
      rw [ycD]
      have:=icell (w:=w7.drew) (xs:=List.replicate k v++List.replicate (n-k) 0) hrd (k:=j) (by simp;omega)
      rw [this]
      congr 2
      unfold gi
      simp [List.getElem?_append,List.getElem?_replicate]
      rw [if_pos (by omega),if_pos (by omega)]
      rfl
    · intro u hu
      rw [List.mem_replicate] at hu
      rw [hu.2];rfl
    · refine ⟨in64 (by omega),n-(k+min k (n-k)),by omega,k+min k (n-k),rfl,by omega,by omega,by omega,?_,?_⟩
      · rw [e8]
        have:=yiS (List.replicate (min k (n-k)) (.int .i64 v)) k hrd
        rw [setL_rep v _ k (n-k) (by omega)] at this
        rw [show n-(k+min k (n-k))=n-k-min k (n-k) by omega]
        exact this
      · rw [e8]
        have hgw:w.heap.size≤g:=by omega
        have key:∀ (vs:List Value) (o:Nat) (W:World),Pure w W→Pure w (W.setCells g o vs):=by
          intro vs
          induction vs with
          | nil=>intro o W h;exact h
          | cons u vs ih=>intro o W h;exact ih _ _ (h.setCell (fun h=>absurd h (by simp;omega)) _)
        exact key _ _ _ hp.drew
  · obtain rfl:k=n:=by omega
    exact ⟨g,rfl,rfl,rfl,by omega,by simpa using hr,hp⟩
end Go.Proofs.YtadpnlimiblniaaGreat

/- Distances by a search in breadth: what its two lists say at each step. No program in sight. -/
namespace Go.Proofs.YtadpnlimiblniaaGreat
open Go Go.Proofs.Tryz
def Adj(es:List E3)(v u:Nat):Prop:=∃ m,((u:Int),m)∈ycr es (v:Int)
theorem ybV{es:List E3}{v u m:Int} : (u,m)∈ycr es v↔∃ x∈es,x.1≠x.2.1∧(x.1=v∨x.2.1=v)∧u=x.1+x.2.1-v∧m=x.2.2:=by
  unfold ycr
  rw [List.mem_filterMap]
  constructor
  · rintro ⟨x,hx,hl⟩
    unfold link at hl
    split at hl
    · rename_i h
      simp only [Option.some.injEq,Prod.mk.injEq] at hl
      exact ⟨x,hx,h.1,h.2,hl.1.symm,hl.2.symm⟩
    · cases hl
  · rintro ⟨x,hx,h1,h2,rfl,rfl⟩
    exact ⟨x,hx,by unfold link;rw [if_pos ⟨h1,h2⟩]⟩
theorem Adj.symm{es:List E3}{v u:Nat}(h:Adj es v u):Adj es u v:=by
  obtain ⟨m,h⟩:=h
  obtain ⟨x,hx,h1,h2,h3,h4⟩:=ybV.1 h
  exact ⟨m,ybV.2 ⟨x,hx,h1,by omega,by omega,h4⟩⟩
def cu(o:List Int):Nat:=(o.filter fun x=>decide (x<0)).length
theorem cu_set{o:List Int}{v:Nat}{x:Int}(h:v<o.length)(hv:gi o v<0)(hx:0≤x):cu (o.set v x)+1=cu o:=by
  unfold cu
  induction o generalizing v with
  | nil=>simp at h
  | cons y o ih =>
    cases v with
    | zero =>
      simp [gi] at hv
      simp [List.filter_cons,hv,Int.not_lt.2 hx]
    | succ v =>
      have:=ih (v:=v) (by simpa using h) (by simpa [gi] using hv)
      simp only [List.set_cons_succ,List.filter_cons]
      split
      · simp only [List.length_cons];omega
      · omega
structure BIn(n:Nat)(es:List E3)(q v:Nat)(pre:List (Int×Int))(o:List Int)(Q:List Nat):Prop where
  len:o.length=n
  vn:v<n
  v0:0≤gi o v
  rng:∀ a∈Q,a<n∧0≤gi o a
  q0:gi o q=0
  low:∀ b, -1≤gi o b
  val:∀ b,gi o b+cu o≤(n:Int)-1
  par:∀ b,b<n→0<gi o b→∃ u,u<n∧Adj es b u∧gi o u=gi o b-1
  top:∀ b,b<n→gi o b≤gi o v+1
  bot:∀ a∈Q,gi o v≤gi o a
  mono:Q.Pairwise fun a b=>gi o a≤gi o b
  done:∀ x,x<n→0≤gi o x→x∉Q→x≠v→gi o x≤gi o v∧∀ u,Adj es x u→0≤gi o u∧gi o u≤gi o x+1
  now:∀ p∈pre,0≤gi o p.1.toNat∧gi o p.1.toNat≤gi o v+1
  zero:∀ b,b<n→gi o b=0→b=q
structure BInv(n:Nat)(es:List E3)(q:Nat)(o:List Int)(Q:List Nat):Prop where
  len:o.length=n
  rng:∀ a∈Q,a<n∧0≤gi o a
  q0:gi o q=0
  low:∀ b, -1≤gi o b
  val:∀ b,gi o b+cu o≤(n:Int)-1
  par:∀ b,b<n→0<gi o b→∃ u,u<n∧Adj es b u∧gi o u=gi o b-1
  top:∀ a∈Q,∀ b,b<n→gi o b≤gi o a+1
  mono:Q.Pairwise fun a b=>gi o a≤gi o b
  done:∀ x,x<n→0≤gi o x→x∉Q→(∀ a∈Q,gi o x≤gi o a)∧∀ u,Adj es x u→0≤gi o u∧gi o u≤gi o x+1
  zero:∀ b,b<n→gi o b=0→b=q
theorem BInv.pop{n:Nat}{es:List E3}{q v:Nat}{o:List Int}{Q:List Nat}(h:BInv n es q o (v::Q)):BIn n es q v [] o Q:=by
  have hp:=List.pairwise_cons.1 h.mono
  refine ⟨h.len,(h.rng v (by simp)).1,(h.rng v (by simp)).2,fun a ha=>h.rng a (by simp [ha]),h.q0,h.low,h.val,h.par,h.top v (by simp),hp.1,hp.2,fun x hx h0 hn hne=>?_,by simp,h.zero⟩
  have:=h.done x hx h0 (by simp [hn,hne])
  exact ⟨this.1 v (by simp),this.2⟩
theorem BIn.push{n:Nat}{es:List E3}{q v:Nat}{pre:List (Int×Int)}{o:List Int}{Q:List Nat}(h:BIn n es q v pre o Q){u:Nat}{m:Int}(hu:u<n)(ha:Adj es v u)(hneg:gi o u<0) :
    BIn n es q v (pre++[((u:Int),m)]) (o.set u (gi o v+1)) (Q++[u]):=by
  have hul:u<o.length:=by rw [h.len];exact hu
  have hs:∀ b,gi (o.set u (gi o v+1)) b=if b=u then gi o v+1 else gi o b:=fun b=>ycQ hul
  have hv0:=h.v0
  have hvu:v≠u:=by rintro rfl;omega
  have hc:=cu_set hul hneg (x:=gi o v+1) (by omega)
  have hkn:∀ b,0≤gi o b→gi (o.set u (gi o v+1)) b=gi o b:=fun b hb=>by
    rw [hs,if_neg (by rintro rfl;omega)]
  refine ⟨by simpa using h.len,h.vn,by rw [hkn v hv0];exact hv0,?_,by rw [hkn q (by rw [h.q0];omega)];exact h.q0,?_,?_,?_,?_,?_,?_,?_,?_,fun b hb h0=>by
    rw [hs] at h0
    split at h0
    · omega
    · exact h.zero b hb h0⟩
  · intro a ha'
    rcases List.mem_append.1 ha' with h1 | h1
    · have:=h.rng a h1;exact ⟨this.1,by rw [hkn a this.2];exact this.2⟩
    · simp only [List.mem_singleton] at h1;subst h1;exact ⟨hu,by rw [hs,if_pos rfl];omega⟩
  · intro b;rw [hs];split
    · omega
    · exact h.low b
  · intro b;rw [hs]
    have:=h.val b
    have:=h.val v
    split <;> omega
  · intro b hb h0
    rw [hs] at h0
    by_cases e:b=u
    · subst e
      refine ⟨v,h.vn,ha.symm,?_⟩
      rw [hkn v hv0,hs,if_pos rfl];omega
    · rw [if_neg e] at h0
      obtain ⟨y,hy,hay,hoy⟩:=h.par b hb h0
      refine ⟨y,hy,hay,?_⟩
      rw [hkn y (by omega),hs,if_neg e];exact hoy
  · intro b hb
    rw [hkn v hv0,hs]
    have:=h.top b hb
    split <;> omega
  · intro a ha'
    rw [hkn v hv0]
    rcases List.mem_append.1 ha' with h1 | h1
    · have h2:=h.rng a h1;rw [hkn a h2.2];exact h.bot a h1
    · simp only [List.mem_singleton] at h1;subst h1;rw [hs,if_pos rfl];omega
  · refine List.pairwise_append.2 ⟨h.mono.imp_of_mem (fun {a b} ha hb hab=>by rw [hkn a (h.rng a ha).2,hkn b (h.rng b hb).2];exact hab),by simp,fun a ha' b hb=>?_⟩
    simp only [List.mem_singleton] at hb;subst hb
    have h2:=h.rng a ha'
    rw [hkn a h2.2,hs,if_pos rfl]
    exact h.top a h2.1
  · intro x hx h0 hn hne
    have hxu:x≠u:=fun e=>hn (by simp [e])
    rw [hs,if_neg hxu] at h0
    have:=h.done x hx h0 (fun h=>hn (by simp [h])) hne
    rw [hkn v hv0,hs x,if_neg hxu]
    refine ⟨this.1,fun y hy=>?_⟩
    have h2:=this.2 y hy
    rw [hkn y h2.1];exact h2
  · intro p hp
    rw [hkn v hv0]
    rcases List.mem_append.1 hp with h1 | h1
    · have h2:=h.now p h1;rw [hkn _ h2.1];exact h2
    · simp only [List.mem_singleton] at h1;subst h1
      simp only [Int.toNat_natCast]
      rw [hs,if_pos rfl];omega
theorem BIn.pass{n:Nat}{es:List E3}{q v:Nat}{pre:List (Int×Int)}{o:List Int}{Q:List Nat}(h:BIn n es q v pre o Q){u:Nat}{m:Int}(hu:u<n)(h0:0≤gi o u) :
    BIn n es q v (pre++[((u:Int),m)]) o Q:=by
  refine ⟨h.len,h.vn,h.v0,h.rng,h.q0,h.low,h.val,h.par,h.top,h.bot,h.mono,h.done,fun p hp=>?_,h.zero⟩
  rcases List.mem_append.1 hp with h1 | h1
  · exact h.now p h1
  · simp only [List.mem_singleton] at h1;subst h1
    exact ⟨by simpa using h0,by simpa using h.top u hu⟩
theorem BIn.fin{n:Nat}{es:List E3}{q v:Nat}{o:List Int}{Q:List Nat}(h:BIn n es q v (ycr es (v:Int)) o Q):BInv n es q o Q:=by
  refine ⟨h.len,h.rng,h.q0,h.low,h.val,h.par,fun a ha b hb=>?_,h.mono,fun x hx h0 hn=>?_,h.zero⟩
  · have:=h.top b hb;have:=h.bot a ha;omega
  · by_cases e:x=v
    · subst e
      refine ⟨fun a ha=>h.bot a ha,fun u hu=>?_⟩
      obtain ⟨m,hm⟩:=hu
      have:=h.now _ hm
      simpa using this
    · have:=h.done x hx h0 hn e
      exact ⟨fun a ha=>by have:=h.bot a ha;omega,this.2⟩
theorem BInv.start{n:Nat}{es:List E3}{q:Nat}(hq:q<n):BInv n es q ((List.replicate n (-1)).set q 0) [q]:=by
  have hl:q<(List.replicate n (-1:Int)).length:=by simpa using hq
  have hs:∀ b,gi ((List.replicate n (-1)).set q 0) b=if b=q then 0 else gi (List.replicate n (-1)) b:=fun b=>ycQ hl
  have hr:∀ b,b<n→gi (List.replicate n (-1)) b = -1:=fun b hb=>by rw [yaN (by simpa using hb)];simp
  have hr2:∀ b,gi (List.replicate n (-1)) b = -1∨gi (List.replicate n (-1)) b=0:=fun b=>by
    rcases Nat.lt_or_ge b n with h | h
    · exact .inl (hr b h)
    · exact .inr (gi_ge (by simpa using h))
  have hc0:∀ n:Nat,cu (List.replicate n (-1))=n:=by
    intro n
    unfold cu
    rw [List.filter_eq_self.2 (fun x hx=>by rw [(List.mem_replicate.1 hx).2];rfl)]
    simp
  have hc:=cu_set hl (by rw [hr q hq];omega) (x:=0) (by omega)
  rw [hc0] at hc
  refine ⟨by simp,fun a ha=>?_,by rw [hs,if_pos rfl],fun b=>?_,fun b=>?_,fun b hb h0=>?_,fun a ha b hb=>?_,by simp,fun x hx h0 hn=>?_,fun b hb h0=>by
    rw [hs,hr b hb] at h0
    split at h0
    · assumption
    · omega⟩
  · simp only [List.mem_singleton] at ha;subst ha;exact ⟨hq,by rw [hs,if_pos rfl];omega⟩
  · rw [hs];rcases hr2 b with h | h <;> split <;> omega
  · rw [hs]
    rcases hr2 b with h | h
    · split <;> omega
    · split <;> omega
  · rw [hs] at h0;rw [hr b hb] at h0;split at h0 <;> omega
  · simp only [List.mem_singleton] at ha;subst ha;rw [hs,hs a,if_pos rfl,hr b hb];split <;> omega
  · exfalso
    rw [hs,hr x hx] at h0
    split at h0
    · rename_i e;exact hn (by simp [e])
    · omega
structure Dist(n:Nat)(es:List E3)(q:Nat)(o:List Int):Prop where
  len:o.length=n
  q0:gi o q=0
  low:∀ b, -1≤gi o b
  high:∀ b,gi o b≤(n:Int)-1
  par:∀ b,b<n→0<gi o b→∃ u,u<n∧Adj es b u∧gi o u=gi o b-1
  step:∀ x,x<n→0≤gi o x→∀ u,Adj es x u→0≤gi o u∧gi o u≤gi o x+1
  zero:∀ b,b<n→gi o b=0→b=q
theorem BInv.dist{n:Nat}{es:List E3}{q:Nat}{o:List Int}(h:BInv n es q o []):Dist n es q o :=
  ⟨h.len,h.q0,h.low,fun b=>by have:=h.val b;omega,h.par,fun x hx h0=>(h.done x hx h0 (by simp)).2,h.zero⟩
end Go.Proofs.YtadpnlimiblniaaGreat

/- The contract of distances: a search in breadth from q. -/
namespace Go.Proofs.YtadpnlimiblniaaGreat
open Go Go.RowKit Go.Shelf Go.Proofs.Tryz
set_option maxRecDepth 100000
set_option maxHeartbeats 8000000
theorem OwnS.of_row{w:World}{B g:Nat}{e:TypeId}{c:Nat}{xs:List Value}(h:Row w g e c xs)(hB:B≤g)(hc:c≤maxLen):OwnS w B e 1 (some ⟨g,0,none⟩) xs.length c xs:=by
  have hle:=h.le
  obtain ⟨cur,h1,h2,h3⟩:=h
  exact ⟨by simp, .inr ⟨g,0,cur,rfl,hB,h1,hle,hc,by simp [h2],by simpa using h3⟩⟩
theorem OwnS.cell{w:World}{B:Nat}{e:TypeId}{A:Option Addr}{l c:Nat}{xs:List Value}(h:OwnS w B e 1 A l c xs){i:Int}(h0:0≤i){v:Value}(hv:xs[i.toNat]? = some v):Ix A l i∧w.cell? (ixA A i 1)=some v:=by
  have hl:xs.length=l:=by simpa using h.1
  have hlt:i.toNat<xs.length:=(List.getElem?_eq_some_iff.1 hv).1
  rcases h.2 with ⟨rfl,h1,_⟩ | ⟨g,o,cur,rfl,hB,hg,hlc,hcm,hcs,ht⟩
  · omega
  · refine ⟨ybt h0 (by omega),?_⟩
    rw [ixA_off,cell_of_row w g _ cur e (0,0) hg]
    rw [←ht,List.getElem?_take,if_pos (by omega),List.getElem?_drop] at hv
    simpa using hv
theorem OwnS.tail{w:World}{B:Nat}{e:TypeId}{A:Option Addr}{l c:Nat}{x:Value}{xs:List Value}(h:OwnS w B e 1 A l c (x::xs)):OwnS w B e 1 (slA A c 1 1) (l-1) (c-1) xs:=by
  have hl:xs.length+1=l:=by simpa using h.1
  rcases h.2 with ⟨rfl,h1,_⟩ | ⟨g,o,cur,rfl,hB,hg,hlc,hcm,hcs,ht⟩
  · omega
  · have hd:(cur.toList.drop (o+1)).take (l-1)=xs:=by
      rw [Nat.mul_one] at ht
      have:=congrArg (List.drop 1) ht
      rw [List.drop_take,List.drop_drop] at this
      simpa using this
    refine ⟨by omega, .inr ?_⟩
    unfold slA
    by_cases e1:c=1
    · rw [if_pos e1]
      have hx:xs=[]:=List.eq_nil_of_length_eq_zero (by omega)
      subst hx
      exact ⟨g,o,cur,rfl,hB,hg,by omega,by omega,by omega,by rw [show (l-1)*1=0 by omega];simp⟩
    · rw [if_neg e1]
      refine ⟨g,o+1,cur,by simp [Addr.add_mid],hB,hg,by omega,by omega,by omega,?_⟩
      rw [Nat.mul_one];exact hd
theorem slA_block{A:Option Addr}{c lo sz:Nat} : (slA A c lo sz).map (·.block)=A.map (·.block):=by
  unfold slA
  split
  · rfl
  · cases A with
    | none=>rfl
    | some a=>simp [Addr.add];split <;> rfl
theorem OwnS.keep{w w':World}{B:Nat}{e:TypeId}{sz:Nat}{A:Option Addr}{l c:Nat}{xs:List Value}(h:OwnS w B e sz A l c xs)(hk:∀ a,A=some a→w'.heap[a.block]? = w.heap[a.block]?):OwnS w' B e sz A l c xs:=by
  refine ⟨h.1,?_⟩
  rcases h.2 with h1 | ⟨g,o,cur,rfl,hB,hg,rest⟩
  · exact .inl h1
  · exact .inr ⟨g,o,cur,rfl,hB,(hk _ rfl).trans hg,rest⟩
theorem OwnS.lt{w:World}{B:Nat}{e:TypeId}{sz:Nat}{A:Option Addr}{l c:Nat}{xs:List Value}(h:OwnS w B e sz A l c xs){a:Addr}(ha:A=some a):B≤a.block∧a.block<w.heap.size:=by
  rcases h.2 with ⟨h1,_⟩ | ⟨g,o,cur,h1,hB,hg,rest⟩
  · rw [h1] at ha;cases ha
  · rw [h1] at ha;cases ha;exact ⟨hB,(Array.getElem?_eq_some_iff.1 hg).1⟩
theorem OwnS.ne_row{w:World}{B:Nat}{e e':TypeId}{sz:Nat}{A:Option Addr}{l c:Nat}{xs:List Value}(h:OwnS w B e sz A l c xs){g size:Nat}{ys:List Value}(hr:Row w g e' size ys)(he:e≠e'){a:Addr}(ha:A=some a):a.block≠g:=by
  rintro rfl
  rcases h.2 with ⟨h1,_⟩ | ⟨g,o,cur,h1,hB,hg,rest⟩
  · rw [h1] at ha;cases ha
  · rw [h1] at ha;cases ha
    obtain ⟨cur',h1',_⟩:=hr
    rw [hg] at h1'
    cases h1'
    exact he rfl
def KpS(S:Nat→Prop)(w w':World):Prop:=∀ k,S k→k<w.heap.size→w'.heap[k]? = w.heap[k]?
def DistPost(n:Nat)(es:List E3)(q:Nat)(w:World)(A:Option Addr)(l c:Nat)(w':World):Prop :=
  ∃ g o,A=some ⟨g,0,none⟩∧l=n∧c=n∧w.heap.size≤g∧IRow w' g 3 n o∧Dist n es q o∧Pure w w'
structure QI(w0:World)(B gO gQ n:Nat)(es:List E3)(q:Nat)(m:Nat)(w:World)(o:List Int)(Q:List Nat)(A:Option Addr)(l c:Nat):Prop where
  len:l=Q.length
  mes:2*cu o+Q.length≤m
  out:IRow w gO 3 n o
  box:Row w gQ 29 1 [.slice A l c]
  own:OwnS w B 3 1 A l c (Q.map fun (x:Nat)=>Value.int .i64 (x:Int))
  pure:Pure w0 w
theorem distances_any(X gd gs n:Nat)(A:Option Addr)(es:List E3)(cap cd cs q:Nat)(d s:List Int)(e:Int)(w:World)(hS:yfO w X gd gs n A es cap cd cs q d s e)(hes:ydB w A es)
    (hq:q<n) (hn:n≤12) (hE:∀ x∈es,0≤x.1∧x.1<n∧0≤x.2.1∧x.2.1<n∧0≤x.2.2∧x.2.2≤50) (hel:es.length≤1000) :
    Calls Tryz.prog 174 #[.pointer (some ⟨X,0,none⟩)] w fun e' w'=>∃ A' l' c',e' = .returned (.slice A' l' c')∧DistPost n es q w A' l' c' w':=by
  refine ye5 _ w (DistPost n es q w) ?_
  unfold ybT
  have hE12:ydE es:=fun x hx=>by have:=hE x hx;omega
  have hX:=hS.1
  intro g w2 hN1
  have a1:=hN1.at_
  refine ⟨n,by rw [yhK,ycD];exact Row.cell (hN1.row_ hX) (i:=0) rfl,?_⟩
  refine (repeat_any (some ⟨g,0,none⟩) (-1) 1 n w2 (IRow.ints (xs:=[-1]) hN1.row) (by omega) (by omega)).mono ?_
  rintro _ w3 ⟨A3,l3,c3,rfl,gO,rfl,hl3,hc3,hgO,hO3,hp3⟩
  have hl3:=hl3.symm
  have hc3:=hc3.symm
  subst hl3
  subst hc3
  have s2:=hN1.size
  have s3:=hp3.size
  have lO:=Row.lt hO3
  refine ⟨_,_,_,rfl,Keeps.kpm_pure hp3,fun g2 w4 hN2 w5 e5=>?_⟩
  have a2:=hN2.at_
  have s4:=hN2.size
  have p5:Pure w w5:=by
    rw [e5];exact (((hN1.keeps _).trans hp3).trans (hN2.keeps _)).setCell (fun h=>absurd h (by simp;omega)) _
  have hO5:IRow w5 gO 3 n (List.replicate n (-1)):=by
    rw [e5];exact Row.far (hN2.row_ hO3) (by simp;omega) _
  have s5:w5.heap.size=w4.heap.size:=by rw [e5];simp [World.setCell]
  have hXq:∀ W,Pure w W→W.cell? ((⟨X,0,none⟩:Addr).add 2)=some (.int .i64 (q:Int)):=fun W h=>by
    rw [ycD];exact Row.cell (h.row hX id) (i:=2) rfl
  refine ⟨q,hXq _ p5.drew,ybt (by omega) (by omega),iwr (Row.drew hO5) (by omega) (by simp;omega),by rw [ybH];simp;omega,fun w6 e6=>?_⟩
  have hO6:IRow w6 gO 3 n ((List.replicate n (-1)).set q 0):=by
    rw [e6];simpa using ist (Row.drew hO5) (q:Int) 0
  have p6:Pure w w6:=by
    rw [e6,ybH];exact p5.drew.setCell (fun h=>absurd h (by simp;omega)) _
  have s6:w6.heap.size=w5.heap.size:=by rw [e6];simp [World.setCell]
  refine ⟨q,hXq _ p6,fun g3 w7 hN3 g4 w8 hN4=>?_⟩
  have a3:=hN3.at_
  have s7:=hN3.size
  have a4:=hN4.at_
  have s8:=hN4.size
  refine ⟨hN4.row.wr_ 0 (by simp),by simp;omega,fun w9 e9=>?_⟩
  have s9:w9.heap.size=w8.heap.size:=by rw [e9];simp [World.setCell]
  have far9:∀ {k':Nat} {e':TypeId} {sz:Nat} {xs:List Value},k'≠g4→Row w8 k' e' sz xs→Row w9 k' e' sz xs:=fun hne' hr=>by
    rw [e9];exact hr.far (by simpa using hne') _
  have hq9:Row w9 g3 3 1 [.int .i64 (q:Int)]:=far9 (by omega) (hN4.row_ hN3.row)
  have hI0:QI w g3 gO g4 n es q (2*cu ((List.replicate n (-1)).set q 0)+1) w9 ((List.replicate n (-1)).set q 0) [q] (some ⟨g3,0,none⟩) 1 1:=by
    refine ⟨rfl,Nat.le_refl _,far9 (by omega) (hN4.row_ (hN3.row_ hO6)),?_,OwnS.of_row (c:=1) hq9 (Nat.le_refl _) (by unfold maxLen;omega),?_⟩
    · rw [e9];exact hN4.row.set_ 0 _
    · rw [e9];exact ((p6.trans (hN3.keeps _)).trans (hN4.keeps _)).setCell (fun h=>absurd h (by simp;omega)) _
  have hgg:g2<g3∧gO<g2∧g4=g3+1∧g4<w9.heap.size∧w.heap.size≤gO:=by omega
  clear hO5 hO6 p5 p6 hN1 hN2 hN3 hN4 hO3 hp3 far9 hq9 a1 a2 a3 a4 s2 s3 s4 s5 s6 s7 s8 e5 e6 e9
  obtain ⟨gg1,gg2,gg3,gg4,gg5⟩:=hgg
  have hcn:cu ((List.replicate n (-1)).set q 0)≤12:=by
    have:=List.length_filter_le (fun x:Int=>decide (x<0)) ((List.replicate n (-1)).set q 0)
    unfold cu;simp at this ⊢;omega
  refine ⟨fun m W=>g4<W.heap.size∧m≤100∧∃ o Q A l c,QI w g3 gO g4 n es q m W o Q A l c∧BInv n es q o Q,⟨_,by omega,by omega,_,_,_,_,_,hI0,BInv.start hq⟩,?_⟩
  clear hI0 s9 lO
  rintro m w10 ⟨sz10,hm100,o,Q,Aq,lq,cq,⟨hlen,hmes,hout,hbox,hown,hpure⟩,hB⟩
  refine ⟨Aq,lq,cq,Row.cell hbox (i:=0) rfl,fun hlt=>?_,fun hge=>?_⟩
  · cases Q with
    | nil=>simp at hlen;omega
    | cons v Q =>
      obtain ⟨hv1,hv2⟩:=hB.rng v (by simp)
      obtain ⟨hix,hld⟩:=hown.cell (i:=0) (by omega) (v := .int .i64 (v:Int)) rfl
      refine ⟨Aq,lq,cq,Row.cell hbox (i:=0) rfl,hix,v,hld,fun g5 w11 hN5=>?_⟩
      have a5:=hN5.at_
      have s11:=hN5.size
      refine ⟨by omega,fun w12 e12=>?_⟩
      have far12:∀ {k':Nat} {e':TypeId} {sz:Nat} {xs:List Value},k'≠g5→Row w10 k' e' sz xs→Row w12 k' e' sz xs:=fun hne' hr=>by
        rw [e12];exact (hN5.row_ hr).far (by simpa using hne') _
      have s12:w12.heap.size=w11.heap.size:=by rw [e12];simp [World.setCell]
      have hbox12:=far12 (by omega) hbox
      have hlO:=Row.lt hout
      have hout12:IRow w12 gO 3 n o:=far12 (by omega) hout
      have p12:Pure w w12:=by rw [e12];exact (hpure.trans (hN5.keeps _)).setCell (fun h=>absurd h (by have:=hpure.size;simp;omega)) _
      have k12:∀ k,k<w10.heap.size→w12.heap[k]? = w10.heap[k]?:=fun k hk=>by
        rw [e12,Below.heap_setCell _ _ _ _ (by simp;omega)];rw [hN5.to_];exact Below.heap_alloc _ _ _ hk
      have hown12:=hown.keep (w':=w12) (fun a ha=>k12 _ (hown.lt ha).2)
      refine ⟨Aq,lq,cq,Row.cell hbox12 (i:=0) rfl,by omega,hbox12.wr_ 0 (by simp),by simp;omega,by simp;omega,fun w13 e13=>?_⟩
      have s13:w13.heap.size=w12.heap.size:=by rw [e13];simp [World.setCell]
      have far13:∀ {k':Nat} {e':TypeId} {sz:Nat} {xs:List Value},k'≠g4→Row w12 k' e' sz xs→Row w13 k' e' sz xs:=fun hne' hr=>by
        rw [e13];exact hr.far (by simpa using hne') _
      have hbox13:Row w13 g4 29 1 [.slice (slA Aq cq 1 1) (lq-1) (cq-1)]:=by rw [e13];exact hbox12.set_ 0 _
      have hout13:IRow w13 gO 3 n o:=far13 (by omega) hout12
      have p13:Pure w w13:=by rw [e13];exact p12.setCell (fun h=>absurd h (by simp;omega)) _
      have hownT:=hown12.tail
      have hown13:=hownT.keep (w':=w13) (fun a ha=>by
        rw [e13];exact Below.heap_setCell _ _ _ _ (by
          have:=hownT.ne_row hbox12 (by decide) ha;simpa using this))
      have hap:∀ a,slA Aq cq 1 1=some a→a.block<g5:=fun a ha=>by
        have h1:=congrArg (Option.map Addr.block) ha
        rw [slA_block] at h1
        cases hAq:Aq with
        | none=>rw [hAq] at h1;cases h1
        | some a' =>
          rw [hAq] at h1;simp at h1
          have:=(hown.lt hAq).2;omega
      refine (links_pure X (v:Int) w13).mono ?_
      rintro _ w14 ⟨bx,bv,rfl,hbx,hbv,rbx,rbv,hp14⟩
      have s14:=hp14.size
      have lbx:=rbx.lt
      have lbv:=rbv.lt
      have p14:Pure w w14:=p13.trans hp14
      have hX14:=p14.row hX id
      have hes14:ydB w14 A es:=hes.keep p14
      refine ⟨_,rfl,hp14.kp id,hp14.kp id,Keeps.kpm_pure hp14,?_⟩
      have hbelow:∀ (b off:Nat),0<es.length→A=some ⟨b,off,none⟩→b<w.heap.size:=fun b off h0 hA=>by
        obtain ⟨b',off',hA',hb',_⟩:=hes h0
        rw [hA] at hA';cases hA';exact hb'
      have hQ0:QI w g3 gO g4 n es q (m-1) w14 o Q (slA Aq cq 1 1) (lq-1) (cq-1):=by
        refine ⟨by simp at hlen;omega,by simp at hmes;omega,hp14.row hout13 id,hp14.row hbox13 id,hown13.keep (fun a ha=>hp14.block _ (hown13.lt ha).2 id),p14⟩
      have hm1:1≤m:=by simp at hmes;omega
      refine ⟨yiq es (v:Int),encL es (v:Int),_,_,es.length,fun pre W=>KpS (fun k=>k=g2∨k=g5∨k=bv∨k=bx) w14 W∧KpM w14 W∧∃ o' Q' A' l' c',QI w g3 gO g4 n es q (m-1) W o' Q' A' l' c'∧(∀ a,A'=some a→a.block≠g5∧a.block≠bv∧a.block≠bx∧a.block<W.heap.size)∧BIn n es q v (pre.map (·.1)) o' Q',
        links_iter X A es cap (v:Int) bx bv w14 rbx rbv (Row.cell hX14 (i:=1) rfl) hes14 hE12 (by omega) (by omega) (by omega),fun _=>rfl,?_,⟨fun k _ _=>rfl,KpM.refl _,_,_,_,_,_,hQ0,fun a ha=>by have:=hap a ha;omega,hB.pop⟩,?_,?_,?_⟩
      · refine stays_of fun pre W W' row h hg hr=>?_
        obtain ⟨h1,h2,o',Q',A',l',c',⟨q1,q2,q3,q4,q5,q6⟩,h3,h4⟩:=h
        refine ⟨fun k hk hl=>?_,⟨Nat.le_trans h2.1 hg.size,fun r hr'=>?_⟩,o',Q',A',l',c',⟨q1,q2,Row.owned q3 hg (fun r e=>(hr r e).2),Row.owned q4 hg (fun r e=>(hr r e).2),q5.keep (fun a ha=>?_),q6.owned hg p14.size (fun r e=>(hr r e).1)⟩,fun a ha=>⟨(h3 a ha).1,(h3 a ha).2.1,(h3 a ha).2.2.1,Nat.lt_of_lt_of_le (h3 a ha).2.2.2 hg.size⟩,h4⟩
        · rw [hg.block k (Nat.lt_of_lt_of_le hl h2.1) (fun e=>by have:=(hr k e.symm).1;omega)];exact h1 k hk hl
        · have hl:=(Array.getElem?_eq_some_iff.1 hr').1
          rw [hg.block r (Nat.lt_of_lt_of_le hl h2.1) (fun e=>by have:=(hr r e.symm).1;omega)];exact h2.2 r hr'
        · refine hg.block _ (h3 a ha).2.2.2 (fun e=>?_)
          obtain ⟨_,ob,hob,hcb⟩:=hr _ e.symm
          rcases q5.2 with ⟨h5,_⟩ | ⟨gq,oq,cur,h5,_,hgq,_⟩
          · rw [h5] at ha;cases ha
          · rw [h5] at ha;cases ha
            rw [hgq] at hob;cases hob;cases hcb
      · intro pr W h
        exact ⟨fun hl=>h.1 g2 (.inl rfl) hl,fun hl=>h.1 g5 (.inr (.inl rfl)) hl,trivial⟩
      · rintro pre el w15 ⟨hk,hkm,o',Q',A',l',c',⟨q1,q2,q3,q4,q5,q6⟩,hA',hBI⟩ hlen'
        obtain ⟨eg,heg',hlk⟩:=el.2
        have hmem:el.1∈ycr es (v:Int):=List.mem_filterMap.2 ⟨eg,heg',hlk⟩
        have hr1:=ybZ hE (v:=(v:Int)) (u:=el.1.1) (m:=el.1.2) hmem
        obtain ⟨u,hu⟩:∃ u:Nat,el.1.1=(u:Int):=⟨el.1.1.toNat,by omega⟩
        have hun:u<n:=by omega
        have help:el.1=((u:Int),el.1.2):=by rw [←hu]
        have hadj:Adj es v u:=⟨el.1.2,by rw [←hu];exact hmem⟩
        have hol:=hBI.len
        have ldu:=ild q3 (i:=(u:Int)) (by omega) (by omega)
        simp only [Int.toNat_natCast] at ldu
        refine ⟨el.1.1,el.1.2,rfl,ybt (by omega) (by omega),gi o' u,by rw [hu];exact ldu,fun hneg=>?_,fun hpos=>?_⟩
        · have ldv:=ild (Row.drew q3) (i:=(v:Int)) (by omega) (by omega)
          simp only [Int.toNat_natCast] at ldv
          have hval:=hBI.val v
          refine ⟨ybt (by omega) (by omega),gi o' v,ldv,in64 (by have:=hBI.v0;omega),ybt (by omega) (by omega),iwr (Row.drew q3) (by omega) (by omega),by rw [ybH];simp;omega,by rw [ybH];simp;omega,fun w17 e17=>?_⟩
          have hsz15:=hkm.1
          have s17:w17.heap.size=w15.heap.size:=by rw [e17];simp [World.setCell]
          have hout17:IRow w17 gO 3 n (o'.set u (gi o' v+1)):=by
            have:=ist (Row.drew q3) el.1.1 (gi o' v+1)
            rw [e17,hu] at *;simpa using this
          have far17:∀ {k':Nat} {e':TypeId} {sz:Nat} {xs:List Value},k'≠gO→Row w15 k' e' sz xs→Row w17 k' e' sz xs:=fun hne' hr=>by
            rw [e17];exact Row.far_ hr.drew hne' _ _
          have hbox17:=far17 (by omega) q4
          have b17:∀ k,k≠gO→w17.heap[k]? = w15.heap[k]?:=fun k hk'=>by
            rw [e17,ybH];exact Below.heap_setCell _ _ _ _ (by simpa using hk')
          have hown17:=q5.keep (w':=w17) (fun a ha=>b17 _ (by have:=(q5.lt ha).1;omega))
          have p17:Pure w w17:=by rw [e17,ybH];exact q6.drew.setCell (fun h=>absurd h (by simp;omega)) _
          refine ⟨A',l',c',Row.cell hbox17 (i:=0) rfl,fun g6 w18 hN6=>?_⟩
          have a6:=hN6.at_
          have s18:=hN6.size
          have b18:∀ k,k<w17.heap.size→w18.heap[k]? = w17.heap[k]?:=fun k hk'=>by rw [hN6.to_];exact Below.heap_alloc _ _ _ hk'
          have hown18:=hown17.keep (w':=w18) (fun a ha=>b18 _ (hown17.lt ha).2)
          have hcul:=List.length_filter_le (fun x:Int=>decide (x<0)) o'
          have hcu:cu o'≤12:=by unfold cu;omega
          refine ⟨g3,_,[.int .i64 el.1.1],⟨g6,0,none⟩,hown18,rfl,rfl,?_,by simp [Value.oneCell'],by unfold maxLen;omega,by omega,by omega,fun A2 c2 w19 hown19 hgr hbk=>?_⟩
          · intro j x hj
            cases j with
            | zero=>simp only [List.getElem?_cons_zero,Option.some.injEq] at hj;subst hj;exact Row.cell hN6.row (i:=0) rfl
            | succ j=>simp at hj
          have hown_lt:∀ k,k<w18.heap.size→(∀ a,A'=some a→a.block≠k)→w19.heap[k]? = w18.heap[k]?:=fun k hk' hne'=>hgr.block k hk' (fun e=>by
            cases hA2:A' with
            | none=>rw [hA2] at e;cases e
            | some a=>rw [hA2] at e;cases e;exact hne' a hA2 rfl)
          have b19:∀ k,k<w15.heap.size→k≠gO→(∀ a,A'=some a→a.block≠k)→w19.heap[k]? = w15.heap[k]?:=fun k h1 h2 h3 =>
            (hown_lt k (by omega) h3).trans ((b18 k (by omega)).trans (b17 k h2))
          have hAk:∀ k,k<g3→∀ a,A'=some a→a.block≠k:=fun k hk' a ha=>by have:=(q5.lt ha).1;omega
          have hAg4:∀ a,A'=some a→a.block≠g4:=fun a ha=>q5.ne_row q4 (by decide) ha
          have hg4lt:=q4.lt
          have hgOlt:=Row.lt q3
          have hbox19:Row w19 g4 29 1 [.slice A' l' c']:=q4.keep (b19 g4 hg4lt (by omega) hAg4)
          have hA2b:∀ a,A2=some a→(∃ a',A'=some a'∧a'.block=a.block)∨a.block=w18.heap.size:=by
            intro a ha
            rw [ha] at hbk
            rcases hbk with h | h
            · cases hA2:A' with
              | none=>rw [hA2] at h;cases h
              | some a'=>rw [hA2] at h;simp at h;exact .inl ⟨a',rfl,h.symm⟩
            · simp at h;exact .inr h
          have s19:=hgr.size
          refine ⟨fun hl=>hown_lt g2 hl (hAk g2 (by omega)),fun hl=>hown_lt g5 hl (fun a ha=>(hA' a ha).1),hbox19.wr_ 0 (by simp),by simp;omega,by simp;omega,fun w20 e20=>?_⟩
          have b20:∀ k,k<w15.heap.size→k≠gO→k≠g4→(∀ a,A'=some a→a.block≠k)→w20.heap[k]? = w15.heap[k]?:=fun k h1 h2 h3 h4=>by
            rw [e20,Below.heap_setCell _ _ _ _ (by simpa using h3)];exact b19 k h1 h2 h4
          have s20:w20.heap.size=w19.heap.size:=by rw [e20];simp [World.setCell]
          have hob:∀ (k:Nat) (ob:Obj),w15.heap[k]? = some ob→ob.isCells=false→k≠gO∧k≠g4∧∀ a,A'=some a→a.block≠k:=by
            intro k ob hk' hc
            refine ⟨fun e=>?_,fun e=>?_,fun a ha e=>?_⟩
            · subst e;have:=Row.cells_ q3 _ hk';rw [this] at hc;cases hc
            · subst e;have:=Row.cells_ q4 _ hk';rw [this] at hc;cases hc
            · subst e
              rcases q5.2 with ⟨h5,_⟩ | ⟨gq,oq,cur,h5,_,hgq,_⟩
              · rw [h5] at ha;cases ha
              · rw [h5] at ha;cases ha
                rw [hgq] at hk';cases hk';cases hc
          have ko:KeepsOthers w15 w20:=⟨by omega,fun k ob hk' hc=>by
            have h3:=hob k ob hk' hc
            rw [b20 k (Array.getElem?_eq_some_iff.1 hk').1 h3.1 h3.2.1 h3.2.2];exact hk'⟩
          refine ⟨ko,?_,?_,?_,o'.set u (gi o' v+1),Q'++[u],A2,l'+1,c2,⟨?_,?_,?_,?_,?_,?_⟩,?_,?_⟩
          · intro k hk'
            rcases hk' with rfl | ⟨h0,a,ha,rfl⟩
            · exact b20 k (by omega) (by omega) (by omega) (fun a ha=>(hA' a ha).2.1)
            · obtain ⟨b,off,hAe,_⟩:=hes14 h0
              rw [hAe] at ha;cases ha
              have:=hbelow b off h0 hAe
              have:=q6.size
              exact b20 b (by omega) (by omega) (by omega) (fun a ha=>by have:=(q5.lt ha).1;omega)
          · intro k hk' hl
            rw [b20 k (by omega) (by rcases hk' with rfl | rfl | rfl | rfl <;> omega) (by rcases hk' with rfl | rfl | rfl | rfl <;> omega) (fun a ha=>by
              have h1:=hA' a ha
              have h2:=(q5.lt ha).1
              rcases hk' with rfl | rfl | rfl | rfl
              · omega
              · exact h1.1
              · exact h1.2.1
              · exact h1.2.2.1)]
            exact hk k hk' hl
          · exact hkm.trans (KeepsOthers.kpm ko)
          · simp;omega
          · have h1:=cu_set (by omega:u<o'.length) hneg (x:=gi o' v+1) (by have:=hBI.v0;omega)
            simp;omega
          · have hO19:IRow w19 gO 3 n (o'.set u (gi o' v+1)):=hout17.keep ((hown_lt gO (by omega) (hAk gO (by omega))).trans (b18 gO (by omega)))
            rw [e20];exact Row.far hO19 (by simp;omega) _
          · rw [e20];exact hbox19.set_ 0 _
          · rw [List.map_append]
            have:=hown19.keep (w':=w20) (fun a ha=>by
              rw [e20];refine Below.heap_setCell _ _ _ _ ?_
              rcases hA2b a ha with ⟨a',ha',hb⟩ | hb
              · have:=hAg4 a' ha';simp;omega
              · simp;omega)
            rw [hu] at this
            exact this
          · rw [e20]
            have p18:Pure w w18:=p17.trans (hN6.keeps _)
            exact (p18.grown hgr (fun k e hk'=>by
              cases hA2:A' with
              | none=>rw [hA2] at e;cases e
              | some a=>rw [hA2] at e;cases e;have:=(q5.lt hA2).1;omega)).setCell (fun h=>absurd h (by simp;omega)) _
          · intro a ha
            rcases hA2b a ha with ⟨a',ha',hb⟩ | hb
            · have h1:=hA' a' ha';rw [←hb];exact ⟨h1.1,h1.2.1,h1.2.2.1,by omega⟩
            · have:=(hown19.lt ha).2
              exact ⟨by omega,by omega,by omega,by omega⟩
          · rw [List.map_append,List.map_singleton,help]
            exact hBI.push hun hadj hneg
        · refine ⟨KeepsOthers.refl _,KB.refl _ _,hk,hkm,o',Q',A',l',c',⟨q1,q2,q3,q4,q5,q6⟩,hA',?_⟩
          rw [List.map_append,List.map_singleton,help]
          exact hBI.pass hun (by omega)
      · rintro xs w16 hxs ⟨hk,hkm,o',Q',A',l',c',hQI,hA',hBI⟩
        rw [hxs] at hBI
        exact ⟨hkm,m-1,by omega,by have:=hkm.1;omega,by omega,o',Q',A',l',c',hQI,hBI.fin⟩
  · have hQ:Q=[]:=List.eq_nil_of_length_eq_zero (by omega)
    subst hQ
    intro wz ha
    exact ⟨gO,o,rfl,rfl,rfl,gg5,ha.row hout,hB.dist,ha.keeps hpure⟩
end Go.Proofs.YtadpnlimiblniaaGreat

/- The contract of fire: a set of vertices fires some times. -/
namespace Go.Proofs.YtadpnlimiblniaaGreat
open Go Go.RowKit Go.Shelf Go.Proofs.Tryz
set_option maxRecDepth 100000
set_option maxHeartbeats 8000000
theorem ydB.keepL{S:Nat→Prop}{w w':World}{A:Option Addr}{es:List E3}(h:ydB w A es)(hk:Keeps S w w')(hs:∀ b off,A=some ⟨b,off,none⟩→0<es.length→¬S b):ydB w' A es:=fun hl=>by
  obtain ⟨b,off,e,hb,hc⟩:=h hl
  exact ⟨b,off,e,Nat.lt_of_lt_of_le hb hk.size,fun k h1=>⟨hk.cell (hs b off e hl) (hc k h1).1,hk.cell (hs b off e hl) (hc k h1).2.1,hk.cell (hs b off e hl) (hc k h1).2.2⟩⟩
def pay(t:Int)(v:Nat)(d:List Int)(x:Int×Int):List Int:=(d.set v (gi d v-x.2*t)).set x.1.toNat (gi (d.set v (gi d v-x.2*t)) x.1.toNat+x.2*t)
def yez(t:Int)(v:Nat)(l:List (Int×Int))(d:List Int):List Int:=l.foldl (pay t v) d
def ycB(es:List E3)(inn:List Bool)(t:Int)(d:List Int):Nat→List Int
  | 0=>d
  | k+1=>if gb inn k then yez t k (ycr es k) (ycB es inn t d k) else ycB es inn t d k
def ycJ(inn:List Bool)(t:Int)(s:List Int):Nat→List Int
  | 0=>s
  | k+1=>if gb inn k then (ycJ inn t s k).set k (gi (ycJ inn t s k) k+t) else ycJ inn t s k
theorem yhP(t:Int)(v:Nat)(l:List (Int×Int)):∀ d,(yez t v l d).length=d.length:=by
  unfold yez
  induction l with
  | nil=>intro d;rfl
  | cons x l ih=>intro d;rw [List.foldl_cons,ih];simp [pay]
theorem payAll_snoc(t:Int)(v:Nat)(l:List (Int×Int))(x:Int×Int)(d:List Int):yez t v (l++[x]) d=pay t v (yez t v l d) x:=by unfold yez;rw [List.foldl_append];rfl
theorem ybL(es:List E3)(inn:List Bool)(t:Int)(d:List Int):∀ k,(ycB es inn t d k).length=d.length
  | 0=>rfl
  | k+1=>by
    rw [ycB];split
    · rw [yhP,ybL es inn t d k]
    · exact ybL es inn t d k
theorem yb7(inn:List Bool)(t:Int)(s:List Int):∀ k,(ycJ inn t s k).length=s.length
  | 0=>rfl
  | k+1=>by
    rw [ycJ];split
    · rw [List.length_set,yb7 inn t s k]
    · exact yb7 inn t s k
theorem yi3(inn:List Bool)(t:Int)(s:List Int):∀ k i,k≤s.length→gi (ycJ inn t s k) i=if i<k∧gb inn i=true then gi s i+t else gi s i
  | 0,i,_=>by simp [ycJ]
  | k+1,i,hk=>by
    have ih:=yi3 inn t s k
    rw [ycJ]
    by_cases hb:gb inn k=true
    · rw [if_pos hb,ycQ (by rw [yb7];omega)]
      by_cases e:i=k
      · subst e;rw [if_pos rfl,if_pos ⟨by omega,hb⟩,ih i (by omega),if_neg (by omega)]
      · rw [if_neg e,ih i (by omega)]
        by_cases h2:i<k∧gb inn i=true
        · rw [if_pos h2,if_pos ⟨by omega,h2.2⟩]
        · rw [if_neg h2,if_neg (fun h=>h2 ⟨by omega,h.2⟩)]
    · rw [if_neg hb,ih i (by omega)]
      by_cases h2:i<k∧gb inn i=true
      · rw [if_pos h2,if_pos ⟨by omega,h2.2⟩]
      · rw [if_neg h2,if_neg (fun h=>by
          by_cases e:i=k
          · subst e;exact hb h.2
          · exact h2 ⟨by omega,h.2⟩)]
def Bnd(M:Int)(d:List Int):Prop:=∀ i, -M≤gi d i∧gi d i≤M
theorem pay_bnd{t C M:Int}{v:Nat}{x:Int×Int}{d:List Int}(h:Bnd M d)(h0:0≤x.2*t)(h1:x.2*t≤C)(hv:v<d.length)(hu:x.1.toNat<d.length):Bnd (M+2*C) (pay t v d x):=by
  intro i
  unfold pay
  rw [ycQ (by simpa using hu)]
  have hi:=h i
  have hv':=h v
  have hu':=h x.1.toNat
  split
  · rw [ycQ hv];split <;> omega
  · rw [ycQ hv];split <;> omega
def bigAt(d s:List Int)(j:Nat):Bool:=decide (2097152<gi d j∨2097152 < -gi d j∨2097152<gi s j∨2097152 < -gi s j)
def yic(d s:List Int)(e:Int):Nat→Int
  | 0=>e
  | j+1=>if bigAt d s j=true∧yic d s e j=0 then 11 else yic d s e j
theorem mxF4_gt(a b c d L:Int):L<mxF4 a b c d↔L<a∨L<b∨L<c∨L<d:=by
  unfold mxF4 mxF
  split <;> split <;> split <;> omega
def FirePost(X gd gs n:Nat)(A:Option Addr)(es:List E3)(cap cd cs:Nat)(q:Int)(d s:List Int)(e:Int)(inn:List Bool)(t:Int)(w w':World):Prop :=
  yfO w' X gd gs n A es cap cd cs q (ycB es inn t d n) (ycJ inn t s n) (yic (ycB es inn t d n) (ycJ inn t s n) e n)∧Keeps (fun j=>j=gd∨j=gs∨j=X) w w'
theorem fire_any(X gd gs Gin n ci:Nat)(A:Option Addr)(es:List E3)(cap cd cs:Nat)(q:Int)(d s:List Int)(e t:Int)(inn:List Bool)(w:World)(hS:yfO w X gd gs n A es cap cd cs q d s e)(hes:ydB w A es)
    (heg:∀ b off,A=some ⟨b,off,none⟩→0<es.length→b≠gd∧b≠gs∧b≠X) (hin:BRow w Gin 4 ci inn) (hil:inn.length=n) (hn:n≤12) (hE:∀ x∈es,0≤x.1∧x.1<n∧0≤x.2.1∧x.2.1<n∧0≤x.2.2∧x.2.2≤50) (hel:es.length≤1000)
    (ht0:0≤t) (ht1:t≤2147483648) (hbd:Bnd 2147483648 d) (hbs:Bnd 2147483648 s) :
    Calls Tryz.prog 175 #[.pointer (some ⟨X,0,none⟩), .slice (some ⟨Gin,0,none⟩) n ci, .int .i64 t] w fun e' w'=>e' = .returned (.tuple #[])∧FirePost X gd gs n A es cap cd cs q d s e inn t w w':=by
  refine (ygx _ _ _ _ _ w (fun w'=>FirePost X gd gs n A es cap cd cs q d s e inn t w w') ?_)
  unfold ycU
  have hE12:ydE es:=fun x hx=>by have:=hE x hx;omega
  obtain ⟨hX,hd,hs,hne,hdl,hsl⟩:=hS
  have hXd:X≠gd:=hX.ne_ hd (by decide)
  have hXs:X≠gs:=hX.ne_ hs (by decide)
  have hGd:Gin≠gd:=Row.ne_ hin hd (by decide)
  have hGs:Gin≠gs:=Row.ne_ hin hs (by decide)
  have lX:=hX.lt
  have ld:=Row.lt hd
  have ls:=Row.lt hs
  intro g w2 hN1 g2 w3 hN2
  have ag:=hN1.at_
  have sg:=hN1.size
  have ag2:=hN2.at_
  have sg2:=hN2.size
  have K3:Keeps (fun j=>j=gd∨j=gs) w w3:=(hN1.keeps _).trans (hN2.keeps _)
  have hS3:yfO w3 X gd gs n A es cap cd cs q (ycB es inn t d 0) (ycJ inn t s 0) e:=⟨hN2.row_ (hN1.row_ hX),hN2.row_ (hN1.row_ hd),hN2.row_ (hN1.row_ hs),hne,hdl,hsl⟩
  refine ⟨fun m i w4=>∃ k:Nat,m=n-k∧k≤n∧i=(k:Int)∧yfO w4 X gd gs n A es cap cd cs q (ycB es inn t d k) (ycJ inn t s k) e∧Keeps (fun j=>j=gd∨j=gs) w w4∧g2<w4.heap.size∧Bnd (2147483648*(1+(k:Int)*100000)) (ycB es inn t d k),⟨n,0,rfl,Nat.zero_le _,rfl,hS3,K3,by omega,by intro i;have:=hbd i;simp only [ycB];omega⟩,?_⟩
  clear hS3 K3
  rintro m i w4 ⟨k,rfl,hk,rfl,⟨hX4,hd4,hs4,_,hdl4,hsl4⟩,K4,hsz4,hbk⟩
  have hin4:BRow w4 Gin 4 ci inn:=K4.row hin (by omega)
  have lX4:=hX4.lt
  have ld4:=Row.lt hd4
  have ls4:=Row.lt hs4
  refine ⟨fun hlt=>?_,fun hge=>?_⟩
  · refine ⟨ybt (by omega) hlt,gb inn k,by simpa using bld hin4 (i:=(k:Int)) (by omega) (by omega),fun g3 w5 hN3=>?_⟩
    have ag3:=hN3.at_
    have sg3:=hN3.size
    refine ⟨by omega,by omega,fun w6 e6=>?_⟩
    have K6:Keeps (fun j=>j=gd∨j=gs) w w6:=by
      rw [e6];exact (K4.trans (hN3.keeps _)).setCell (fun h=>absurd h (by have:=K4.size;simp;omega)) _
    have s6:w6.heap.size=w5.heap.size:=by rw [e6];simp [World.setCell]
    have far6:∀ {k':Nat} {e':TypeId} {sz:Nat} {xs:List Value},k'≠g3→Row w4 k' e' sz xs→Row w6 k' e' sz xs:=fun hne' hr=>by
      rw [e6];exact (hN3.row_ hr).far (by simpa using hne') _
    have hX6:=far6 (by omega) hX4
    have hd6:IRow w6 gd _ _ _:=far6 (by omega) hd4
    have hs6:IRow w6 gs _ _ _:=far6 (by omega) hs4
    refine ⟨fun hb=>?_,fun hb=>?_⟩
    · refine ⟨_,_,_,hX6.at_ 4 rfl,ybt (by omega) (by omega),_,ild hs6 (i:=(k:Int)) (by omega) (by omega),?_,ybt (by omega) (by omega),iwr hs6 (by omega) (by omega),by rw [ybH];simp;omega,by rw [ybH];simp;omega,by rw [ybH];simp;omega,fun w7 e7=>?_⟩
      · have:=hbs k
        have h9:=yi3 inn t s k k (by omega)
        rw [if_neg (by omega)] at h9
        simp only [Int.toNat_natCast]
        rw [h9];exact in64 (by omega)
      have hs7:IRow w7 gs 3 cs (ycJ inn t s (k+1)):=by
        have:=ist hs6.drew (k:Int) (gi (ycJ inn t s k) (k:Int).toNat+t)
        rw [e7,ycJ,if_pos hb];simpa using this
      have far7:∀ {k':Nat} {e':TypeId} {sz:Nat} {xs:List Value},k'≠gs→Row w6 k' e' sz xs→Row w7 k' e' sz xs:=fun hne' hr=>by
        rw [e7];exact Row.far_ hr.drew hne' _ _
      have hX7:=far7 hXs hX6
      have hd7:=far7 hne hd6
      have K7:Keeps (fun j=>j=gd∨j=gs) w w7:=by rw [e7];exact K6.drew.set_ (.inr rfl) _ _
      have s7:w7.heap.size=w6.heap.size:=by rw [e7];simp [World.setCell]
      refine (links_pure X (k:Int) w7).mono ?_
      rintro _ w8 ⟨bx,bv,rfl,hbx,hbv,rbx,rbv,hp8⟩
      have s8:=hp8.size
      have K8:Keeps (fun j=>j=gd∨j=gs) w w8:=Pure.after K7 hp8
      have hX8:=hp8.row hX7 id
      have hd8:=hp8.row hd7 id
      have hs8:=hp8.row hs7 id
      have hes8:ydB w8 A es:=hes.keepL K8 (fun b off h h0=>by have:=heg b off h h0;omega)
      have lbx:=rbx.lt
      have lbv:=rbv.lt
      refine ⟨_,rfl,hp8.kp id,hp8.kp id,hp8.kp id,Keeps.kpm_pure hp8,?_⟩
      refine ⟨yiq es (k:Int),encL es (k:Int),_,_,es.length,fun pre W=>IRow W gd 3 cd (yez t k (pre.map (·.1)) (ycB es inn t d k))∧Bnd (2147483648*(1+(k:Int)*100000+(pre.length:Int)*100)) (yez t k (pre.map (·.1)) (ycB es inn t d k))∧Keeps (fun j=>j=gd) w8 W,
        links_iter X A es cap (k:Int) bx bv w8 rbx rbv (Row.cell hX8 (i:=1) rfl) hes8 hE12 (by omega) (by omega) (by omega),fun _=>rfl,?_,⟨hd8,by simpa [yez] using hbk,Keeps.refl _ _⟩,?_,?_,?_⟩
      · exact stays_of fun pre W W' row h hg hr=>⟨Row.owned h.1 hg (fun r e=>(hr r e).2),h.2.1,h.2.2.owned hg (Nat.le_refl _) (fun r e=>(hr r e).1)⟩
      · intro pr W h
        exact ⟨h.2.2.kp (by omega),h.2.2.kp (by omega),h.2.2.kp (by omega),trivial⟩
      · rintro pre el w9 ⟨rd9,hb9,K9⟩ hlen
        obtain ⟨eg,heg',hlk⟩:=el.2
        have hxx:0≤el.1.1∧el.1.1<n∧0≤el.1.2∧el.1.2≤50:=by
          have h2:=hE eg heg'
          unfold link at hlk
          split at hlk
          · rename_i hc
            simp only [Option.some.injEq] at hlk
            rw [←hlk]
            omega
          · cases hlk
        obtain ⟨u1,u2,u3,u4⟩:=hxx
        have hmt0:0≤el.1.2*t:=Int.mul_nonneg u3 ht0
        have hmt1:el.1.2*t≤50*2147483648:=Int.mul_le_mul u4 ht1 ht0 (by omega)
        have hX9:=K9.row hX8 hXd
        obtain ⟨dd,hdd⟩:∃ dd,dd=yez t k (pre.map (·.1)) (ycB es inn t d k):=⟨_,rfl⟩
        have hdlen:dd.length=n:=by rw [hdd,yhP,ybL];exact hdl
        rw [←hdd] at rd9 hb9
        have hpl:pre.length≤1000:=by omega
        refine ⟨el.1.1,el.1.2,rfl,_,_,_,hX9.at_ 3 rfl,ybt (by omega) (by omega),_,ild rd9 (i:=(k:Int)) (by omega) (by omega),in64 (by omega),?_,ybt (by omega) (by omega),iwr (Row.drew rd9) (by omega) (by omega),by rw [ybH];simp;omega,by rw [ybH];simp;omega,by rw [ybH];simp;omega,fun w11 e11=>?_⟩
        · have:=hb9 (k:Int).toNat
          exact in64 (by omega)
        have rd11:IRow w11 gd 3 cd (dd.set k (gi dd k-el.1.2*t)):=by
          have:=ist (Row.drew rd9) (k:Int) (gi dd (k:Int).toNat-el.1.2*t)
          rw [e11];simpa using this
        have far11:∀ {k':Nat} {e':TypeId} {sz:Nat} {xs:List Value},k'≠gd→Row w9 k' e' sz xs→Row w11 k' e' sz xs:=fun hne' hr=>by
          rw [e11];exact Row.far_ hr.drew hne' _ _
        have hX11:=far11 hXd hX9
        have K11:Keeps (fun j=>j=gd) w8 w11:=by rw [e11];exact K9.drew.set_ rfl _ _
        have ko11:KeepsOthers w9 w11:=by rw [e11];exact (KeepsOthers.drew w9).trans (KeepsOthers.setCell _ _ _)
        have kd11:Keeps (fun j=>j=gd) w9 w11:=by rw [e11];exact ((Keeps.refl (fun j=>j=gd) w9).drew).set_ rfl _ _
        refine ⟨_,_,_,hX11.at_ 3 rfl,ybt (by omega) (by omega),_,ild rd11 (i:=el.1.1) (by omega) (by simp;omega),in64 (by omega),?_,ybt (by omega) (by omega),iwr (Row.drew rd11) (by omega) (by simp;omega),by rw [ybH];simp;omega,by rw [ybH];simp;omega,by rw [ybH];simp;omega,fun w12 e12=>?_⟩
        · have h1:=hb9 el.1.1.toNat
          have h2:=hb9 k
          rw [ycQ (by omega)]
          split <;> exact in64 (by omega)
        have rd12:IRow w12 gd 3 cd (pay t k dd el.1):=by
          have:=ist (Row.drew rd11) el.1.1 (gi (dd.set k (gi dd k-el.1.2*t)) el.1.1.toNat+el.1.2*t)
          rw [e12];exact this
        have kd12:Keeps (fun j=>j=gd) w9 w12:=by rw [e12];exact kd11.drew.set_ rfl _ _
        have hpa:yez t k ((pre++[el]).map (·.1)) (ycB es inn t d k)=pay t k dd el.1:=by rw [List.map_append,List.map_singleton,payAll_snoc,←hdd]
        refine ⟨?_,?_,?_,?_,?_⟩
        · rw [e12];exact ko11.trans ((KeepsOthers.drew w11).trans (KeepsOthers.setCell _ _ _))
        · intro j hj
          have h5:=K9.size
          refine kd12.block j ?_ ?_
          · rcases hj with rfl | ⟨h0,a,ha,rfl⟩
            · omega
            · obtain ⟨b,off,hA,hb,_⟩:=hes8 h0
              rw [hA] at ha;cases ha;simp;omega
          · rcases hj with rfl | ⟨h0,a,ha,rfl⟩
            · omega
            · obtain ⟨b,off,hA,hb,_⟩:=hes8 h0
              rw [hA] at ha;cases ha
              have:=heg b off hA (List.length_pos_of_mem heg');simp;omega
        · rw [hpa];exact rd12
        · rw [hpa]
          have h6:=pay_bnd (C:=50*2147483648) hb9 hmt0 hmt1 (by omega:k<dd.length) (by omega:el.1.1.toNat<dd.length)
          intro i
          have h7:=h6 i
          have h8:(((pre++[el]).length:Nat):Int)=(pre.length:Int)+1:=by rw [List.length_append];rfl
          rw [h8]
          omega
        · rw [e12];exact K11.drew.set_ rfl _ _
      · rintro xs w10 hxs ⟨rd10,hb10,K10⟩
        have hDE:ycB es inn t d (k+1)=yez t k (xs.map (·.1)) (ycB es inn t d k):=by rw [ycB,if_pos hb,hxs]
        have hxl:xs.length≤es.length:=by
          have h:=congrArg List.length hxs
          rw [List.length_map] at h
          rw [h]
          exact List.length_filterMap_le _ _
        refine ⟨K10.kpm (fun j hj o ho=>by subst hj;exact Row.cells_ hd8 o ho),in64 (by omega),n-(k+1),by omega,k+1,rfl,by omega,by omega,⟨by have:=K10.row hX8 hXd;rw [ybL,yb7] at this ⊢;exact this,by rw [hDE];exact rd10,K10.row hs8 (Ne.symm hne),hne,by rw [ybL];exact hdl,by rw [yb7];exact hsl⟩,K8.trans (K10.mono (fun _ _ h => .inl h)),by have:=K10.size;omega,?_⟩
        rw [hDE]
        intro i
        have:=hb10 i
        omega
    · refine ⟨in64 (by omega),n-(k+1),by omega,k+1,rfl,by omega,by omega,⟨by rw [ycB,if_neg hb,ycJ,if_neg hb];exact hX6,by rw [ycB,if_neg hb];exact hd6,by rw [ycJ,if_neg hb];exact hs6,hne,by rw [ybL];exact hdl,by rw [yb7];exact hsl⟩,K6,by omega,?_⟩
      rw [ycB,if_neg hb];intro i;have:=hbk i;omega
  · obtain rfl:k=n:=by omega
    obtain ⟨D,hD⟩:∃ D,D=ycB es inn t d k:=⟨_,rfl⟩
    obtain ⟨S,hSS⟩:∃ S,S=ycJ inn t s k:=⟨_,rfl⟩
    have hDl:D.length=k:=by rw [hD,ybL];exact hdl
    have hSl:S.length=k:=by rw [hSS,yb7];exact hsl
    have hbS:Bnd 4294967296 S:=by
      intro i
      rw [hSS,yi3 inn t s k i (by omega)]
      have:=hbs i
      split <;> omega
    unfold FirePost
    rw [←hD] at hX4 hd4 hbk ⊢
    rw [←hSS] at hX4 hs4 ⊢
    refine ⟨_,_,_,hX4.at_ 3 rfl,?_⟩
    refine ⟨fun m i w13=>∃ j:Nat,m=k-j∧j≤k∧i=(j:Int)∧yfO w13 X gd gs k A es cap cd cs q D S (yic D S e j)∧Keeps (fun j=>j=gd∨j=gs∨j=X) w w13,⟨k,0,rfl,Nat.zero_le _,rfl,⟨hX4,hd4,hs4,hne,hDl,hSl⟩,K4.mono (fun _ _ h=>by rcases h with h | h;exact .inl h;exact .inr (.inl h))⟩,?_⟩
    rintro m i w13 ⟨j,rfl,hj,rfl,⟨hX5,hd5,hs5,_,_,_⟩,K5⟩
    refine ⟨fun hlt=>?_,fun hge=>?_⟩
    · have hb1:=hbk j
      have hb2:=hbS j
      have e1:=fun h0 h1=>ild (Row.drew hd5) (i:=(j:Int)) h0 h1
      have e2:=fun h0 h1=>ild (Row.drew hs5) (i:=(j:Int)) h0 h1
      simp only [Int.toNat_natCast] at e1 e2
      refine ⟨_,_,_,hX5.drew.at_ 3 rfl,ybt (by omega) (by omega),_,e1 (by omega) (by omega),_,_,_,hX5.drew.at_ 3 rfl,ybt (by omega) (by omega),_,e1 (by omega) (by omega),in64 (by omega),_,_,_,hX5.drew.at_ 4 rfl,ybt (by omega) (by omega),_,e2 (by omega) (by omega),_,_,_,hX5.drew.at_ 4 rfl,ybt (by omega) (by omega),_,e2 (by omega) (by omega),in64 (by omega),fun hbig=>?_,fun hbig=>?_⟩
      · have hba:bigAt D S j=true:=by rw [mxF4_gt] at hbig;unfold bigAt;simpa using hbig
        refine ⟨_,hX5.drew.at_ 5 rfl,fun he=>?_,fun he=>?_⟩
        · have K13:=K5.size
          refine ⟨hX5.drew.wr_ 5 (by simp),by simp [ycD];omega,by simp [ycD];omega,fun w14 e14=>⟨in64 (by omega),k-(j+1),by omega,j+1,rfl,by omega,by omega,?_,?_⟩⟩
          · rw [e14,ycD,yic,if_pos ⟨hba,he⟩]
            exact ⟨hX5.drew.set_ 5 _,Row.far (Row.drew hd5) (by simp;omega) _,Row.far (Row.drew hs5) (by simp;omega) _,hne,hDl,hSl⟩
          · rw [e14,ycD];exact K5.drew.setCell (fun _ => .inr (.inr rfl)) _
        · refine ⟨in64 (by omega),k-(j+1),by omega,j+1,rfl,by omega,by omega,?_,K5.drew⟩
          rw [yic,if_neg (fun h=>he h.2)]
          exact ⟨hX5.drew,Row.drew hd5,Row.drew hs5,hne,hDl,hSl⟩
      · have hba:¬bigAt D S j=true:=by rw [mxF4_gt] at hbig;unfold bigAt;simpa using hbig
        refine ⟨in64 (by omega),k-(j+1),by omega,j+1,rfl,by omega,by omega,?_,K5.drew⟩
        rw [yic,if_neg (fun h=>hba h.1)]
        exact ⟨hX5.drew,Row.drew hd5,Row.drew hs5,hne,hDl,hSl⟩
    · obtain rfl:j=k:=by omega
      intro wz ha
      exact ⟨⟨ha.row hX5,ha.row hd5,ha.row hs5,hne,hDl,hSl⟩,ha.keeps K5⟩
end Go.Proofs.YtadpnlimiblniaaGreat

/- The contract of settle: unburnt sets fire until there are none. What fires well is a premise (Good), so that the numbers are plain Lean elsewhere. -/
namespace Go.Proofs.YtadpnlimiblniaaGreat
open Go Go.RowKit Go.Shelf Go.Proofs.Tryz
set_option maxRecDepth 100000
set_option maxHeartbeats 8000000
def yby(es:List E3)(left:List Bool)(d:List Int):Nat→Int
  | 0=>0
  | k+1=>if gb left k=true∧0<yaQ es (k:Int) (fun u=>!gb left u.toNat) then
      (if yby es left d k=0∨(gi d k).tdiv (yaQ es (k:Int) (fun u=>!gb left u.toNat))<yby es left d k then (gi d k).tdiv (yaQ es (k:Int) (fun u=>!gb left u.toNat)) else yby es left d k)
    else yby es left d k
structure Burns(n:Nat)(es:List E3)(q:Nat)(d:List Int)(burnt:List Bool):Prop where
  len:burnt.length=n
  at_q:gb burnt q=true
  closed:Closed n es d burnt
  forced:yiu n es q d burnt
def leftOf(burnt:List Bool):List Bool:=burnt.map (!·)
theorem settle1_any(B g n c:Nat)(left:List Bool)(u:Nat)(w:World)(hB:Row w B 160 1 [.slice (some ⟨g,0,none⟩) n c])(hg:BRow w g 4 c left)(hl:left.length=n)(hu:u<n) :
    Calls Tryz.prog 180 #[.int .i64 (u:Int), .pointer (some ⟨B,0,none⟩)] w fun e w'=>e = .returned (.bool (!gb left u))∧w=w':=by
  refine (yfr (u:Int) ⟨B,0,none⟩ w (fun r w'=>r=(!gb left u)∧w=w') ?_).mono ?_
  · unfold yb8
    have:=bld hg (i:=(u:Int)) (by omega) (by omega)
    exact ⟨_,_,_,Row.cell hB (i:=0) rfl,ybt (by omega) (by omega),gb left u,by simpa using this,rfl,rfl⟩
  · rintro e w' ⟨r,rfl,rfl,rfl⟩;exact ⟨rfl,rfl⟩
def SettlePost(Good:Nat→List Int→List Int→Int→Prop)(X gd gs n:Nat)(A:Option Addr)(es:List E3)(cap cd cs q:Nat)(w w':World):Prop :=
  ∃ m d s e,Good m d s e∧yfO w' X gd gs n A es cap cd cs q d s e∧(e≠0∨∃ burnt,Burns n es q d burnt∧(leftOf burnt).any id=false)∧Keeps (fun j=>j=gd∨j=gs∨j=X) w w'
theorem settle_any(Good:Nat→List Int→List Int→Int→Prop)(X gd gs n:Nat)(A:Option Addr)(es:List E3)(cap cd cs q:Nat)(m:Nat)(d s:List Int)(e:Int)(w:World)(hS:yfO w X gd gs n A es cap cd cs q d s e)(hes:ydB w A es)
    (heg:∀ b off,A=some ⟨b,off,none⟩→0<es.length→b≠gd∧b≠gs∧b≠X) (hq:q<n) (hn:n≤12) (hE:∀ x∈es,0≤x.1∧x.1<n∧0≤x.2.1∧x.2.1<n∧0≤x.2.2∧x.2.2≤50) (hel:es.length≤1000)
    (hG0:Good m d s e)
    (hG:∀ m d s e,Good m d s e→Bnd 2147483648 d∧Bnd 2147483648 s)
    (hG2:∀ m d s burnt,Good m d s 0→d.length=n→s.length=n→Burns n es q d burnt→(leftOf burnt).any id=true →
      0≤yby es (leftOf burnt) d n∧yby es (leftOf burnt) d n≤2147483648∧(∀ v,v<n→gb (leftOf burnt) v=true→0≤gi d v) ∧
      ∃ m',m'<m∧Good m' (ycB es (leftOf burnt) (yby es (leftOf burnt) d n) d n) (ycJ (leftOf burnt) (yby es (leftOf burnt) d n) s n)
        (yic (ycB es (leftOf burnt) (yby es (leftOf burnt) d n) d n) (ycJ (leftOf burnt) (yby es (leftOf burnt) d n) s n) 0 n)) :
    Calls Tryz.prog 165 #[.pointer (some ⟨X,0,none⟩)] w fun e' w'=>e' = .returned (.tuple #[])∧SettlePost Good X gd gs n A es cap cd cs q w w':=by
  refine yfS _ w (SettlePost Good X gd gs n A es cap cd cs q w) ?_
  unfold ycs
  have hE12:ydE es:=fun x hx=>by have:=hE x hx;omega
  refine ⟨fun m W=>∃ d s e,Good m d s e∧yfO W X gd gs n A es cap cd cs q d s e∧Keeps (fun j=>j=gd∨j=gs∨j=X) w W,⟨m,d,s,e,hG0,hS,Keeps.refl _ _⟩,?_⟩
  clear hG0 hS
  rintro m w2 ⟨d,s,e,hg,hS2,K2⟩
  obtain ⟨hX2,hd2,hs2,hne,hdl,hsl⟩:=hS2
  refine ⟨e,hX2.at_ 5 rfl,fun he=>?_,fun he=>⟨m,d,s,e,hg,⟨hX2,hd2,hs2,hne,hdl,hsl⟩, .inl he,K2⟩⟩
  subst he
  have hes2:ydB w2 A es:=hes.keepL K2 (fun b off h h0=>by have:=heg b off h h0;omega)
  refine (unburnt_any X gd gs n A es cap cd cs q d s 0 w2 ⟨hX2,hd2,hs2,hne,hdl,hsl⟩ hes2 hq hn hE hel).mono ?_
  rintro _ w3 ⟨gl,left,rfl,hgl,hl3,hll,hp3,burnt,b1,b2,b3,b4,b5⟩
  have hb:Burns n es q d burnt:=⟨b1,b3,b4,b5⟩
  have hlo:left=leftOf burnt:=b2
  refine ⟨_,_,_,_,rfl,fun g w4 hN=>⟨hN.row.wr_ 0 (by simp),fun w5 e5=>?_⟩⟩
  have ag:=hN.at_
  have sg:=hN.size
  have s3:=hp3.size
  have s2:=K2.size
  have far5:∀ {k':Nat} {e':TypeId} {sz:Nat} {xs:List Value},k'≠g→Row w4 k' e' sz xs→Row w5 k' e' sz xs:=fun hne' hr=>by
    rw [e5];exact hr.far (by simpa using hne') _
  have hg5:Row w5 g 160 1 [.slice (some ⟨gl,0,none⟩) n n]:=by rw [e5];exact hN.row.set_ 0 _
  have lgl:=Row.lt hl3
  have lX:=hX2.lt
  have ld:=Row.lt hd2
  have ls:=Row.lt hs2
  have hl5:BRow w5 gl 4 n left:=far5 (by omega) (hN.row_ hl3)
  have p35:Pure w2 w5:=by
    rw [e5];exact (hp3.trans (hN.keeps _)).setCell (fun h=>absurd h (by simp;omega)) _
  have hX5:=p35.row hX2 id
  have hd5:=p35.row hd2 id
  have hs5:=p35.row hs2 id
  have hes5:=hes2.keep p35
  have K5:=Pure.after K2 p35
  refine ⟨fun hany=>?_,fun hany=>?_⟩
  · rw [hlo] at hany
    obtain ⟨t0,t1,hd0,m',hm',hg'⟩:=hG2 m d s burnt hg hdl hsl hb hany
    rw [←hlo] at t0 t1 hd0 hg'
    obtain ⟨hbd,hbs⟩:=hG m d s 0 hg
    refine ⟨_,_,_,hg5.at_ 0 rfl,?_⟩
    refine ⟨fun mm times i w6=>∃ k:Nat,mm=n-k∧k≤n∧i=(k:Int)∧times=yby es left d k∧Pure w5 w6,⟨n,0,rfl,Nat.zero_le _,rfl,rfl,Keeps.refl _ _⟩,?_⟩
    rintro mm times i w6 ⟨k,rfl,hk,rfl,rfl,p6⟩
    have hl6:=p6.row hl5 id
    refine ⟨fun hlt=>?_,fun hge=>?_⟩
    · have hkn:k<n:=by omega
      have ldk:=bld hl6 (i:=(k:Int)) (by omega) (by omega)
      simp only [Int.toNat_natCast] at ldk
      refine ⟨ybt (by omega) (by omega),gb left k,ldk,fun hb1=>?_,fun hb1=>?_⟩
      · have hg6:=p6.row hg5 id
        have hX6:=p6.row hX5 id
        refine (yjG X A es cap (k:Int) 180 #[.pointer (some ⟨g,0,none⟩)] (fun u=>!gb left u.toNat) w6 (Row.cell hX6 (i:=1) rfl) (hes5.keep p6) hE12 (fun x hx=>by have:=hE x hx;omega) (by omega) (by omega) hel enter_180 (fun u W hW hm=>?_)).mono ?_
        · obtain ⟨mu,hmu⟩:=hm
          have hr1:=ybZ hE hmu
          obtain ⟨un,rfl⟩:∃ un:Nat,u=(un:Int):=⟨u.toNat,by omega⟩
          simp only [Int.toNat_natCast]
          exact settle1_any g gl n n left un W (hW.row hg6 id) (hW.row hl6 id) hll (by omega)
        · rintro _ w7 ⟨rfl,p7⟩
          refine ⟨_,rfl,fun hpos=>?_,fun hpos=>?_⟩
          · have hX7:=p7.row hX6 id
            have hd7:=p7.row (p6.row hd5 id) id
            have ldd:=ild hd7 (i:=(k:Int)) (by omega) (by omega)
            simp only [Int.toNat_natCast] at ldd
            have h0:=hd0 k hkn hb1
            have hbk:=hbd k
            have hq1:(gi d k).tdiv (yaQ es (k:Int) (fun u=>!gb left u.toNat))=gi d k / yaQ es (k:Int) (fun u=>!gb left u.toNat):=Int.tdiv_eq_ediv_of_nonneg h0
            have hq2:0≤gi d k / yaQ es (k:Int) (fun u=>!gb left u.toNat):=Int.ediv_nonneg h0 (by omega)
            have hq3:gi d k / yaQ es (k:Int) (fun u=>!gb left u.toNat)≤gi d k:=Int.ediv_le_self _ h0
            have hstep:∀ t,yby es left d (k+1)=t↔(if yby es left d k=0∨(gi d k).tdiv (yaQ es (k:Int) (fun u=>!gb left u.toNat))<yby es left d k then (gi d k).tdiv (yaQ es (k:Int) (fun u=>!gb left u.toNat)) else yby es left d k)=t:=fun t=>by rw [yby,if_pos ⟨hb1,hpos⟩]
            refine ⟨_,_,_,hX7.at_ 3 rfl,ybt (by omega) (by omega),_,ldd,by omega,by rw [hq1];exact in64 (by omega),fun ht=>?_,fun ht=>⟨fun hlt2=>?_,fun hlt2=>?_⟩⟩
            · exact ⟨in64 (by omega),n-(k+1),by omega,k+1,rfl,by omega,by omega,((hstep _).2 (if_pos (.inl ht))).symm,p6.trans p7⟩
            · exact ⟨in64 (by omega),n-(k+1),by omega,k+1,rfl,by omega,by omega,((hstep _).2 (if_pos (.inr hlt2))).symm,p6.trans p7⟩
            · exact ⟨in64 (by omega),n-(k+1),by omega,k+1,rfl,by omega,by omega,((hstep _).2 (if_neg (fun h=>h.elim ht hlt2))).symm,p6.trans p7⟩
          · exact ⟨in64 (by omega),n-(k+1),by omega,k+1,rfl,by omega,by omega,by rw [yby,if_neg (fun h=>hpos h.2)],p6.trans p7⟩
      · exact ⟨in64 (by omega),n-(k+1),by omega,k+1,rfl,by omega,by omega,by rw [yby,if_neg (fun h=>hb1 h.1)],p6⟩
    · obtain rfl:k=n:=by omega
      have K6:=Pure.after K5 p6
      have s5:w5.heap.size=w4.heap.size:=by rw [e5];simp [World.setCell]
      refine ⟨_,_,_,(p6.row hg5 id).at_ 0 rfl,?_⟩
      refine (fire_any X gd gs gl k k A es cap cd cs q d s 0 _ left w6 ⟨p6.row hX5 id,p6.row hd5 id,p6.row hs5 id,hne,hdl,hsl⟩ (hes5.keep p6) heg hl6 hll hn hE hel t0 t1 hbd hbs).mono ?_
      rintro _ w8 ⟨rfl,hS8,K8⟩
      exact ⟨rfl,m',hm',_,_,_,hg',hS8,K6.trans K8⟩
  · exact ⟨m,d,s,0,hg,⟨hX5,hd5,hs5,hne,hdl,hsl⟩, .inr ⟨burnt,hb,by rw [←hlo];simpa using hany⟩,K5⟩
end Go.Proofs.YtadpnlimiblniaaGreat

/- The contracts of slices.Max and of lend: from the farthest vertices on, the nearer ones fire. What fires well is a premise (Good). -/
namespace Go.Proofs.YtadpnlimiblniaaGreat
open Go Go.RowKit Go.Shelf Go.Proofs.Tryz
set_option maxRecDepth 100000
set_option maxHeartbeats 8000000
def ygm(l:List Int):Nat→Int
  | 0=>gi l 0
  | k+1=>mxF (ygm l k) (gi l k)
theorem yiT(l:List Int):∀ (k j:Nat),j<k→gi l j≤ygm l k
  | k+1,j,h=>by
    rw [ygm,mxF_eq]
    by_cases e:j=k
    · subst e;exact Int.le_max_right _ _
    · exact Int.le_trans (yiT l k j (by omega)) (Int.le_max_left _ _)
theorem yjF(l:List Int):∀ k,k≤l.length→0<l.length→∃ j,j<l.length∧ygm l k=gi l j
  | 0,_,h=>⟨0,h,rfl⟩
  | k+1,h,h0=>by
    obtain ⟨j,hj,e⟩:=yjF l k (by omega) h0
    rw [ygm]
    unfold mxF
    split
    · exact ⟨k,by omega,rfl⟩
    · exact ⟨j,hj,e⟩
theorem max_any(A:Option Addr)(l:List Int)(c:Nat)(w:World)(hl:Ints w A l)(h0:0<l.length)(hn:l.length≤1000000) :
    Calls Tryz.prog 176 #[.slice A l.length c] w fun e w'=>∃ r,e = .returned (.int .i64 r)∧r=ygm l l.length∧Pure w w':=by
  refine ok_slices_Max_ A l.length c w (fun r w'=>r=ygm l l.length∧Pure w w') ?_
  unfold yfq
  refine ⟨fun w'=>w'=w,?_,fun h=>absurd h (by omega),fun _=>rfl⟩
  intro w2 hw2
  have hw2:=hw2.symm
  subst hw2
  refine ⟨ints_ix hl rfl (by omega) (by omega),_,ints_ld hl (by omega) (by omega),fun m v i w3=>∃ k:Nat,m=l.length-k∧1≤k∧k≤l.length∧i=(k:Int)∧v=ygm l k∧Pure w w3,⟨l.length-1,1,rfl,by omega,by omega,rfl,?_,Keeps.refl _ _⟩,?_⟩
  · rw [ygm,ygm,mxF_eq];simp
  · rintro m v i w3 ⟨k,rfl,hk1,hk2,rfl,rfl,hp⟩
    refine ⟨fun hlt=>?_,fun hge=>?_⟩
    · have:=ints_ld (hl.keep hp) (i:=(k:Int)) (by omega) (by omega)
      simp only [Int.toNat_natCast] at this
      exact ⟨ints_ix hl rfl (by omega) (by omega),_,this,in64 (by omega),l.length-(k+1),by omega,k+1,rfl,by omega,by omega,by omega,rfl,hp⟩
    · obtain rfl:k=l.length:=by omega
      exact ⟨rfl,hp⟩
def yaW(o:List Int)(k:Int):List Bool:=o.map fun x=>decide (x<k)
theorem yf5{o:List Int}{k:Int}{j:Nat}(h:j<o.length):gb (yaW o k) j=decide (gi o j<k):=by
  rw [yb5 (by simpa [yaW] using h),yaN h]
  simp [yaW]
def ybw(es:List E3)(o:List Int)(k:Int)(d:List Int):Nat→Int
  | 0=>0
  | j+1=>if gi o j=k∧gi d j<0 then mxF (ybw es o k d j) ((-gi d j+yaQ es (j:Int) (fun u=>gb (yaW o k) u.toNat)-1).tdiv (yaQ es (j:Int) (fun u=>gb (yaW o k) u.toNat))) else ybw es o k d j
theorem addF_pos{p:Int→Bool}{l:List (Int×Int)}(h:∀ q∈l,0≤q.2){x:Int×Int}(hx:x∈l)(hp:p x.1=true)(hx1:1≤x.2):1≤addF p l:=by
  suffices H:∀ (l:List (Int×Int)) (a:Int),(∀ q∈l,0≤q.2)→a≤l.foldl (fun n x=>if p x.1 then n+x.2 else n) a∧(x∈l→a+1≤l.foldl (fun n x=>if p x.1 then n+x.2 else n) a) by
    have:=(H l 0 h).2 hx
    unfold addF;omega
  intro l
  induction l with
  | nil=>intro a _;simp
  | cons y l ih =>
    intro a h
    have h1:=ih (if p y.1 then a+y.2 else a) (fun q hq=>h q (by simp [hq]))
    have hy:=h y (by simp)
    rw [List.foldl_cons]
    refine ⟨?_,fun hm=>?_⟩
    · split at h1 <;> rename_i hpy <;> simp only [hpy] at h1 ⊢ <;> simp at h1 ⊢ <;> omega
    · rcases List.mem_cons.1 hm with rfl | hm
      · rw [if_pos hp] at h1 ⊢;omega
      · have h2:=h1.2 hm
        split at h2 <;> rename_i hpy <;> simp only [hpy] at h2 ⊢ <;> simp at h2 ⊢ <;> omega
theorem near_pos{n:Nat}{es:List E3}{q:Nat}{o:List Int}(hD:Dist n es q o)(hE1:∀ x∈es,1≤x.2.2){v k:Nat}(hv:v<n)(hk:gi o v=(k:Int)+1):1≤yaQ es (v:Int) (fun u=>gb (yaW o ((k:Int)+1)) u.toNat):=by
  obtain ⟨u,hu,⟨m,hm⟩,ho⟩:=hD.par v hv (by omega)
  have hpos:∀ p∈ycr es (v:Int),1≤p.2:=fun p hp=>by
    obtain ⟨x,hx,_,_,_,h4⟩:=(ybV (u:=p.1) (m:=p.2)).1 hp
    rw [h4];exact hE1 x hx
  refine addF_pos (fun p hp=>by have:=hpos p hp;omega) hm ?_ (hpos _ hm)
  simp only [Int.toNat_natCast]
  rw [yf5 (by rw [hD.len];exact hu)]
  simp;omega
theorem lend1_any(B g n c:Nat)(l:List Bool)(u:Nat)(w:World)(hB:Row w B 160 1 [.slice (some ⟨g,0,none⟩) n c])(hg:BRow w g 4 c l)(hl:l.length=n)(hu:u<n) :
    Calls Tryz.prog 178 #[.int .i64 (u:Int), .pointer (some ⟨B,0,none⟩)] w fun e w'=>e = .returned (.bool (gb l u))∧w=w':=by
  refine (ygb (u:Int) ⟨B,0,none⟩ w (fun r w'=>r=gb l u∧w=w') ?_).mono ?_
  · unfold ycx
    have:=bld hg (i:=(u:Int)) (by omega) (by omega)
    exact ⟨_,_,_,Row.cell hB (i:=0) rfl,ybt (by omega) (by omega),gb l u,by simpa using this,rfl,rfl⟩
  · rintro e w' ⟨r,rfl,rfl,rfl⟩;exact ⟨rfl,rfl⟩
def LendPost(Good:List Int→Nat→List Int→List Int→Int→Prop)(X gd gs n:Nat)(A:Option Addr)(es:List E3)(cap cd cs q:Nat)(w w':World):Prop :=
  ∃ o k d s e,Dist n es q o∧Good o k d s e∧yfO w' X gd gs n A es cap cd cs q d s e∧(k=0∨e≠0)∧Keeps (fun j=>j=gd∨j=gs∨j=X) w w'
theorem lend_any(Good:List Int→Nat→List Int→List Int→Int→Prop)(X gd gs n:Nat)(A:Option Addr)(es:List E3)(cap cd cs q:Nat)(d s:List Int)(e:Int)(w:World)(hS:yfO w X gd gs n A es cap cd cs q d s e)(hes:ydB w A es)
    (heg:∀ b off,A=some ⟨b,off,none⟩→0<es.length→b≠gd∧b≠gs∧b≠X) (hq:q<n) (hn:n≤12) (hE:∀ x∈es,0≤x.1∧x.1<n∧0≤x.2.1∧x.2.1<n∧0≤x.2.2∧x.2.2≤50) (hE1:∀ x∈es,1≤x.2.2) (hel:es.length≤1000)
    (hG0:∀ o,Dist n es q o→Good o (ygm o n).toNat d s e)
    (hG:∀ o k d s e,Good o k d s e→Bnd 2147483647 d∧Bnd 2147483648 s)
    (hG2:∀ o k d s,Dist n es q o→Good o (k+1) d s 0→d.length=n→s.length=n→ybw es o ((k:Int)+1) d n≤2147483648 ∧
      (0<ybw es o ((k:Int)+1) d n→Good o k (ycB es (yaW o ((k:Int)+1)) (ybw es o ((k:Int)+1) d n) d n) (ycJ (yaW o ((k:Int)+1)) (ybw es o ((k:Int)+1) d n) s n)
        (yic (ycB es (yaW o ((k:Int)+1)) (ybw es o ((k:Int)+1) d n) d n) (ycJ (yaW o ((k:Int)+1)) (ybw es o ((k:Int)+1) d n) s n) 0 n)) ∧
      (¬0<ybw es o ((k:Int)+1) d n→Good o k d s 0)) :
    Calls Tryz.prog 164 #[.pointer (some ⟨X,0,none⟩)] w fun e' w'=>e' = .returned (.tuple #[])∧LendPost Good X gd gs n A es cap cd cs q w w':=by
  refine ygP _ w (LendPost Good X gd gs n A es cap cd cs q w) ?_
  unfold ycR
  have hE12:ydE es:=fun x hx=>by have:=hE x hx;omega
  refine (distances_any X gd gs n A es cap cd cs q d s e w hS hes hq hn hE hel).mono ?_
  rintro _ w2 ⟨Ao,lo,co,rfl,go,o,rfl,hlo,hco,hgo,ho2,hD,p2⟩
  have hlo:=hlo.symm
  have hco:=hco.symm
  subst hlo
  subst hco
  have hol:=hD.len
  have hmx:=max_any (some ⟨go,0,none⟩) o n w2 (IRow.ints ho2) (by omega) (by omega)
  rw [hol] at hmx
  refine ⟨_,_,_,rfl,hmx.mono ?_⟩
  clear hmx
  rintro _ w3 ⟨r,rfl,hr,p3⟩
  have hr0:0≤r:=by
    have:=yiT o n q hq
    rw [hD.q0] at this;omega
  have hrn:r≤(n:Int)-1:=by
    obtain ⟨j,hj,hjr⟩:=yjF o n (by omega) (by omega)
    rw [hr,hjr];exact hD.high j
  have hp3:Pure w w3:=p2.trans p3
  refine ⟨r,rfl,fun m i w4=>∃ k d s e,m=k∧i=(k:Int)∧k≤12∧Good o k d s e∧yfO w4 X gd gs n A es cap cd cs q d s e∧Keeps (fun j=>j=gd∨j=gs∨j=X) w3 w4,⟨r.toNat,r.toNat,d,s,e,rfl,by omega,by omega,by rw [hr];exact hG0 o hD,⟨hp3.row hS.1 id,hp3.row hS.2.1 id,hp3.row hS.2.2.1 id,hS.2.2.2⟩,Keeps.refl _ _⟩,?_⟩
  have hS0:=hS
  clear hG0 hS
  have hes3:=hes.keep hp3
  have ho3:=p3.row ho2 id
  have lgo:=Row.lt ho3
  have lX0:=hS0.1.lt
  have ld0:=Row.lt hS0.2.1
  have ls0:=Row.lt hS0.2.2.1
  rintro m i w4 ⟨k,d,s,e,hmk,rfl,hk12,hg,hS4,K4⟩
  have hmk:=hmk.symm
  subst hmk
  have hX4:=hS4.1
  have hS4':=hS4
  obtain ⟨_,hd4,hs4,hne,hdl,hsl⟩:=hS4'
  refine ⟨fun w'=>w'=w4∧0<k∧e=0,?_,fun hpos=>⟨e,hX4.at_ 5 rfl,fun he=>⟨rfl,by omega,he⟩,fun he=>⟨o,k,d,s,e,hD,hg,hS4, .inr he,Pure.to hp3 |>.trans K4⟩⟩,fun hpos=>⟨o,k,d,s,e,hD,hg,hS4, .inl (by omega),Pure.to hp3 |>.trans K4⟩⟩
  rintro w5 ⟨hw5,hk0,he0⟩
  have hw5:=hw5.symm
  subst hw5
  subst he0
  obtain ⟨k,rfl⟩:∃ k',k=k'+1:=⟨k-1,by omega⟩
  have ho4:IRow w4 go 3 n o:=K4.row ho3 (by omega)
  obtain ⟨ht1,hgy,hgn⟩:=hG2 o k d s hD hg hdl hsl
  obtain ⟨hbd,hbs⟩:=hG o (k+1) d s 0 hg
  have hkc:((k+1:Nat):Int)=(k:Int)+1:=by omega
  rw [hkc]
  refine ⟨n,by rw [yhK,ycD];exact Row.cell hX4 (i:=0) rfl,by omega,fun g w6 hN g2 w7 hN2=>⟨hN2.row.wr_ 0 (by simp),fun w8 e8=>?_⟩⟩
  have a1:=hN.at_
  have s1:=hN.size
  have a2:=hN2.at_
  have s2:=hN2.size
  have s8:w8.heap.size=w7.heap.size:=by rw [e8];simp [World.setCell]
  have far8:∀ {k':Nat} {e':TypeId} {sz:Nat} {xs:List Value},k'≠g2→Row w7 k' e' sz xs→Row w8 k' e' sz xs:=fun hne' hr=>by
    rw [e8];exact hr.far (by simpa using hne') _
  have hg6:BRow w6 g 4 n (List.replicate n false):=by
    have:=hN.row
    simpa [BRow] using this
  have hg8:BRow w8 g 4 n (List.replicate n false):=far8 (by omega) (hN2.row_ hg6)
  have hv8:Row w8 g2 160 1 [.slice (some ⟨g,0,none⟩) n n]:=by rw [e8];simpa using hN2.row.set_ 0 (.slice (some ⟨g,0,none⟩) n n)
  have p8:Pure w4 w8:=by rw [e8];exact ((hN.keeps _).trans (hN2.keeps _)).setCell (fun h=>absurd h (by simp;omega)) _
  refine ⟨_,_,_,Row.cell hv8 (i:=0) rfl,?_⟩
  refine ⟨fun mm i2 w9=>∃ (j:Nat) (l:List Bool),mm=n-j∧j≤n∧i2=(j:Int)∧l.length=n∧(∀ x,x<j→gb l x=decide (gi o x<(k:Int)+1))∧BRow w9 g 4 n l∧Row w9 g2 160 1 [.slice (some ⟨g,0,none⟩) n n]∧Pure w4 w9,⟨n,0,_,rfl,by omega,rfl,by simp,fun x hx=>absurd hx (by omega),hg8,hv8,p8⟩,?_⟩
  rintro mm i2 w9 ⟨j,l,rfl,hj,rfl,hll,hlf,hg9,hv9,p9⟩
  refine ⟨fun hlt=>?_,fun hge=>?_⟩
  · have ho9:=(p9.row ho4 id).drew
    have ldo:=ild ho9 (i:=(j:Int)) (by omega) (by omega)
    simp only [Int.toNat_natCast] at ldo
    refine ⟨_,_,_,Row.cell hv9.drew (i:=0) rfl,ybt (by omega) (by omega),_,ldo,ybt (by omega) (by omega),bwr (Row.drew hg9) (by omega) (by omega),fun w10 e10=>⟨in64 (by omega),n-(j+1),by omega,j+1,l.set j (decide (gi o j<(k:Int)+1)),rfl,by omega,by omega,by simpa using hll,fun x hx=>?_,?_,?_,?_⟩⟩
    · rw [yeA (by omega)]
      split
      · rename_i hxe;rw [hxe]
      · exact hlf x (by omega)
    · rw [e10];simpa using bst (Row.drew hg9) (j:Int) (decide (gi o j<(k:Int)+1))
    · rw [e10];exact Row.far_ hv9.drew (by omega) _ _
    · rw [e10,ybH];exact p9.drew.setCell (fun h=>absurd h (by simp;omega)) _
  · obtain rfl:j=n:=by omega
    have hln:l=yaW o ((k:Int)+1):=gb_ext (by rw [hll];simp [yaW,hol]) (fun x hx=>by rw [hlf x (by omega),yf5 (by omega)])
    subst hln
    refine ⟨fun mm t i4 w11=>∃ x:Nat,mm=j-x∧x≤j∧i4=(x:Int)∧t=ybw es o ((k:Int)+1) d x∧0≤t∧Pure w9 w11,⟨j,0,rfl,by omega,rfl,rfl,by omega,Keeps.refl _ _⟩,?_⟩
    rintro mm t i4 w11 ⟨x,rfl,hx,rfl,rfl,ht0,p11⟩
    have p411:=p9.trans p11
    have ho11:=p411.row ho4 id
    have hX11:=p411.row hX4 id
    have hd11:=p411.row hd4 id
    have hs11:=p411.row hs4 id
    have hes11:ydB w11 A es:=(hes3.keepL K4 (fun b off h h0=>by have:=heg b off h h0;omega)).keep p411
    refine ⟨fun hlt=>?_,fun hge=>?_⟩
    · have ldo:=ild ho11 (i:=(x:Int)) (by omega) (by omega)
      have ldd:=ild hd11 (i:=(x:Int)) (by omega) (by omega)
      simp only [Int.toNat_natCast] at ldo ldd
      refine ⟨ybt (by omega) (by omega),_,ldo,fun w'=>w'=w11∧gi o x=(k:Int)+1∧gi d x<0,?_,fun h1=>⟨_,_,_,hX11.at_ 3 rfl,ybt (by omega) (by omega),_,ldd,fun h2=>⟨rfl,h1,h2⟩,fun h2=>?_⟩,fun h1=>?_⟩
      · rintro w12 ⟨hw12,h1,h2⟩
        have hw12:=hw12.symm
        subst hw12
        have hv11:=p11.row hv9 id
        have hg11:=p11.row hg9 id
        refine (yjG X A es cap (x:Int) 178 #[.pointer (some ⟨g2,0,none⟩)] (fun u=>gb (yaW o ((k:Int)+1)) u.toNat) w11 (Row.cell hX11 (i:=1) rfl) hes11 hE12 (fun y hy=>by have:=hE y hy;omega) (by omega) (by omega) hel enter_178 (fun u W hW hm=>?_)).mono ?_
        · obtain ⟨mu,hmu⟩:=hm
          have hr1:=ybZ hE hmu
          obtain ⟨un,rfl⟩:∃ un:Nat,u=(un:Int):=⟨u.toNat,by omega⟩
          simp only [Int.toNat_natCast]
          exact lend1_any g2 g j j _ un W (hW.row hv11 id) (hW.row hg11 id) hll (by omega)
        · rintro _ w13 ⟨rfl,p13⟩
          have hX13:=p13.row hX11 id
          have hd13:=p13.row hd11 id
          have ldd13:=ild hd13 (i:=(x:Int)) (by omega) (by omega)
          simp only [Int.toNat_natCast] at ldd13
          have hpos:=near_pos hD hE1 (by omega:x<j) h1
          have hlkb:∀ p∈ycr es (x:Int),0≤p.2∧p.2≤50:=fun p hp=>by
            have:=ybZ hE (v:=(x:Int)) (u:=p.1) (m:=p.2) hp;omega
          have hjb:=(addF_bound (p:=fun u=>gb (yaW o ((k:Int)+1)) u.toNat) (ycr es (x:Int)) hlkb).2
          have hll2:(ycr es (x:Int)).length≤es.length:=List.length_filterMap_le _ _
          have hbx:=hbd x
          obtain ⟨J,hJ⟩:∃ J,J=yaQ es (x:Int) (fun u=>gb (yaW o ((k:Int)+1)) u.toNat):=⟨_,rfl⟩
          have hjb':J≤50000:=by rw [hJ];unfold yaQ;omega
          have hstep:ybw es o ((k:Int)+1) d (x+1)=mxF (ybw es o ((k:Int)+1) d x) ((-gi d x+J-1).tdiv J):=by rw [ybw,if_pos ⟨h1,h2⟩,hJ]
          rw [←hJ] at hpos ⊢
          have hq0:0 ≤ -gi d x+J-1:=by omega
          have hq1:(-gi d x+J-1).tdiv J=(-gi d x+J-1) / J:=Int.tdiv_eq_ediv_of_nonneg hq0
          have hq2:0≤(-gi d x+J-1) / J:=Int.ediv_nonneg hq0 (by omega)
          have hq3:(-gi d x+J-1) / J ≤ -gi d x+J-1:=Int.ediv_le_self _ hq0
          refine ⟨_,rfl,_,_,_,hX13.at_ 3 rfl,ybt (by omega) (by omega),_,ldd13,in64 (by omega),in64 (by omega),in64 (by omega),by omega,by rw [hq1];exact in64 (by omega),in64 (by omega),j-(x+1),by omega,x+1,rfl,by omega,by omega,hstep.symm,?_,p11.trans p13⟩
          rw [mxF_eq];omega
      · exact ⟨in64 (by omega),j-(x+1),by omega,x+1,rfl,by omega,by omega,by rw [ybw,if_neg (fun h=>h2 h.2)],ht0,p11⟩
      · exact ⟨in64 (by omega),j-(x+1),by omega,x+1,rfl,by omega,by omega,by rw [ybw,if_neg (fun h=>h1 h.1)],ht0,p11⟩
    · obtain rfl:x=j:=by omega
      have K11:Keeps (fun j=>j=gd∨j=gs∨j=X) w3 w11:=Pure.after K4 p411
      refine ⟨fun hpos=>?_,fun hpos=>?_⟩
      · refine ⟨_,_,_,Row.cell (p11.row hv9 id) (i:=0) rfl,?_⟩
        refine (fire_any X gd gs g x x A es cap cd cs q d s 0 _ (yaW o ((k:Int)+1)) w11 ⟨hX11,hd11,hs11,hne,hdl,hsl⟩ hes11 heg (p11.row hg9 id) hll hn hE hel ht0 ht1 (fun i=>by have:=hbd i;omega) hbs).mono ?_
        rintro _ w14 ⟨rfl,hS14,K14⟩
        exact ⟨rfl,in64 (by omega),k,by omega,k,_,_,_,rfl,by omega,by omega,hgy hpos,hS14,K11.trans K14⟩
      · exact ⟨in64 (by omega),k,by omega,k,d,s,0,rfl,by omega,by omega,hgn hpos,⟨hX11,hd11,hs11,hne,hdl,hsl⟩,K11⟩
end Go.Proofs.YtadpnlimiblniaaGreat

/- Sums, weights, the Laplacian, and what firing does to the chips. No program in sight. -/
namespace Go.Proofs.YtadpnlimiblniaaGreat
open Go Go.Proofs.Tryz
def sm:Nat→(Nat→Int)→Int
  | 0,_=>0
  | n+1,f=>sm n f+f n
theorem yaw{f g:Nat→Int} : ∀ {n:Nat},(∀ i,i<n→f i=g i)→sm n f=sm n g
  | 0,_=>rfl
  | n+1,h=>by rw [sm,sm,yaw (fun i hi=>h i (by omega)),h n (by omega)]
theorem ybJ:∀ n,sm n (fun _=>0)=0
  | 0=>rfl
  | n+1=>by rw [sm,ybJ n];rfl
theorem ycc(f g:Nat→Int):∀ n,sm n (fun i=>f i+g i)=sm n f+sm n g
  | 0=>rfl
  | n+1=>by simp only [sm,ycc f g n];omega
theorem yfB(f g:Nat→Int):∀ n,sm n (fun i=>f i-g i)=sm n f-sm n g
  | 0=>rfl
  | n+1=>by simp only [sm,yfB f g n];omega
theorem yjS(c:Int)(f:Nat→Int):∀ n,sm n (fun i=>c*f i)=c*sm n f
  | 0=>by simp [sm]
  | n+1=>by simp only [sm,yjS c f n,Int.mul_add]
theorem ydh{f g:Nat→Int} : ∀ {n:Nat},(∀ i,i<n→f i≤g i)→sm n f≤sm n g
  | 0,_=>Int.le_refl _
  | n+1,h=>by
    have h1:=ydh (fun i hi=>h i (by omega):∀ i,i<n→f i≤g i)
    have h2:=h n (by omega)
    rw [sm,sm];omega
theorem ya5{f:Nat→Int}{n:Nat}(h:∀ i,i<n→0≤f i):0≤sm n f:=by
  have:=ydh h
  rwa [ybJ] at this
theorem yik{f:Nat→Int} : ∀ {n:Nat},(∀ i,i<n→0≤f i)→∀ j,j<n→f j≤sm n f
  | n+1,h,j,hj=>by
    have h1:=ya5 (fun i hi=>h i (by omega):∀ i,i<n→0≤f i)
    have h2:=h n (by omega)
    rw [sm]
    by_cases e:j=n
    · subst e;omega
    · have:=yik (fun i hi=>h i (by omega):∀ i,i<n→0≤f i) j (by omega);omega
theorem ylP(f:Nat→Nat→Int)(m:Nat):∀ n,sm n (fun i=>sm m (fun j=>f i j))=sm m (fun j=>sm n (fun i=>f i j))
  | 0=>by simp only [sm];rw [ybJ]
  | n+1=>by
    simp only [sm]
    rw [ylP f m n,←ycc]
theorem ye9(c:Int):∀ {n j:Nat},j<n→sm n (fun i=>if i=j then c else 0)=c
  | n+1,j,h=>by
    rw [sm]
    by_cases e:j=n
    · subst e
      rw [if_pos rfl,yaw (g:=fun _=>0) (fun i hi=>if_neg (by omega)),ybJ];omega
    · rw [ye9 c (by omega:j<n),if_neg (by omega)];omega
def addG(p:Int→Bool):List (Int×Int)→Int
  | []=>0
  | x::l=>(if p x.1 then x.2 else 0)+addG p l
theorem yif(p:Int→Bool)(l:List (Int×Int)):addF p l=addG p l:=by
  suffices H:∀ (l:List (Int×Int)) (a:Int),l.foldl (fun n x=>if p x.1 then n+x.2 else n) a=a+addG p l by
    unfold addF;rw [H];omega
  intro l
  induction l with
  | nil=>intro a;simp [addG]
  | cons x l ih=>intro a;rw [List.foldl_cons,ih,addG];split <;> omega
theorem addG_sum{n:Nat}(p:Int→Bool):∀ (l:List (Int×Int)),(∀ x∈l,0≤x.1∧x.1<n)→addG p l=sm n (fun u=>if p (u:Int) then addG (fun x=>x==(u:Int)) l else 0)
  | [],_=>by
    rw [addG,yaw (g:=fun _=>0) (fun i _=>by simp [addG]),ybJ]
  | x::l,h=>by
    have hx:=h x (by simp)
    have ih:=addG_sum p l (fun y hy=>h y (by simp [hy]))
    have h1:sm n (fun u=>if p (u:Int) then addG (fun y=>y==(u:Int)) (x::l) else 0)=sm n (fun u=>(if u=x.1.toNat then (if p x.1 then x.2 else 0) else 0)+(if p (u:Int) then addG (fun y=>y==(u:Int)) l else 0)):=by
      refine yaw (fun u hu=>?_)
      simp only [addG]
      by_cases e:u=x.1.toNat
      · have e2:x.1=(u:Int):=by omega
        rw [if_pos e,e2]
        simp only [beq_self_eq_true,if_true]
        split <;> omega
      · have e2:(x.1==(u:Int))=false:=by simp;omega
        rw [if_neg e]
        simp only [e2,Bool.false_eq_true,if_false]
        split <;> omega
    rw [h1,ycc,ye9 _ (by omega),addG,ih]
def W(es:List E3)(v u:Nat):Int:=yaQ es (v:Int) (fun x=>x==(u:Int))
def EOk(n:Nat)(es:List E3):Prop:=∀ x∈es,0≤x.1∧x.1<n∧0≤x.2.1∧x.2.1<n∧1≤x.2.2∧x.2.2≤50
theorem EOk.range{n:Nat}{es:List E3}(h:EOk n es):∀ x∈es,0≤x.1∧x.1<n∧0≤x.2.1∧x.2.1<n∧0≤x.2.2∧x.2.2≤50:=fun x hx=>by have:=h x hx;omega
theorem yen{n:Nat}{es:List E3}(h:EOk n es)(v:Nat)(p:Int→Bool):yaQ es (v:Int) p=sm n (fun u=>if p (u:Int) then W es v u else 0):=by
  have h1:∀ x∈ycr es (v:Int),0≤x.1∧x.1<n:=fun x hx=>by
    have:=ybZ h.range (v:=(v:Int)) (u:=x.1) (m:=x.2) hx;omega
  unfold yaQ
  rw [yif,addG_sum p _ h1]
  refine yaw fun u _=>?_
  unfold W yaQ
  rw [yif]
def w1(x:E3)(v u:Nat):Int:=if x.1≠x.2.1∧((x.1=v∧x.2.1=u)∨(x.1=u∧x.2.1=v)) then x.2.2 else 0
theorem ygd(x:E3)(es:List E3)(v u:Nat):W (x::es) v u=w1 x v u+W es v u:=by
  unfold W yaQ ycr w1
  rw [yif,yif,List.filterMap_cons]
  unfold link
  by_cases c:x.1≠x.2.1∧(x.1=v∨x.2.1=v)
  · rw [if_pos c]
    simp only [addG]
    by_cases e:x.1+x.2.1-v=u
    · rw [if_pos (by simpa using e),if_pos ⟨c.1,by omega⟩]
    · rw [if_neg (by simpa using e),if_neg (fun h=>by omega)]
  · simp only [if_neg c]
    rw [if_neg (fun h=>c ⟨h.1,by omega⟩)]
    omega
theorem W_nil(v u:Nat):W [] v u=0:=rfl
theorem w1_symm(x:E3)(v u:Nat):w1 x v u=w1 x u v:=by
  unfold w1
  by_cases c:x.1≠x.2.1∧((x.1=v∧x.2.1=u)∨(x.1=u∧x.2.1=v))
  · rw [if_pos c,if_pos ⟨c.1,by omega⟩]
  · rw [if_neg c,if_neg (fun h=>c ⟨h.1,by omega⟩)]
theorem ye0:∀ (es:List E3) (v u:Nat),W es v u=W es u v
  | [],v,u=>rfl
  | x::es,v,u=>by rw [ygd,ygd,w1_symm,ye0 es v u]
theorem yhC:∀ (es:List E3) (v:Nat),W es v v=0
  | [],v=>rfl
  | x::es,v=>by
    rw [ygd,yhC es v]
    unfold w1
    rw [if_neg (fun h=>h.1 (by omega))];rfl
theorem ya2{n:Nat}{es:List E3}(h:EOk n es):∀ v u,0≤W es v u:=by
  induction es with
  | nil=>intro v u;rw [W_nil];omega
  | cons x es ih =>
    intro v u
    have h1:=ih (fun y hy=>h y (by simp [hy])) v u
    have h2:=h x (by simp)
    rw [ygd]
    unfold w1
    split <;> omega
theorem W_adj{n:Nat}{es:List E3}(h:EOk n es){v u:Nat} : 0<W es v u↔Adj es v u:=by
  induction es with
  | nil=>rw [W_nil];constructor;(intro h;omega);rintro ⟨m,hm⟩;exact absurd hm (by simp [ycr])
  | cons x es ih =>
    have h1:=ih (fun y hy=>h y (by simp [hy]))
    have h2:=h x (by simp)
    have h3:=ya2 (fun y hy=>h y (by simp [hy]):EOk n es) v u
    rw [ygd]
    have h4:Adj (x::es) v u↔(x.1≠x.2.1∧((x.1=v∧x.2.1=u)∨(x.1=u∧x.2.1=v)))∨Adj es v u:=by
      constructor
      · rintro ⟨m,hm⟩
        obtain ⟨y,hy,q1,q2,q3,q4⟩:=ybV.1 hm
        rcases List.mem_cons.1 hy with rfl | hy
        · exact .inl ⟨q1,by omega⟩
        · exact .inr ⟨m,ybV.2 ⟨y,hy,q1,q2,q3,q4⟩⟩
      · rintro (q | ⟨m,hm⟩)
        · exact ⟨x.2.2,ybV.2 ⟨x,by simp,q.1,by omega,by omega,rfl⟩⟩
        · obtain ⟨y,hy,q1,q2,q3,q4⟩:=ybV.1 hm
          exact ⟨m,ybV.2 ⟨y,by simp [hy],q1,q2,q3,q4⟩⟩
    rw [h4,←h1]
    unfold w1
    constructor
    · intro hh
      split at hh
      · rename_i c;exact .inl c
      · exact .inr (by omega)
    · rintro (c | c)
      · rw [if_pos c];omega
      · split <;> omega
def Lp(n:Nat)(es:List E3)(s:Nat→Int)(v:Nat):Int:=sm n (fun u=>W es v u*(s v-s u))
def deg(n:Nat)(es:List E3)(v:Nat):Int:=sm n (fun u=>W es v u)
theorem gi_pay{t:Int}{v:Nat}{x:Int×Int}{d:List Int}(hv:v<d.length)(hu:x.1.toNat<d.length)(hne:x.1.toNat≠v)(i:Nat) :
    gi (pay t v d x) i=gi d i-(if i=v then x.2*t else 0)+(if i=x.1.toNat then x.2*t else 0):=by
  unfold pay
  rw [ycQ (by simpa using hu),ycQ hv]
  by_cases e:i=x.1.toNat
  · subst e;rw [if_pos rfl,if_pos rfl,if_neg hne];rw [if_neg hne];omega
  · rw [if_neg e,if_neg e,ycQ hv];split <;> (try subst_vars) <;> omega
theorem gi_payAll{t:Int}{v n:Nat} : ∀ (l:List (Int×Int)) (d:List Int),d.length=n→v<n→(∀ x∈l,0≤x.1∧x.1<n∧x.1.toNat≠v)→∀ i,
    gi (yez t v l d) i=gi d i-(if i=v then t*addG (fun _=>true) l else 0)+t*addG (fun y=>y==(i:Int)) l
  | [],d,_,_,_,i=>by simp [yez,addG]
  | x::l,d,hd,hv,h,i=>by
    have hx:=h x (by simp)
    have h1:=gi_payAll (t:=t) (v:=v) l (pay t v d x) (by simp [pay,hd]) hv (fun y hy=>h y (by simp [hy])) i
    have h2:yez t v (x::l) d=yez t v l (pay t v d x):=rfl
    rw [h2,h1,gi_pay (by omega) (by omega) hx.2.2]
    simp only [addG,if_true]
    have hb:(x.1==(i:Int))=decide (i=x.1.toNat):=by
      rw [Bool.eq_iff_iff];simp;omega
    simp only [hb,decide_eq_true_eq]
    have e1:t*(x.2+addG (fun _=>true) l)=x.2*t+t*addG (fun _=>true) l:=by rw [Int.mul_add,Int.mul_comm t x.2]
    have e2:∀ a:Int,t*(x.2+a)=x.2*t+t*a:=fun a=>by rw [Int.mul_add,Int.mul_comm t x.2]
    by_cases c1:i=v <;> by_cases c2:i=x.1.toNat <;> simp only [c1,c2,if_true,if_false,e2,Int.zero_add] <;> (try split) <;> (try split) <;> (try simp only [e2,Int.zero_add]) <;> omega
def ind(inn:List Bool)(v:Nat):Int:=if gb inn v then 1 else 0
theorem links_ok{n:Nat}{es:List E3}(h:EOk n es)(v:Nat):∀ x∈ycr es (v:Int),0≤x.1∧x.1<n∧x.1.toNat≠v:=fun x hx=>by
  have h1:=ybZ h.range (v:=(v:Int)) (u:=x.1) (m:=x.2) hx
  obtain ⟨y,hy,q1,q2,q3,q4⟩:=(ybV (u:=x.1) (m:=x.2)).1 hx
  omega
theorem addG_true{n:Nat}{es:List E3}(h:EOk n es)(v:Nat):addG (fun _=>true) (ycr es (v:Int))=deg n es v:=by
  have:=yen h v (fun _=>true)
  unfold yaQ at this
  rw [yif] at this
  rw [this]
  exact yaw fun u _=>by simp
theorem gi_fireD{n:Nat}{es:List E3}(h:EOk n es)(inn:List Bool)(t:Int)(d:List Int)(hd:d.length=n):∀ k,k≤n→∀ i,i<n →
    gi (ycB es inn t d k) i=gi d i-t*(if i<k then ind inn i*deg n es i else 0)+t*sm k (fun j=>ind inn j*W es j i)
  | 0,_,i,_=>by simp [ycB,sm]
  | k+1,hk,i,hi=>by
    have ih:=gi_fireD h inn t d hd k (by omega) i hi
    rw [ycB,sm]
    by_cases hb:gb inn k=true
    · rw [if_pos hb,gi_payAll (n:=n) _ _ (by rw [ybL];exact hd) (by omega) (links_ok h k),ih,addG_true h]
      have hW:addG (fun y=>y==(i:Int)) (ycr es (k:Int))=W es k i:=by unfold W yaQ;rw [yif]
      rw [hW]
      have hind:ind inn k=1:=by simp [ind,hb]
      rw [hind]
      by_cases c1:i=k
      · subst c1
        rw [if_neg (by omega),if_pos rfl,if_pos (by omega),hind]
        simp only [Int.mul_add,Int.one_mul,Int.mul_zero];omega
      · rw [if_neg c1]
        by_cases c2:i<k
        · rw [if_pos c2,if_pos (by omega)];simp only [Int.mul_add,Int.one_mul];omega
        · rw [if_neg c2,if_neg (by omega)];simp only [Int.mul_add,Int.one_mul];omega
    · rw [if_neg hb,ih]
      have hind:ind inn k=0:=by simp [ind,hb]
      rw [hind]
      by_cases c1:i=k
      · subst c1
        rw [if_neg (by omega),if_pos (by omega),hind]
        simp
      · by_cases c2:i<k
        · rw [if_pos c2,if_pos (by omega)];simp
        · rw [if_neg c2,if_neg (by omega)];simp
theorem Lp_ind{n:Nat}{es:List E3}(s:Nat→Int)(v:Nat):Lp n es s v=s v*deg n es v-sm n (fun u=>s u*W es u v):=by
  unfold Lp deg
  rw [←yjS,←yfB]
  refine yaw fun u _=>?_
  rw [Int.mul_sub,Int.mul_comm (W es v u) (s v),ye0 es v u,Int.mul_comm (W es u v) (s u)]
theorem fire_lp{n:Nat}{es:List E3}(h:EOk n es)(inn:List Bool)(t:Int)(d:List Int)(hd:d.length=n){i:Nat}(hi:i<n):gi (ycB es inn t d n) i=gi d i-t*Lp n es (ind inn) i:=by
  rw [gi_fireD h inn t d hd n (Nat.le_refl _) i hi,if_pos hi,Lp_ind,Int.mul_sub];omega
theorem ygJ{n:Nat}{es:List E3}(a b:Nat→Int)(v:Nat):Lp n es (fun i=>a i+b i) v=Lp n es a v+Lp n es b v:=by
  unfold Lp
  rw [←ycc]
  exact yaw fun u _=>by rw [←Int.mul_add];congr 1;show a v+b v-(a u+b u)=_;omega
theorem yip{n:Nat}{es:List E3}(c:Int)(a:Nat→Int)(v:Nat):Lp n es (fun i=>c*a i) v=c*Lp n es a v:=by
  unfold Lp
  rw [←yjS]
  exact yaw fun u _=>by rw [←Int.mul_sub,Int.mul_left_comm]
theorem yfl{n:Nat}{es:List E3}(c:Int)(v:Nat):Lp n es (fun _=>c) v=0:=by
  unfold Lp
  rw [yaw (g:=fun _=>0) (fun u _=>by simp),ybJ]
theorem yfZ{n:Nat}{es:List E3}{a b:Nat→Int}(h:∀ i,i<n→a i=b i){v:Nat}(hv:v<n):Lp n es a v=Lp n es b v:=by
  unfold Lp
  exact yaw fun u hu=>by rw [h v hv,h u hu]
theorem Lp_cut{n:Nat}{es:List E3}(S:Nat→Bool)(s:Nat→Int):sm n (fun v=>if S v then Lp n es s v else 0)=sm n (fun v=>sm n (fun u=>if S v && !S u then W es v u*(s v-s u) else 0)):=by
  have h1:sm n (fun v=>if S v then Lp n es s v else 0)=sm n (fun v=>sm n (fun u=>(if S v && !S u then W es v u*(s v-s u) else 0)))+sm n (fun v=>sm n (fun u=>(if S v&&S u then W es v u*(s v-s u) else 0))):=by
    rw [←ycc]
    refine yaw fun v _=>?_
    rw [←ycc]
    cases hv:S v with
    | false=>simp [ybJ]
    | true =>
      simp only [if_true,Bool.true_and]
      unfold Lp
      refine yaw fun u _=>?_
      cases S u <;> simp
  have h2:sm n (fun v=>sm n (fun u=>(if S v&&S u then W es v u*(s v-s u) else 0)))=0:=by
    have h3:sm n (fun v=>sm n (fun u=>(if S v&&S u then W es v u*(s v-s u) else 0))) = - sm n (fun v=>sm n (fun u=>(if S v&&S u then W es v u*(s v-s u) else 0))):=by
      conv=>lhs;rw [ylP]
      have:∀ m (f:Nat→Int), - sm m f=sm m (fun i => - f i):=fun m f=>by
        have:=yjS (-1) f m
        simp only [Int.neg_mul,Int.one_mul] at this
        exact this.symm
      rw [this]
      refine yaw fun v _=>?_
      rw [this]
      refine yaw fun u _=>?_
      cases S u <;> cases S v <;> simp
      rw [ye0 es u v,←Int.mul_neg];congr 1;omega
    omega
  rw [h1,h2];omega
theorem yf8{n:Nat}{es:List E3}(s:Nat→Int):sm n (fun v=>Lp n es s v)=0:=by
  have:=Lp_cut (n:=n) (es:=es) (fun _=>true) s
  simp only [if_true,Bool.not_true,Bool.and_false,Bool.false_eq_true,if_false] at this
  rw [this,yaw (g:=fun _=>0) (fun v _=>ybJ n),ybJ]
end Go.Proofs.YtadpnlimiblniaaGreat

/- The contract of result: the script is laid so that q does not fire; numbers out of range are an error. -/
namespace Go.Proofs.YtadpnlimiblniaaGreat
open Go Go.RowKit Go.Shelf Go.Proofs.Tryz
set_option maxRecDepth 100000
set_option maxHeartbeats 8000000
def yew(s:List Int)(q:Nat):List Int:=s.map fun x=>x-gi s q
theorem yjq{s:List Int}{q j:Nat}(h:j<s.length):gi (yew s q) j=gi s j-gi s q:=by
  rw [yaN (by simpa [yew] using h),yaN h]
  simp [yew]
structure ResNil(A1:Option Addr)(l1 c1:Nat)(A2:Option Addr)(l2 c2:Nat):Prop where
  a1:A1=none
  l1:l1=0
  c1:c1=0
  a2:A2=none
  l2:l2=0
  c2:c2=0
structure ResOk(gd gs n cd cs:Nat)(d s:List Int)(A1:Option Addr)(l1 c1:Nat)(A2:Option Addr)(l2 c2:Nat)(w':World):Prop where
  a1:A1=some ⟨gd,0,none⟩
  l1:l1=n
  c1:c1=cd
  a2:A2=some ⟨gs,0,none⟩
  l2:l2=n
  c2:c2=cs
  row1:IRow w' gd 3 cd d
  row2:IRow w' gs 3 cs s
def ResPost(gd gs n cd cs q:Nat)(d s:List Int)(e:Int)(w:World)(A1:Option Addr)(l1 c1:Nat)(A2:Option Addr)(l2 c2:Nat)(er:Int)(w':World):Prop :=
  Keeps (fun j=>j=gs) w w'∧((e≠0∧er=e∧ResNil A1 l1 c1 A2 l2 c2)∨(e=0∧(ybf d n≠0∨ybf (yew s q) n≠0)∧er=11∧ResNil A1 l1 c1 A2 l2 c2) ∨
    (e=0∧ybf d n=0∧ybf (yew s q) n=0∧er=0∧ResOk gd gs n cd cs d (yew s q) A1 l1 c1 A2 l2 c2 w'))
theorem result_any(X gd gs n:Nat)(A:Option Addr)(es:List E3)(cap cd cs q:Nat)(d s:List Int)(e:Int)(w:World)(hS:yfO w X gd gs n A es cap cd cs q d s e)(hq:q<n)(hn:n≤12)(hbs:e=0→Bnd 100000000000 s) :
    Calls Tryz.prog 166 #[.pointer (some ⟨X,0,none⟩)] w fun e' w'=>∃ A1 l1 c1 A2 l2 c2 er,e' = .returned (.tuple #[.slice A1 l1 c1, .slice A2 l2 c2, .int .i64 er])∧ResPost gd gs n cd cs q d s e w A1 l1 c1 A2 l2 c2 er w':=by
  refine ygc _ w (ResPost gd gs n cd cs q d s e w) ?_
  unfold yct
  obtain ⟨hX,hd,hs,hne,hdl,hsl⟩:=hS
  have hXs:=hX.ne_ hs (by decide)
  refine ⟨e,hX.at_ 5 rfl,fun he=>?_,fun he=>⟨e,hX.drew.at_ 5 rfl,(Keeps.refl _ _).drew, .inl ⟨he,rfl,⟨rfl,rfl,rfl,rfl,rfl,rfl⟩⟩⟩⟩
  have hbs:=hbs he
  have ldq:=ild (Row.drew hs) (i:=(q:Int)) (by omega) (by omega)
  simp only [Int.toNat_natCast] at ldq
  refine ⟨_,_,_,hX.drew.at_ 4 rfl,_,hX.drew.at_ 2 rfl,ybt (by omega) (by omega),_,ldq,_,_,_,hX.drew.at_ 4 rfl,?_⟩
  refine ⟨fun m i w2=>∃ (k:Nat) (l:List Int),m=n-k∧k≤n∧i=(k:Int)∧l.length=n∧(∀ j,j<n→gi l j=if j<k then gi s j-gi s q else gi s j)∧IRow w2 gs 3 cs l∧Keeps (fun j=>j=gs) w w2,⟨n,0,s,rfl,by omega,rfl,hsl,fun j _=>by simp,Row.drew hs,(Keeps.refl _ _).drew⟩,?_⟩
  rintro m i w2 ⟨k,l,rfl,hk,rfl,hll,hlf,hs2,K2⟩
  have hX2:=K2.row hX hXs
  have hd2:IRow w2 gd 3 cd d:=K2.row hd hne
  refine ⟨fun hlt=>?_,fun hge=>?_⟩
  · have ldk:=ild hs2 (i:=(k:Int)) (by omega) (by omega)
    simp only [Int.toNat_natCast] at ldk
    have h1:=hlf k (by omega)
    rw [if_neg (by omega)] at h1
    have h2:=hbs k
    have h3:=hbs q
    refine ⟨_,_,_,hX2.at_ 4 rfl,ybt (by omega) (by omega),_,ldk,in64 (by omega),ybt (by omega) (by omega),iwr hs2 (by omega) (by omega),fun w3 e3=>⟨in64 (by omega),n-(k+1),by omega,k+1,l.set k (gi l k-gi s q),rfl,by omega,by omega,by simpa using hll,fun j hj=>?_,?_,?_⟩⟩
    · rw [ycQ (by omega)]
      split
      · rename_i e';subst e';rw [if_pos (by omega),h1]
      · rw [hlf j hj]
        by_cases h4:j<k
        · rw [if_pos h4,if_pos (by omega)]
        · rw [if_neg h4,if_neg (by omega)]
    · rw [e3];simpa using ist hs2 (k:Int) (gi l k-gi s q)
    · rw [e3];exact K2.set_ rfl _ _
  · obtain rfl:k=n:=by omega
    have hl:l=yew s q:=ygi (by rw [hll];simp [yew,hsl]) (fun j hj=>by rw [hlf j (by omega),if_pos (by omega),yjq (by omega)])
    subst hl
    refine ⟨fun w'=>w'=w2.drew∧ybf d k=0∧ybf (yew s q) k=0,?_,_,_,_,hX2.drew.at_ 3 rfl,_,by rw [yhK,ycD];exact Row.cell hX2.drew (i:=0) rfl,?_⟩
    · rintro w4 ⟨hw4,h1,h2⟩
      have hw4:=hw4.symm
      subst hw4
      exact ⟨_,_,_,hX2.drew.drew.at_ 3 rfl,_,_,_,hX2.drew.drew.at_ 4 rfl,K2.drew.drew, .inr (.inr ⟨he,h1,h2,rfl,⟨rfl,hdl,rfl,rfl,hsl,rfl,Row.drew (Row.drew hd2),Row.drew (Row.drew hs2)⟩⟩)⟩
    · have hc1:=yjT (some ⟨gd,0,none⟩) d cd (k:Int) w2.drew (IRow.ints (Row.drew hd2)) (by omega)
      have hc2:=yjT (some ⟨gs,0,none⟩) (yew s q) cs (k:Int) w2.drew (IRow.ints (Row.drew hs2)) (by omega)
      rw [show (yew s q).length=s.length by simp [yew]] at hc2
      refine hc1.mono ?_
      rintro _ w5 ⟨rfl,h5⟩
      have h5:=h5.symm
      subst h5
      refine ⟨_,rfl,fun h0=>⟨_,_,_,hX2.drew.at_ 4 rfl,_,by rw [yhK,ycD];exact Row.cell hX2.drew (i:=0) rfl,hc2.mono ?_⟩,fun h0=>⟨K2.drew, .inr (.inl ⟨he, .inl h0,rfl,⟨rfl,rfl,rfl,rfl,rfl,rfl⟩⟩)⟩⟩
      rintro _ w6 ⟨rfl,h6⟩
      have h6:=h6.symm
      subst h6
      exact ⟨_,rfl,fun h1=>⟨rfl,h0,h1⟩,fun h1=>⟨K2.drew, .inr (.inl ⟨he, .inr h1,rfl,⟨rfl,rfl,rfl,rfl,rfl,rfl⟩⟩)⟩⟩
end Go.Proofs.YtadpnlimiblniaaGreat

/- The plain laws behind lending: levels, cuts, bounds. No program in sight. -/
namespace Go.Proofs.YtadpnlimiblniaaGreat
open Go Go.Proofs.Tryz
theorem fireE_ok{d s:List Int}(hd:∀ j, -2097152≤gi d j∧gi d j≤2097152)(hs:∀ j, -2097152≤gi s j∧gi s j≤2097152)(e:Int):∀ j,yic d s e j=e
  | 0=>rfl
  | j+1=>by
    rw [yic,fireE_ok hd hs e j,if_neg]
    rintro ⟨h, -⟩
    have h1:=hd j
    have h2:=hs j
    unfold bigAt at h
    rw [decide_eq_true_eq] at h
    omega
theorem yit{d:List Int}{n:Nat}(h:d.length=n){i:Nat}(hi:¬i<n):gi d i=0:=gi_ge (by omega)
theorem yjD{inn:List Bool}{t:Int}{s:List Int}{n:Nat}(hs:s.length=n){v:Nat}(hv:v<n):gi (ycJ inn t s n) v=gi s v+t*ind inn v:=by
  rw [yi3 inn t s n v (by omega)]
  unfold ind
  by_cases h:gb inn v=true
  · rw [if_pos ⟨hv,h⟩,if_pos h];omega
  · rw [if_neg (fun x=>h x.2),if_neg h];omega
theorem Lp_fireS{n:Nat}{es:List E3}{inn:List Bool}{t:Int}{s:List Int}(hs:s.length=n){v:Nat}(hv:v<n):Lp n es (gi (ycJ inn t s n)) v=Lp n es (gi s) v+t*Lp n es (ind inn) v:=by
  rw [yfZ (b:=fun i=>gi s i+t*ind inn i) (fun i hi=>yjD hs hi) hv,ygJ,yip]
theorem Lp_ind_in{n:Nat}{es:List E3}{inn:List Bool}{v:Nat}(hb:gb inn v=true):Lp n es (ind inn) v=sm n (fun u=>if gb inn u=true then 0 else W es v u):=by
  unfold Lp
  refine yaw fun u _=>?_
  have:ind inn v=1:=by simp [ind,hb]
  rw [this]
  unfold ind
  split <;> simp
theorem yie{n:Nat}{es:List E3}{inn:List Bool}{v:Nat}(hb:¬gb inn v=true):Lp n es (ind inn) v = - sm n (fun u=>if gb inn u=true then W es v u else 0):=by
  have e:∀ (f:Nat→Int), - sm n f=sm n (fun i => - f i):=fun f=>by
    have:=yjS (-1) f n
    simp only [Int.neg_mul,Int.one_mul] at this
    exact this.symm
  rw [e]
  unfold Lp
  refine yaw fun u _=>?_
  have:ind inn v=0:=by simp [ind,hb]
  rw [this]
  unfold ind
  split <;> simp
def FF(n:Nat)(es:List E3)(o:List Int)(k:Int):Int:=sm n (fun v=>if k<gi o v then sm n (fun u=>if gi o u<gi o v then W es v u else 0) else 0)
def CC(n:Nat)(es:List E3)(o:List Int)(k:Int):Int:=sm n (fun v=>if gi o v=k then sm n (fun u=>if gi o u<k then W es v u else 0) else 0)
def tot(n:Nat)(es:List E3):Int:=sm n (fun v=>sm n (fun u=>W es v u))
theorem FF_step(n:Nat)(es:List E3)(o:List Int)(k:Int):FF n es o k=FF n es o (k+1)+CC n es o (k+1):=by
  unfold FF CC
  rw [←ycc]
  refine yaw fun v _=>?_
  by_cases h:gi o v=k+1
  · rw [if_pos (by omega),if_neg (by omega),if_pos h,h];omega
  · by_cases h2:k<gi o v
    · rw [if_pos h2,if_pos (by omega),if_neg h];omega
    · rw [if_neg h2,if_neg (by omega),if_neg h];omega
section
variable {n : Nat} {es : List E3} (hE : EOk n es)
include hE
theorem CC_nonneg(o:List Int)(k:Int):0≤CC n es o k:=ya5 fun v _=>by
  split
  · exact ya5 fun u _=>by have:=ya2 hE v u;split <;> omega
  · omega
theorem FF_nonneg(o:List Int)(k:Int):0≤FF n es o k:=ya5 fun v _=>by
  split
  · exact ya5 fun u _=>by have:=ya2 hE v u;split <;> omega
  · omega
theorem FF_half(o:List Int)(k:Int):2*FF n es o k≤tot n es:=by
  have h1:FF n es o k≤sm n (fun v=>sm n (fun u=>if gi o u<gi o v then W es v u else 0)):=ydh fun v _=>by
    split
    · exact Int.le_refl _
    · exact ya5 fun u _=>by have:=ya2 hE v u;split <;> omega
  have h2:sm n (fun v=>sm n (fun u=>if gi o u<gi o v then W es v u else 0))=sm n (fun v=>sm n (fun u=>if gi o v<gi o u then W es v u else 0)):=by
    rw [ylP]
    exact yaw fun v _=>yaw fun u _=>by rw [ye0 es u v]
  have h3:sm n (fun v=>sm n (fun u=>if gi o u<gi o v then W es v u else 0))+sm n (fun v=>sm n (fun u=>if gi o v<gi o u then W es v u else 0))≤tot n es:=by
    unfold tot
    rw [←ycc]
    refine ydh fun v _=>?_
    rw [←ycc]
    refine ydh fun u _=>?_
    have:=ya2 hE v u
    split <;> split <;> omega
  omega
variable {q : Nat} {o : List Int} (hD : Dist n es q o) (hc : ∀ v, v < n → 0 ≤ gi o v)
include hD hc
theorem Dist.lip{v u:Nat}(hv:v<n)(hu:u<n)(h:W es v u≠0):gi o u≤gi o v+1:=by
  have h1:0<W es v u:=by have:=ya2 hE v u;omega
  exact (hD.step v hv (hc v hv) u ((W_adj hE).1 h1)).2
theorem near_in{k:Int}{v:Nat}(hv:v<n)(hk:gi o v<k):0≤Lp n es (ind (yaW o k)) v∧Lp n es (ind (yaW o k)) v≤CC n es o k:=by
  have hol:=hD.len
  rw [Lp_ind_in (by rw [yf5 (by omega)];simpa using hk)]
  constructor
  · exact ya5 fun u _=>by have:=ya2 hE v u;split <;> omega
  · refine ydh fun u hu=>?_
    rw [yf5 (by omega)]
    by_cases h:gi o u=k
    · rw [if_neg (by simp;omega),if_pos h]
      have h2:=yik (f:=fun i=>if gi o i<k then W es u i else 0) (n:=n) (fun i _=>by have:=ya2 hE u i;show 0≤ite _ _ _;split <;> omega) v hv
      simp only [if_pos hk] at h2
      rw [ye0 es v u];exact h2
    · rw [if_neg h]
      split
      · omega
      · rename_i h2
        simp only [decide_eq_true_eq] at h2
        by_cases h3:W es v u=0
        · omega
        · have:=hD.lip hE hc hv hu h3;omega
theorem near_at{k:Int}{v:Nat}(hv:v<n)(hk:gi o v=k):Lp n es (ind (yaW o k)) v = - yaQ es (v:Int) (fun u=>gb (yaW o k) u.toNat) ∧ - CC n es o k≤Lp n es (ind (yaW o k)) v:=by
  have hol:=hD.len
  have h1:=yie (n:=n) (es:=es) (inn:=yaW o k) (v:=v) (by rw [yf5 (by omega)];simp;omega)
  rw [yen hE,h1]
  simp only [Int.toNat_natCast]
  refine ⟨trivial,?_⟩
  have h2:=yik (f:=fun v=>if gi o v=k then sm n (fun u=>if gi o u<k then W es v u else 0) else 0) (n:=n) (fun i _=>by
    show 0≤ite _ _ _
    split
    · exact ya5 fun u _=>by have:=ya2 hE i u;split <;> omega
    · omega) v hv
  simp only [if_pos hk] at h2
  have h3:sm n (fun u=>if gb (yaW o k) u=true then W es v u else 0)=sm n (fun u=>if gi o u<k then W es v u else 0):=yaw fun u hu=>by
    rw [yf5 (by omega)]
    simp only [decide_eq_true_eq]
  rw [h3]
  unfold CC
  omega
theorem near_out{k:Int}{v:Nat}(hv:v<n)(hk:k<gi o v):Lp n es (ind (yaW o k)) v=0:=by
  have hol:=hD.len
  rw [yie (by rw [yf5 (by omega)];simp;omega)]
  have:sm n (fun u=>if gb (yaW o k) u=true then W es v u else 0)=sm n (fun _=>0):=yaw fun u hu=>by
    rw [yf5 (by omega)]
    by_cases h:gi o u<k
    · rw [if_pos (by simpa using h)]
      by_cases h3:W es v u=0
      · exact h3
      · have:=hD.lip hE hc hu hv (by rw [ye0];exact h3);omega
    · rw [if_neg (by simpa using h)]
  rw [this,ybJ];rfl
end
section
variable {es : List E3} {o : List Int} {k : Int} {d : List Int}
theorem ceil_ge{a b:Int}(hb:1≤b):a≤(a+b-1).tdiv b*b∨a+b-1<0:=by
  by_cases h:a+b-1<0
  · exact .inr h
  · left
    rw [Int.tdiv_eq_ediv_of_nonneg (by omega)]
    have h1:=Int.emod_add_mul_ediv (a+b-1) b
    have h2:=Int.emod_lt_of_pos (a+b-1) (show 0<b by omega)
    rw [Int.mul_comm b] at h1
    omega
theorem ceil_le{a b M:Int}(hb:1≤b)(ha:1≤a)(hM:a≤M):(a+b-1).tdiv b≤M∧1≤(a+b-1).tdiv b:=by
  rw [Int.tdiv_eq_ediv_of_nonneg (by omega)]
  constructor
  · apply Int.le_of_lt_add_one
    apply Int.ediv_lt_of_lt_mul (by omega)
    have:a≤M*b:=by
      have:=Int.mul_le_mul_of_nonneg_left hb (show 0≤M by omega)
      omega
    rw [Int.add_mul];omega
  · apply Int.le_ediv_of_mul_le (by omega);omega
theorem timesL_le{M:Int}(h0:0≤M):∀ n,(∀ v,v<n → -gi d v≤M)→(∀ v,v<n→gi o v=k→1≤yaQ es (v:Int) (fun u=>gb (yaW o k) u.toNat))→0≤ybw es o k d n∧ybw es o k d n≤M
  | 0,_,_=>by simp [ybw];exact h0
  | n+1,hd,hj=>by
    have ih:=timesL_le h0 n (fun v hv=>hd v (by omega)) (fun v hv=>hj v (by omega))
    rw [ybw]
    split
    · rename_i h
      have:=ceil_le (hj n (by omega) h.1) (show 1 ≤ -gi d n by omega) (hd n (by omega))
      unfold mxF
      split <;> omega
    · exact ih
theorem timesL_ge:∀ n,(∀ v,v<n→gi o v=k→1≤yaQ es (v:Int) (fun u=>gb (yaW o k) u.toNat))→∀ v,v<n→gi o v=k→gi d v<0 →
    1≤ybw es o k d n ∧ -gi d v≤ybw es o k d n*yaQ es (v:Int) (fun u=>gb (yaW o k) u.toNat)
  | n+1,hj,v,hv,hk,hd=>by
    rw [ybw]
    have mx:∀ a b:Int,a≤mxF a b∧b≤mxF a b:=fun a b=>by unfold mxF;split <;> omega
    have hjv:=hj v hv hk
    have up:∀ {a b:Int},a≤b → -gi d v≤a*yaQ es (v:Int) (fun u=>gb (yaW o k) u.toNat) → -gi d v≤b*yaQ es (v:Int) (fun u=>gb (yaW o k) u.toNat):=fun {a b} h h2 =>
      Int.le_trans h2 (Int.mul_le_mul_of_nonneg_right h (by omega))
    by_cases e:v=n
    · subst e
      rw [if_pos ⟨hk,hd⟩]
      have h1:=ceil_le (M := -gi d v) hjv (show 1 ≤ -gi d v by omega) (Int.le_refl _)
      have h2:=mx (ybw es o k d v) ((-gi d v+yaQ es (v:Int) (fun u=>gb (yaW o k) u.toNat)-1).tdiv (yaQ es (v:Int) (fun u=>gb (yaW o k) u.toNat)))
      refine ⟨by omega,up h2.2 ?_⟩
      rcases ceil_ge (a := -gi d v) hjv with h | h
      · exact h
      · omega
    · have ih:=timesL_ge n (fun v hv=>hj v (by omega)) v (by omega) hk hd
      split
      · have h2:=mx (ybw es o k d n) ((-gi d n+yaQ es (n:Int) (fun u=>gb (yaW o k) u.toNat)-1).tdiv (yaQ es (n:Int) (fun u=>gb (yaW o k) u.toNat)))
        exact ⟨by omega,up h2.1 ih.2⟩
      · exact ih
theorem yhk:∀ n,(∀ v,v<n→gi o v=k→0≤gi d v)→ybw es o k d n=0
  | 0,_=>rfl
  | n+1,h=>by
    rw [ybw,if_neg (fun x=>by have:=h n (by omega) x.1;omega)]
    exact yhk n fun v hv=>h v (by omega)
end
end Go.Proofs.YtadpnlimiblniaaGreat

/- Lending: what holds before and behind each level. No program in sight. -/
namespace Go.Proofs.YtadpnlimiblniaaGreat
open Go Go.Proofs.Tryz
structure GL(n:Nat)(es:List E3)(q:Nat)(D:Int)(d0:List Int)(o:List Int)(k:Nat)(d s:List Int)(e:Int):Prop where
  e0:e=0
  dl:d.length=n
  sl:s.length=n
  kn:k+1≤n
  lp:∀ v,v<n→gi d v=gi d0 v-Lp n es (gi s) v
  bd:∀ v,v<n → - (D*2^(FF n es o k).toNat)≤gi d v∧gi d v≤D*2^(FF n es o k).toNat
  pos:∀ v,v<n→(k:Int)<gi o v→0≤gi d v
  s0:∀ v,v<n→0≤gi s v∧gi s v≤((n:Int)-1-k)*(D*512)
  sq:∀ v,v<n→gi s v≤gi s q
  same:(∀ v,v<n→v≠q→0≤gi d0 v)→d=d0∧∀ v,v<n→gi s v=0
theorem pow_bnd{D x:Int}(hD:0≤D)(hx:x≤9):D*2^x.toNat≤D*512:=by
  refine Int.mul_le_mul_of_nonneg_left ?_ hD
  have:(2:Nat)^x.toNat≤2^9:=Nat.pow_le_pow_right (by omega) (by omega)
  have h2:((2^x.toNat:Nat):Int)≤((2^9:Nat):Int):=by exact_mod_cast this
  have h3:((2^x.toNat:Nat):Int)=(2:Int)^x.toNat:=by push_cast;rfl
  rw [←h3];exact h2
theorem pow_step{D x c T:Int}(hD:0≤D)(hx:0≤x)(hc:0≤c)(h0:0≤T)(hT:T≤D*2^x.toNat):D*2^x.toNat+T*c≤D*2^(x+c).toNat:=by
  have e:(x+c).toNat=x.toNat+c.toNat:=by omega
  rw [e,Int.pow_add,←Int.mul_assoc]
  generalize hB:D*2^x.toNat=B at *
  have h1:T*c≤B*c:=Int.mul_le_mul_of_nonneg_right hT hc
  have h2:(c:Int)+1≤2^c.toNat:=by
    have:c.toNat<2^c.toNat:=Nat.lt_two_pow_self
    have h3:((c.toNat:Nat):Int)<((2^c.toNat:Nat):Int):=by exact_mod_cast this
    have h4:((2^c.toNat:Nat):Int)=(2:Int)^c.toNat:=by push_cast;rfl
    rw [h4] at h3;omega
  have h5:B*(c+1)≤B*2^c.toNat:=Int.mul_le_mul_of_nonneg_left h2 (by omega)
  rw [Int.mul_add] at h5
  omega
theorem mul_bnd{n k:Nat}{D:Int}(hD:0≤D)(hn:n≤6):((n:Int)-1-k)*(D*512)≤D*2560:=by
  have:((n:Int)-1-k)*(D*512)≤5*(D*512):=Int.mul_le_mul_of_nonneg_right (by omega) (by omega)
  omega
section
variable {n : Nat} {es : List E3} {q : Nat} {D : Int} {d0 : List Int} (hE : EOk n es) (hn : n ≤ 6) (hq : q < n) (ht : tot n es ≤ 18) (hD0 : 0 ≤ D) (hD1 : D ≤ 200) (hc : ∀ o, Dist n es q o → ∀ v, v < n → 0 ≤ gi o v)
  (hd0:∀ v,v<n → -D≤gi d0 v∧gi d0 v≤D) (hdl:d0.length=n)
include hE hn hq ht hD0 hD1 hc hd0 hdl
theorem GL.start(o:List Int)(hD:Dist n es q o):GL n es q D d0 o (ygm o n).toNat d0 (List.replicate n 0) 0:=by
  have hm:∃ j,j<o.length∧ygm o n=gi o j:=yjF o n (by rw [hD.len];omega) (by rw [hD.len];omega)
  obtain ⟨j,hj,hmj⟩:=hm
  have hhi:=hD.high j
  have h0:0≤ygm o n:=by
    have:=yiT o n q hq
    rw [hD.q0] at this;omega
  have hs:∀ v,gi (List.replicate n 0) v=0:=fun v=>by
    rcases Nat.lt_or_ge v n with h | h
    · rw [yaN (by simpa using h)];simp
    · exact gi_ge (by simpa using h)
  have hF:0≤FF n es o (ygm o n).toNat:=FF_nonneg hE o _
  have h1:D*1≤D*2^(FF n es o (ygm o n).toNat).toNat:=Int.mul_le_mul_of_nonneg_left (by
    have:(0:Int)<2^(FF n es o (ygm o n).toNat).toNat:=Int.pow_pos (by omega)
    omega) hD0
  refine ⟨rfl,hdl,by simp,by omega,fun v hv=>?_,fun v hv=>?_,fun v hv h=>?_,fun v hv=>?_,fun v hv=>?_,fun _=>⟨rfl,fun v hv=>hs v⟩⟩
  · rw [yfZ (b:=fun _=>0) (fun i _=>hs i) hv,yfl];omega
  · have:=hd0 v hv;omega
  · have:=yiT o n v hv;omega
  · rw [hs]
    have:0≤((n:Int)-1-(ygm o n).toNat)*(D*512):=Int.mul_nonneg (by omega) (by omega)
    omega
  · rw [hs,hs];exact Int.le_refl _
theorem GL.bnd{o:List Int}{k:Nat}{d s:List Int}{e:Int}(h:GL n es q D d0 o k d s e):Bnd 102400 d∧Bnd 512000 s:=by
  constructor
  · intro i
    by_cases hi:i<n
    · have h1:=h.bd i hi
      have h2:=FF_half hE o k
      have h3:=pow_bnd hD0 (show FF n es o k≤9 by omega)
      omega
    · rw [yit h.dl hi];omega
  · intro i
    by_cases hi:i<n
    · have h1:=h.s0 i hi
      have h2:=mul_bnd (k:=k) hD0 hn
      omega
    · rw [yit h.sl hi];omega
theorem GL.step{o:List Int}{k:Nat}{d s:List Int}(hD:Dist n es q o)(h:GL n es q D d0 o (k+1) d s 0) :
    ybw es o ((k:Int)+1) d n≤2147483648 ∧
      (0<ybw es o ((k:Int)+1) d n→GL n es q D d0 o k (ycB es (yaW o ((k:Int)+1)) (ybw es o ((k:Int)+1) d n) d n) (ycJ (yaW o ((k:Int)+1)) (ybw es o ((k:Int)+1) d n) s n)
        (yic (ycB es (yaW o ((k:Int)+1)) (ybw es o ((k:Int)+1) d n) d n) (ycJ (yaW o ((k:Int)+1)) (ybw es o ((k:Int)+1) d n) s n) 0 n)) ∧
      (¬0<ybw es o ((k:Int)+1) d n→GL n es q D d0 o k d s 0):=by
  have hb:=h.bnd hE hn hq ht hD0 hD1 hc hd0 hdl
  obtain ⟨-,dl,sl,kn,lp,bd,pos,s0,sq,same⟩:=h
  have hcast:((k+1:Nat):Int)=(k:Int)+1:=by omega
  rw [hcast] at bd pos s0
  have hF0:=FF_nonneg hE o ((k:Int)+1)
  have hF1:=FF_half hE o ((k:Int)+1)
  have hFk1:=FF_half hE o (k:Int)
  have hCC:=CC_nonneg hE o ((k:Int)+1)
  have hFk:FF n es o k=FF n es o ((k:Int)+1)+CC n es o ((k:Int)+1):=FF_step n es o k
  have hj:∀ v,v<n→gi o v=(k:Int)+1→1≤yaQ es (v:Int) (fun u=>gb (yaW o ((k:Int)+1)) u.toNat):=fun v hv hk=>near_pos hD (fun x hx=>(hE x hx).2.2.2.2.1) hv hk
  have hcc:=hc o hD
  have hol:=hD.len
  have hB0:0≤D*2^(FF n es o ((k:Int)+1)).toNat:=Int.mul_nonneg hD0 (Int.le_of_lt (Int.pow_pos (by omega)))
  have hT:=timesL_le (es:=es) (o:=o) (k:=(k:Int)+1) (d:=d) hB0 n (fun v hv=>by have:=bd v hv;omega) hj
  have hBk:=pow_bnd hD0 (show FF n es o ((k:Int)+1)≤9 by omega)
  have hTg:=timesL_ge (es:=es) (o:=o) (k:=(k:Int)+1) (d:=d) n hj
  have hTz:=yhk (es:=es) (o:=o) (k:=(k:Int)+1) (d:=d) n
  have hst:=pow_step hD0 hF0 hCC hT.1 hT.2
  rw [←hFk] at hst
  generalize ybw es o ((k:Int)+1) d n=T at *
  generalize hC:CC n es o ((k:Int)+1)=C at *
  generalize D*2^(FF n es o ((k:Int)+1)).toNat=B at *
  have hBk':D*2^(FF n es o (k:Int)).toNat≤D*512:=pow_bnd hD0 (by omega)
  generalize hBB:D*2^(FF n es o (k:Int)).toNat=B' at *
  have hTC:0≤T*C:=Int.mul_nonneg hT.1 hCC
  have hsm:((n:Int)-1-((k:Int)+1))*(D*512)+D*512=((n:Int)-1-k)*(D*512):=by
    have:(n:Int)-1-k=((n:Int)-1-((k:Int)+1))+1:=by omega
    rw [this,Int.add_mul,Int.one_mul]
  refine ⟨by omega,fun hpos=>?_,fun hz=>?_⟩
  · have hfd:∀ v,v<n→gi (ycB es (yaW o ((k:Int)+1)) T d n) v=gi d v-T*Lp n es (ind (yaW o ((k:Int)+1))) v:=fun v hv=>fire_lp hE _ T d dl hv
    have hfs:∀ v,v<n→gi (ycJ (yaW o ((k:Int)+1)) T s n) v=gi s v+T*ind (yaW o ((k:Int)+1)) v:=fun v hv=>yjD sl hv
    have hdl':(ycB es (yaW o ((k:Int)+1)) T d n).length=n:=by rw [ybL,dl]
    have hsl':(ycJ (yaW o ((k:Int)+1)) T s n).length=n:=by rw [yb7,sl]
    have hind:∀ v,0≤T*ind (yaW o ((k:Int)+1)) v∧T*ind (yaW o ((k:Int)+1)) v≤T:=fun v=>by unfold ind;split <;> omega
    have hbd:∀ v,v<n → -B'≤gi d v-T*Lp n es (ind (yaW o ((k:Int)+1))) v∧gi d v-T*Lp n es (ind (yaW o ((k:Int)+1))) v≤B':=fun v hv=>by
      have b:=bd v hv
      have mulb:∀ x:Int,x≤C→T*x≤T*C:=fun x hx=>Int.mul_le_mul_of_nonneg_left hx hT.1
      rcases Int.lt_trichotomy (gi o v) ((k:Int)+1) with h | h | h
      · have h1:=near_in hE hD hcc hv h
        rw [hC] at h1
        have h2:=mulb _ h1.2
        have h3:=Int.mul_nonneg hT.1 h1.1
        omega
      · have h1:=near_at hE hD hcc hv h
        have h4:=yen hE v (fun u=>gb (yaW o ((k:Int)+1)) u.toNat)
        have h5:1≤yaQ es (v:Int) (fun u=>gb (yaW o ((k:Int)+1)) u.toNat):=hj v hv h
        rw [hC] at h1
        have h2:=mulb (- Lp n es (ind (yaW o ((k:Int)+1))) v) (by omega)
        have h3:=Int.mul_nonneg hT.1 (show 0 ≤ - Lp n es (ind (yaW o ((k:Int)+1))) v by omega)
        rw [Int.mul_neg] at h2 h3
        omega
      · have h1:=near_out hE hD hcc hv h
        rw [h1];omega
    have hsb:∀ v,v<n→0≤gi s v+T*ind (yaW o ((k:Int)+1)) v∧gi s v+T*ind (yaW o ((k:Int)+1)) v≤((n:Int)-1-k)*(D*512):=fun v hv=>by
      have h1:=s0 v hv
      have h2:=hind v
      omega
    have hbig:((n:Int)-1-k)*(D*512)≤D*2560:=mul_bnd hD0 hn
    refine ⟨fireE_ok (fun j=>?_) (fun j=>?_) 0 n,hdl',hsl',by omega,fun v hv=>?_,fun v hv=>?_,fun v hv hk=>?_,fun v hv=>?_,fun v hv=>?_,fun hs=>?_⟩
    · by_cases hjn:j<n
      · rw [hfd j hjn]
        have h1:=bd j hjn
        have h2 : -1*(T*C)≤0:=by omega
        have h3:T*C≤B':=by omega
        have h4:=hbd j hjn
        omega
      · rw [yit hdl' hjn];omega
    · by_cases hjn:j<n
      · rw [hfs j hjn]
        have:=hsb j hjn
        omega
      · rw [yit hsl' hjn];omega
    · rw [hfd v hv,Lp_fireS sl hv,lp v hv];omega
    · rw [hfd v hv,hBB]
      exact hbd v hv
    · rw [hfd v hv]
      by_cases h:gi o v=(k:Int)+1
      · have h1:=near_at hE hD hcc hv h
        rw [h1.1,Int.mul_neg]
        have h2:=hj v hv h
        by_cases hneg:gi d v<0
        · have:=(hTg v hv h hneg).2;omega
        · have:=Int.mul_nonneg hT.1 (show 0≤yaQ es (v:Int) (fun u=>gb (yaW o ((k:Int)+1)) u.toNat) by omega)
          omega
      · rw [near_out hE hD hcc hv (by omega)]
        have:=pos v hv (by omega)
        omega
    · rw [hfs v hv];exact hsb v hv
    · rw [hfs v hv,hfs q hq]
      have h1:ind (yaW o ((k:Int)+1)) q=1:=by
        unfold ind
        rw [if_pos]
        rw [yf5 (by omega),hD.q0];simp <;> omega
      have h2:=hind v
      have h3:=sq v hv
      rw [h1];omega
    · exfalso
      obtain ⟨rfl,hs2⟩:=same hs
      have:=hTz (fun v hv hk=>hs v hv (fun e=>by subst e;rw [hD.q0] at hk;omega))
      omega
  · have hT0:T=0:=by omega
    subst hT0
    refine ⟨rfl,dl,sl,by omega,lp,fun v hv=>by have:=bd v hv;rw [hBB];omega,fun v hv hk=>?_,fun v hv=>?_,sq,same⟩
    · by_cases h:gi o v=(k:Int)+1
      · apply Int.not_lt.1
        intro hneg
        have:=(hTg v hv h hneg).1
        omega
      · exact pos v hv (by omega)
    · have:=s0 v hv;omega
end
end Go.Proofs.YtadpnlimiblniaaGreat

/- Settling: what holds before and behind each firing; reduced divisors and that they are alone. No program in sight. -/
namespace Go.Proofs.YtadpnlimiblniaaGreat
open Go Go.Proofs.Tryz
def Conn(n:Nat)(es:List E3)(q:Nat):Prop:=∀ S:Nat→Bool,S q=false→(∃ v,v<n∧S v=true)→∃ v u,v<n∧u<n∧S v=true∧S u=false∧0<W es v u
structure Red(n:Nat)(es:List E3)(q:Nat)(d:List Int):Prop where
  pos:∀ v,v<n→v≠q→0≤gi d v
  no:∀ S:Nat→Bool,S q=false→(∃ v,v<n∧S v=true)→∃ v,v<n∧S v=true∧gi d v<sm n (fun u=>if S u then 0 else W es v u)
theorem yd8(c:Int):∀ n:Nat,sm n (fun _=>c)=n*c
  | 0=>by simp [sm]
  | n+1=>by
    rw [sm,yd8 c n]
    have:((n+1:Nat):Int)=(n:Int)+1:=by omega
    rw [this,Int.add_mul];omega
theorem sm_split{f:Nat→Int}{n q:Nat}(hq:q<n):sm n f=f q+sm n (fun v=>if v=q then 0 else f v):=by
  have h1:=ye9 (f q) hq
  rw [←h1,←ycc]
  exact yaw fun i _=>by
    show f i=ite _ _ _+ite _ _ _
    split
    · subst_vars;omega
    · omega
def low(n:Nat)(f:Nat→Int)(c:Int):Int:=sm n (fun x=>if f x<c then 1 else 0)
theorem climb{n:Nat}{es:List E3}{q:Nat}(hE:EOk n es)(hC:Conn n es q)(hq:q<n){f:Nat→Int}{G:Int}(hG0:0≤G)(hG:∀ S:Nat→Bool,S q=false→sm n (fun v=>if S v then Lp n es f v else 0)≤G) :
    ∀ v,v<n→f v-f q≤low n f (f v)*G:=by
  suffices H:∀ (k:Nat) v,v<n→low n f (f v)≤k→f v-f q≤low n f (f v)*G from fun v hv=>H (low n f (f v)).toNat v hv (by omega)
  have lown:∀ c,0≤low n f c:=fun c=>ya5 fun x _=>by show 0≤ite _ _ _;split <;> omega
  have step:∀ v,v<n→f q<f v→∃ u,u<n∧f u<f v∧f v-f u≤G∧low n f (f u)+1≤low n f (f v):=by
    intro v hv hlt
    have hS0:(fun x=>decide (f v≤f x)) q=false:=by simp;omega
    obtain ⟨x,u,hx,hu,hSx,hSu,hW⟩:=hC (fun x=>decide (f v≤f x)) hS0 ⟨v,hv,by simp⟩
    simp only [decide_eq_true_eq,decide_eq_false_iff_not] at hSx hSu
    have h1:=hG (fun x=>decide (f v≤f x)) hS0
    rw [Lp_cut] at h1
    have nn:∀ a b,0≤(if (decide (f v≤f a) && !decide (f v≤f b))=true then W es a b*(f a-f b) else 0):=fun a b=>by
      split
      · rename_i h
        simp only [Bool.and_eq_true,decide_eq_true_eq,Bool.not_eq_true',decide_eq_false_iff_not] at h
        exact Int.mul_nonneg (ya2 hE a b) (by omega)
      · omega
    have h2:=yik (n:=n) (f:=fun a=>sm n (fun b=>if (decide (f v≤f a) && !decide (f v≤f b))=true then W es a b*(f a-f b) else 0)) (fun a _=>ya5 fun b _=>nn a b) x hx
    have h3:=yik (n:=n) (f:=fun b=>if (decide (f v≤f x) && !decide (f v≤f b))=true then W es x b*(f x-f b) else 0) (fun b _=>nn x b) u hu
    have h4:(decide (f v≤f x) && !decide (f v≤f u))=true:=by
      simp only [Bool.and_eq_true,decide_eq_true_eq,Bool.not_eq_true',decide_eq_false_iff_not];omega
    simp only [h4,if_true] at h3
    have h5:1*(f x-f u)≤W es x u*(f x-f u):=Int.mul_le_mul_of_nonneg_right (by omega) (by omega)
    have h6:f x-f u≤G:=by
      have h2':sm n (fun b=>if (decide (f v≤f x) && !decide (f v≤f b))=true then W es x b*(f x-f b) else 0)≤sm n (fun a=>sm n (fun b=>if (decide (f v≤f a) && !decide (f v≤f b))=true then W es a b*(f a-f b) else 0)):=h2
      omega
    refine ⟨u,hu,by omega,by omega,?_⟩
    unfold low
    have h7:=ye9 1 hu
    rw [←h7,←ycc]
    refine ydh fun i _=>?_
    show ite _ _ _+ite _ _ _≤ite _ _ _
    by_cases e:i=u
    · subst e;rw [if_neg (by omega),if_pos rfl,if_pos (by omega)];omega
    · rw [if_neg e];split <;> split <;> omega
  intro k
  induction k with
  | zero =>
    intro v hv hk
    by_cases h:f q<f v
    · obtain ⟨u,hu,h1,h2,h3⟩:=step v hv h
      have:=lown (f u);omega
    · have:=Int.mul_nonneg (lown (f v)) hG0;omega
  | succ k ih =>
    intro v hv hk
    by_cases h:f q<f v
    · obtain ⟨u,hu,h1,h2,h3⟩:=step v hv h
      have h4:=ih u hu (by omega)
      have h5:(low n f (f u)+1)*G≤low n f (f v)*G:=Int.mul_le_mul_of_nonneg_right h3 hG0
      rw [Int.add_mul] at h5;omega
    · have:=Int.mul_nonneg (lown (f v)) hG0;omega
theorem low_le{n:Nat}{f:Nat→Int}{v:Nat}(hv:v<n):low n f (f v)≤(n:Int)-1:=by
  have h7:=ye9 1 hv
  have h1:low n f (f v)+sm n (fun i=>if i=v then 1 else 0)≤sm n (fun _=>1):=by
    unfold low
    rw [←ycc]
    refine ydh fun i _=>?_
    show (if f i<f v then (1:Int) else 0)+(if i=v then (1:Int) else 0)≤1
    by_cases e:i=v
    · subst e;rw [if_neg (by omega),if_pos rfl];omega
    · rw [if_neg e];split <;> omega
  rw [h7] at h1
  rw [yd8] at h1;omega
theorem red_script{n:Nat}{es:List E3}{q:Nat}(hE:EOk n es)(hq:q<n){d d':List Int}(h:Red n es q d)(hpos:∀ v,v<n→v≠q→0≤gi d' v){f:Nat→Int}(hf:∀ v,v<n→gi d' v=gi d v-Lp n es f v):∀ v,v<n→f v≤f q:=by
  suffices H:∀ (k:Nat) v,v<n→n≤k+(low n f (f v)).toNat→f v≤f q from fun v hv=>H n v hv (by omega)
  have lown:∀ c,0≤low n f c:=fun c=>ya5 fun x _=>by show 0≤ite _ _ _;split <;> omega
  intro k
  induction k with
  | zero=>intro v hv hk;have:=low_le (f:=f) hv;have:=lown (f v);omega
  | succ k ih =>
    intro v hv hk
    apply Int.not_lt.1
    intro hlt
    by_cases hmx:∃ x,x<n∧f v<f x
    · obtain ⟨x,hx,hvx⟩:=hmx
      have h1:low n f (f v)+1≤low n f (f x):=by
        unfold low
        have h7:=ye9 1 hv
        rw [←h7,←ycc]
        refine ydh fun i _=>?_
        show ite _ _ _+ite _ _ _≤ite _ _ _
        by_cases e:i=v
        · subst e;rw [if_neg (by omega),if_pos rfl,if_pos (by omega)];omega
        · rw [if_neg e];split <;> split <;> omega
      have:=ih x hx (by have:=lown (f v);omega)
      omega
    · have hmx2:∀ x,x<n→f x≤f v:=fun x hx=>Int.not_lt.1 fun h=>hmx ⟨x,hx,h⟩
      obtain ⟨x,hx,hSx,hlt2⟩:=h.no (fun x=>decide (f x=f v)) (by simp;omega) ⟨v,hv,by simp⟩
      simp only [decide_eq_true_eq] at hSx hlt2
      have h2:=hf x hx
      have h3:sm n (fun u=>if f u=f v then 0 else W es x u)≤Lp n es f x:=ydh fun u hu=>by
        have hu2:=hmx2 u hu
        have hw:=ya2 hE x u
        show ite _ _ _≤W es x u*(f x-f u)
        split
        · rename_i e;rw [show f x-f u=0 by omega];omega
        · have:=Int.mul_le_mul_of_nonneg_left (show 1≤f x-f u by omega) hw
          omega
      have h4:=hpos x hx (fun e=>by subst e;omega)
      omega
end Go.Proofs.YtadpnlimiblniaaGreat

/- Settling: each firing keeps the bounds and comes nearer to the end. No program in sight. -/
namespace Go.Proofs.YtadpnlimiblniaaGreat
open Go Go.Proofs.Tryz
structure GS0(n:Nat)(es:List E3)(q:Nat)(D:Int)(d0 d s:List Int):Prop where
  dl:d.length=n
  sl:s.length=n
  lp:∀ v,v<n→gi d v=gi d0 v-Lp n es (gi s) v
  pos:∀ v,v<n→v≠q→0≤gi d v
  off:sm n (fun v=>if v=q then 0 else gi d v)≤D*2560
  s0:∀ v,v<n→0≤gi s v
  sq:gi s q≤D*2560
def left' (D:Int)(n:Nat)(s:List Int):Int:=sm n (fun v=>D*2600-gi s v)
def GS(n:Nat)(es:List E3)(q:Nat)(D:Int)(d0:List Int)(m:Nat)(d s:List Int)(e:Int):Prop:=e=0∧GS0 n es q D d0 d s∧m=(left' D n s).toNat
theorem timesS_all{es:List E3}{left:List Bool}{d:List Int}{M:Int}(hM:0≤M):∀ n,(∀ v,v<n→gi d v≤M∨gb left v=false)→(∀ v,v<n→gb left v=true→yaQ es (v:Int) (fun u=>!gb left u.toNat)≤gi d v∧0≤yaQ es (v:Int) (fun u=>!gb left u.toNat)) →
    0≤yby es left d n∧yby es left d n≤M∧∀ v,v<n→gb left v=true→0<yaQ es (v:Int) (fun u=>!gb left u.toNat)→1≤yby es left d n∧yby es left d n*yaQ es (v:Int) (fun u=>!gb left u.toNat)≤gi d v
  | 0,_,_=>by simp [yby];exact hM
  | n+1,hd,hj=>by
    obtain ⟨i1,i2,i3⟩:=timesS_all hM n (fun v hv=>hd v (by omega)) (fun v hv=>hj v (by omega))
    rw [yby]
    by_cases hc:gb left n=true∧0<yaQ es (n:Int) (fun u=>!gb left u.toNat)
    · rw [if_pos hc]
      have h1:=hj n (by omega) hc.1
      have hdM:gi d n≤M:=by
        rcases hd n (by omega) with h | h
        · exact h
        · rw [hc.1] at h;cases h
      have hJ:=hc.2
      have hq1:(gi d n).tdiv (yaQ es (n:Int) (fun u=>!gb left u.toNat))*yaQ es (n:Int) (fun u=>!gb left u.toNat)≤gi d n:=by
        rw [Int.tdiv_eq_ediv_of_nonneg (by omega)]
        exact Int.ediv_mul_le _ (by omega)
      have hq2:1≤(gi d n).tdiv (yaQ es (n:Int) (fun u=>!gb left u.toNat)):=by
        rw [Int.tdiv_eq_ediv_of_nonneg (by omega)]
        exact Int.le_ediv_of_mul_le hJ (by omega)
      have hq3:(gi d n).tdiv (yaQ es (n:Int) (fun u=>!gb left u.toNat))≤M:=by
        have:=Int.mul_le_mul_of_nonneg_left (show 1≤yaQ es (n:Int) (fun u=>!gb left u.toNat) by omega) (show 0≤(gi d n).tdiv (yaQ es (n:Int) (fun u=>!gb left u.toNat)) by omega)
        omega
      generalize hX:(gi d n).tdiv (yaQ es (n:Int) (fun u=>!gb left u.toNat))=X at *
      by_cases hc2:yby es left d n=0∨X<yby es left d n
      · rw [if_pos hc2]
        refine ⟨by omega,hq3,fun v hv hl hp=>?_⟩
        by_cases e:v=n
        · subst e;exact ⟨hq2,hq1⟩
        · obtain ⟨j1,j2⟩:=i3 v (by omega) hl hp
          refine ⟨hq2,?_⟩
          have:=Int.mul_le_mul_of_nonneg_right (show X≤yby es left d n by omega) (Int.le_of_lt hp)
          omega
      · rw [if_neg hc2]
        refine ⟨i1,i2,fun v hv hl hp=>?_⟩
        by_cases e:v=n
        · subst e
          refine ⟨by omega,?_⟩
          have:=Int.mul_le_mul_of_nonneg_right (show yby es left d v≤X by omega) (Int.le_of_lt hp)
          omega
        · exact i3 v (by omega) hl hp
    · rw [if_neg hc]
      refine ⟨i1,i2,fun v hv hl hp=>?_⟩
      by_cases e:v=n
      · subst e;exact absurd ⟨hl,hp⟩ hc
      · exact i3 v (by omega) hl hp
theorem ygv{burnt:List Bool}{n v:Nat}(hl:burnt.length=n)(hv:v<n):gb (leftOf burnt) v = !gb burnt v:=by
  rw [yb5 (by simpa [leftOf] using (by omega:v<burnt.length)),yb5 (by omega)]
  simp [leftOf]
section
variable {n : Nat} {es : List E3} {q : Nat} {D : Int} {d0 : List Int} (hE : EOk n es) (hn : n ≤ 6) (hq : q < n) (hD0 : 0 ≤ D) (hD1 : D ≤ 200) (hC : Conn n es q)
  (hd0:∀ v,v<n → -D≤gi d0 v∧gi d0 v≤D)
include hE hn hq hD0 hD1 hC hd0
theorem GS0.bnd{d s:List Int}(h:GS0 n es q D d0 d s):(∀ v,v<n→gi s v≤gi s q+D*30)∧(∀ v,v<n → -(D*2566)≤gi d v∧gi d v≤D*2566)∧0≤gi s q:=by
  refine ⟨fun v hv=>?_,?_,h.s0 q hq⟩
  · have hnD:sm n (fun _=>D)≤6*D:=by
      rw [yd8]
      exact Int.mul_le_mul_of_nonneg_right (by omega) hD0
    have h1:=climb hE hC hq (f:=gi s) (G:=6*D) (by omega) (fun S hS=>by
      refine Int.le_trans (ydh fun v hv=>?_) hnD
      show ite _ _ _≤D
      split
      · rename_i hSv
        have h1:=h.lp v hv
        have h2:=h.pos v hv (fun e=>by subst e;rw [hS] at hSv;cases hSv)
        have h3:=hd0 v hv
        omega
      · exact hD0) v hv
    have h2:=low_le (f:=gi s) hv
    have h3:=Int.mul_le_mul_of_nonneg_right (show low n (gi s) (gi s v)≤5 by omega) (show 0≤6*D by omega)
    omega
  · have hoff0:∀ v,v<n→0≤(if v=q then 0 else gi d v):=fun v hv=>by
      split
      · omega
      · rename_i e;exact h.pos v hv e
    have hoffn:=ya5 hoff0
    have hoffs:=h.off
    have htot:sm n (gi d)=sm n (gi d0):=by
      have h1:=yf8 (n:=n) (es:=es) (gi s)
      have h2:sm n (gi d)=sm n (gi d0)-sm n (fun v=>Lp n es (gi s) v):=by
        rw [←yfB]
        exact yaw fun i hi=>h.lp i hi
      omega
    have h6:sm n (gi d0)≤6*D ∧ -(6*D)≤sm n (gi d0):=by
      constructor
      · refine Int.le_trans (ydh fun v hv=>(hd0 v hv).2) ?_
        rw [yd8];exact Int.mul_le_mul_of_nonneg_right (by omega) hD0
      · have h7:sm n (fun _ => -D)≤sm n (gi d0):=ydh fun v hv=>(hd0 v hv).1
        rw [yd8] at h7
        have h8:(n:Int)*D≤6*D:=Int.mul_le_mul_of_nonneg_right (by omega) hD0
        rw [Int.mul_neg] at h7
        omega
    have hsp:=sm_split (f:=gi d) hq
    intro v hv
    by_cases e:v=q
    · subst e;omega
    · have h8:=yik hoff0 v hv
      rw [if_neg e] at h8
      have h9:=h.pos v hv e
      omega
theorem GS.bnd{m:Nat}{d s:List Int}{e:Int}(h:GS n es q D d0 m d s e):Bnd 600000 d∧Bnd 600000 s:=by
  obtain ⟨-,h0, -⟩:=h
  obtain ⟨b1,b2,b3⟩:=h0.bnd hE hn hq hD0 hD1 hC hd0
  have hsq:=h0.sq
  constructor
  · intro i
    by_cases hi:i<n
    · have:=b2 i hi;omega
    · rw [yit h0.dl hi];omega
  · intro i
    by_cases hi:i<n
    · have:=b1 i hi;have:=h0.s0 i hi;omega
    · rw [yit h0.sl hi];omega
theorem GS.step{m:Nat}{d s:List Int}{burnt:List Bool}(h:GS n es q D d0 m d s 0)(hB:Burns n es q d burnt)(hany:(leftOf burnt).any id=true) :
    0≤yby es (leftOf burnt) d n∧yby es (leftOf burnt) d n≤2147483648∧(∀ v,v<n→gb (leftOf burnt) v=true→0≤gi d v) ∧
      ∃ m',m'<m∧GS n es q D d0 m' (ycB es (leftOf burnt) (yby es (leftOf burnt) d n) d n) (ycJ (leftOf burnt) (yby es (leftOf burnt) d n) s n)
        (yic (ycB es (leftOf burnt) (yby es (leftOf burnt) d n) d n) (ycJ (leftOf burnt) (yby es (leftOf burnt) d n) s n) 0 n):=by
  have hb:=h.bnd hE hn hq hD0 hD1 hC hd0
  obtain ⟨-,h0,hm⟩:=h
  have hLq:gb (leftOf burnt) q=false:=by rw [ygv hB.len hq,hB.at_q];rfl
  have hnq:∀ v,gb (leftOf burnt) v=true→v≠q:=fun v hv e=>by subst e;rw [hLq] at hv;cases hv
  have hjl:∀ v:Nat,yaQ es (v:Int) (fun u=>!gb (leftOf burnt) u.toNat)=sm n (fun u=>if gb (leftOf burnt) u=true then 0 else W es v u):=fun v=>by
    rw [yen hE]
    exact yaw fun u hu=>by
      simp only [Int.toNat_natCast]
      by_cases hs:gb (leftOf burnt) u=true
      · simp [hs]
      · simp [hs]
  have hj0:∀ v:Nat,0≤yaQ es (v:Int) (fun u=>!gb (leftOf burnt) u.toNat):=fun v=>by
    rw [hjl]
    exact ya5 fun u _=>by have:=ya2 hE v u;split <;> omega
  have hjd:∀ v,v<n→gb (leftOf burnt) v=true→yaQ es (v:Int) (fun u=>!gb (leftOf burnt) u.toNat)≤gi d v:=fun v hv hl=>by
    have h1:=hB.closed v hv (by rw [ygv hB.len hv] at hl;simpa using hl)
    rw [yen hE] at h1 ⊢
    refine Int.le_trans (Int.le_of_eq (yaw fun u hu=>?_)) h1
    simp only [Int.toNat_natCast,ygv hB.len hu,Bool.not_not]
  obtain ⟨t0,t1,t2⟩:=timesS_all (es:=es) (left:=leftOf burnt) (d:=d) (M:=600000) (by omega) n (fun v hv => .inl (hb.1 v).2) (fun v hv hl=>⟨hjd v hv hl,hj0 v⟩)
  -- a way out
  have hex:∃ v,v<n∧gb (leftOf burnt) v=true:=by
    obtain ⟨x,hx,hxt⟩:=List.any_eq_true.1 hany
    obtain ⟨i,hi,hxi⟩:=List.mem_iff_getElem.1 hx
    refine ⟨i,by simpa [leftOf,hB.len] using hi,?_⟩
    rw [yb5 hi,hxi];simpa using hxt
  obtain ⟨v,u,hv,hu,hSv,hSu,hW⟩:=hC (gb (leftOf burnt)) hLq hex
  have hjv:0<yaQ es (v:Int) (fun u=>!gb (leftOf burnt) u.toNat):=by
    rw [hjl]
    have:=yik (n:=n) (f:=fun u=>if gb (leftOf burnt) u=true then 0 else W es v u) (fun u _=>by have:=ya2 hE v u;show 0≤ite _ _ _;split <;> omega) u hu
    simp only [hSu,Bool.false_eq_true,if_false] at this
    omega
  have hT1:=(t2 v hv hSv hjv).1
  clear hex
  refine ⟨t0,by omega,fun v hv hl=>h0.pos v hv (hnq v hl),?_⟩
  generalize yby es (leftOf burnt) d n=T at *
  have hfd:∀ v,v<n→gi (ycB es (leftOf burnt) T d n) v=gi d v-T*Lp n es (ind (leftOf burnt)) v:=fun v hv=>fire_lp hE _ T d h0.dl hv
  have hfs:∀ v,v<n→gi (ycJ (leftOf burnt) T s n) v=gi s v+T*ind (leftOf burnt) v:=fun v hv=>yjD h0.sl hv
  have hind:∀ v,0≤T*ind (leftOf burnt) v:=fun v=>by unfold ind;split <;> omega
  have hq0:ind (leftOf burnt) q=0:=by unfold ind;rw [hLq];rfl
  have hout:∀ v,¬gb (leftOf burnt) v=true→Lp n es (ind (leftOf burnt)) v≤0:=fun v hl=>by
    rw [yie hl]
    have:=ya5 (n:=n) (f:=fun u=>if gb (leftOf burnt) u=true then W es v u else 0) (fun u _=>by have:=ya2 hE v u;show 0≤ite _ _ _;split <;> omega)
    omega
  have hG:GS0 n es q D d0 (ycB es (leftOf burnt) T d n) (ycJ (leftOf burnt) T s n):=by
    refine ⟨by rw [ybL,h0.dl],by rw [yb7,h0.sl],fun v hv=>?_,fun v hv hvq=>?_,?_,fun v hv=>?_,?_⟩
    · rw [hfd v hv,Lp_fireS h0.sl hv,h0.lp v hv];omega
    · rw [hfd v hv]
      have hp:=h0.pos v hv hvq
      by_cases hl:gb (leftOf burnt) v=true
      · rw [Lp_ind_in hl,←hjl]
        by_cases hz:0<yaQ es (v:Int) (fun u=>!gb (leftOf burnt) u.toNat)
        · have:=(t2 v hv hl hz).2;omega
        · have h1:=hj0 v
          rw [show yaQ es (v:Int) (fun u=>!gb (leftOf burnt) u.toNat)=0 by omega];omega
      · have h1:=hout v hl
        have h2:=Int.mul_nonneg t0 (show 0 ≤ - Lp n es (ind (leftOf burnt)) v by omega)
        rw [Int.mul_neg] at h2;omega
    · have h1:sm n (fun v=>if v=q then 0 else gi (ycB es (leftOf burnt) T d n) v)=sm n (fun v=>if v=q then 0 else gi d v)-T*sm n (fun v=>if v=q then 0 else Lp n es (ind (leftOf burnt)) v):=by
        rw [←yjS,←yfB]
        refine yaw fun v hv=>?_
        show ite _ _ _=ite _ _ _-T*ite _ _ _
        split
        · omega
        · exact hfd v hv
      have h2:=sm_split (f:=Lp n es (ind (leftOf burnt))) hq
      have h3:sm n (Lp n es (ind (leftOf burnt)))=0:=yf8 (n:=n) (es:=es) (ind (leftOf burnt))
      have h4:=hout q (by rw [hLq];simp)
      have h5:=Int.mul_nonneg t0 (show 0≤sm n (fun v=>if v=q then 0 else Lp n es (ind (leftOf burnt)) v) by omega)
      have:=h0.off
      omega
    · rw [hfs v hv];have:=h0.s0 v hv;have:=hind v;omega
    · rw [hfs q hq,hq0];have:=h0.sq;omega
  obtain ⟨b1,b2,b3⟩:=hG.bnd hE hn hq hD0 hD1 hC hd0
  have hsq:=hG.sq
  refine ⟨_,?_,fireE_ok (fun j=>?_) (fun j=>?_) 0 n,hG,rfl⟩
  · rw [hm]
    have h1:0≤left' D n (ycJ (leftOf burnt) T s n):=ya5 fun v hv=>by
      show 0≤D*2600-gi (ycJ (leftOf burnt) T s n) v
      have:=b1 v hv;omega
    have h2:left' D n (ycJ (leftOf burnt) T s n)+1≤left' D n s:=by
      unfold left'
      have h3:sm n (fun v=>D*2600-gi (ycJ (leftOf burnt) T s n) v)=sm n (fun v=>D*2600-gi s v)-sm n (fun v=>T*ind (leftOf burnt) v):=by
        rw [←yfB]
        refine yaw fun v hv=>?_
        show D*2600-gi (ycJ (leftOf burnt) T s n) v=_-_
        rw [hfs v hv];omega
      have h4:=yik (n:=n) (f:=fun v=>T*ind (leftOf burnt) v) (fun v _=>hind v) v hv
      have h5:ind (leftOf burnt) v=1:=by unfold ind;rw [if_pos hSv]
      simp only [h5] at h4
      omega
    omega
  · by_cases hj:j<n
    · have:=b2 j hj;omega
    · rw [yit hG.dl hj];omega
  · by_cases hj:j<n
    · have:=b1 j hj;have:=hG.s0 j hj;omega
    · rw [yit hG.sl hj];omega
theorem GS0.red{d s:List Int}{burnt:List Bool}(h:GS0 n es q D d0 d s)(hB:Burns n es q d burnt)(hany:(leftOf burnt).any id=false):Red n es q d:=by
  refine ⟨h.pos,fun S hS ⟨v,hv,hSv⟩=>?_⟩
  apply Classical.byContradiction
  intro hno
  have h1:=hB.forced S hS (fun x hx hSx=>by
    apply Int.not_lt.1
    intro hlt
    rw [yen hE] at hlt
    refine hno ⟨x,hx,hSx,Int.lt_of_lt_of_le hlt (Int.le_of_eq (yaw fun u hu=>?_))⟩
    simp only [Int.toNat_natCast]
    by_cases hs:S u=true
    · simp [hs]
    · simp [hs]) v hv hSv
  have h2:gb (leftOf burnt) v=true:=by rw [ygv hB.len hv,h1];rfl
  have hvl:v<(leftOf burnt).length:=by simp [leftOf,hB.len,hv]
  rw [yb5 hvl] at h2
  have h3:(leftOf burnt).any id=true:=List.any_eq_true.2 ⟨_,List.getElem_mem hvl,h2⟩
  rw [hany] at h3;cases h3
theorem GL.settle{o:List Int}{d s:List Int}{e:Int}(hD:Dist n es q o)(hc:∀ v,v<n→0≤gi o v)(ht:tot n es≤18)(h:GL n es q D d0 o 0 d s e):GS n es q D d0 (left' D n s).toNat d s e:=by
  have hF:=FF_half hE o ((0:Nat):Int)
  have hB:=pow_bnd hD0 (show FF n es o ((0:Nat):Int)≤9 by omega)
  have hpos:∀ v,v<n→v≠q→0≤gi d v:=fun v hv hvq=>h.pos v hv (by
    have h1:=hc v hv
    have h2:gi o v≠0:=fun e=>hvq (hD.zero v hv e)
    omega)
  refine ⟨h.e0,⟨h.dl,h.sl,h.lp,hpos,?_,fun v hv=>(h.s0 v hv).1,?_⟩,rfl⟩
  · have h1:sm n (fun v=>if v=q then 0 else gi d v)≤sm n (fun v=>if v=q then 0 else D*512):=ydh fun v hv=>by
      show ite _ _ _≤ite _ _ _
      split
      · omega
      · have:=h.bd v hv;omega
    have h2:=sm_split (f:=fun _=>D*512) hq
    rw [yd8] at h2
    have h3:(n:Int)*(D*512)≤6*(D*512):=Int.mul_le_mul_of_nonneg_right (by omega) (by omega)
    omega
  · have:=(h.s0 q hq).2
    have:=mul_bnd (n:=n) (k:=0) hD0 hn
    omega
end
end Go.Proofs.YtadpnlimiblniaaGreat

/- The walks of package connect's forests, up to Connected. -/
namespace Go.Proofs.YtadpnlimiblniaaGreat
open Go.RowKit Go.Maps Go.Proofs.Tryz
set_option maxRecDepth 100000
set_option maxHeartbeats 400000
theorem yi1(g:Nat)(F:List Nat)(v:Nat)(w:World)(hF:NRow w g 184 12 F)(h:ydb F)(hv:v<12) :
    Calls Tryz.prog 171 #[.pointer (some ⟨g,0,none⟩), .int .i64 (v:Int)] w fun e w'=>e = .returned (.int .i64 (root F v:Int))∧w=w':=by
  have H:=Lib.hid h
  clear h
  go_enter func171,ntmps171
  go_wp2
  go_loopw [1] (fun i wr=>∃ u:Nat,u<12∧i = .int .i64 (u:Int)∧Hid (root F v=root F u)∧Same wr w) (fun i _=>(intOf i).toNat)
  case atStart=>exact ⟨v,hv,rfl,rfl, .refl _⟩
  case round =>
    obtain ⟨u,hu,rfl,hr,hw⟩:=hrel
    obtain rfl:wr=w:=hw.out
    have hc:=ncell hF (k:=u) (by rw [H.out.1];exact hu)
    simp only [Int.ofNat_eq_natCast] at hc
    have hle:=H.out.2 u hu
    by_cases he:gn F u=u
    · have hb:=neF (a:=(gn F u:Int)) (b:=(u:Int)) (by rw [he])
      have HE:=Lib.hid he
      clear he hw
      go_wp2
      go_ret
      exact ⟨yeB (yfG (by rw [hr.out,ycT HE.out])),rfl⟩
    · have hb:=neT (a:=(gn F u:Int)) (b:=(u:Int)) (by omega)
      clear hw
      go_wp2
      go_roundw
      case rel=>exact ⟨gn F u,by omega,rfl,by rw [Hid,hr.out,yfK H.out hu he], .refl _⟩
      case measure=>simp [intOf];omega
theorem join_any(g:Nat)(F:List Nat)(a b:Nat)(w:World)(hF:NRow w g 184 12 F)(h:ydb F)(ha:a<12)(hb:b<12) :
    Calls Tryz.prog 170 #[.pointer (some ⟨g,0,none⟩), .int .i64 (a:Int), .int .i64 (b:Int)] w fun e w'=>e = .returned (.tuple #[])∧NRow w' g 184 12 (ycV F a b)∧Keeps (· = g) w w':=by
  have h1:=yd4 h a ha
  have h2:=yd4 h b hb
  have hfa:=Row.frozen hF (root F a)
  have hfb:=Row.frozen hF (root F b)
  have hca:=ncell hF (k:=root F a) (by rw [h.1];omega)
  have hcb:=ncell hF (k:=root F b) (by rw [h.1];omega)
  have l1:root F a<12:=by omega
  have l2:root F b<12:=by omega
  have H1:=Lib.hid h1
  have H2:=Lib.hid h2
  clear h1 h2
  go_enter func170,ntmps170
  go_wp2_with fail
  refine (yi1 g F a _ hF h ha).mono ?_
  rintro e w' ⟨rfl,rfl⟩
  go_wp2_with fail
  refine (yi1 g F b _ hF h hb).mono ?_
  rintro e w' ⟨rfl,rfl⟩
  have HF:=Lib.hid hF
  clear hF
  go_wp2
  all_goals go_end0
  all_goals (refine ⟨rfl,?_,(by repeat (first | exact Keeps.refl _ _ | assumption | refine Keeps.drew ?_ | refine Keeps.drewN ?_ _ | refine Keeps.alloc ?_ _ | refine Keeps.setRow ?_ (by simp) _ | refine Keeps.setRow ?_ (by simp;omega) _ | refine Keeps.setCell ?_ (by simp) _ | refine Keeps.setCell ?_ (by simp;omega) _))⟩)
  all_goals (first
    | (rw [show ycV F a b=F.set (root F a) (root F b) by unfold ycV;rw [Nat.max_eq_left (by omega),Nat.min_eq_right (by omega)]];exact nset HF.out _ _)
    | (rw [show ycV F a b=F.set (root F b) (root F a) by unfold ycV;rw [Nat.max_eq_right (by omega),Nat.min_eq_left (by omega)]];exact nset HF.out _ _)
    | (rw [show ycV F a b=F.set (root F a) (root F a) by unfold ycV;rw [Nat.max_eq_right (by omega),Nat.min_eq_left (by omega)];congr 1 <;> omega];exact nset HF.out _ _))
def yig(F:List Nat):Value := .agg (yeC F).toArray
theorem grown_any(w:World) :
    Calls Tryz.prog 169 #[] w fun e w'=>e = .returned (yig ydC)∧Pure w w':=by
  go_enter func169,ntmps169
  go_wp2
  refine wp_loop_rounds 13 ?_
  repeat any_goals (rw [rounds_succ];go_wp2)
  exact bodyPost_ret (v:=yig ydC) (by simp [results,Tryz.results169,go_sem,yig,yeC,ydC,List.range,List.range.loop]) rfl ⟨rfl,(by repeat (first | exact Keeps.refl _ _ | assumption | refine Keeps.drew ?_ | refine Keeps.drewN ?_ _ | refine Keeps.alloc ?_ _ | refine Keeps.setRow ?_ (by simp) _ | refine Keeps.setRow ?_ (by simp;omega) _ | refine Keeps.setCell ?_ (by simp) _ | refine Keeps.setCell ?_ (by simp;omega) _))⟩
theorem forestV_lit{F:List Nat}(h:F.length=12):∃ a0 a1 a2 a3 a4 a5 a6 a7 a8 a9 a10 a11:Nat,F=[a0,a1,a2,a3,a4,a5,a6,a7,a8,a9,a10,a11]:=by
  match F,h with
  | [a0,a1,a2,a3,a4,a5,a6,a7,a8,a9,a10,a11],_=>exact ⟨a0,a1,a2,a3,a4,a5,a6,a7,a8,a9,a10,a11,rfl⟩
theorem forest_info:(Tryz.prog.info? 184).map (·.size)=some 12:=by kernel_rfl
theorem joined_any(A:Option Addr)(es:List E3)(cap:Nat)(n:Int)(w:World)(hd:ydB w A es)(hlen:es.length≤1000000000)(hE:ydE es) :
    Calls Tryz.prog 158 #[.agg #[.int .i64 n, .slice A es.length cap]] w fun e w'=>e = .returned (yig (yaA es))∧Pure w w':=by
  have HD:=Lib.hid hd
  have HE:=Lib.hid hE
  clear hd hE
  go_enter func158,ntmps158
  go_wp2_with fail
  refine (grown_any _).mono ?_
  rintro e w1 ⟨rfl,hp1⟩
  have r0:=hp1.row (Row.alloc (Row.new w #[.int .i64 n, .slice A es.length cap] 24) _) id
  have r1:=hp1.row (Row.new (w.alloc (.cells #[.int .i64 n, .slice A es.length cap] 24)) #[.int .i64 0, .int .i64 0, .int .i64 0, .int .i64 0, .int .i64 0, .int .i64 0, .int .i64 0, .int .i64 0, .int .i64 0, .int .i64 0, .int .i64 0, .int .i64 0] 184) id
  rw [World.size_alloc] at r1
  have k0:Pure w w1:=Pure.after (by repeat (first | exact Keeps.refl _ _ | assumption | refine Keeps.drew ?_ | refine Keeps.drewN ?_ _ | refine Keeps.alloc ?_ _ | refine Keeps.setRow ?_ (by simp) _ | refine Keeps.setRow ?_ (by simp;omega) _ | refine Keeps.setCell ?_ (by simp) _ | refine Keeps.setCell ?_ (by simp;omega) _)) hp1
  have r00:=Row.cell r0 (i:=0) rfl
  have r01:=Row.cell r0 (i:=1) rfl
  have s0:=r0.lt
  have s1:=r1.lt
  unfold yig yeC ydC
  simp only [List.range,List.range.loop,List.map]
  go_wp2
  have hf0:NRow (w1.alloc (.cells #[.int .i64 0, .int .i64 1, .int .i64 2, .int .i64 3, .int .i64 4, .int .i64 5, .int .i64 6, .int .i64 7, .int .i64 8, .int .i64 9, .int .i64 10, .int .i64 11] 184)) w1.heap.size 184 12 (yaA (es.take 0)) :=
    Row.new w1 #[.int .i64 0, .int .i64 1, .int .i64 2, .int .i64 3, .int .i64 4, .int .i64 5, .int .i64 6, .int .i64 7, .int .i64 8, .int .i64 9, .int .i64 10, .int .i64 11] 184
  have g0:=Row.alloc r0 (.cells #[.int .i64 0, .int .i64 1, .int .i64 2, .int .i64 3, .int .i64 4, .int .i64 5, .int .i64 6, .int .i64 7, .int .i64 8, .int .i64 9, .int .i64 10, .int .i64 11] 184)
  have g1:=Row.alloc r1 (.cells #[.int .i64 0, .int .i64 1, .int .i64 2, .int .i64 3, .int .i64 4, .int .i64 5, .int .i64 6, .int .i64 7, .int .i64 8, .int .i64 9, .int .i64 10, .int .i64 11] 184)
  have k1:=Keeps.alloc k0 (.cells #[.int .i64 0, .int .i64 1, .int .i64 2, .int .i64 3, .int .i64 4, .int .i64 5, .int .i64 6, .int .i64 7, .int .i64 8, .int .i64 9, .int .i64 10, .int .i64 11] 184)
  go_loopw [10] (fun i wr=>∃ k:Nat,k≤es.length∧i = .int .i64 k∧NRow wr w1.heap.size 184 12 (yaA (es.take k))∧Row wr (w.heap.size+1) 184 12 [.int .i64 0, .int .i64 0, .int .i64 0, .int .i64 0, .int .i64 0, .int .i64 0, .int .i64 0, .int .i64 0, .int .i64 0, .int .i64 0, .int .i64 0, .int .i64 0]∧Pure w wr) (fun i _=>es.length-(intOf i).toNat)
  case atStart=>exact ⟨0,Nat.zero_le _,rfl,hf0,g1,k1⟩
  clear hf0 g0 g1 k1 r0 r1 k0 r00 r01 hp1
  case round =>
    obtain ⟨k,hk,rfl,hf,hr1,hp⟩:=hrel
    have sM:=hf.lt
    by_cases hlt:k<es.length
    · obtain ⟨b,off,rfl,hb,hc⟩:=HD.out (by omega)
      obtain ⟨c0,c1,c2⟩:=hc k hlt
      clear hc
      replace c0:=hp.cell id c0
      replace c1:=hp.cell id c1
      replace c2:=hp.cell id c2
      obtain ⟨x1,x2,x3,x4⟩:=HE.out _ (ge_mem hlt)
      obtain ⟨u,hu⟩:∃ u:Nat,(ge es k).1=(u:Int):=⟨(ge es k).1.toNat,by omega⟩
      obtain ⟨v,hv⟩:∃ v:Nat,(ge es k).2.1=(v:Int):=⟨(ge es k).2.1.toNat,by omega⟩
      have hbw:b<wr.heap.size:=Nat.lt_of_lt_of_le hb hp.size
      have hT:Hid (yaA (es.take (k+1))=ycV (yaA (es.take k)) u v):=by rw [Hid,joinedF_take es hlt,hu,hv];rfl
      rw [hu] at c0 x1 x2
      rw [hv] at c1 x3 x4
      clear hu hv
      go_wp2_with fail
      refine (join_any w1.heap.size (yaA (es.take k)) u v _ (Row.alloc hf _) (ycb _ (HE.out.take k)) (by omega) (by omega)).mono ?_
      rintro e w2 ⟨rfl,hf2,hp2⟩
      go_wp2
      go_roundw
      case rel=>exact ⟨k+1,by omega,by go_num,by rw [hT.out];exact hf2,hp2.row (Row.alloc hr1 _) (by omega),(Keeps.alloc hp _).then hp2 (fun j hj e=>by omega)⟩
      case measure=>simp [intOf];omega
    · obtain rfl:k=es.length:=by omega
      rw [List.take_length] at hf
      have hL:=(ycb es HE.out).1
      have hfull:=NRow.full (xs:=yaA es) (by rw [hL];exact hf)
      have hold:=Row.full (xs:=[.int .i64 0, .int .i64 0, .int .i64 0, .int .i64 0, .int .i64 0, .int .i64 0, .int .i64 0, .int .i64 0, .int .i64 0, .int .i64 0, .int .i64 0, .int .i64 0]) hr1
      have hinfo:(Tryz.prog.info? 184).map (·.size)=some (yeC (yaA es)).toArray.size:=by
        rw [List.size_toArray,yfb,hL];exact forest_info
      have HFU:=Lib.hid hfull
      have HOL:=Lib.hid hold
      have HIN:=Lib.hid hinfo
      clear hfull hold hinfo hL
      go_wp2_with (first
        | (refine wpList_load_row rfl 184 (.tmp 3) rfl w1.heap.size rfl 184 (yeC (yaA es)).toArray (0,0) _ HFU.out underlying184 rfl HIN.out ?_)
        | (refine yiA rfl 184 (.tmp 2) (.tmp 20) rfl (w.heap.size+1) rfl (yeC (yaA es)).toArray rfl 184 _ HOL.out (by rw [List.size_toArray,List.size_toArray,yfb,(ycb es HE.out).1];rfl) HIN.out (nvals_one _) ?_))
      refine bodyPost_ret (results_cell_row rfl _ _ (w.heap.size+1) 184 (yeC (yaA es)).toArray (0,0) _ rfl (setRow_heap _ _ _ _ _ _ HOL.out) underlying184 rfl HIN.out) rfl ⟨rfl,(by repeat (first | exact Keeps.refl _ _ | assumption | refine Keeps.drew ?_ | refine Keeps.drewN ?_ _ | refine Keeps.alloc ?_ _ | refine Keeps.setRow ?_ (by simp) _ | refine Keeps.setRow ?_ (by simp;omega) _ | refine Keeps.setCell ?_ (by simp) _ | refine Keeps.setCell ?_ (by simp;omega) _))⟩
end Go.Proofs.YtadpnlimiblniaaGreat
