/- Texts laid together: Sc, Rep, Bfs, Dist, Fire2, Settle, Lend, Sum, Result, Math, GoodL, GoodS, GoodT, Connect, Parts, Conn2, Con, Red, Reduce, Unb, Awake, Rm, RedIn. -/
import Derived.Maps.Own
import Derived.Maps.OwnOps
import Derived.Deep.AppendLies
import Derived.Deep.RegionLaw
import Derived.Deep.RegionHeld3
import Derived.Test.YtadpnlimiblniaaGreatK2
set_option linter.unusedVariables false
set_option linter.unusedSimpArgs false
set_option linter.unusedSectionVars false
namespace Go.Proofs.YtadpnlimiblniaaGreat
open Go Go.RowKit Go.Shelf Go.Proofs.Tryz
set_option maxRecDepth 100000
set_option maxHeartbeats 8000000
def yd2(Ax:Option Addr)(lx:Nat)(cx:Nat)(count:Int)(w:World)(R:Option Addr→Nat→Nat→World→Prop):Prop :=
(∃ J2:World→Prop,(∀ (w2:World),J2 w2→(InK .u64 ((lx:Nat):Int) ∧
(InK .u64 count ∧
(Calls Tryz.prog 199 #[(Value.int .u64 ((lx:Nat):Int)),(Value.int .u64 count)] w2 fun e w3=>∃ r:Int,∃ r2:Int,e = .returned (Value.tuple #[(Value.int .u64 r),(Value.int .u64 r2)]) ∧
(∃ J3:World→Prop,(∀ (w4:World),J3 w4→(In64 r2 ∧
((0≤r2∧r2≤1000000) ∧
∀ (g:Nat) (w5:World),New w4 g w5 (Array.replicate r2.toNat (Value.int .i64 0)) 3 →
(∃ (bl o:Nat) (ad:Addr) (nw:List Value),((some ⟨g,0,none⟩):Option Addr)=some ⟨bl,o,none⟩∧Ax=some ad∧nw.length=min lx r2.toNat∧(∀ j u,nw[j]? = some u→w5.cell? (ad.add j)=some u)∧(∀ u∈nw,u.oneCell'=true)∧w5.there bl o nw.length ∧
∀ w6,w6=w5.setCells bl o nw →
(∃ I2:Nat→Int→World→Prop,(∃ m0,I2 m0 ((min lx r2.toNat:Nat):Int) w6)∧∀ m1 n w7,I2 m1 n w7 → 
((n<((r2.toNat:Nat):Int) →
((0≤n∧n≤((r2.toNat:Nat):Int)) ∧
((0≤n∧n≤((r2.toNat:Nat):Int)) ∧
(∃ (bl2 o2:Nat) (ad2:Addr) (nw2:List Value),((slA (some ⟨g,0,none⟩) r2.toNat n.toNat 1):Option Addr)=some ⟨bl2,o2,none⟩∧(some ⟨g,0,none⟩)=some ad2∧nw2.length=min (n.toNat) (r2.toNat-n.toNat)∧(∀ j u,nw2[j]? = some u→w7.drew.cell? (ad2.add j)=some u)∧(∀ u∈nw2,u.oneCell'=true)∧w7.drew.there bl2 o2 nw2.length ∧
∀ w8,w8=w7.drew.setCells bl2 o2 nw2 →
(In64 (n+((min (n.toNat) (r2.toNat-n.toNat):Nat):Int)) ∧
∃ m2,m2<m1∧I2 m2 (n+((min (n.toNat) (r2.toNat-n.toNat):Nat):Int)) w8))))) ∧
(¬(n<((r2.toNat:Nat):Int)) →
R (some ⟨g,0,none⟩) r2.toNat r2.toNat w7))))))) ∧
((0<r →
False) ∧
(¬(0<r) →
((9223372036854775807<r2 →
False) ∧
(¬(9223372036854775807<r2) →
J3 w3))))))))) ∧
((count<0 →
False) ∧
(¬(count<0) →
J2 w)))
theorem yh9(Ax:Option Addr)(lx:Nat)(cx:Nat)(count:Int)(w:World)(R:Option Addr→Nat→Nat→World→Prop)(h:yd2 Ax lx cx count w R) :
    Calls Tryz.prog 191 #[.slice Ax lx cx,ii count] w fun e w'=>∃ Ar lr cr,e = .returned (.slice Ar lr cr)∧R Ar lr cr w':=by
  unfold yd2 at h;refine yap (l:=[.slice Ax lx cx,ii count]) func191 rfl ntmps191 zY (zs (zQ (.slice none 0 0) (yaa (yaf (zs (zM (ii count) (zq zL (yaa ?_))))))));obtain ⟨J2,hJ,h⟩:=h;refine yi2 (fun E ds w'=>J2 w'∧ds=[]∧E 0 = .slice Ax lx cx∧E 1=(ii count)) ?_ ?_
  · rintro E ds w2 ⟨h,rfl,H0,H1⟩;replace h:=hJ w2 h;refine zs (zH H0 (zq (yiB rfl underlying29) ?_));obtain ⟨hi,h⟩:=h;refine zq (v_convk rfl underlying3 underlying201 hi) (zH H1 ?_);obtain ⟨hi2,h⟩:=h;refine zq (v_convk rfl underlying3 underlying201 hi2) (zn (yam rfl (am2 rfl rfl) enter_199 (h.mono ?_)));rintro _ w3 ⟨r,r2,rfl,h⟩;refine ⟨_,rfl,Stb.none _,?_⟩;refine zM (.tuple #[(.int .u64 r),(.int .u64 r2)]) (zq (zx (.int .u64 r)) (zq (zx (.int .u64 r2)) (zQ (.int .u64 r) (zQ (.int .u64 r2) (yaa (yaf (yaf ?_)))))));obtain ⟨J3,hJ,h⟩:=h;refine yc1 (fun E ds w'=>J3 w'∧ds=[]∧E 0 = .slice Ax lx cx∧E 6=(Value.int .u64 r2)) ?_ ?_
    · rintro E ds w4 ⟨h,rfl,H0,H6⟩;replace h:=hJ w4 h;refine zs (zH H6 ?_);obtain ⟨hi3,h⟩:=h;refine zq (v_conv rfl underlying201 underlying3 hi3) ?_;obtain ⟨hn,h⟩:=h;refine zn (ykw rfl rfl underlying29 yaj (by decide) rfl hn ?_);intro g w5 hN;replace h:=h g w5 hN;clear hN;refine zb (zQ (.slice (some ⟨g,0,none⟩) r2.toNat r2.toNat) (yaa (zs (zM (.slice (some ⟨g,0,none⟩) r2.toNat r2.toNat) (zH H0 ?_)))));obtain ⟨bl,o,ad,nw,q1,q2,q3,q4,q5,q6,h⟩:=h;refine zn (n_copy rfl rfl underlying29 yaj ⟨bl,o,ad,nw,q1,q2,q3,q4,q5,q6,?_⟩);intro w6 ew;replace h:=h w6 ew;clear ew q1 q2 q3 q4 q5 q6;refine zb (zQ (ii ((min lx r2.toNat:Nat):Int)) (yaa (yaf (yai ?_))));obtain ⟨I2,⟨m0,h0⟩,hr⟩:=h;refine yaz (fun m E ds w'=>∃ n,I2 m n w'∧ds=[]∧E 7 = .slice (some ⟨g,0,none⟩) r2.toNat r2.toNat∧E 8=(ii n)) m0 ⟨_,h0,rfl,rfl,rfl⟩ ?_;clear h0;rintro m1 E ds w7 ⟨n,h,rfl,H7,H8⟩ ag;replace h:=hr m1 n w7 h;clear hr;refine yaf (zs (zH H8 (zH H7 (zq (yiB rfl underlying29) (zq zL (yaa ?_))))));by_cases hp:n<((r2.toNat:Nat):Int)
      · replace h:=h.1 hp;refine zc hp (yag (yai (yaT [0,1,2,3,4,5,6,7,8,9] (fun i=>match i with | 7=>[0] | _=>[]) yaD (by kernel_rfl) (by kernel_rfl) ?_)));refine zp (yad H8) (zp (yad H7) (zp (yad H8) ?_));obtain ⟨hs,h⟩:=h;refine zp (v_slice_l rfl rfl underlying29 yaj hs) (zp (yad H7) (zp (yad H8) ?_));obtain ⟨hs2,h⟩:=h;refine zp (ykR rfl rfl underlying29 yaj hs2) ?_;obtain ⟨bl2,o2,ad2,nw2,q1,q2,q3,q4,q5,q6,h⟩:=h;refine rp_n rfl rfl rfl rfl (n_copy rfl rfl underlying29 yaj ⟨bl2,o2,ad2,nw2,q1,q2,q3,q4,q5,q6,?_⟩);intro w8 ew2;replace h:=h w8 ew2;clear ew2 q1 q2 q3 q4 q5 q6;refine ⟨⟨fun hh=>zZ hh,⟨fun hh=>zZ hh,⟨fun hh=>zZ hh,⟨fun hh=>zZ hh,⟨fun hh=>zZ hh,⟨fun hh=>zZ hh,⟨fun _=>(yad H8),trivial⟩⟩⟩⟩⟩⟩⟩,?_⟩;obtain ⟨hi4,h⟩:=h;refine zp (zA hi4) (zp (za (ii (n+((min (n.toNat) (r2.toNat-n.toNat):Nat):Int)))) (yaZ (yah ?_)));obtain ⟨mq,hlt,h⟩:=h;exact ag mq _ _ _ ⟨_,h,rfl,H7,rfl⟩ hlt
      · replace h:=h.2 hp;exact zd hp (yax rfl (zs (zH H7 (zQ (.slice (some ⟨g,0,none⟩) r2.toNat r2.toNat) (yaa (yak rfl rfl ⟨_,_,_,rfl,h⟩))))))
    clear hJ;intro j2;refine zr (zM (.int .u64 r) (zq zG (zM (.bool (decide (0<r))) ?_)));by_cases hp2:0<r
    · replace h:=h.1 hp2;exact zV rfl rfl (zT hp2) (zV rfl rfl (zT hp2) (zq (yas (v:=(.bool (true))) (zT hp2) rfl) (yaa (yar rfl (zr h.elim)))))
    · replace h:=h.2 hp2;refine zW rfl rfl (zF hp2) (zm (.int .u64 r2)) (zW rfl rfl (zF hp2) zG (zq (yal (v:=(.bool (decide (9223372036854775807<r2)))) (zF hp2) rfl) (yaa ?_)));by_cases hp3:9223372036854775807<r2
      · replace h:=h.1 hp3;exact zc hp3 (zr h.elim)
      · replace h:=h.2 hp3;exact zd hp3 (yag (j2 _ _ _ ⟨h,rfl,H0,rfl⟩))
  clear hJ;intro j;by_cases hp4:count<0
  · replace h:=h.1 hp4;exact zc hp4 (zr h.elim)
  · replace h:=h.2 hp4;exact zd hp4 (yag (j _ _ _ ⟨h,rfl,rfl,rfl⟩))
def yeq(x:Int)(y:Int)(w:World)(R:Int→Int→World→Prop):Prop :=
(Calls Tryz.prog 203 #[(Value.int .u64 x),(Value.int .u64 y)] w fun e w2=>∃ r3:Int,∃ r4:Int,e = .returned (Value.tuple #[(Value.int .u64 r3),(Value.int .u64 r4)]) ∧
R r3 r4 w2)
theorem yiG(x:Int)(y:Int)(w:World)(R:Int→Int→World→Prop)(h:yeq x y w R) :
    Calls Tryz.prog 199 #[(.int .u64 x),(.int .u64 y)] w fun e w'=>∃ r r2,e = .returned (.tuple #[(.int .u64 r),(.int .u64 r2)])∧R r r2 w':=by
  unfold yeq at h;refine yap (l:=[(.int .u64 x),(.int .u64 y)]) func199 rfl ntmps199 zY (zs (zQ (.int .u64 0) (zQ (.int .u64 0) (yaa (yaf (yat rfl (yag (zs (zM (.int .u64 x) (zM (.int .u64 y) (zn (yam rfl (am2 rfl rfl) enter_203 (h.mono ?_)))))))))))));rintro _ w2 ⟨r3,r4,rfl,h⟩;refine ⟨_,rfl,Stb.none _,?_⟩;exact zM (.tuple #[(.int .u64 r3),(.int .u64 r4)]) (zq (zx (.int .u64 r3)) (zq (zx (.int .u64 r4)) (zQ (.int .u64 r3) (zQ (.int .u64 r4) (yaa (zs (zM (.int .u64 r3) (zM (.int .u64 r4) (zQ (.int .u64 r3) (zQ (.int .u64 r4) (yaa (yaG rfl rfl rfl ⟨_,_,rfl,h⟩))))))))))))
def ydN(x:Int)(y:Int)(w:World)(R:Int→Int→World→Prop):Prop :=
((0≤x∧x<18446744073709551616∧0≤(4294967295:Int)∧(4294967295:Int)<18446744073709551616) ∧
((0≤(32:Int)∧(32:Int)<64) ∧
((0≤y∧y<18446744073709551616∧0≤(4294967295:Int)∧(4294967295:Int)<18446744073709551616) ∧
((0≤(32:Int)∧(32:Int)<64) ∧
(InK .u64 (((x.toNat &&& (4294967295:Int).toNat:Nat):Int)*((y.toNat &&& (4294967295:Int).toNat:Nat):Int)) ∧
(InK .u64 ((x / 2^(32:Int).toNat)*((y.toNat &&& (4294967295:Int).toNat:Nat):Int)) ∧
((0≤(32:Int)∧(32:Int)<64) ∧
(InK .u64 (((x / 2^(32:Int).toNat)*((y.toNat &&& (4294967295:Int).toNat:Nat):Int))+((((x.toNat &&& (4294967295:Int).toNat:Nat):Int)*((y.toNat &&& (4294967295:Int).toNat:Nat):Int)) / 2^(32:Int).toNat)) ∧
((0≤(((x / 2^(32:Int).toNat)*((y.toNat &&& (4294967295:Int).toNat:Nat):Int))+((((x.toNat &&& (4294967295:Int).toNat:Nat):Int)*((y.toNat &&& (4294967295:Int).toNat:Nat):Int)) / 2^(32:Int).toNat))∧(((x / 2^(32:Int).toNat)*((y.toNat &&& (4294967295:Int).toNat:Nat):Int))+((((x.toNat &&& (4294967295:Int).toNat:Nat):Int)*((y.toNat &&& (4294967295:Int).toNat:Nat):Int)) / 2^(32:Int).toNat))<18446744073709551616∧0≤(4294967295:Int)∧(4294967295:Int)<18446744073709551616) ∧
((0≤(32:Int)∧(32:Int)<64) ∧
(InK .u64 (((x.toNat &&& (4294967295:Int).toNat:Nat):Int)*(y / 2^(32:Int).toNat)) ∧
(InK .u64 ((((((x / 2^(32:Int).toNat)*((y.toNat &&& (4294967295:Int).toNat:Nat):Int))+((((x.toNat &&& (4294967295:Int).toNat:Nat):Int)*((y.toNat &&& (4294967295:Int).toNat:Nat):Int)) / 2^(32:Int).toNat)).toNat &&& (4294967295:Int).toNat:Nat):Int)+(((x.toNat &&& (4294967295:Int).toNat:Nat):Int)*(y / 2^(32:Int).toNat))) ∧
(InK .u64 ((x / 2^(32:Int).toNat)*(y / 2^(32:Int).toNat)) ∧
(InK .u64 (((x / 2^(32:Int).toNat)*(y / 2^(32:Int).toNat))+((((x / 2^(32:Int).toNat)*((y.toNat &&& (4294967295:Int).toNat:Nat):Int))+((((x.toNat &&& (4294967295:Int).toNat:Nat):Int)*((y.toNat &&& (4294967295:Int).toNat:Nat):Int)) / 2^(32:Int).toNat)) / 2^(32:Int).toNat)) ∧
((0≤(32:Int)∧(32:Int)<64) ∧
(InK .u64 ((((x / 2^(32:Int).toNat)*(y / 2^(32:Int).toNat))+((((x / 2^(32:Int).toNat)*((y.toNat &&& (4294967295:Int).toNat:Nat):Int))+((((x.toNat &&& (4294967295:Int).toNat:Nat):Int)*((y.toNat &&& (4294967295:Int).toNat:Nat):Int)) / 2^(32:Int).toNat)) / 2^(32:Int).toNat))+(((((((x / 2^(32:Int).toNat)*((y.toNat &&& (4294967295:Int).toNat:Nat):Int))+((((x.toNat &&& (4294967295:Int).toNat:Nat):Int)*((y.toNat &&& (4294967295:Int).toNat:Nat):Int)) / 2^(32:Int).toNat)).toNat &&& (4294967295:Int).toNat:Nat):Int)+(((x.toNat &&& (4294967295:Int).toNat:Nat):Int)*(y / 2^(32:Int).toNat))) / 2^(32:Int).toNat)) ∧
(InK .u64 (x*y) ∧
R ((((x / 2^(32:Int).toNat)*(y / 2^(32:Int).toNat))+((((x / 2^(32:Int).toNat)*((y.toNat &&& (4294967295:Int).toNat:Nat):Int))+((((x.toNat &&& (4294967295:Int).toNat:Nat):Int)*((y.toNat &&& (4294967295:Int).toNat:Nat):Int)) / 2^(32:Int).toNat)) / 2^(32:Int).toNat))+(((((((x / 2^(32:Int).toNat)*((y.toNat &&& (4294967295:Int).toNat:Nat):Int))+((((x.toNat &&& (4294967295:Int).toNat:Nat):Int)*((y.toNat &&& (4294967295:Int).toNat:Nat):Int)) / 2^(32:Int).toNat)).toNat &&& (4294967295:Int).toNat:Nat):Int)+(((x.toNat &&& (4294967295:Int).toNat:Nat):Int)*(y / 2^(32:Int).toNat))) / 2^(32:Int).toNat)) (x*y) w)))))))))))))))))
theorem yhL(x:Int)(y:Int)(w:World)(R:Int→Int→World→Prop)(h:ydN x y w R) :
    Calls Tryz.prog 203 #[(.int .u64 x),(.int .u64 y)] w fun e w'=>∃ r r2,e = .returned (.tuple #[(.int .u64 r),(.int .u64 r2)])∧R r r2 w':=by
  unfold ydN at h;refine yap (l:=[(.int .u64 x),(.int .u64 y)]) func203 rfl ntmps203 zY (zs (zQ (.int .u64 0) (zQ (.int .u64 0) (yaa (zs (zM (.int .u64 x) ?_))))));obtain ⟨hz,h⟩:=h;refine zq (v_andu rfl rfl hz) (zQ (.int .u64 ((x.toNat &&& (4294967295:Int).toNat:Nat):Int)) (yaa (zs (zM (.int .u64 x) ?_))));obtain ⟨hz2,h⟩:=h;refine zq (v_shru rfl rfl hz2) (zQ (.int .u64 (x / 2^(32:Int).toNat)) (yaa (zs (zM (.int .u64 y) ?_))));obtain ⟨hz3,h⟩:=h;refine zq (v_andu rfl rfl hz3) (zQ (.int .u64 ((y.toNat &&& (4294967295:Int).toNat:Nat):Int)) (yaa (zs (zM (.int .u64 y) ?_))));obtain ⟨hz4,h⟩:=h;refine zq (v_shru rfl rfl hz4) (zQ (.int .u64 (y / 2^(32:Int).toNat)) (yaa (zs (zM (.int .u64 ((x.toNat &&& (4294967295:Int).toNat:Nat):Int)) (zM (.int .u64 ((y.toNat &&& (4294967295:Int).toNat:Nat):Int)) ?_)))));obtain ⟨hi,h⟩:=h;refine zq (v_mulk rfl rfl hi) (zQ (.int .u64 (((x.toNat &&& (4294967295:Int).toNat:Nat):Int)*((y.toNat &&& (4294967295:Int).toNat:Nat):Int))) (yaa (zs (zM (.int .u64 (x / 2^(32:Int).toNat)) (zM (.int .u64 ((y.toNat &&& (4294967295:Int).toNat:Nat):Int)) ?_)))));obtain ⟨hi2,h⟩:=h;refine zq (v_mulk rfl rfl hi2) (zM (.int .u64 (((x.toNat &&& (4294967295:Int).toNat:Nat):Int)*((y.toNat &&& (4294967295:Int).toNat:Nat):Int))) ?_);obtain ⟨hz5,h⟩:=h;refine zq (v_shru rfl rfl hz5) ?_;obtain ⟨hi3,h⟩:=h;refine zq (v_addk rfl rfl hi3) (zQ (.int .u64 (((x / 2^(32:Int).toNat)*((y.toNat &&& (4294967295:Int).toNat:Nat):Int))+((((x.toNat &&& (4294967295:Int).toNat:Nat):Int)*((y.toNat &&& (4294967295:Int).toNat:Nat):Int)) / 2^(32:Int).toNat))) (yaa (zs (zM (.int .u64 (((x / 2^(32:Int).toNat)*((y.toNat &&& (4294967295:Int).toNat:Nat):Int))+((((x.toNat &&& (4294967295:Int).toNat:Nat):Int)*((y.toNat &&& (4294967295:Int).toNat:Nat):Int)) / 2^(32:Int).toNat))) ?_))));obtain ⟨hz6,h⟩:=h;refine zq (v_andu rfl rfl hz6) (zQ (.int .u64 (((((x / 2^(32:Int).toNat)*((y.toNat &&& (4294967295:Int).toNat:Nat):Int))+((((x.toNat &&& (4294967295:Int).toNat:Nat):Int)*((y.toNat &&& (4294967295:Int).toNat:Nat):Int)) / 2^(32:Int).toNat)).toNat &&& (4294967295:Int).toNat:Nat):Int)) (yaa (zs (zM (.int .u64 (((x / 2^(32:Int).toNat)*((y.toNat &&& (4294967295:Int).toNat:Nat):Int))+((((x.toNat &&& (4294967295:Int).toNat:Nat):Int)*((y.toNat &&& (4294967295:Int).toNat:Nat):Int)) / 2^(32:Int).toNat))) ?_))));obtain ⟨hz7,h⟩:=h;refine zq (v_shru rfl rfl hz7) (zQ (.int .u64 ((((x / 2^(32:Int).toNat)*((y.toNat &&& (4294967295:Int).toNat:Nat):Int))+((((x.toNat &&& (4294967295:Int).toNat:Nat):Int)*((y.toNat &&& (4294967295:Int).toNat:Nat):Int)) / 2^(32:Int).toNat)) / 2^(32:Int).toNat)) (yaa (zs (zM (.int .u64 (((((x / 2^(32:Int).toNat)*((y.toNat &&& (4294967295:Int).toNat:Nat):Int))+((((x.toNat &&& (4294967295:Int).toNat:Nat):Int)*((y.toNat &&& (4294967295:Int).toNat:Nat):Int)) / 2^(32:Int).toNat)).toNat &&& (4294967295:Int).toNat:Nat):Int)) (zM (.int .u64 ((x.toNat &&& (4294967295:Int).toNat:Nat):Int)) (zM (.int .u64 (y / 2^(32:Int).toNat)) ?_))))));obtain ⟨hi4,h⟩:=h;refine zq (v_mulk rfl rfl hi4) ?_;obtain ⟨hi5,h⟩:=h;refine zq (v_addk rfl rfl hi5) (zQ (.int .u64 ((((((x / 2^(32:Int).toNat)*((y.toNat &&& (4294967295:Int).toNat:Nat):Int))+((((x.toNat &&& (4294967295:Int).toNat:Nat):Int)*((y.toNat &&& (4294967295:Int).toNat:Nat):Int)) / 2^(32:Int).toNat)).toNat &&& (4294967295:Int).toNat:Nat):Int)+(((x.toNat &&& (4294967295:Int).toNat:Nat):Int)*(y / 2^(32:Int).toNat)))) (yaa (zs (zM (.int .u64 (x / 2^(32:Int).toNat)) (zM (.int .u64 (y / 2^(32:Int).toNat)) ?_)))));obtain ⟨hi6,h⟩:=h;refine zq (v_mulk rfl rfl hi6) (zM (.int .u64 ((((x / 2^(32:Int).toNat)*((y.toNat &&& (4294967295:Int).toNat:Nat):Int))+((((x.toNat &&& (4294967295:Int).toNat:Nat):Int)*((y.toNat &&& (4294967295:Int).toNat:Nat):Int)) / 2^(32:Int).toNat)) / 2^(32:Int).toNat)) ?_);obtain ⟨hi7,h⟩:=h;refine zq (v_addk rfl rfl hi7) (zM (.int .u64 ((((((x / 2^(32:Int).toNat)*((y.toNat &&& (4294967295:Int).toNat:Nat):Int))+((((x.toNat &&& (4294967295:Int).toNat:Nat):Int)*((y.toNat &&& (4294967295:Int).toNat:Nat):Int)) / 2^(32:Int).toNat)).toNat &&& (4294967295:Int).toNat:Nat):Int)+(((x.toNat &&& (4294967295:Int).toNat:Nat):Int)*(y / 2^(32:Int).toNat)))) ?_);obtain ⟨hz8,h⟩:=h;refine zq (v_shru rfl rfl hz8) ?_;obtain ⟨hi8,h⟩:=h;refine zq (v_addk rfl rfl hi8) (zQ (.int .u64 ((((x / 2^(32:Int).toNat)*(y / 2^(32:Int).toNat))+((((x / 2^(32:Int).toNat)*((y.toNat &&& (4294967295:Int).toNat:Nat):Int))+((((x.toNat &&& (4294967295:Int).toNat:Nat):Int)*((y.toNat &&& (4294967295:Int).toNat:Nat):Int)) / 2^(32:Int).toNat)) / 2^(32:Int).toNat))+(((((((x / 2^(32:Int).toNat)*((y.toNat &&& (4294967295:Int).toNat:Nat):Int))+((((x.toNat &&& (4294967295:Int).toNat:Nat):Int)*((y.toNat &&& (4294967295:Int).toNat:Nat):Int)) / 2^(32:Int).toNat)).toNat &&& (4294967295:Int).toNat:Nat):Int)+(((x.toNat &&& (4294967295:Int).toNat:Nat):Int)*(y / 2^(32:Int).toNat))) / 2^(32:Int).toNat))) (yaa (zs (zM (.int .u64 x) (zM (.int .u64 y) ?_)))));obtain ⟨hi9,h⟩:=h;exact zq (v_mulk rfl rfl hi9) (zQ (.int .u64 (x*y)) (yaa (yaG rfl rfl rfl ⟨_,_,rfl,h⟩)))
end Go.Proofs.YtadpnlimiblniaaGreat

namespace Go.Proofs.YtadpnlimiblniaaGreat
open Go Go.RowKit Go.Shelf Go.Proofs.Tryz
set_option maxRecDepth 100000
set_option maxHeartbeats 8000000
theorem inU64{a:Int}(h0:0≤a)(h1:a<18446744073709551616):InK .u64 a:=by
  unfold InK IntKind.wrap
  simp [IntKind.bits,IntKind.signed]
  omega
theorem and32{x:Int}(h0:0≤x)(h1:x≤65535):((x.toNat &&& (4294967295:Int).toNat:Nat):Int)=x:=by
  have:(4294967295:Int).toNat=2^32-1:=rfl
  rw [this,Nat.and_two_pow_sub_one_eq_mod]
  omega
theorem mul64_any(x y:Int)(w:World)(hx:0≤x∧x≤65535)(hy:0≤y∧y≤65535) :
    Calls Tryz.prog 203 #[.int .u64 x, .int .u64 y] w fun e w'=>∃ r r2:Int,e = .returned (.tuple #[.int .u64 r, .int .u64 r2])∧r=0∧r2=x*y∧w=w':=by
  refine yhL x y w (fun r r2 w'=>r=0∧r2=x*y∧w=w') ?_
  unfold ydN
  have e1:=and32 hx.1 hx.2
  have e2:=and32 hy.1 hy.2
  have hxy0:0≤x*y:=Int.mul_nonneg hx.1 hy.1
  have hxy1:x*y≤65535*65535:=Int.mul_le_mul hx.2 hy.2 hy.1 (by omega)
  have p32:(2:Int)^(32:Int).toNat=4294967296:=rfl
  have e3:x / 4294967296=0:=by omega
  have e4:y / 4294967296=0:=by omega
  have e5:x*y / 4294967296=0:=by omega
  have e6:=and32 (x:=0) (by omega) (by omega)
  simp only [e1,e2,p32,e3,e4,e5,Int.zero_mul,Int.mul_zero,Int.add_zero,Int.zero_add,e6]
  have z:InK .u64 0:=inU64 (by omega) (by omega)
  have zz:(0:Int) / 4294967296=0:=by omega
  simp only [zz,Int.add_zero,Int.zero_add]
  refine ⟨by omega,by omega,by omega,by omega,inU64 (by omega) (by omega),z,by omega,z,by omega,by omega,z,z,z,z,by omega,z,inU64 (by omega) (by omega),trivial,trivial,trivial⟩
theorem mul_any(x y:Int)(w:World)(hx:0≤x∧x≤65535)(hy:0≤y∧y≤65535) :
    Calls Tryz.prog 199 #[.int .u64 x, .int .u64 y] w fun e w'=>∃ r r2:Int,e = .returned (.tuple #[.int .u64 r, .int .u64 r2])∧r=0∧r2=x*y∧w=w':=by
  refine yiG x y w (fun r r2 w'=>r=0∧r2=x*y∧w=w') ?_
  unfold yeq
  refine (mul64_any x y w hx hy).mono ?_
  rintro _ w2 ⟨r,r2,rfl,h1,h2,h3⟩
  exact ⟨_,_,rfl,h1,h2,h3⟩
theorem setL_rep(v:Int):∀ (j k m:Nat),j≤m→setL ((List.replicate k v++List.replicate m 0).map (Value.int .i64)) k (List.replicate j (Value.int .i64 v))=(List.replicate (k+j) v++List.replicate (m-j) 0).map (Value.int .i64)
  | 0,k,m,_=>by simp [setL]
  | j+1,k,m,h=>by
    obtain ⟨m,rfl⟩:∃ m',m=m'+1:=⟨m-1,by omega⟩
    rw [show List.replicate (j+1) (Value.int .i64 v)=Value.int .i64 v::List.replicate j (Value.int .i64 v) from rfl]
    show setL (((List.replicate k v++List.replicate (m+1) 0).map (Value.int .i64)).set k (Value.int .i64 v)) (k+1) (List.replicate j (Value.int .i64 v))=_
    have h1:((List.replicate k v++List.replicate (m+1) 0).map (Value.int .i64)).set k (Value.int .i64 v)=(List.replicate (k+1) v++List.replicate m 0).map (Value.int .i64):=by
      rw [←List.map_set]
      congr 1
      rw [List.set_append_right _ _ (by simp)]
      rw [List.length_replicate,Nat.sub_self,List.replicate_succ,List.set_cons_zero,List.replicate_succ' (n:=k),List.append_assoc]
      rfl
    rw [h1,setL_rep v j (k+1) m (by omega)]
    congr 3 <;> omega
def RepPost(v:Int)(n:Nat)(w:World)(A:Option Addr)(l c:Nat)(w':World):Prop :=
  ∃ g,A=some ⟨g,0,none⟩∧l=n∧c=n∧w.heap.size≤g∧IRow w' g 3 n (List.replicate n v)∧Pure w w'
theorem repeat_any(A:Option Addr)(v:Int)(c n:Nat)(w:World)(hA:Ints w A [v])(hn:1≤n)(hn2:n≤1000) :
    Calls Tryz.prog 191 #[.slice A 1 c, .int .i64 (n:Int)] w fun e w'=>∃ A' l' c',e = .returned (.slice A' l' c')∧RepPost v n w A' l' c' w':=by
  refine yh9 A 1 c n w (RepPost v n w) ?_
  unfold yd2
  refine ⟨fun w'=>w'=w,?_,fun h=>absurd h (by omega),fun _=>rfl⟩
  intro w2 hw2
  have hw2:=hw2.symm
  subst hw2
  refine ⟨inU64 (by omega) (by omega),inU64 (by omega) (by omega),(mul_any _ _ _ (by omega) (by omega)).mono ?_⟩
  rintro _ w3 ⟨r,r2,rfl,rfl,rfl,rfl⟩
  refine ⟨_,_,rfl,fun w'=>w'=w,?_,fun h=>absurd h (by omega),fun _=>⟨fun h=>absurd h (by omega),fun _=>rfl⟩⟩
  intro w4 hw4
  have hw4:=hw4.symm
  subst hw4
  obtain ⟨b,off,rfl,hb,hc⟩:=hA (by simp)
  have e1:((1:Nat):Int)*(n:Int)=(n:Int):=by omega
  rw [e1]
  simp only [Int.toNat_natCast]
  refine ⟨in64 (by omega),by omega,fun g w5 hN=>?_⟩
  have ag:=hN.at_
  have hr5:IRow w5 g 3 n (List.replicate n 0):=by
    have:=hN.row
    simpa [IRow] using this
  have hr5':Row w5 g 3 n ((List.replicate 0 v++List.replicate n 0).map (Value.int .i64)):=by simpa [IRow] using hr5
  have hcv:=(hN.keeps (fun _=>False)).cell (p:=⟨b,off,none⟩) id (hc 0 (by simp))
  refine ⟨g,0,⟨b,off,none⟩,[.int .i64 v],rfl,rfl,by simp;omega,?_,by simp [Value.oneCell'],yaI hr5' (by simp;omega),fun w6 e6=>?_⟩
  · intro j u hj
    cases j with
    | zero=>simp only [List.getElem?_cons_zero,Option.some.injEq] at hj;subst hj;exact hcv
    | succ j=>simp at hj
  have hr6:IRow w6 g 3 n (List.replicate 1 v++List.replicate (n-1) 0):=by
    rw [e6]
    have:=yiS [.int .i64 v] 0 hr5'
    rw [show [Value.int .i64 v]=List.replicate 1 (Value.int .i64 v) from rfl,setL_rep v 1 0 n (by omega)] at this
    exact this
  have hp6:Pure w w6:=by
    rw [e6]
    exact (hN.keeps _).setCell (fun h=>absurd h (by simp;omega)) _
  refine ⟨fun m i w7=>∃ k:Nat,m=n-k∧1≤k∧k≤n∧i=(k:Int)∧IRow w7 g 3 n (List.replicate k v++List.replicate (n-k) 0)∧Pure w w7,⟨n-1,1,rfl,by omega,by omega,by omega,hr6,hp6⟩,?_⟩
  clear hr6 hp6
  rintro m i w7 ⟨k,rfl,hk1,hk2,rfl,hr,hp⟩
  simp only [Int.toNat_natCast]
  refine ⟨fun hlt=>?_,fun hge=>?_⟩
  · have hs:slA (some ⟨g,0,none⟩) n k 1=some ⟨g,k,none⟩:=by
      unfold slA
      rw [if_neg (by omega)]
      simp [Addr.add_mid]
    have hrd:Row w7.drew g 3 n ((List.replicate k v++List.replicate (n-k) 0).map (Value.int .i64)):=Row.drew hr
    refine ⟨by omega,by omega,g,k,⟨g,0,none⟩,List.replicate (min k (n-k)) (.int .i64 v),hs,rfl,by simp,?_,?_,yaI hrd (by simp;omega),fun w8 e8=>?_⟩
    · intro j u hj
      have hj1:j<min k (n-k):=by
        rcases Nat.lt_or_ge j (min k (n-k)) with h | h
        · exact h
        · rw [List.getElem?_eq_none (by simpa using h)] at hj;cases hj
      rw [List.getElem?_replicate,if_pos hj1] at hj
      cases hj
      rw [ycD]
      have:=icell (w:=w7.drew) (xs:=List.replicate k v++List.replicate (n-k) 0) hrd (k:=j) (by simp;omega)
      rw [this]
      congr 2
      unfold gi
      simp [List.getElem?_append,List.getElem?_replicate]
      rw [if_pos (by omega),if_pos (by omega)]
      rfl
    · intro u hu
      rw [List.mem_replicate] at hu
      rw [hu.2];rfl
    · refine ⟨in64 (by omega),n-(k+min k (n-k)),by omega,k+min k (n-k),rfl,by omega,by omega,by omega,?_,?_⟩
      · rw [e8]
        have:=yiS (List.replicate (min k (n-k)) (.int .i64 v)) k hrd
        rw [setL_rep v _ k (n-k) (by omega)] at this
        rw [show n-(k+min k (n-k))=n-k-min k (n-k) by omega]
        exact this
      · rw [e8]
        have hgw:w.heap.size≤g:=by omega
        have key:∀ (vs:List Value) (o:Nat) (W:World),Pure w W→Pure w (W.setCells g o vs):=by
          intro vs
          induction vs with
          | nil=>intro o W h;exact h
          | cons u vs ih=>intro o W h;exact ih _ _ (h.setCell (fun h=>absurd h (by simp;omega)) _)
        exact key _ _ _ hp.drew
  · obtain rfl:k=n:=by omega
    exact ⟨g,rfl,rfl,rfl,by omega,by simpa using hr,hp⟩
end Go.Proofs.YtadpnlimiblniaaGreat

namespace Go.Proofs.YtadpnlimiblniaaGreat
open Go Go.Proofs.Tryz
def Adj(es:List E3)(v u:Nat):Prop:=∃ m,((u:Int),m)∈ycr es (v:Int)
theorem ybV{es:List E3}{v u m:Int} : (u,m)∈ycr es v↔∃ x∈es,x.1≠x.2.1∧(x.1=v∨x.2.1=v)∧u=x.1+x.2.1-v∧m=x.2.2:=by
  unfold ycr
  rw [List.mem_filterMap]
  constructor
  · rintro ⟨x,hx,hl⟩
    unfold link at hl
    split at hl
    · rename_i h
      simp only [Option.some.injEq,Prod.mk.injEq] at hl
      exact ⟨x,hx,h.1,h.2,hl.1.symm,hl.2.symm⟩
    · cases hl
  · rintro ⟨x,hx,h1,h2,rfl,rfl⟩
    exact ⟨x,hx,by unfold link;rw [if_pos ⟨h1,h2⟩]⟩
theorem Adj.symm{es:List E3}{v u:Nat}(h:Adj es v u):Adj es u v:=by
  obtain ⟨m,h⟩:=h
  obtain ⟨x,hx,h1,h2,h3,h4⟩:=ybV.1 h
  exact ⟨m,ybV.2 ⟨x,hx,h1,by omega,by omega,h4⟩⟩
def cu(o:List Int):Nat:=(o.filter fun x=>decide (x<0)).length
theorem cu_set{o:List Int}{v:Nat}{x:Int}(h:v<o.length)(hv:gi o v<0)(hx:0≤x):cu (o.set v x)+1=cu o:=by
  unfold cu
  induction o generalizing v with
  | nil=>simp at h
  | cons y o ih =>
    cases v with
    | zero =>
      simp [gi] at hv
      simp [List.filter_cons,hv,Int.not_lt.2 hx]
    | succ v =>
      have:=ih (v:=v) (by simpa using h) (by simpa [gi] using hv)
      simp only [List.set_cons_succ,List.filter_cons]
      split
      · simp only [List.length_cons];omega
      · omega
structure BIn(n:Nat)(es:List E3)(q v:Nat)(pre:List (Int×Int))(o:List Int)(Q:List Nat):Prop where
  len:o.length=n
  vn:v<n
  v0:0≤gi o v
  rng:∀ a∈Q,a<n∧0≤gi o a
  q0:gi o q=0
  low:∀ b, -1≤gi o b
  val:∀ b,gi o b+cu o≤(n:Int)-1
  par:∀ b,b<n→0<gi o b→∃ u,u<n∧Adj es b u∧gi o u=gi o b-1
  top:∀ b,b<n→gi o b≤gi o v+1
  bot:∀ a∈Q,gi o v≤gi o a
  mono:Q.Pairwise fun a b=>gi o a≤gi o b
  done:∀ x,x<n→0≤gi o x→x∉Q→x≠v→gi o x≤gi o v∧∀ u,Adj es x u→0≤gi o u∧gi o u≤gi o x+1
  now:∀ p∈pre,0≤gi o p.1.toNat∧gi o p.1.toNat≤gi o v+1
  zero:∀ b,b<n→gi o b=0→b=q
structure BInv(n:Nat)(es:List E3)(q:Nat)(o:List Int)(Q:List Nat):Prop where
  len:o.length=n
  rng:∀ a∈Q,a<n∧0≤gi o a
  q0:gi o q=0
  low:∀ b, -1≤gi o b
  val:∀ b,gi o b+cu o≤(n:Int)-1
  par:∀ b,b<n→0<gi o b→∃ u,u<n∧Adj es b u∧gi o u=gi o b-1
  top:∀ a∈Q,∀ b,b<n→gi o b≤gi o a+1
  mono:Q.Pairwise fun a b=>gi o a≤gi o b
  done:∀ x,x<n→0≤gi o x→x∉Q→(∀ a∈Q,gi o x≤gi o a)∧∀ u,Adj es x u→0≤gi o u∧gi o u≤gi o x+1
  zero:∀ b,b<n→gi o b=0→b=q
theorem BInv.pop{n:Nat}{es:List E3}{q v:Nat}{o:List Int}{Q:List Nat}(h:BInv n es q o (v::Q)):BIn n es q v [] o Q:=by
  have hp:=List.pairwise_cons.1 h.mono
  refine ⟨h.len,(h.rng v (by simp)).1,(h.rng v (by simp)).2,fun a ha=>h.rng a (by simp [ha]),h.q0,h.low,h.val,h.par,h.top v (by simp),hp.1,hp.2,fun x hx h0 hn hne=>?_,by simp,h.zero⟩
  have:=h.done x hx h0 (by simp [hn,hne])
  exact ⟨this.1 v (by simp),this.2⟩
theorem BIn.push{n:Nat}{es:List E3}{q v:Nat}{pre:List (Int×Int)}{o:List Int}{Q:List Nat}(h:BIn n es q v pre o Q){u:Nat}{m:Int}(hu:u<n)(ha:Adj es v u)(hneg:gi o u<0) :
    BIn n es q v (pre++[((u:Int),m)]) (o.set u (gi o v+1)) (Q++[u]):=by
  have hul:u<o.length:=by rw [h.len];exact hu
  have hs:∀ b,gi (o.set u (gi o v+1)) b=if b=u then gi o v+1 else gi o b:=fun b=>ycQ hul
  have hv0:=h.v0
  have hvu:v≠u:=by rintro rfl;omega
  have hc:=cu_set hul hneg (x:=gi o v+1) (by omega)
  have hkn:∀ b,0≤gi o b→gi (o.set u (gi o v+1)) b=gi o b:=fun b hb=>by
    rw [hs,if_neg (by rintro rfl;omega)]
  refine ⟨by simpa using h.len,h.vn,by rw [hkn v hv0];exact hv0,?_,by rw [hkn q (by rw [h.q0];omega)];exact h.q0,?_,?_,?_,?_,?_,?_,?_,?_,fun b hb h0=>by
    rw [hs] at h0
    split at h0
    · omega
    · exact h.zero b hb h0⟩
  · intro a ha'
    rcases List.mem_append.1 ha' with h1 | h1
    · have:=h.rng a h1;exact ⟨this.1,by rw [hkn a this.2];exact this.2⟩
    · simp only [List.mem_singleton] at h1;subst h1;exact ⟨hu,by rw [hs,if_pos rfl];omega⟩
  · intro b;rw [hs];split
    · omega
    · exact h.low b
  · intro b;rw [hs]
    have:=h.val b
    have:=h.val v
    split <;> omega
  · intro b hb h0
    rw [hs] at h0
    by_cases e:b=u
    · subst e
      refine ⟨v,h.vn,ha.symm,?_⟩
      rw [hkn v hv0,hs,if_pos rfl];omega
    · rw [if_neg e] at h0
      obtain ⟨y,hy,hay,hoy⟩:=h.par b hb h0
      refine ⟨y,hy,hay,?_⟩
      rw [hkn y (by omega),hs,if_neg e];exact hoy
  · intro b hb
    rw [hkn v hv0,hs]
    have:=h.top b hb
    split <;> omega
  · intro a ha'
    rw [hkn v hv0]
    rcases List.mem_append.1 ha' with h1 | h1
    · have h2:=h.rng a h1;rw [hkn a h2.2];exact h.bot a h1
    · simp only [List.mem_singleton] at h1;subst h1;rw [hs,if_pos rfl];omega
  · refine List.pairwise_append.2 ⟨h.mono.imp_of_mem (fun {a b} ha hb hab=>by rw [hkn a (h.rng a ha).2,hkn b (h.rng b hb).2];exact hab),by simp,fun a ha' b hb=>?_⟩
    simp only [List.mem_singleton] at hb;subst hb
    have h2:=h.rng a ha'
    rw [hkn a h2.2,hs,if_pos rfl]
    exact h.top a h2.1
  · intro x hx h0 hn hne
    have hxu:x≠u:=fun e=>hn (by simp [e])
    rw [hs,if_neg hxu] at h0
    have:=h.done x hx h0 (fun h=>hn (by simp [h])) hne
    rw [hkn v hv0,hs x,if_neg hxu]
    refine ⟨this.1,fun y hy=>?_⟩
    have h2:=this.2 y hy
    rw [hkn y h2.1];exact h2
  · intro p hp
    rw [hkn v hv0]
    rcases List.mem_append.1 hp with h1 | h1
    · have h2:=h.now p h1;rw [hkn _ h2.1];exact h2
    · simp only [List.mem_singleton] at h1;subst h1
      simp only [Int.toNat_natCast]
      rw [hs,if_pos rfl];omega
theorem BIn.pass{n:Nat}{es:List E3}{q v:Nat}{pre:List (Int×Int)}{o:List Int}{Q:List Nat}(h:BIn n es q v pre o Q){u:Nat}{m:Int}(hu:u<n)(h0:0≤gi o u) :
    BIn n es q v (pre++[((u:Int),m)]) o Q:=by
  refine ⟨h.len,h.vn,h.v0,h.rng,h.q0,h.low,h.val,h.par,h.top,h.bot,h.mono,h.done,fun p hp=>?_,h.zero⟩
  rcases List.mem_append.1 hp with h1 | h1
  · exact h.now p h1
  · simp only [List.mem_singleton] at h1;subst h1
    exact ⟨by simpa using h0,by simpa using h.top u hu⟩
theorem BIn.fin{n:Nat}{es:List E3}{q v:Nat}{o:List Int}{Q:List Nat}(h:BIn n es q v (ycr es (v:Int)) o Q):BInv n es q o Q:=by
  refine ⟨h.len,h.rng,h.q0,h.low,h.val,h.par,fun a ha b hb=>?_,h.mono,fun x hx h0 hn=>?_,h.zero⟩
  · have:=h.top b hb;have:=h.bot a ha;omega
  · by_cases e:x=v
    · subst e
      refine ⟨fun a ha=>h.bot a ha,fun u hu=>?_⟩
      obtain ⟨m,hm⟩:=hu
      have:=h.now _ hm
      simpa using this
    · have:=h.done x hx h0 hn e
      exact ⟨fun a ha=>by have:=h.bot a ha;omega,this.2⟩
theorem BInv.start{n:Nat}{es:List E3}{q:Nat}(hq:q<n):BInv n es q ((List.replicate n (-1)).set q 0) [q]:=by
  have hl:q<(List.replicate n (-1:Int)).length:=by simpa using hq
  have hs:∀ b,gi ((List.replicate n (-1)).set q 0) b=if b=q then 0 else gi (List.replicate n (-1)) b:=fun b=>ycQ hl
  have hr:∀ b,b<n→gi (List.replicate n (-1)) b = -1:=fun b hb=>by rw [yaN (by simpa using hb)];simp
  have hr2:∀ b,gi (List.replicate n (-1)) b = -1∨gi (List.replicate n (-1)) b=0:=fun b=>by
    rcases Nat.lt_or_ge b n with h | h
    · exact .inl (hr b h)
    · exact .inr (gi_ge (by simpa using h))
  have hc0:∀ n:Nat,cu (List.replicate n (-1))=n:=by
    intro n
    unfold cu
    rw [List.filter_eq_self.2 (fun x hx=>by rw [(List.mem_replicate.1 hx).2];rfl)]
    simp
  have hc:=cu_set hl (by rw [hr q hq];omega) (x:=0) (by omega)
  rw [hc0] at hc
  refine ⟨by simp,fun a ha=>?_,by rw [hs,if_pos rfl],fun b=>?_,fun b=>?_,fun b hb h0=>?_,fun a ha b hb=>?_,by simp,fun x hx h0 hn=>?_,fun b hb h0=>by
    rw [hs,hr b hb] at h0
    split at h0
    · assumption
    · omega⟩
  · simp only [List.mem_singleton] at ha;subst ha;exact ⟨hq,by rw [hs,if_pos rfl];omega⟩
  · rw [hs];rcases hr2 b with h | h <;> split <;> omega
  · rw [hs]
    rcases hr2 b with h | h
    · split <;> omega
    · split <;> omega
  · rw [hs] at h0;rw [hr b hb] at h0;split at h0 <;> omega
  · simp only [List.mem_singleton] at ha;subst ha;rw [hs,hs a,if_pos rfl,hr b hb];split <;> omega
  · exfalso
    rw [hs,hr x hx] at h0
    split at h0
    · rename_i e;exact hn (by simp [e])
    · omega
structure Dist(n:Nat)(es:List E3)(q:Nat)(o:List Int):Prop where
  len:o.length=n
  q0:gi o q=0
  low:∀ b, -1≤gi o b
  high:∀ b,gi o b≤(n:Int)-1
  par:∀ b,b<n→0<gi o b→∃ u,u<n∧Adj es b u∧gi o u=gi o b-1
  step:∀ x,x<n→0≤gi o x→∀ u,Adj es x u→0≤gi o u∧gi o u≤gi o x+1
  zero:∀ b,b<n→gi o b=0→b=q
theorem BInv.dist{n:Nat}{es:List E3}{q:Nat}{o:List Int}(h:BInv n es q o []):Dist n es q o :=
  ⟨h.len,h.q0,h.low,fun b=>by have:=h.val b;omega,h.par,fun x hx h0=>(h.done x hx h0 (by simp)).2,h.zero⟩
end Go.Proofs.YtadpnlimiblniaaGreat

namespace Go.Proofs.YtadpnlimiblniaaGreat
open Go Go.RowKit Go.Shelf Go.Proofs.Tryz
set_option maxRecDepth 100000
set_option maxHeartbeats 8000000
theorem OwnS.of_row{w:World}{B g:Nat}{e:TypeId}{c:Nat}{xs:List Value}(h:Row w g e c xs)(hB:B≤g)(hc:c≤maxLen):OwnS w B e 1 (some ⟨g,0,none⟩) xs.length c xs:=by
  have hle:=h.le
  obtain ⟨cur,h1,h2,h3⟩:=h
  exact ⟨by simp, .inr ⟨g,0,cur,rfl,hB,h1,hle,hc,by simp [h2],by simpa using h3⟩⟩
theorem OwnS.cell{w:World}{B:Nat}{e:TypeId}{A:Option Addr}{l c:Nat}{xs:List Value}(h:OwnS w B e 1 A l c xs){i:Int}(h0:0≤i){v:Value}(hv:xs[i.toNat]? = some v):Ix A l i∧w.cell? (ixA A i 1)=some v:=by
  have hl:xs.length=l:=by simpa using h.1
  have hlt:i.toNat<xs.length:=(List.getElem?_eq_some_iff.1 hv).1
  rcases h.2 with ⟨rfl,h1,_⟩ | ⟨g,o,cur,rfl,hB,hg,hlc,hcm,hcs,ht⟩
  · omega
  · refine ⟨ybt h0 (by omega),?_⟩
    rw [ixA_off,cell_of_row w g _ cur e (0,0) hg]
    rw [←ht,List.getElem?_take,if_pos (by omega),List.getElem?_drop] at hv
    simpa using hv
theorem OwnS.tail{w:World}{B:Nat}{e:TypeId}{A:Option Addr}{l c:Nat}{x:Value}{xs:List Value}(h:OwnS w B e 1 A l c (x::xs)):OwnS w B e 1 (slA A c 1 1) (l-1) (c-1) xs:=by
  have hl:xs.length+1=l:=by simpa using h.1
  rcases h.2 with ⟨rfl,h1,_⟩ | ⟨g,o,cur,rfl,hB,hg,hlc,hcm,hcs,ht⟩
  · omega
  · have hd:(cur.toList.drop (o+1)).take (l-1)=xs:=by
      rw [Nat.mul_one] at ht
      have:=congrArg (List.drop 1) ht
      rw [List.drop_take,List.drop_drop] at this
      simpa using this
    refine ⟨by omega, .inr ?_⟩
    unfold slA
    by_cases e1:c=1
    · rw [if_pos e1]
      have hx:xs=[]:=List.eq_nil_of_length_eq_zero (by omega)
      subst hx
      exact ⟨g,o,cur,rfl,hB,hg,by omega,by omega,by omega,by rw [show (l-1)*1=0 by omega];simp⟩
    · rw [if_neg e1]
      refine ⟨g,o+1,cur,by simp [Addr.add_mid],hB,hg,by omega,by omega,by omega,?_⟩
      rw [Nat.mul_one];exact hd
theorem slA_block{A:Option Addr}{c lo sz:Nat} : (slA A c lo sz).map (·.block)=A.map (·.block):=by
  unfold slA
  split
  · rfl
  · cases A with
    | none=>rfl
    | some a=>simp [Addr.add];split <;> rfl
theorem OwnS.keep{w w':World}{B:Nat}{e:TypeId}{sz:Nat}{A:Option Addr}{l c:Nat}{xs:List Value}(h:OwnS w B e sz A l c xs)(hk:∀ a,A=some a→w'.heap[a.block]? = w.heap[a.block]?):OwnS w' B e sz A l c xs:=by
  refine ⟨h.1,?_⟩
  rcases h.2 with h1 | ⟨g,o,cur,rfl,hB,hg,rest⟩
  · exact .inl h1
  · exact .inr ⟨g,o,cur,rfl,hB,(hk _ rfl).trans hg,rest⟩
theorem OwnS.lt{w:World}{B:Nat}{e:TypeId}{sz:Nat}{A:Option Addr}{l c:Nat}{xs:List Value}(h:OwnS w B e sz A l c xs){a:Addr}(ha:A=some a):B≤a.block∧a.block<w.heap.size:=by
  rcases h.2 with ⟨h1,_⟩ | ⟨g,o,cur,h1,hB,hg,rest⟩
  · rw [h1] at ha;cases ha
  · rw [h1] at ha;cases ha;exact ⟨hB,(Array.getElem?_eq_some_iff.1 hg).1⟩
theorem OwnS.ne_row{w:World}{B:Nat}{e e':TypeId}{sz:Nat}{A:Option Addr}{l c:Nat}{xs:List Value}(h:OwnS w B e sz A l c xs){g size:Nat}{ys:List Value}(hr:Row w g e' size ys)(he:e≠e'){a:Addr}(ha:A=some a):a.block≠g:=by
  rintro rfl
  rcases h.2 with ⟨h1,_⟩ | ⟨g,o,cur,h1,hB,hg,rest⟩
  · rw [h1] at ha;cases ha
  · rw [h1] at ha;cases ha
    obtain ⟨cur',h1',_⟩:=hr
    rw [hg] at h1'
    cases h1'
    exact he rfl
def KpS(S:Nat→Prop)(w w':World):Prop:=∀ k,S k→k<w.heap.size→w'.heap[k]? = w.heap[k]?
def DistPost(n:Nat)(es:List E3)(q:Nat)(w:World)(A:Option Addr)(l c:Nat)(w':World):Prop :=
  ∃ g o,A=some ⟨g,0,none⟩∧l=n∧c=n∧w.heap.size≤g∧IRow w' g 3 n o∧Dist n es q o∧Pure w w'
structure QI(w0:World)(B gO gQ n:Nat)(es:List E3)(q:Nat)(m:Nat)(w:World)(o:List Int)(Q:List Nat)(A:Option Addr)(l c:Nat):Prop where
  len:l=Q.length
  mes:2*cu o+Q.length≤m
  out:IRow w gO 3 n o
  box:Row w gQ 29 1 [.slice A l c]
  own:OwnS w B 3 1 A l c (Q.map fun (x:Nat)=>Value.int .i64 (x:Int))
  pure:Pure w0 w
theorem distances_any(X gd gs n:Nat)(A:Option Addr)(es:List E3)(cap cd cs q:Nat)(d s:List Int)(e:Int)(w:World)(hS:yfO w X gd gs n A es cap cd cs q d s e)(hes:ydB w A es)
    (hq:q<n) (hn:n≤12) (hE:∀ x∈es,0≤x.1∧x.1<n∧0≤x.2.1∧x.2.1<n∧0≤x.2.2∧x.2.2≤50) (hel:es.length≤1000) :
    Calls Tryz.prog 174 #[.pointer (some ⟨X,0,none⟩)] w fun e' w'=>∃ A' l' c',e' = .returned (.slice A' l' c')∧DistPost n es q w A' l' c' w':=by
  refine ye5 _ w (DistPost n es q w) ?_
  unfold ybT
  have hE12:ydE es:=fun x hx=>by have:=hE x hx;omega
  have hX:=hS.1
  intro g w2 hN1
  have a1:=hN1.at_
  refine ⟨n,by rw [yhK,ycD];exact Row.cell (hN1.row_ hX) (i:=0) rfl,?_⟩
  refine (repeat_any (some ⟨g,0,none⟩) (-1) 1 n w2 (IRow.ints (xs:=[-1]) hN1.row) (by omega) (by omega)).mono ?_
  rintro _ w3 ⟨A3,l3,c3,rfl,gO,rfl,hl3,hc3,hgO,hO3,hp3⟩
  have hl3:=hl3.symm
  have hc3:=hc3.symm
  subst hl3
  subst hc3
  have s2:=hN1.size
  have s3:=hp3.size
  have lO:=Row.lt hO3
  refine ⟨_,_,_,rfl,Keeps.kpm_pure hp3,fun g2 w4 hN2 w5 e5=>?_⟩
  have a2:=hN2.at_
  have s4:=hN2.size
  have p5:Pure w w5:=by
    rw [e5];exact (((hN1.keeps _).trans hp3).trans (hN2.keeps _)).setCell (fun h=>absurd h (by simp;omega)) _
  have hO5:IRow w5 gO 3 n (List.replicate n (-1)):=by
    rw [e5];exact Row.far (hN2.row_ hO3) (by simp;omega) _
  have s5:w5.heap.size=w4.heap.size:=by rw [e5];simp [World.setCell]
  have hXq:∀ W,Pure w W→W.cell? ((⟨X,0,none⟩:Addr).add 2)=some (.int .i64 (q:Int)):=fun W h=>by
    rw [ycD];exact Row.cell (h.row hX id) (i:=2) rfl
  refine ⟨q,hXq _ p5.drew,ybt (by omega) (by omega),iwr (Row.drew hO5) (by omega) (by simp;omega),by rw [ybH];simp;omega,fun w6 e6=>?_⟩
  have hO6:IRow w6 gO 3 n ((List.replicate n (-1)).set q 0):=by
    rw [e6];simpa using ist (Row.drew hO5) (q:Int) 0
  have p6:Pure w w6:=by
    rw [e6,ybH];exact p5.drew.setCell (fun h=>absurd h (by simp;omega)) _
  have s6:w6.heap.size=w5.heap.size:=by rw [e6];simp [World.setCell]
  refine ⟨q,hXq _ p6,fun g3 w7 hN3 g4 w8 hN4=>?_⟩
  have a3:=hN3.at_
  have s7:=hN3.size
  have a4:=hN4.at_
  have s8:=hN4.size
  refine ⟨hN4.row.wr_ 0 (by simp),by simp;omega,fun w9 e9=>?_⟩
  have s9:w9.heap.size=w8.heap.size:=by rw [e9];simp [World.setCell]
  have far9:∀ {k':Nat} {e':TypeId} {sz:Nat} {xs:List Value},k'≠g4→Row w8 k' e' sz xs→Row w9 k' e' sz xs:=fun hne' hr=>by
    rw [e9];exact hr.far (by simpa using hne') _
  have hq9:Row w9 g3 3 1 [.int .i64 (q:Int)]:=far9 (by omega) (hN4.row_ hN3.row)
  have hI0:QI w g3 gO g4 n es q (2*cu ((List.replicate n (-1)).set q 0)+1) w9 ((List.replicate n (-1)).set q 0) [q] (some ⟨g3,0,none⟩) 1 1:=by
    refine ⟨rfl,Nat.le_refl _,far9 (by omega) (hN4.row_ (hN3.row_ hO6)),?_,OwnS.of_row (c:=1) hq9 (Nat.le_refl _) (by unfold maxLen;omega),?_⟩
    · rw [e9];exact hN4.row.set_ 0 _
    · rw [e9];exact ((p6.trans (hN3.keeps _)).trans (hN4.keeps _)).setCell (fun h=>absurd h (by simp;omega)) _
  have hgg:g2<g3∧gO<g2∧g4=g3+1∧g4<w9.heap.size∧w.heap.size≤gO:=by omega
  clear hO5 hO6 p5 p6 hN1 hN2 hN3 hN4 hO3 hp3 far9 hq9 a1 a2 a3 a4 s2 s3 s4 s5 s6 s7 s8 e5 e6 e9
  obtain ⟨gg1,gg2,gg3,gg4,gg5⟩:=hgg
  have hcn:cu ((List.replicate n (-1)).set q 0)≤12:=by
    have:=List.length_filter_le (fun x:Int=>decide (x<0)) ((List.replicate n (-1)).set q 0)
    unfold cu;simp at this ⊢;omega
  refine ⟨fun m W=>g4<W.heap.size∧m≤100∧∃ o Q A l c,QI w g3 gO g4 n es q m W o Q A l c∧BInv n es q o Q,⟨_,by omega,by omega,_,_,_,_,_,hI0,BInv.start hq⟩,?_⟩
  clear hI0 s9 lO
  rintro m w10 ⟨sz10,hm100,o,Q,Aq,lq,cq,⟨hlen,hmes,hout,hbox,hown,hpure⟩,hB⟩
  refine ⟨Aq,lq,cq,Row.cell hbox (i:=0) rfl,fun hlt=>?_,fun hge=>?_⟩
  · cases Q with
    | nil=>simp at hlen;omega
    | cons v Q =>
      obtain ⟨hv1,hv2⟩:=hB.rng v (by simp)
      obtain ⟨hix,hld⟩:=hown.cell (i:=0) (by omega) (v := .int .i64 (v:Int)) rfl
      refine ⟨Aq,lq,cq,Row.cell hbox (i:=0) rfl,hix,v,hld,fun g5 w11 hN5=>?_⟩
      have a5:=hN5.at_
      have s11:=hN5.size
      refine ⟨by omega,fun w12 e12=>?_⟩
      have far12:∀ {k':Nat} {e':TypeId} {sz:Nat} {xs:List Value},k'≠g5→Row w10 k' e' sz xs→Row w12 k' e' sz xs:=fun hne' hr=>by
        rw [e12];exact (hN5.row_ hr).far (by simpa using hne') _
      have s12:w12.heap.size=w11.heap.size:=by rw [e12];simp [World.setCell]
      have hbox12:=far12 (by omega) hbox
      have hlO:=Row.lt hout
      have hout12:IRow w12 gO 3 n o:=far12 (by omega) hout
      have p12:Pure w w12:=by rw [e12];exact (hpure.trans (hN5.keeps _)).setCell (fun h=>absurd h (by have:=hpure.size;simp;omega)) _
      have k12:∀ k,k<w10.heap.size→w12.heap[k]? = w10.heap[k]?:=fun k hk=>by
        rw [e12,Below.heap_setCell _ _ _ _ (by simp;omega)];rw [hN5.to_];exact Below.heap_alloc _ _ _ hk
      have hown12:=hown.keep (w':=w12) (fun a ha=>k12 _ (hown.lt ha).2)
      refine ⟨Aq,lq,cq,Row.cell hbox12 (i:=0) rfl,by omega,hbox12.wr_ 0 (by simp),by simp;omega,by simp;omega,fun w13 e13=>?_⟩
      have s13:w13.heap.size=w12.heap.size:=by rw [e13];simp [World.setCell]
      have far13:∀ {k':Nat} {e':TypeId} {sz:Nat} {xs:List Value},k'≠g4→Row w12 k' e' sz xs→Row w13 k' e' sz xs:=fun hne' hr=>by
        rw [e13];exact hr.far (by simpa using hne') _
      have hbox13:Row w13 g4 29 1 [.slice (slA Aq cq 1 1) (lq-1) (cq-1)]:=by rw [e13];exact hbox12.set_ 0 _
      have hout13:IRow w13 gO 3 n o:=far13 (by omega) hout12
      have p13:Pure w w13:=by rw [e13];exact p12.setCell (fun h=>absurd h (by simp;omega)) _
      have hownT:=hown12.tail
      have hown13:=hownT.keep (w':=w13) (fun a ha=>by
        rw [e13];exact Below.heap_setCell _ _ _ _ (by
          have:=hownT.ne_row hbox12 (by decide) ha;simpa using this))
      have hap:∀ a,slA Aq cq 1 1=some a→a.block<g5:=fun a ha=>by
        have h1:=congrArg (Option.map Addr.block) ha
        rw [slA_block] at h1
        cases hAq:Aq with
        | none=>rw [hAq] at h1;cases h1
        | some a' =>
          rw [hAq] at h1;simp at h1
          have:=(hown.lt hAq).2;omega
      refine (links_pure X (v:Int) w13).mono ?_
      rintro _ w14 ⟨bx,bv,rfl,hbx,hbv,rbx,rbv,hp14⟩
      have s14:=hp14.size
      have lbx:=rbx.lt
      have lbv:=rbv.lt
      have p14:Pure w w14:=p13.trans hp14
      have hX14:=p14.row hX id
      have hes14:ydB w14 A es:=hes.keep p14
      refine ⟨_,rfl,hp14.kp id,hp14.kp id,Keeps.kpm_pure hp14,?_⟩
      have hbelow:∀ (b off:Nat),0<es.length→A=some ⟨b,off,none⟩→b<w.heap.size:=fun b off h0 hA=>by
        obtain ⟨b',off',hA',hb',_⟩:=hes h0
        rw [hA] at hA';cases hA';exact hb'
      have hQ0:QI w g3 gO g4 n es q (m-1) w14 o Q (slA Aq cq 1 1) (lq-1) (cq-1):=by
        refine ⟨by simp at hlen;omega,by simp at hmes;omega,hp14.row hout13 id,hp14.row hbox13 id,hown13.keep (fun a ha=>hp14.block _ (hown13.lt ha).2 id),p14⟩
      have hm1:1≤m:=by simp at hmes;omega
      refine ⟨yiq es (v:Int),encL es (v:Int),_,_,es.length,fun pre W=>KpS (fun k=>k=g2∨k=g5∨k=bv∨k=bx) w14 W∧KpM w14 W∧∃ o' Q' A' l' c',QI w g3 gO g4 n es q (m-1) W o' Q' A' l' c'∧(∀ a,A'=some a→a.block≠g5∧a.block≠bv∧a.block≠bx∧a.block<W.heap.size)∧BIn n es q v (pre.map (·.1)) o' Q',
        links_iter X A es cap (v:Int) bx bv w14 rbx rbv (Row.cell hX14 (i:=1) rfl) hes14 hE12 (by omega) (by omega) (by omega),fun _=>rfl,?_,⟨fun k _ _=>rfl,KpM.refl _,_,_,_,_,_,hQ0,fun a ha=>by have:=hap a ha;omega,hB.pop⟩,?_,?_,?_⟩
      · refine stays_of fun pre W W' row h hg hr=>?_
        obtain ⟨h1,h2,o',Q',A',l',c',⟨q1,q2,q3,q4,q5,q6⟩,h3,h4⟩:=h
        refine ⟨fun k hk hl=>?_,⟨Nat.le_trans h2.1 hg.size,fun r hr'=>?_⟩,o',Q',A',l',c',⟨q1,q2,Row.owned q3 hg (fun r e=>(hr r e).2),Row.owned q4 hg (fun r e=>(hr r e).2),q5.keep (fun a ha=>?_),q6.owned hg p14.size (fun r e=>(hr r e).1)⟩,fun a ha=>⟨(h3 a ha).1,(h3 a ha).2.1,(h3 a ha).2.2.1,Nat.lt_of_lt_of_le (h3 a ha).2.2.2 hg.size⟩,h4⟩
        · rw [hg.block k (Nat.lt_of_lt_of_le hl h2.1) (fun e=>by have:=(hr k e.symm).1;omega)];exact h1 k hk hl
        · have hl:=(Array.getElem?_eq_some_iff.1 hr').1
          rw [hg.block r (Nat.lt_of_lt_of_le hl h2.1) (fun e=>by have:=(hr r e.symm).1;omega)];exact h2.2 r hr'
        · refine hg.block _ (h3 a ha).2.2.2 (fun e=>?_)
          obtain ⟨_,ob,hob,hcb⟩:=hr _ e.symm
          rcases q5.2 with ⟨h5,_⟩ | ⟨gq,oq,cur,h5,_,hgq,_⟩
          · rw [h5] at ha;cases ha
          · rw [h5] at ha;cases ha
            rw [hgq] at hob;cases hob;cases hcb
      · intro pr W h
        exact ⟨fun hl=>h.1 g2 (.inl rfl) hl,fun hl=>h.1 g5 (.inr (.inl rfl)) hl,trivial⟩
      · rintro pre el w15 ⟨hk,hkm,o',Q',A',l',c',⟨q1,q2,q3,q4,q5,q6⟩,hA',hBI⟩ hlen'
        obtain ⟨eg,heg',hlk⟩:=el.2
        have hmem:el.1∈ycr es (v:Int):=List.mem_filterMap.2 ⟨eg,heg',hlk⟩
        have hr1:=ybZ hE (v:=(v:Int)) (u:=el.1.1) (m:=el.1.2) hmem
        obtain ⟨u,hu⟩:∃ u:Nat,el.1.1=(u:Int):=⟨el.1.1.toNat,by omega⟩
        have hun:u<n:=by omega
        have help:el.1=((u:Int),el.1.2):=by rw [←hu]
        have hadj:Adj es v u:=⟨el.1.2,by rw [←hu];exact hmem⟩
        have hol:=hBI.len
        have ldu:=ild q3 (i:=(u:Int)) (by omega) (by omega)
        simp only [Int.toNat_natCast] at ldu
        refine ⟨el.1.1,el.1.2,rfl,ybt (by omega) (by omega),gi o' u,by rw [hu];exact ldu,fun hneg=>?_,fun hpos=>?_⟩
        · have ldv:=ild (Row.drew q3) (i:=(v:Int)) (by omega) (by omega)
          simp only [Int.toNat_natCast] at ldv
          have hval:=hBI.val v
          refine ⟨ybt (by omega) (by omega),gi o' v,ldv,in64 (by have:=hBI.v0;omega),ybt (by omega) (by omega),iwr (Row.drew q3) (by omega) (by omega),by rw [ybH];simp;omega,by rw [ybH];simp;omega,fun w17 e17=>?_⟩
          have hsz15:=hkm.1
          have s17:w17.heap.size=w15.heap.size:=by rw [e17];simp [World.setCell]
          have hout17:IRow w17 gO 3 n (o'.set u (gi o' v+1)):=by
            have:=ist (Row.drew q3) el.1.1 (gi o' v+1)
            rw [e17,hu] at *;simpa using this
          have far17:∀ {k':Nat} {e':TypeId} {sz:Nat} {xs:List Value},k'≠gO→Row w15 k' e' sz xs→Row w17 k' e' sz xs:=fun hne' hr=>by
            rw [e17];exact Row.far_ hr.drew hne' _ _
          have hbox17:=far17 (by omega) q4
          have b17:∀ k,k≠gO→w17.heap[k]? = w15.heap[k]?:=fun k hk'=>by
            rw [e17,ybH];exact Below.heap_setCell _ _ _ _ (by simpa using hk')
          have hown17:=q5.keep (w':=w17) (fun a ha=>b17 _ (by have:=(q5.lt ha).1;omega))
          have p17:Pure w w17:=by rw [e17,ybH];exact q6.drew.setCell (fun h=>absurd h (by simp;omega)) _
          refine ⟨A',l',c',Row.cell hbox17 (i:=0) rfl,fun g6 w18 hN6=>?_⟩
          have a6:=hN6.at_
          have s18:=hN6.size
          have b18:∀ k,k<w17.heap.size→w18.heap[k]? = w17.heap[k]?:=fun k hk'=>by rw [hN6.to_];exact Below.heap_alloc _ _ _ hk'
          have hown18:=hown17.keep (w':=w18) (fun a ha=>b18 _ (hown17.lt ha).2)
          have hcul:=List.length_filter_le (fun x:Int=>decide (x<0)) o'
          have hcu:cu o'≤12:=by unfold cu;omega
          refine ⟨g3,_,[.int .i64 el.1.1],⟨g6,0,none⟩,hown18,rfl,rfl,?_,by simp [Value.oneCell'],by unfold maxLen;omega,by omega,by omega,fun A2 c2 w19 hown19 hgr hbk=>?_⟩
          · intro j x hj
            cases j with
            | zero=>simp only [List.getElem?_cons_zero,Option.some.injEq] at hj;subst hj;exact Row.cell hN6.row (i:=0) rfl
            | succ j=>simp at hj
          have hown_lt:∀ k,k<w18.heap.size→(∀ a,A'=some a→a.block≠k)→w19.heap[k]? = w18.heap[k]?:=fun k hk' hne'=>hgr.block k hk' (fun e=>by
            cases hA2:A' with
            | none=>rw [hA2] at e;cases e
            | some a=>rw [hA2] at e;cases e;exact hne' a hA2 rfl)
          have b19:∀ k,k<w15.heap.size→k≠gO→(∀ a,A'=some a→a.block≠k)→w19.heap[k]? = w15.heap[k]?:=fun k h1 h2 h3 =>
            (hown_lt k (by omega) h3).trans ((b18 k (by omega)).trans (b17 k h2))
          have hAk:∀ k,k<g3→∀ a,A'=some a→a.block≠k:=fun k hk' a ha=>by have:=(q5.lt ha).1;omega
          have hAg4:∀ a,A'=some a→a.block≠g4:=fun a ha=>q5.ne_row q4 (by decide) ha
          have hg4lt:=q4.lt
          have hgOlt:=Row.lt q3
          have hbox19:Row w19 g4 29 1 [.slice A' l' c']:=q4.keep (b19 g4 hg4lt (by omega) hAg4)
          have hA2b:∀ a,A2=some a→(∃ a',A'=some a'∧a'.block=a.block)∨a.block=w18.heap.size:=by
            intro a ha
            rw [ha] at hbk
            rcases hbk with h | h
            · cases hA2:A' with
              | none=>rw [hA2] at h;cases h
              | some a'=>rw [hA2] at h;simp at h;exact .inl ⟨a',rfl,h.symm⟩
            · simp at h;exact .inr h
          have s19:=hgr.size
          refine ⟨fun hl=>hown_lt g2 hl (hAk g2 (by omega)),fun hl=>hown_lt g5 hl (fun a ha=>(hA' a ha).1),hbox19.wr_ 0 (by simp),by simp;omega,by simp;omega,fun w20 e20=>?_⟩
          have b20:∀ k,k<w15.heap.size→k≠gO→k≠g4→(∀ a,A'=some a→a.block≠k)→w20.heap[k]? = w15.heap[k]?:=fun k h1 h2 h3 h4=>by
            rw [e20,Below.heap_setCell _ _ _ _ (by simpa using h3)];exact b19 k h1 h2 h4
          have s20:w20.heap.size=w19.heap.size:=by rw [e20];simp [World.setCell]
          have hob:∀ (k:Nat) (ob:Obj),w15.heap[k]? = some ob→ob.isCells=false→k≠gO∧k≠g4∧∀ a,A'=some a→a.block≠k:=by
            intro k ob hk' hc
            refine ⟨fun e=>?_,fun e=>?_,fun a ha e=>?_⟩
            · subst e;have:=Row.cells_ q3 _ hk';rw [this] at hc;cases hc
            · subst e;have:=Row.cells_ q4 _ hk';rw [this] at hc;cases hc
            · subst e
              rcases q5.2 with ⟨h5,_⟩ | ⟨gq,oq,cur,h5,_,hgq,_⟩
              · rw [h5] at ha;cases ha
              · rw [h5] at ha;cases ha
                rw [hgq] at hk';cases hk';cases hc
          have ko:KeepsOthers w15 w20:=⟨by omega,fun k ob hk' hc=>by
            have h3:=hob k ob hk' hc
            rw [b20 k (Array.getElem?_eq_some_iff.1 hk').1 h3.1 h3.2.1 h3.2.2];exact hk'⟩
          refine ⟨ko,?_,?_,?_,o'.set u (gi o' v+1),Q'++[u],A2,l'+1,c2,⟨?_,?_,?_,?_,?_,?_⟩,?_,?_⟩
          · intro k hk'
            rcases hk' with rfl | ⟨h0,a,ha,rfl⟩
            · exact b20 k (by omega) (by omega) (by omega) (fun a ha=>(hA' a ha).2.1)
            · obtain ⟨b,off,hAe,_⟩:=hes14 h0
              rw [hAe] at ha;cases ha
              have:=hbelow b off h0 hAe
              have:=q6.size
              exact b20 b (by omega) (by omega) (by omega) (fun a ha=>by have:=(q5.lt ha).1;omega)
          · intro k hk' hl
            rw [b20 k (by omega) (by rcases hk' with rfl | rfl | rfl | rfl <;> omega) (by rcases hk' with rfl | rfl | rfl | rfl <;> omega) (fun a ha=>by
              have h1:=hA' a ha
              have h2:=(q5.lt ha).1
              rcases hk' with rfl | rfl | rfl | rfl
              · omega
              · exact h1.1
              · exact h1.2.1
              · exact h1.2.2.1)]
            exact hk k hk' hl
          · exact hkm.trans (KeepsOthers.kpm ko)
          · simp;omega
          · have h1:=cu_set (by omega:u<o'.length) hneg (x:=gi o' v+1) (by have:=hBI.v0;omega)
            simp;omega
          · have hO19:IRow w19 gO 3 n (o'.set u (gi o' v+1)):=hout17.keep ((hown_lt gO (by omega) (hAk gO (by omega))).trans (b18 gO (by omega)))
            rw [e20];exact Row.far hO19 (by simp;omega) _
          · rw [e20];exact hbox19.set_ 0 _
          · rw [List.map_append]
            have:=hown19.keep (w':=w20) (fun a ha=>by
              rw [e20];refine Below.heap_setCell _ _ _ _ ?_
              rcases hA2b a ha with ⟨a',ha',hb⟩ | hb
              · have:=hAg4 a' ha';simp;omega
              · simp;omega)
            rw [hu] at this
            exact this
          · rw [e20]
            have p18:Pure w w18:=p17.trans (hN6.keeps _)
            exact (p18.grown hgr (fun k e hk'=>by
              cases hA2:A' with
              | none=>rw [hA2] at e;cases e
              | some a=>rw [hA2] at e;cases e;have:=(q5.lt hA2).1;omega)).setCell (fun h=>absurd h (by simp;omega)) _
          · intro a ha
            rcases hA2b a ha with ⟨a',ha',hb⟩ | hb
            · have h1:=hA' a' ha';rw [←hb];exact ⟨h1.1,h1.2.1,h1.2.2.1,by omega⟩
            · have:=(hown19.lt ha).2
              exact ⟨by omega,by omega,by omega,by omega⟩
          · rw [List.map_append,List.map_singleton,help]
            exact hBI.push hun hadj hneg
        · refine ⟨KeepsOthers.refl _,KB.refl _ _,hk,hkm,o',Q',A',l',c',⟨q1,q2,q3,q4,q5,q6⟩,hA',?_⟩
          rw [List.map_append,List.map_singleton,help]
          exact hBI.pass hun (by omega)
      · rintro xs w16 hxs ⟨hk,hkm,o',Q',A',l',c',hQI,hA',hBI⟩
        rw [hxs] at hBI
        exact ⟨hkm,m-1,by omega,by have:=hkm.1;omega,by omega,o',Q',A',l',c',hQI,hBI.fin⟩
  · have hQ:Q=[]:=List.eq_nil_of_length_eq_zero (by omega)
    subst hQ
    intro wz ha
    exact ⟨gO,o,rfl,rfl,rfl,gg5,ha.row hout,hB.dist,ha.keeps hpure⟩
theorem ydB.keepL{S:Nat→Prop}{w w':World}{A:Option Addr}{es:List E3}(h:ydB w A es)(hk:Keeps S w w')(hs:∀ b off,A=some ⟨b,off,none⟩→0<es.length→¬S b):ydB w' A es:=fun hl=>by
  obtain ⟨b,off,e,hb,hc⟩:=h hl
  exact ⟨b,off,e,Nat.lt_of_lt_of_le hb hk.size,fun k h1=>⟨hk.cell (hs b off e hl) (hc k h1).1,hk.cell (hs b off e hl) (hc k h1).2.1,hk.cell (hs b off e hl) (hc k h1).2.2⟩⟩
def pay(t:Int)(v:Nat)(d:List Int)(x:Int×Int):List Int:=(d.set v (gi d v-x.2*t)).set x.1.toNat (gi (d.set v (gi d v-x.2*t)) x.1.toNat+x.2*t)
def yez(t:Int)(v:Nat)(l:List (Int×Int))(d:List Int):List Int:=l.foldl (pay t v) d
def ycB(es:List E3)(inn:List Bool)(t:Int)(d:List Int):Nat→List Int
  | 0=>d
  | k+1=>if gb inn k then yez t k (ycr es k) (ycB es inn t d k) else ycB es inn t d k
def ycJ(inn:List Bool)(t:Int)(s:List Int):Nat→List Int
  | 0=>s
  | k+1=>if gb inn k then (ycJ inn t s k).set k (gi (ycJ inn t s k) k+t) else ycJ inn t s k
theorem yhP(t:Int)(v:Nat)(l:List (Int×Int)):∀ d,(yez t v l d).length=d.length:=by
  unfold yez
  induction l with
  | nil=>intro d;rfl
  | cons x l ih=>intro d;rw [List.foldl_cons,ih];simp [pay]
theorem payAll_snoc(t:Int)(v:Nat)(l:List (Int×Int))(x:Int×Int)(d:List Int):yez t v (l++[x]) d=pay t v (yez t v l d) x:=by unfold yez;rw [List.foldl_append];rfl
theorem ybL(es:List E3)(inn:List Bool)(t:Int)(d:List Int):∀ k,(ycB es inn t d k).length=d.length
  | 0=>rfl
  | k+1=>by
    rw [ycB];split
    · rw [yhP,ybL es inn t d k]
    · exact ybL es inn t d k
theorem yb7(inn:List Bool)(t:Int)(s:List Int):∀ k,(ycJ inn t s k).length=s.length
  | 0=>rfl
  | k+1=>by
    rw [ycJ];split
    · rw [List.length_set,yb7 inn t s k]
    · exact yb7 inn t s k
theorem yi3(inn:List Bool)(t:Int)(s:List Int):∀ k i,k≤s.length→gi (ycJ inn t s k) i=if i<k∧gb inn i=true then gi s i+t else gi s i
  | 0,i,_=>by simp [ycJ]
  | k+1,i,hk=>by
    have ih:=yi3 inn t s k
    rw [ycJ]
    by_cases hb:gb inn k=true
    · rw [if_pos hb,ycQ (by rw [yb7];omega)]
      by_cases e:i=k
      · subst e;rw [if_pos rfl,if_pos ⟨by omega,hb⟩,ih i (by omega),if_neg (by omega)]
      · rw [if_neg e,ih i (by omega)]
        by_cases h2:i<k∧gb inn i=true
        · rw [if_pos h2,if_pos ⟨by omega,h2.2⟩]
        · rw [if_neg h2,if_neg (fun h=>h2 ⟨by omega,h.2⟩)]
    · rw [if_neg hb,ih i (by omega)]
      by_cases h2:i<k∧gb inn i=true
      · rw [if_pos h2,if_pos ⟨by omega,h2.2⟩]
      · rw [if_neg h2,if_neg (fun h=>by
          by_cases e:i=k
          · subst e;exact hb h.2
          · exact h2 ⟨by omega,h.2⟩)]
def Bnd(M:Int)(d:List Int):Prop:=∀ i, -M≤gi d i∧gi d i≤M
theorem pay_bnd{t C M:Int}{v:Nat}{x:Int×Int}{d:List Int}(h:Bnd M d)(h0:0≤x.2*t)(h1:x.2*t≤C)(hv:v<d.length)(hu:x.1.toNat<d.length):Bnd (M+2*C) (pay t v d x):=by
  intro i
  unfold pay
  rw [ycQ (by simpa using hu)]
  have hi:=h i
  have hv':=h v
  have hu':=h x.1.toNat
  split
  · rw [ycQ hv];split <;> omega
  · rw [ycQ hv];split <;> omega
def bigAt(d s:List Int)(j:Nat):Bool:=decide (2097152<gi d j∨2097152 < -gi d j∨2097152<gi s j∨2097152 < -gi s j)
def yic(d s:List Int)(e:Int):Nat→Int
  | 0=>e
  | j+1=>if bigAt d s j=true∧yic d s e j=0 then 11 else yic d s e j
theorem mxF4_gt(a b c d L:Int):L<mxF4 a b c d↔L<a∨L<b∨L<c∨L<d:=by
  unfold mxF4 mxF
  split <;> split <;> split <;> omega
def FirePost(X gd gs n:Nat)(A:Option Addr)(es:List E3)(cap cd cs:Nat)(q:Int)(d s:List Int)(e:Int)(inn:List Bool)(t:Int)(w w':World):Prop :=
  yfO w' X gd gs n A es cap cd cs q (ycB es inn t d n) (ycJ inn t s n) (yic (ycB es inn t d n) (ycJ inn t s n) e n)∧Keeps (fun j=>j=gd∨j=gs∨j=X) w w'
theorem fire_any(X gd gs Gin n ci:Nat)(A:Option Addr)(es:List E3)(cap cd cs:Nat)(q:Int)(d s:List Int)(e t:Int)(inn:List Bool)(w:World)(hS:yfO w X gd gs n A es cap cd cs q d s e)(hes:ydB w A es)
    (heg:∀ b off,A=some ⟨b,off,none⟩→0<es.length→b≠gd∧b≠gs∧b≠X) (hin:BRow w Gin 4 ci inn) (hil:inn.length=n) (hn:n≤12) (hE:∀ x∈es,0≤x.1∧x.1<n∧0≤x.2.1∧x.2.1<n∧0≤x.2.2∧x.2.2≤50) (hel:es.length≤1000)
    (ht0:0≤t) (ht1:t≤2147483648) (hbd:Bnd 2147483648 d) (hbs:Bnd 2147483648 s) :
    Calls Tryz.prog 175 #[.pointer (some ⟨X,0,none⟩), .slice (some ⟨Gin,0,none⟩) n ci, .int .i64 t] w fun e' w'=>e' = .returned (.tuple #[])∧FirePost X gd gs n A es cap cd cs q d s e inn t w w':=by
  refine (ygx _ _ _ _ _ w (fun w'=>FirePost X gd gs n A es cap cd cs q d s e inn t w w') ?_)
  unfold ycU
  have hE12:ydE es:=fun x hx=>by have:=hE x hx;omega
  obtain ⟨hX,hd,hs,hne,hdl,hsl⟩:=hS
  have hXd:X≠gd:=hX.ne_ hd (by decide)
  have hXs:X≠gs:=hX.ne_ hs (by decide)
  have hGd:Gin≠gd:=Row.ne_ hin hd (by decide)
  have hGs:Gin≠gs:=Row.ne_ hin hs (by decide)
  have lX:=hX.lt
  have ld:=Row.lt hd
  have ls:=Row.lt hs
  intro g w2 hN1 g2 w3 hN2
  have ag:=hN1.at_
  have sg:=hN1.size
  have ag2:=hN2.at_
  have sg2:=hN2.size
  have K3:Keeps (fun j=>j=gd∨j=gs) w w3:=(hN1.keeps _).trans (hN2.keeps _)
  have hS3:yfO w3 X gd gs n A es cap cd cs q (ycB es inn t d 0) (ycJ inn t s 0) e:=⟨hN2.row_ (hN1.row_ hX),hN2.row_ (hN1.row_ hd),hN2.row_ (hN1.row_ hs),hne,hdl,hsl⟩
  refine ⟨fun m i w4=>∃ k:Nat,m=n-k∧k≤n∧i=(k:Int)∧yfO w4 X gd gs n A es cap cd cs q (ycB es inn t d k) (ycJ inn t s k) e∧Keeps (fun j=>j=gd∨j=gs) w w4∧g2<w4.heap.size∧Bnd (2147483648*(1+(k:Int)*100000)) (ycB es inn t d k),⟨n,0,rfl,Nat.zero_le _,rfl,hS3,K3,by omega,by intro i;have:=hbd i;simp only [ycB];omega⟩,?_⟩
  clear hS3 K3
  rintro m i w4 ⟨k,rfl,hk,rfl,⟨hX4,hd4,hs4,_,hdl4,hsl4⟩,K4,hsz4,hbk⟩
  have hin4:BRow w4 Gin 4 ci inn:=K4.row hin (by omega)
  have lX4:=hX4.lt
  have ld4:=Row.lt hd4
  have ls4:=Row.lt hs4
  refine ⟨fun hlt=>?_,fun hge=>?_⟩
  · refine ⟨ybt (by omega) hlt,gb inn k,by simpa using bld hin4 (i:=(k:Int)) (by omega) (by omega),fun g3 w5 hN3=>?_⟩
    have ag3:=hN3.at_
    have sg3:=hN3.size
    refine ⟨by omega,by omega,fun w6 e6=>?_⟩
    have K6:Keeps (fun j=>j=gd∨j=gs) w w6:=by
      rw [e6];exact (K4.trans (hN3.keeps _)).setCell (fun h=>absurd h (by have:=K4.size;simp;omega)) _
    have s6:w6.heap.size=w5.heap.size:=by rw [e6];simp [World.setCell]
    have far6:∀ {k':Nat} {e':TypeId} {sz:Nat} {xs:List Value},k'≠g3→Row w4 k' e' sz xs→Row w6 k' e' sz xs:=fun hne' hr=>by
      rw [e6];exact (hN3.row_ hr).far (by simpa using hne') _
    have hX6:=far6 (by omega) hX4
    have hd6:IRow w6 gd _ _ _:=far6 (by omega) hd4
    have hs6:IRow w6 gs _ _ _:=far6 (by omega) hs4
    refine ⟨fun hb=>?_,fun hb=>?_⟩
    · refine ⟨_,_,_,hX6.at_ 4 rfl,ybt (by omega) (by omega),_,ild hs6 (i:=(k:Int)) (by omega) (by omega),?_,ybt (by omega) (by omega),iwr hs6 (by omega) (by omega),by rw [ybH];simp;omega,by rw [ybH];simp;omega,by rw [ybH];simp;omega,fun w7 e7=>?_⟩
      · have:=hbs k
        have h9:=yi3 inn t s k k (by omega)
        rw [if_neg (by omega)] at h9
        simp only [Int.toNat_natCast]
        rw [h9];exact in64 (by omega)
      have hs7:IRow w7 gs 3 cs (ycJ inn t s (k+1)):=by
        have:=ist hs6.drew (k:Int) (gi (ycJ inn t s k) (k:Int).toNat+t)
        rw [e7,ycJ,if_pos hb];simpa using this
      have far7:∀ {k':Nat} {e':TypeId} {sz:Nat} {xs:List Value},k'≠gs→Row w6 k' e' sz xs→Row w7 k' e' sz xs:=fun hne' hr=>by
        rw [e7];exact Row.far_ hr.drew hne' _ _
      have hX7:=far7 hXs hX6
      have hd7:=far7 hne hd6
      have K7:Keeps (fun j=>j=gd∨j=gs) w w7:=by rw [e7];exact K6.drew.set_ (.inr rfl) _ _
      have s7:w7.heap.size=w6.heap.size:=by rw [e7];simp [World.setCell]
      refine (links_pure X (k:Int) w7).mono ?_
      rintro _ w8 ⟨bx,bv,rfl,hbx,hbv,rbx,rbv,hp8⟩
      have s8:=hp8.size
      have K8:Keeps (fun j=>j=gd∨j=gs) w w8:=Pure.after K7 hp8
      have hX8:=hp8.row hX7 id
      have hd8:=hp8.row hd7 id
      have hs8:=hp8.row hs7 id
      have hes8:ydB w8 A es:=hes.keepL K8 (fun b off h h0=>by have:=heg b off h h0;omega)
      have lbx:=rbx.lt
      have lbv:=rbv.lt
      refine ⟨_,rfl,hp8.kp id,hp8.kp id,hp8.kp id,Keeps.kpm_pure hp8,?_⟩
      refine ⟨yiq es (k:Int),encL es (k:Int),_,_,es.length,fun pre W=>IRow W gd 3 cd (yez t k (pre.map (·.1)) (ycB es inn t d k))∧Bnd (2147483648*(1+(k:Int)*100000+(pre.length:Int)*100)) (yez t k (pre.map (·.1)) (ycB es inn t d k))∧Keeps (fun j=>j=gd) w8 W,
        links_iter X A es cap (k:Int) bx bv w8 rbx rbv (Row.cell hX8 (i:=1) rfl) hes8 hE12 (by omega) (by omega) (by omega),fun _=>rfl,?_,⟨hd8,by simpa [yez] using hbk,Keeps.refl _ _⟩,?_,?_,?_⟩
      · exact stays_of fun pre W W' row h hg hr=>⟨Row.owned h.1 hg (fun r e=>(hr r e).2),h.2.1,h.2.2.owned hg (Nat.le_refl _) (fun r e=>(hr r e).1)⟩
      · intro pr W h
        exact ⟨h.2.2.kp (by omega),h.2.2.kp (by omega),h.2.2.kp (by omega),trivial⟩
      · rintro pre el w9 ⟨rd9,hb9,K9⟩ hlen
        obtain ⟨eg,heg',hlk⟩:=el.2
        have hxx:0≤el.1.1∧el.1.1<n∧0≤el.1.2∧el.1.2≤50:=by
          have h2:=hE eg heg'
          unfold link at hlk
          split at hlk
          · rename_i hc
            simp only [Option.some.injEq] at hlk
            rw [←hlk]
            omega
          · cases hlk
        obtain ⟨u1,u2,u3,u4⟩:=hxx
        have hmt0:0≤el.1.2*t:=Int.mul_nonneg u3 ht0
        have hmt1:el.1.2*t≤50*2147483648:=Int.mul_le_mul u4 ht1 ht0 (by omega)
        have hX9:=K9.row hX8 hXd
        obtain ⟨dd,hdd⟩:∃ dd,dd=yez t k (pre.map (·.1)) (ycB es inn t d k):=⟨_,rfl⟩
        have hdlen:dd.length=n:=by rw [hdd,yhP,ybL];exact hdl
        rw [←hdd] at rd9 hb9
        have hpl:pre.length≤1000:=by omega
        refine ⟨el.1.1,el.1.2,rfl,_,_,_,hX9.at_ 3 rfl,ybt (by omega) (by omega),_,ild rd9 (i:=(k:Int)) (by omega) (by omega),in64 (by omega),?_,ybt (by omega) (by omega),iwr (Row.drew rd9) (by omega) (by omega),by rw [ybH];simp;omega,by rw [ybH];simp;omega,by rw [ybH];simp;omega,fun w11 e11=>?_⟩
        · have:=hb9 (k:Int).toNat
          exact in64 (by omega)
        have rd11:IRow w11 gd 3 cd (dd.set k (gi dd k-el.1.2*t)):=by
          have:=ist (Row.drew rd9) (k:Int) (gi dd (k:Int).toNat-el.1.2*t)
          rw [e11];simpa using this
        have far11:∀ {k':Nat} {e':TypeId} {sz:Nat} {xs:List Value},k'≠gd→Row w9 k' e' sz xs→Row w11 k' e' sz xs:=fun hne' hr=>by
          rw [e11];exact Row.far_ hr.drew hne' _ _
        have hX11:=far11 hXd hX9
        have K11:Keeps (fun j=>j=gd) w8 w11:=by rw [e11];exact K9.drew.set_ rfl _ _
        have ko11:KeepsOthers w9 w11:=by rw [e11];exact (KeepsOthers.drew w9).trans (KeepsOthers.setCell _ _ _)
        have kd11:Keeps (fun j=>j=gd) w9 w11:=by rw [e11];exact ((Keeps.refl (fun j=>j=gd) w9).drew).set_ rfl _ _
        refine ⟨_,_,_,hX11.at_ 3 rfl,ybt (by omega) (by omega),_,ild rd11 (i:=el.1.1) (by omega) (by simp;omega),in64 (by omega),?_,ybt (by omega) (by omega),iwr (Row.drew rd11) (by omega) (by simp;omega),by rw [ybH];simp;omega,by rw [ybH];simp;omega,by rw [ybH];simp;omega,fun w12 e12=>?_⟩
        · have h1:=hb9 el.1.1.toNat
          have h2:=hb9 k
          rw [ycQ (by omega)]
          split <;> exact in64 (by omega)
        have rd12:IRow w12 gd 3 cd (pay t k dd el.1):=by
          have:=ist (Row.drew rd11) el.1.1 (gi (dd.set k (gi dd k-el.1.2*t)) el.1.1.toNat+el.1.2*t)
          rw [e12];exact this
        have kd12:Keeps (fun j=>j=gd) w9 w12:=by rw [e12];exact kd11.drew.set_ rfl _ _
        have hpa:yez t k ((pre++[el]).map (·.1)) (ycB es inn t d k)=pay t k dd el.1:=by rw [List.map_append,List.map_singleton,payAll_snoc,←hdd]
        refine ⟨?_,?_,?_,?_,?_⟩
        · rw [e12];exact ko11.trans ((KeepsOthers.drew w11).trans (KeepsOthers.setCell _ _ _))
        · intro j hj
          have h5:=K9.size
          refine kd12.block j ?_ ?_
          · rcases hj with rfl | ⟨h0,a,ha,rfl⟩
            · omega
            · obtain ⟨b,off,hA,hb,_⟩:=hes8 h0
              rw [hA] at ha;cases ha;simp;omega
          · rcases hj with rfl | ⟨h0,a,ha,rfl⟩
            · omega
            · obtain ⟨b,off,hA,hb,_⟩:=hes8 h0
              rw [hA] at ha;cases ha
              have:=heg b off hA (List.length_pos_of_mem heg');simp;omega
        · rw [hpa];exact rd12
        · rw [hpa]
          have h6:=pay_bnd (C:=50*2147483648) hb9 hmt0 hmt1 (by omega:k<dd.length) (by omega:el.1.1.toNat<dd.length)
          intro i
          have h7:=h6 i
          have h8:(((pre++[el]).length:Nat):Int)=(pre.length:Int)+1:=by rw [List.length_append];rfl
          rw [h8]
          omega
        · rw [e12];exact K11.drew.set_ rfl _ _
      · rintro xs w10 hxs ⟨rd10,hb10,K10⟩
        have hDE:ycB es inn t d (k+1)=yez t k (xs.map (·.1)) (ycB es inn t d k):=by rw [ycB,if_pos hb,hxs]
        have hxl:xs.length≤es.length:=by
          have h:=congrArg List.length hxs
          rw [List.length_map] at h
          rw [h]
          exact List.length_filterMap_le _ _
        refine ⟨K10.kpm (fun j hj o ho=>by subst hj;exact Row.cells_ hd8 o ho),in64 (by omega),n-(k+1),by omega,k+1,rfl,by omega,by omega,⟨by have:=K10.row hX8 hXd;rw [ybL,yb7] at this ⊢;exact this,by rw [hDE];exact rd10,K10.row hs8 (Ne.symm hne),hne,by rw [ybL];exact hdl,by rw [yb7];exact hsl⟩,K8.trans (K10.mono (fun _ _ h => .inl h)),by have:=K10.size;omega,?_⟩
        rw [hDE]
        intro i
        have:=hb10 i
        omega
    · refine ⟨in64 (by omega),n-(k+1),by omega,k+1,rfl,by omega,by omega,⟨by rw [ycB,if_neg hb,ycJ,if_neg hb];exact hX6,by rw [ycB,if_neg hb];exact hd6,by rw [ycJ,if_neg hb];exact hs6,hne,by rw [ybL];exact hdl,by rw [yb7];exact hsl⟩,K6,by omega,?_⟩
      rw [ycB,if_neg hb];intro i;have:=hbk i;omega
  · obtain rfl:k=n:=by omega
    obtain ⟨D,hD⟩:∃ D,D=ycB es inn t d k:=⟨_,rfl⟩
    obtain ⟨S,hSS⟩:∃ S,S=ycJ inn t s k:=⟨_,rfl⟩
    have hDl:D.length=k:=by rw [hD,ybL];exact hdl
    have hSl:S.length=k:=by rw [hSS,yb7];exact hsl
    have hbS:Bnd 4294967296 S:=by
      intro i
      rw [hSS,yi3 inn t s k i (by omega)]
      have:=hbs i
      split <;> omega
    unfold FirePost
    rw [←hD] at hX4 hd4 hbk ⊢
    rw [←hSS] at hX4 hs4 ⊢
    refine ⟨_,_,_,hX4.at_ 3 rfl,?_⟩
    refine ⟨fun m i w13=>∃ j:Nat,m=k-j∧j≤k∧i=(j:Int)∧yfO w13 X gd gs k A es cap cd cs q D S (yic D S e j)∧Keeps (fun j=>j=gd∨j=gs∨j=X) w w13,⟨k,0,rfl,Nat.zero_le _,rfl,⟨hX4,hd4,hs4,hne,hDl,hSl⟩,K4.mono (fun _ _ h=>by rcases h with h | h;exact .inl h;exact .inr (.inl h))⟩,?_⟩
    rintro m i w13 ⟨j,rfl,hj,rfl,⟨hX5,hd5,hs5,_,_,_⟩,K5⟩
    refine ⟨fun hlt=>?_,fun hge=>?_⟩
    · have hb1:=hbk j
      have hb2:=hbS j
      have e1:=fun h0 h1=>ild (Row.drew hd5) (i:=(j:Int)) h0 h1
      have e2:=fun h0 h1=>ild (Row.drew hs5) (i:=(j:Int)) h0 h1
      simp only [Int.toNat_natCast] at e1 e2
      refine ⟨_,_,_,hX5.drew.at_ 3 rfl,ybt (by omega) (by omega),_,e1 (by omega) (by omega),_,_,_,hX5.drew.at_ 3 rfl,ybt (by omega) (by omega),_,e1 (by omega) (by omega),in64 (by omega),_,_,_,hX5.drew.at_ 4 rfl,ybt (by omega) (by omega),_,e2 (by omega) (by omega),_,_,_,hX5.drew.at_ 4 rfl,ybt (by omega) (by omega),_,e2 (by omega) (by omega),in64 (by omega),fun hbig=>?_,fun hbig=>?_⟩
      · have hba:bigAt D S j=true:=by rw [mxF4_gt] at hbig;unfold bigAt;simpa using hbig
        refine ⟨_,hX5.drew.at_ 5 rfl,fun he=>?_,fun he=>?_⟩
        · have K13:=K5.size
          refine ⟨hX5.drew.wr_ 5 (by simp),by simp [ycD];omega,by simp [ycD];omega,fun w14 e14=>⟨in64 (by omega),k-(j+1),by omega,j+1,rfl,by omega,by omega,?_,?_⟩⟩
          · rw [e14,ycD,yic,if_pos ⟨hba,he⟩]
            exact ⟨hX5.drew.set_ 5 _,Row.far (Row.drew hd5) (by simp;omega) _,Row.far (Row.drew hs5) (by simp;omega) _,hne,hDl,hSl⟩
          · rw [e14,ycD];exact K5.drew.setCell (fun _ => .inr (.inr rfl)) _
        · refine ⟨in64 (by omega),k-(j+1),by omega,j+1,rfl,by omega,by omega,?_,K5.drew⟩
          rw [yic,if_neg (fun h=>he h.2)]
          exact ⟨hX5.drew,Row.drew hd5,Row.drew hs5,hne,hDl,hSl⟩
      · have hba:¬bigAt D S j=true:=by rw [mxF4_gt] at hbig;unfold bigAt;simpa using hbig
        refine ⟨in64 (by omega),k-(j+1),by omega,j+1,rfl,by omega,by omega,?_,K5.drew⟩
        rw [yic,if_neg (fun h=>hba h.1)]
        exact ⟨hX5.drew,Row.drew hd5,Row.drew hs5,hne,hDl,hSl⟩
    · obtain rfl:j=k:=by omega
      intro wz ha
      exact ⟨⟨ha.row hX5,ha.row hd5,ha.row hs5,hne,hDl,hSl⟩,ha.keeps K5⟩
def yby(es:List E3)(left:List Bool)(d:List Int):Nat→Int
  | 0=>0
  | k+1=>if gb left k=true∧0<yaQ es (k:Int) (fun u=>!gb left u.toNat) then
      (if yby es left d k=0∨(gi d k).tdiv (yaQ es (k:Int) (fun u=>!gb left u.toNat))<yby es left d k then (gi d k).tdiv (yaQ es (k:Int) (fun u=>!gb left u.toNat)) else yby es left d k)
    else yby es left d k
structure Burns(n:Nat)(es:List E3)(q:Nat)(d:List Int)(burnt:List Bool):Prop where
  len:burnt.length=n
  at_q:gb burnt q=true
  closed:Closed n es d burnt
  forced:yiu n es q d burnt
def leftOf(burnt:List Bool):List Bool:=burnt.map (!·)
theorem settle1_any(B g n c:Nat)(left:List Bool)(u:Nat)(w:World)(hB:Row w B 160 1 [.slice (some ⟨g,0,none⟩) n c])(hg:BRow w g 4 c left)(hl:left.length=n)(hu:u<n) :
    Calls Tryz.prog 180 #[.int .i64 (u:Int), .pointer (some ⟨B,0,none⟩)] w fun e w'=>e = .returned (.bool (!gb left u))∧w=w':=by
  refine (yfr (u:Int) ⟨B,0,none⟩ w (fun r w'=>r=(!gb left u)∧w=w') ?_).mono ?_
  · unfold yb8
    have:=bld hg (i:=(u:Int)) (by omega) (by omega)
    exact ⟨_,_,_,Row.cell hB (i:=0) rfl,ybt (by omega) (by omega),gb left u,by simpa using this,rfl,rfl⟩
  · rintro e w' ⟨r,rfl,rfl,rfl⟩;exact ⟨rfl,rfl⟩
def SettlePost(Good:Nat→List Int→List Int→Int→Prop)(X gd gs n:Nat)(A:Option Addr)(es:List E3)(cap cd cs q:Nat)(w w':World):Prop :=
  ∃ m d s e,Good m d s e∧yfO w' X gd gs n A es cap cd cs q d s e∧(e≠0∨∃ burnt,Burns n es q d burnt∧(leftOf burnt).any id=false)∧Keeps (fun j=>j=gd∨j=gs∨j=X) w w'
theorem settle_any(Good:Nat→List Int→List Int→Int→Prop)(X gd gs n:Nat)(A:Option Addr)(es:List E3)(cap cd cs q:Nat)(m:Nat)(d s:List Int)(e:Int)(w:World)(hS:yfO w X gd gs n A es cap cd cs q d s e)(hes:ydB w A es)
    (heg:∀ b off,A=some ⟨b,off,none⟩→0<es.length→b≠gd∧b≠gs∧b≠X) (hq:q<n) (hn:n≤12) (hE:∀ x∈es,0≤x.1∧x.1<n∧0≤x.2.1∧x.2.1<n∧0≤x.2.2∧x.2.2≤50) (hel:es.length≤1000)
    (hG0:Good m d s e)
    (hG:∀ m d s e,Good m d s e→Bnd 2147483648 d∧Bnd 2147483648 s)
    (hG2:∀ m d s burnt,Good m d s 0→d.length=n→s.length=n→Burns n es q d burnt→(leftOf burnt).any id=true →
      0≤yby es (leftOf burnt) d n∧yby es (leftOf burnt) d n≤2147483648∧(∀ v,v<n→gb (leftOf burnt) v=true→0≤gi d v) ∧
      ∃ m',m'<m∧Good m' (ycB es (leftOf burnt) (yby es (leftOf burnt) d n) d n) (ycJ (leftOf burnt) (yby es (leftOf burnt) d n) s n)
        (yic (ycB es (leftOf burnt) (yby es (leftOf burnt) d n) d n) (ycJ (leftOf burnt) (yby es (leftOf burnt) d n) s n) 0 n)) :
    Calls Tryz.prog 165 #[.pointer (some ⟨X,0,none⟩)] w fun e' w'=>e' = .returned (.tuple #[])∧SettlePost Good X gd gs n A es cap cd cs q w w':=by
  refine yfS _ w (SettlePost Good X gd gs n A es cap cd cs q w) ?_
  unfold ycs
  have hE12:ydE es:=fun x hx=>by have:=hE x hx;omega
  refine ⟨fun m W=>∃ d s e,Good m d s e∧yfO W X gd gs n A es cap cd cs q d s e∧Keeps (fun j=>j=gd∨j=gs∨j=X) w W,⟨m,d,s,e,hG0,hS,Keeps.refl _ _⟩,?_⟩
  clear hG0 hS
  rintro m w2 ⟨d,s,e,hg,hS2,K2⟩
  obtain ⟨hX2,hd2,hs2,hne,hdl,hsl⟩:=hS2
  refine ⟨e,hX2.at_ 5 rfl,fun he=>?_,fun he=>⟨m,d,s,e,hg,⟨hX2,hd2,hs2,hne,hdl,hsl⟩, .inl he,K2⟩⟩
  subst he
  have hes2:ydB w2 A es:=hes.keepL K2 (fun b off h h0=>by have:=heg b off h h0;omega)
  refine (unburnt_any X gd gs n A es cap cd cs q d s 0 w2 ⟨hX2,hd2,hs2,hne,hdl,hsl⟩ hes2 hq hn hE hel).mono ?_
  rintro _ w3 ⟨gl,left,rfl,hgl,hl3,hll,hp3,burnt,b1,b2,b3,b4,b5⟩
  have hb:Burns n es q d burnt:=⟨b1,b3,b4,b5⟩
  have hlo:left=leftOf burnt:=b2
  refine ⟨_,_,_,_,rfl,fun g w4 hN=>⟨hN.row.wr_ 0 (by simp),fun w5 e5=>?_⟩⟩
  have ag:=hN.at_
  have sg:=hN.size
  have s3:=hp3.size
  have s2:=K2.size
  have far5:∀ {k':Nat} {e':TypeId} {sz:Nat} {xs:List Value},k'≠g→Row w4 k' e' sz xs→Row w5 k' e' sz xs:=fun hne' hr=>by
    rw [e5];exact hr.far (by simpa using hne') _
  have hg5:Row w5 g 160 1 [.slice (some ⟨gl,0,none⟩) n n]:=by rw [e5];exact hN.row.set_ 0 _
  have lgl:=Row.lt hl3
  have lX:=hX2.lt
  have ld:=Row.lt hd2
  have ls:=Row.lt hs2
  have hl5:BRow w5 gl 4 n left:=far5 (by omega) (hN.row_ hl3)
  have p35:Pure w2 w5:=by
    rw [e5];exact (hp3.trans (hN.keeps _)).setCell (fun h=>absurd h (by simp;omega)) _
  have hX5:=p35.row hX2 id
  have hd5:=p35.row hd2 id
  have hs5:=p35.row hs2 id
  have hes5:=hes2.keep p35
  have K5:=Pure.after K2 p35
  refine ⟨fun hany=>?_,fun hany=>?_⟩
  · rw [hlo] at hany
    obtain ⟨t0,t1,hd0,m',hm',hg'⟩:=hG2 m d s burnt hg hdl hsl hb hany
    rw [←hlo] at t0 t1 hd0 hg'
    obtain ⟨hbd,hbs⟩:=hG m d s 0 hg
    refine ⟨_,_,_,hg5.at_ 0 rfl,?_⟩
    refine ⟨fun mm times i w6=>∃ k:Nat,mm=n-k∧k≤n∧i=(k:Int)∧times=yby es left d k∧Pure w5 w6,⟨n,0,rfl,Nat.zero_le _,rfl,rfl,Keeps.refl _ _⟩,?_⟩
    rintro mm times i w6 ⟨k,rfl,hk,rfl,rfl,p6⟩
    have hl6:=p6.row hl5 id
    refine ⟨fun hlt=>?_,fun hge=>?_⟩
    · have hkn:k<n:=by omega
      have ldk:=bld hl6 (i:=(k:Int)) (by omega) (by omega)
      simp only [Int.toNat_natCast] at ldk
      refine ⟨ybt (by omega) (by omega),gb left k,ldk,fun hb1=>?_,fun hb1=>?_⟩
      · have hg6:=p6.row hg5 id
        have hX6:=p6.row hX5 id
        refine (yjG X A es cap (k:Int) 180 #[.pointer (some ⟨g,0,none⟩)] (fun u=>!gb left u.toNat) w6 (Row.cell hX6 (i:=1) rfl) (hes5.keep p6) hE12 (fun x hx=>by have:=hE x hx;omega) (by omega) (by omega) hel enter_180 (fun u W hW hm=>?_)).mono ?_
        · obtain ⟨mu,hmu⟩:=hm
          have hr1:=ybZ hE hmu
          obtain ⟨un,rfl⟩:∃ un:Nat,u=(un:Int):=⟨u.toNat,by omega⟩
          simp only [Int.toNat_natCast]
          exact settle1_any g gl n n left un W (hW.row hg6 id) (hW.row hl6 id) hll (by omega)
        · rintro _ w7 ⟨rfl,p7⟩
          refine ⟨_,rfl,fun hpos=>?_,fun hpos=>?_⟩
          · have hX7:=p7.row hX6 id
            have hd7:=p7.row (p6.row hd5 id) id
            have ldd:=ild hd7 (i:=(k:Int)) (by omega) (by omega)
            simp only [Int.toNat_natCast] at ldd
            have h0:=hd0 k hkn hb1
            have hbk:=hbd k
            have hq1:(gi d k).tdiv (yaQ es (k:Int) (fun u=>!gb left u.toNat))=gi d k / yaQ es (k:Int) (fun u=>!gb left u.toNat):=Int.tdiv_eq_ediv_of_nonneg h0
            have hq2:0≤gi d k / yaQ es (k:Int) (fun u=>!gb left u.toNat):=Int.ediv_nonneg h0 (by omega)
            have hq3:gi d k / yaQ es (k:Int) (fun u=>!gb left u.toNat)≤gi d k:=Int.ediv_le_self _ h0
            have hstep:∀ t,yby es left d (k+1)=t↔(if yby es left d k=0∨(gi d k).tdiv (yaQ es (k:Int) (fun u=>!gb left u.toNat))<yby es left d k then (gi d k).tdiv (yaQ es (k:Int) (fun u=>!gb left u.toNat)) else yby es left d k)=t:=fun t=>by rw [yby,if_pos ⟨hb1,hpos⟩]
            refine ⟨_,_,_,hX7.at_ 3 rfl,ybt (by omega) (by omega),_,ldd,by omega,by rw [hq1];exact in64 (by omega),fun ht=>?_,fun ht=>⟨fun hlt2=>?_,fun hlt2=>?_⟩⟩
            · exact ⟨in64 (by omega),n-(k+1),by omega,k+1,rfl,by omega,by omega,((hstep _).2 (if_pos (.inl ht))).symm,p6.trans p7⟩
            · exact ⟨in64 (by omega),n-(k+1),by omega,k+1,rfl,by omega,by omega,((hstep _).2 (if_pos (.inr hlt2))).symm,p6.trans p7⟩
            · exact ⟨in64 (by omega),n-(k+1),by omega,k+1,rfl,by omega,by omega,((hstep _).2 (if_neg (fun h=>h.elim ht hlt2))).symm,p6.trans p7⟩
          · exact ⟨in64 (by omega),n-(k+1),by omega,k+1,rfl,by omega,by omega,by rw [yby,if_neg (fun h=>hpos h.2)],p6.trans p7⟩
      · exact ⟨in64 (by omega),n-(k+1),by omega,k+1,rfl,by omega,by omega,by rw [yby,if_neg (fun h=>hb1 h.1)],p6⟩
    · obtain rfl:k=n:=by omega
      have K6:=Pure.after K5 p6
      have s5:w5.heap.size=w4.heap.size:=by rw [e5];simp [World.setCell]
      refine ⟨_,_,_,(p6.row hg5 id).at_ 0 rfl,?_⟩
      refine (fire_any X gd gs gl k k A es cap cd cs q d s 0 _ left w6 ⟨p6.row hX5 id,p6.row hd5 id,p6.row hs5 id,hne,hdl,hsl⟩ (hes5.keep p6) heg hl6 hll hn hE hel t0 t1 hbd hbs).mono ?_
      rintro _ w8 ⟨rfl,hS8,K8⟩
      exact ⟨rfl,m',hm',_,_,_,hg',hS8,K6.trans K8⟩
  · exact ⟨m,d,s,0,hg,⟨hX5,hd5,hs5,hne,hdl,hsl⟩, .inr ⟨burnt,hb,by rw [←hlo];simpa using hany⟩,K5⟩
def ygm(l:List Int):Nat→Int
  | 0=>gi l 0
  | k+1=>mxF (ygm l k) (gi l k)
theorem yiT(l:List Int):∀ (k j:Nat),j<k→gi l j≤ygm l k
  | k+1,j,h=>by
    rw [ygm,mxF_eq]
    by_cases e:j=k
    · subst e;exact Int.le_max_right _ _
    · exact Int.le_trans (yiT l k j (by omega)) (Int.le_max_left _ _)
theorem yjF(l:List Int):∀ k,k≤l.length→0<l.length→∃ j,j<l.length∧ygm l k=gi l j
  | 0,_,h=>⟨0,h,rfl⟩
  | k+1,h,h0=>by
    obtain ⟨j,hj,e⟩:=yjF l k (by omega) h0
    rw [ygm]
    unfold mxF
    split
    · exact ⟨k,by omega,rfl⟩
    · exact ⟨j,hj,e⟩
theorem max_any(A:Option Addr)(l:List Int)(c:Nat)(w:World)(hl:Ints w A l)(h0:0<l.length)(hn:l.length≤1000000) :
    Calls Tryz.prog 176 #[.slice A l.length c] w fun e w'=>∃ r,e = .returned (.int .i64 r)∧r=ygm l l.length∧Pure w w':=by
  refine ok_slices_Max_ A l.length c w (fun r w'=>r=ygm l l.length∧Pure w w') ?_
  unfold yfq
  refine ⟨fun w'=>w'=w,?_,fun h=>absurd h (by omega),fun _=>rfl⟩
  intro w2 hw2
  have hw2:=hw2.symm
  subst hw2
  refine ⟨ints_ix hl rfl (by omega) (by omega),_,ints_ld hl (by omega) (by omega),fun m v i w3=>∃ k:Nat,m=l.length-k∧1≤k∧k≤l.length∧i=(k:Int)∧v=ygm l k∧Pure w w3,⟨l.length-1,1,rfl,by omega,by omega,rfl,?_,Keeps.refl _ _⟩,?_⟩
  · rw [ygm,ygm,mxF_eq];simp
  · rintro m v i w3 ⟨k,rfl,hk1,hk2,rfl,rfl,hp⟩
    refine ⟨fun hlt=>?_,fun hge=>?_⟩
    · have:=ints_ld (hl.keep hp) (i:=(k:Int)) (by omega) (by omega)
      simp only [Int.toNat_natCast] at this
      exact ⟨ints_ix hl rfl (by omega) (by omega),_,this,in64 (by omega),l.length-(k+1),by omega,k+1,rfl,by omega,by omega,by omega,rfl,hp⟩
    · obtain rfl:k=l.length:=by omega
      exact ⟨rfl,hp⟩
def yaW(o:List Int)(k:Int):List Bool:=o.map fun x=>decide (x<k)
theorem yf5{o:List Int}{k:Int}{j:Nat}(h:j<o.length):gb (yaW o k) j=decide (gi o j<k):=by
  rw [yb5 (by simpa [yaW] using h),yaN h]
  simp [yaW]
def ybw(es:List E3)(o:List Int)(k:Int)(d:List Int):Nat→Int
  | 0=>0
  | j+1=>if gi o j=k∧gi d j<0 then mxF (ybw es o k d j) ((-gi d j+yaQ es (j:Int) (fun u=>gb (yaW o k) u.toNat)-1).tdiv (yaQ es (j:Int) (fun u=>gb (yaW o k) u.toNat))) else ybw es o k d j
theorem addF_pos{p:Int→Bool}{l:List (Int×Int)}(h:∀ q∈l,0≤q.2){x:Int×Int}(hx:x∈l)(hp:p x.1=true)(hx1:1≤x.2):1≤addF p l:=by
  suffices H:∀ (l:List (Int×Int)) (a:Int),(∀ q∈l,0≤q.2)→a≤l.foldl (fun n x=>if p x.1 then n+x.2 else n) a∧(x∈l→a+1≤l.foldl (fun n x=>if p x.1 then n+x.2 else n) a) by
    have:=(H l 0 h).2 hx
    unfold addF;omega
  intro l
  induction l with
  | nil=>intro a _;simp
  | cons y l ih =>
    intro a h
    have h1:=ih (if p y.1 then a+y.2 else a) (fun q hq=>h q (by simp [hq]))
    have hy:=h y (by simp)
    rw [List.foldl_cons]
    refine ⟨?_,fun hm=>?_⟩
    · split at h1 <;> rename_i hpy <;> simp only [hpy] at h1 ⊢ <;> simp at h1 ⊢ <;> omega
    · rcases List.mem_cons.1 hm with rfl | hm
      · rw [if_pos hp] at h1 ⊢;omega
      · have h2:=h1.2 hm
        split at h2 <;> rename_i hpy <;> simp only [hpy] at h2 ⊢ <;> simp at h2 ⊢ <;> omega
theorem near_pos{n:Nat}{es:List E3}{q:Nat}{o:List Int}(hD:Dist n es q o)(hE1:∀ x∈es,1≤x.2.2){v k:Nat}(hv:v<n)(hk:gi o v=(k:Int)+1):1≤yaQ es (v:Int) (fun u=>gb (yaW o ((k:Int)+1)) u.toNat):=by
  obtain ⟨u,hu,⟨m,hm⟩,ho⟩:=hD.par v hv (by omega)
  have hpos:∀ p∈ycr es (v:Int),1≤p.2:=fun p hp=>by
    obtain ⟨x,hx,_,_,_,h4⟩:=(ybV (u:=p.1) (m:=p.2)).1 hp
    rw [h4];exact hE1 x hx
  refine addF_pos (fun p hp=>by have:=hpos p hp;omega) hm ?_ (hpos _ hm)
  simp only [Int.toNat_natCast]
  rw [yf5 (by rw [hD.len];exact hu)]
  simp;omega
theorem lend1_any(B g n c:Nat)(l:List Bool)(u:Nat)(w:World)(hB:Row w B 160 1 [.slice (some ⟨g,0,none⟩) n c])(hg:BRow w g 4 c l)(hl:l.length=n)(hu:u<n) :
    Calls Tryz.prog 178 #[.int .i64 (u:Int), .pointer (some ⟨B,0,none⟩)] w fun e w'=>e = .returned (.bool (gb l u))∧w=w':=by
  refine (ygb (u:Int) ⟨B,0,none⟩ w (fun r w'=>r=gb l u∧w=w') ?_).mono ?_
  · unfold ycx
    have:=bld hg (i:=(u:Int)) (by omega) (by omega)
    exact ⟨_,_,_,Row.cell hB (i:=0) rfl,ybt (by omega) (by omega),gb l u,by simpa using this,rfl,rfl⟩
  · rintro e w' ⟨r,rfl,rfl,rfl⟩;exact ⟨rfl,rfl⟩
def LendPost(Good:List Int→Nat→List Int→List Int→Int→Prop)(X gd gs n:Nat)(A:Option Addr)(es:List E3)(cap cd cs q:Nat)(w w':World):Prop :=
  ∃ o k d s e,Dist n es q o∧Good o k d s e∧yfO w' X gd gs n A es cap cd cs q d s e∧(k=0∨e≠0)∧Keeps (fun j=>j=gd∨j=gs∨j=X) w w'
theorem lend_any(Good:List Int→Nat→List Int→List Int→Int→Prop)(X gd gs n:Nat)(A:Option Addr)(es:List E3)(cap cd cs q:Nat)(d s:List Int)(e:Int)(w:World)(hS:yfO w X gd gs n A es cap cd cs q d s e)(hes:ydB w A es)
    (heg:∀ b off,A=some ⟨b,off,none⟩→0<es.length→b≠gd∧b≠gs∧b≠X) (hq:q<n) (hn:n≤12) (hE:∀ x∈es,0≤x.1∧x.1<n∧0≤x.2.1∧x.2.1<n∧0≤x.2.2∧x.2.2≤50) (hE1:∀ x∈es,1≤x.2.2) (hel:es.length≤1000)
    (hG0:∀ o,Dist n es q o→Good o (ygm o n).toNat d s e)
    (hG:∀ o k d s e,Good o k d s e→Bnd 2147483647 d∧Bnd 2147483648 s)
    (hG2:∀ o k d s,Dist n es q o→Good o (k+1) d s 0→d.length=n→s.length=n→ybw es o ((k:Int)+1) d n≤2147483648 ∧
      (0<ybw es o ((k:Int)+1) d n→Good o k (ycB es (yaW o ((k:Int)+1)) (ybw es o ((k:Int)+1) d n) d n) (ycJ (yaW o ((k:Int)+1)) (ybw es o ((k:Int)+1) d n) s n)
        (yic (ycB es (yaW o ((k:Int)+1)) (ybw es o ((k:Int)+1) d n) d n) (ycJ (yaW o ((k:Int)+1)) (ybw es o ((k:Int)+1) d n) s n) 0 n)) ∧
      (¬0<ybw es o ((k:Int)+1) d n→Good o k d s 0)) :
    Calls Tryz.prog 164 #[.pointer (some ⟨X,0,none⟩)] w fun e' w'=>e' = .returned (.tuple #[])∧LendPost Good X gd gs n A es cap cd cs q w w':=by
  refine ygP _ w (LendPost Good X gd gs n A es cap cd cs q w) ?_
  unfold ycR
  have hE12:ydE es:=fun x hx=>by have:=hE x hx;omega
  refine (distances_any X gd gs n A es cap cd cs q d s e w hS hes hq hn hE hel).mono ?_
  rintro _ w2 ⟨Ao,lo,co,rfl,go,o,rfl,hlo,hco,hgo,ho2,hD,p2⟩
  have hlo:=hlo.symm
  have hco:=hco.symm
  subst hlo
  subst hco
  have hol:=hD.len
  have hmx:=max_any (some ⟨go,0,none⟩) o n w2 (IRow.ints ho2) (by omega) (by omega)
  rw [hol] at hmx
  refine ⟨_,_,_,rfl,hmx.mono ?_⟩
  clear hmx
  rintro _ w3 ⟨r,rfl,hr,p3⟩
  have hr0:0≤r:=by
    have:=yiT o n q hq
    rw [hD.q0] at this;omega
  have hrn:r≤(n:Int)-1:=by
    obtain ⟨j,hj,hjr⟩:=yjF o n (by omega) (by omega)
    rw [hr,hjr];exact hD.high j
  have hp3:Pure w w3:=p2.trans p3
  refine ⟨r,rfl,fun m i w4=>∃ k d s e,m=k∧i=(k:Int)∧k≤12∧Good o k d s e∧yfO w4 X gd gs n A es cap cd cs q d s e∧Keeps (fun j=>j=gd∨j=gs∨j=X) w3 w4,⟨r.toNat,r.toNat,d,s,e,rfl,by omega,by omega,by rw [hr];exact hG0 o hD,⟨hp3.row hS.1 id,hp3.row hS.2.1 id,hp3.row hS.2.2.1 id,hS.2.2.2⟩,Keeps.refl _ _⟩,?_⟩
  have hS0:=hS
  clear hG0 hS
  have hes3:=hes.keep hp3
  have ho3:=p3.row ho2 id
  have lgo:=Row.lt ho3
  have lX0:=hS0.1.lt
  have ld0:=Row.lt hS0.2.1
  have ls0:=Row.lt hS0.2.2.1
  rintro m i w4 ⟨k,d,s,e,hmk,rfl,hk12,hg,hS4,K4⟩
  have hmk:=hmk.symm
  subst hmk
  have hX4:=hS4.1
  have hS4':=hS4
  obtain ⟨_,hd4,hs4,hne,hdl,hsl⟩:=hS4'
  refine ⟨fun w'=>w'=w4∧0<k∧e=0,?_,fun hpos=>⟨e,hX4.at_ 5 rfl,fun he=>⟨rfl,by omega,he⟩,fun he=>⟨o,k,d,s,e,hD,hg,hS4, .inr he,Pure.to hp3 |>.trans K4⟩⟩,fun hpos=>⟨o,k,d,s,e,hD,hg,hS4, .inl (by omega),Pure.to hp3 |>.trans K4⟩⟩
  rintro w5 ⟨hw5,hk0,he0⟩
  have hw5:=hw5.symm
  subst hw5
  subst he0
  obtain ⟨k,rfl⟩:∃ k',k=k'+1:=⟨k-1,by omega⟩
  have ho4:IRow w4 go 3 n o:=K4.row ho3 (by omega)
  obtain ⟨ht1,hgy,hgn⟩:=hG2 o k d s hD hg hdl hsl
  obtain ⟨hbd,hbs⟩:=hG o (k+1) d s 0 hg
  have hkc:((k+1:Nat):Int)=(k:Int)+1:=by omega
  rw [hkc]
  refine ⟨n,by rw [yhK,ycD];exact Row.cell hX4 (i:=0) rfl,by omega,fun g w6 hN g2 w7 hN2=>⟨hN2.row.wr_ 0 (by simp),fun w8 e8=>?_⟩⟩
  have a1:=hN.at_
  have s1:=hN.size
  have a2:=hN2.at_
  have s2:=hN2.size
  have s8:w8.heap.size=w7.heap.size:=by rw [e8];simp [World.setCell]
  have far8:∀ {k':Nat} {e':TypeId} {sz:Nat} {xs:List Value},k'≠g2→Row w7 k' e' sz xs→Row w8 k' e' sz xs:=fun hne' hr=>by
    rw [e8];exact hr.far (by simpa using hne') _
  have hg6:BRow w6 g 4 n (List.replicate n false):=by
    have:=hN.row
    simpa [BRow] using this
  have hg8:BRow w8 g 4 n (List.replicate n false):=far8 (by omega) (hN2.row_ hg6)
  have hv8:Row w8 g2 160 1 [.slice (some ⟨g,0,none⟩) n n]:=by rw [e8];simpa using hN2.row.set_ 0 (.slice (some ⟨g,0,none⟩) n n)
  have p8:Pure w4 w8:=by rw [e8];exact ((hN.keeps _).trans (hN2.keeps _)).setCell (fun h=>absurd h (by simp;omega)) _
  refine ⟨_,_,_,Row.cell hv8 (i:=0) rfl,?_⟩
  refine ⟨fun mm i2 w9=>∃ (j:Nat) (l:List Bool),mm=n-j∧j≤n∧i2=(j:Int)∧l.length=n∧(∀ x,x<j→gb l x=decide (gi o x<(k:Int)+1))∧BRow w9 g 4 n l∧Row w9 g2 160 1 [.slice (some ⟨g,0,none⟩) n n]∧Pure w4 w9,⟨n,0,_,rfl,by omega,rfl,by simp,fun x hx=>absurd hx (by omega),hg8,hv8,p8⟩,?_⟩
  rintro mm i2 w9 ⟨j,l,rfl,hj,rfl,hll,hlf,hg9,hv9,p9⟩
  refine ⟨fun hlt=>?_,fun hge=>?_⟩
  · have ho9:=(p9.row ho4 id).drew
    have ldo:=ild ho9 (i:=(j:Int)) (by omega) (by omega)
    simp only [Int.toNat_natCast] at ldo
    refine ⟨_,_,_,Row.cell hv9.drew (i:=0) rfl,ybt (by omega) (by omega),_,ldo,ybt (by omega) (by omega),bwr (Row.drew hg9) (by omega) (by omega),fun w10 e10=>⟨in64 (by omega),n-(j+1),by omega,j+1,l.set j (decide (gi o j<(k:Int)+1)),rfl,by omega,by omega,by simpa using hll,fun x hx=>?_,?_,?_,?_⟩⟩
    · rw [yeA (by omega)]
      split
      · rename_i hxe;rw [hxe]
      · exact hlf x (by omega)
    · rw [e10];simpa using bst (Row.drew hg9) (j:Int) (decide (gi o j<(k:Int)+1))
    · rw [e10];exact Row.far_ hv9.drew (by omega) _ _
    · rw [e10,ybH];exact p9.drew.setCell (fun h=>absurd h (by simp;omega)) _
  · obtain rfl:j=n:=by omega
    have hln:l=yaW o ((k:Int)+1):=gb_ext (by rw [hll];simp [yaW,hol]) (fun x hx=>by rw [hlf x (by omega),yf5 (by omega)])
    subst hln
    refine ⟨fun mm t i4 w11=>∃ x:Nat,mm=j-x∧x≤j∧i4=(x:Int)∧t=ybw es o ((k:Int)+1) d x∧0≤t∧Pure w9 w11,⟨j,0,rfl,by omega,rfl,rfl,by omega,Keeps.refl _ _⟩,?_⟩
    rintro mm t i4 w11 ⟨x,rfl,hx,rfl,rfl,ht0,p11⟩
    have p411:=p9.trans p11
    have ho11:=p411.row ho4 id
    have hX11:=p411.row hX4 id
    have hd11:=p411.row hd4 id
    have hs11:=p411.row hs4 id
    have hes11:ydB w11 A es:=(hes3.keepL K4 (fun b off h h0=>by have:=heg b off h h0;omega)).keep p411
    refine ⟨fun hlt=>?_,fun hge=>?_⟩
    · have ldo:=ild ho11 (i:=(x:Int)) (by omega) (by omega)
      have ldd:=ild hd11 (i:=(x:Int)) (by omega) (by omega)
      simp only [Int.toNat_natCast] at ldo ldd
      refine ⟨ybt (by omega) (by omega),_,ldo,fun w'=>w'=w11∧gi o x=(k:Int)+1∧gi d x<0,?_,fun h1=>⟨_,_,_,hX11.at_ 3 rfl,ybt (by omega) (by omega),_,ldd,fun h2=>⟨rfl,h1,h2⟩,fun h2=>?_⟩,fun h1=>?_⟩
      · rintro w12 ⟨hw12,h1,h2⟩
        have hw12:=hw12.symm
        subst hw12
        have hv11:=p11.row hv9 id
        have hg11:=p11.row hg9 id
        refine (yjG X A es cap (x:Int) 178 #[.pointer (some ⟨g2,0,none⟩)] (fun u=>gb (yaW o ((k:Int)+1)) u.toNat) w11 (Row.cell hX11 (i:=1) rfl) hes11 hE12 (fun y hy=>by have:=hE y hy;omega) (by omega) (by omega) hel enter_178 (fun u W hW hm=>?_)).mono ?_
        · obtain ⟨mu,hmu⟩:=hm
          have hr1:=ybZ hE hmu
          obtain ⟨un,rfl⟩:∃ un:Nat,u=(un:Int):=⟨u.toNat,by omega⟩
          simp only [Int.toNat_natCast]
          exact lend1_any g2 g j j _ un W (hW.row hv11 id) (hW.row hg11 id) hll (by omega)
        · rintro _ w13 ⟨rfl,p13⟩
          have hX13:=p13.row hX11 id
          have hd13:=p13.row hd11 id
          have ldd13:=ild hd13 (i:=(x:Int)) (by omega) (by omega)
          simp only [Int.toNat_natCast] at ldd13
          have hpos:=near_pos hD hE1 (by omega:x<j) h1
          have hlkb:∀ p∈ycr es (x:Int),0≤p.2∧p.2≤50:=fun p hp=>by
            have:=ybZ hE (v:=(x:Int)) (u:=p.1) (m:=p.2) hp;omega
          have hjb:=(addF_bound (p:=fun u=>gb (yaW o ((k:Int)+1)) u.toNat) (ycr es (x:Int)) hlkb).2
          have hll2:(ycr es (x:Int)).length≤es.length:=List.length_filterMap_le _ _
          have hbx:=hbd x
          obtain ⟨J,hJ⟩:∃ J,J=yaQ es (x:Int) (fun u=>gb (yaW o ((k:Int)+1)) u.toNat):=⟨_,rfl⟩
          have hjb':J≤50000:=by rw [hJ];unfold yaQ;omega
          have hstep:ybw es o ((k:Int)+1) d (x+1)=mxF (ybw es o ((k:Int)+1) d x) ((-gi d x+J-1).tdiv J):=by rw [ybw,if_pos ⟨h1,h2⟩,hJ]
          rw [←hJ] at hpos ⊢
          have hq0:0 ≤ -gi d x+J-1:=by omega
          have hq1:(-gi d x+J-1).tdiv J=(-gi d x+J-1) / J:=Int.tdiv_eq_ediv_of_nonneg hq0
          have hq2:0≤(-gi d x+J-1) / J:=Int.ediv_nonneg hq0 (by omega)
          have hq3:(-gi d x+J-1) / J ≤ -gi d x+J-1:=Int.ediv_le_self _ hq0
          refine ⟨_,rfl,_,_,_,hX13.at_ 3 rfl,ybt (by omega) (by omega),_,ldd13,in64 (by omega),in64 (by omega),in64 (by omega),by omega,by rw [hq1];exact in64 (by omega),in64 (by omega),j-(x+1),by omega,x+1,rfl,by omega,by omega,hstep.symm,?_,p11.trans p13⟩
          rw [mxF_eq];omega
      · exact ⟨in64 (by omega),j-(x+1),by omega,x+1,rfl,by omega,by omega,by rw [ybw,if_neg (fun h=>h2 h.2)],ht0,p11⟩
      · exact ⟨in64 (by omega),j-(x+1),by omega,x+1,rfl,by omega,by omega,by rw [ybw,if_neg (fun h=>h1 h.1)],ht0,p11⟩
    · obtain rfl:x=j:=by omega
      have K11:Keeps (fun j=>j=gd∨j=gs∨j=X) w3 w11:=Pure.after K4 p411
      refine ⟨fun hpos=>?_,fun hpos=>?_⟩
      · refine ⟨_,_,_,Row.cell (p11.row hv9 id) (i:=0) rfl,?_⟩
        refine (fire_any X gd gs g x x A es cap cd cs q d s 0 _ (yaW o ((k:Int)+1)) w11 ⟨hX11,hd11,hs11,hne,hdl,hsl⟩ hes11 heg (p11.row hg9 id) hll hn hE hel ht0 ht1 (fun i=>by have:=hbd i;omega) hbs).mono ?_
        rintro _ w14 ⟨rfl,hS14,K14⟩
        exact ⟨rfl,in64 (by omega),k,by omega,k,_,_,_,rfl,by omega,by omega,hgy hpos,hS14,K11.trans K14⟩
      · exact ⟨in64 (by omega),k,by omega,k,d,s,0,rfl,by omega,by omega,hgn hpos,⟨hX11,hd11,hs11,hne,hdl,hsl⟩,K11⟩
end Go.Proofs.YtadpnlimiblniaaGreat

namespace Go.Proofs.YtadpnlimiblniaaGreat
open Go Go.Proofs.Tryz
def sm:Nat→(Nat→Int)→Int
  | 0,_=>0
  | n+1,f=>sm n f+f n
theorem yaw{f g:Nat→Int} : ∀ {n:Nat},(∀ i,i<n→f i=g i)→sm n f=sm n g
  | 0,_=>rfl
  | n+1,h=>by rw [sm,sm,yaw (fun i hi=>h i (by omega)),h n (by omega)]
theorem ybJ:∀ n,sm n (fun _=>0)=0
  | 0=>rfl
  | n+1=>by rw [sm,ybJ n];rfl
theorem ycc(f g:Nat→Int):∀ n,sm n (fun i=>f i+g i)=sm n f+sm n g
  | 0=>rfl
  | n+1=>by simp only [sm,ycc f g n];omega
theorem yfB(f g:Nat→Int):∀ n,sm n (fun i=>f i-g i)=sm n f-sm n g
  | 0=>rfl
  | n+1=>by simp only [sm,yfB f g n];omega
theorem yjS(c:Int)(f:Nat→Int):∀ n,sm n (fun i=>c*f i)=c*sm n f
  | 0=>by simp [sm]
  | n+1=>by simp only [sm,yjS c f n,Int.mul_add]
theorem ydh{f g:Nat→Int} : ∀ {n:Nat},(∀ i,i<n→f i≤g i)→sm n f≤sm n g
  | 0,_=>Int.le_refl _
  | n+1,h=>by
    have h1:=ydh (fun i hi=>h i (by omega):∀ i,i<n→f i≤g i)
    have h2:=h n (by omega)
    rw [sm,sm];omega
theorem ya5{f:Nat→Int}{n:Nat}(h:∀ i,i<n→0≤f i):0≤sm n f:=by
  have:=ydh h
  rwa [ybJ] at this
theorem yik{f:Nat→Int} : ∀ {n:Nat},(∀ i,i<n→0≤f i)→∀ j,j<n→f j≤sm n f
  | n+1,h,j,hj=>by
    have h1:=ya5 (fun i hi=>h i (by omega):∀ i,i<n→0≤f i)
    have h2:=h n (by omega)
    rw [sm]
    by_cases e:j=n
    · subst e;omega
    · have:=yik (fun i hi=>h i (by omega):∀ i,i<n→0≤f i) j (by omega);omega
theorem ylP(f:Nat→Nat→Int)(m:Nat):∀ n,sm n (fun i=>sm m (fun j=>f i j))=sm m (fun j=>sm n (fun i=>f i j))
  | 0=>by simp only [sm];rw [ybJ]
  | n+1=>by
    simp only [sm]
    rw [ylP f m n,←ycc]
theorem ye9(c:Int):∀ {n j:Nat},j<n→sm n (fun i=>if i=j then c else 0)=c
  | n+1,j,h=>by
    rw [sm]
    by_cases e:j=n
    · subst e
      rw [if_pos rfl,yaw (g:=fun _=>0) (fun i hi=>if_neg (by omega)),ybJ];omega
    · rw [ye9 c (by omega:j<n),if_neg (by omega)];omega
def addG(p:Int→Bool):List (Int×Int)→Int
  | []=>0
  | x::l=>(if p x.1 then x.2 else 0)+addG p l
theorem yif(p:Int→Bool)(l:List (Int×Int)):addF p l=addG p l:=by
  suffices H:∀ (l:List (Int×Int)) (a:Int),l.foldl (fun n x=>if p x.1 then n+x.2 else n) a=a+addG p l by
    unfold addF;rw [H];omega
  intro l
  induction l with
  | nil=>intro a;simp [addG]
  | cons x l ih=>intro a;rw [List.foldl_cons,ih,addG];split <;> omega
theorem addG_sum{n:Nat}(p:Int→Bool):∀ (l:List (Int×Int)),(∀ x∈l,0≤x.1∧x.1<n)→addG p l=sm n (fun u=>if p (u:Int) then addG (fun x=>x==(u:Int)) l else 0)
  | [],_=>by
    rw [addG,yaw (g:=fun _=>0) (fun i _=>by simp [addG]),ybJ]
  | x::l,h=>by
    have hx:=h x (by simp)
    have ih:=addG_sum p l (fun y hy=>h y (by simp [hy]))
    have h1:sm n (fun u=>if p (u:Int) then addG (fun y=>y==(u:Int)) (x::l) else 0)=sm n (fun u=>(if u=x.1.toNat then (if p x.1 then x.2 else 0) else 0)+(if p (u:Int) then addG (fun y=>y==(u:Int)) l else 0)):=by
      refine yaw (fun u hu=>?_)
      simp only [addG]
      by_cases e:u=x.1.toNat
      · have e2:x.1=(u:Int):=by omega
        rw [if_pos e,e2]
        simp only [beq_self_eq_true,if_true]
        split <;> omega
      · have e2:(x.1==(u:Int))=false:=by simp;omega
        rw [if_neg e]
        simp only [e2,Bool.false_eq_true,if_false]
        split <;> omega
    rw [h1,ycc,ye9 _ (by omega),addG,ih]
def W(es:List E3)(v u:Nat):Int:=yaQ es (v:Int) (fun x=>x==(u:Int))
def EOk(n:Nat)(es:List E3):Prop:=∀ x∈es,0≤x.1∧x.1<n∧0≤x.2.1∧x.2.1<n∧1≤x.2.2∧x.2.2≤50
theorem EOk.range{n:Nat}{es:List E3}(h:EOk n es):∀ x∈es,0≤x.1∧x.1<n∧0≤x.2.1∧x.2.1<n∧0≤x.2.2∧x.2.2≤50:=fun x hx=>by have:=h x hx;omega
theorem yen{n:Nat}{es:List E3}(h:EOk n es)(v:Nat)(p:Int→Bool):yaQ es (v:Int) p=sm n (fun u=>if p (u:Int) then W es v u else 0):=by
  have h1:∀ x∈ycr es (v:Int),0≤x.1∧x.1<n:=fun x hx=>by
    have:=ybZ h.range (v:=(v:Int)) (u:=x.1) (m:=x.2) hx;omega
  unfold yaQ
  rw [yif,addG_sum p _ h1]
  refine yaw fun u _=>?_
  unfold W yaQ
  rw [yif]
def w1(x:E3)(v u:Nat):Int:=if x.1≠x.2.1∧((x.1=v∧x.2.1=u)∨(x.1=u∧x.2.1=v)) then x.2.2 else 0
theorem ygd(x:E3)(es:List E3)(v u:Nat):W (x::es) v u=w1 x v u+W es v u:=by
  unfold W yaQ ycr w1
  rw [yif,yif,List.filterMap_cons]
  unfold link
  by_cases c:x.1≠x.2.1∧(x.1=v∨x.2.1=v)
  · rw [if_pos c]
    simp only [addG]
    by_cases e:x.1+x.2.1-v=u
    · rw [if_pos (by simpa using e),if_pos ⟨c.1,by omega⟩]
    · rw [if_neg (by simpa using e),if_neg (fun h=>by omega)]
  · simp only [if_neg c]
    rw [if_neg (fun h=>c ⟨h.1,by omega⟩)]
    omega
theorem W_nil(v u:Nat):W [] v u=0:=rfl
theorem w1_symm(x:E3)(v u:Nat):w1 x v u=w1 x u v:=by
  unfold w1
  by_cases c:x.1≠x.2.1∧((x.1=v∧x.2.1=u)∨(x.1=u∧x.2.1=v))
  · rw [if_pos c,if_pos ⟨c.1,by omega⟩]
  · rw [if_neg c,if_neg (fun h=>c ⟨h.1,by omega⟩)]
theorem ye0:∀ (es:List E3) (v u:Nat),W es v u=W es u v
  | [],v,u=>rfl
  | x::es,v,u=>by rw [ygd,ygd,w1_symm,ye0 es v u]
theorem yhC:∀ (es:List E3) (v:Nat),W es v v=0
  | [],v=>rfl
  | x::es,v=>by
    rw [ygd,yhC es v]
    unfold w1
    rw [if_neg (fun h=>h.1 (by omega))];rfl
theorem ya2{n:Nat}{es:List E3}(h:EOk n es):∀ v u,0≤W es v u:=by
  induction es with
  | nil=>intro v u;rw [W_nil];omega
  | cons x es ih =>
    intro v u
    have h1:=ih (fun y hy=>h y (by simp [hy])) v u
    have h2:=h x (by simp)
    rw [ygd]
    unfold w1
    split <;> omega
theorem W_adj{n:Nat}{es:List E3}(h:EOk n es){v u:Nat} : 0<W es v u↔Adj es v u:=by
  induction es with
  | nil=>rw [W_nil];constructor;(intro h;omega);rintro ⟨m,hm⟩;exact absurd hm (by simp [ycr])
  | cons x es ih =>
    have h1:=ih (fun y hy=>h y (by simp [hy]))
    have h2:=h x (by simp)
    have h3:=ya2 (fun y hy=>h y (by simp [hy]):EOk n es) v u
    rw [ygd]
    have h4:Adj (x::es) v u↔(x.1≠x.2.1∧((x.1=v∧x.2.1=u)∨(x.1=u∧x.2.1=v)))∨Adj es v u:=by
      constructor
      · rintro ⟨m,hm⟩
        obtain ⟨y,hy,q1,q2,q3,q4⟩:=ybV.1 hm
        rcases List.mem_cons.1 hy with rfl | hy
        · exact .inl ⟨q1,by omega⟩
        · exact .inr ⟨m,ybV.2 ⟨y,hy,q1,q2,q3,q4⟩⟩
      · rintro (q | ⟨m,hm⟩)
        · exact ⟨x.2.2,ybV.2 ⟨x,by simp,q.1,by omega,by omega,rfl⟩⟩
        · obtain ⟨y,hy,q1,q2,q3,q4⟩:=ybV.1 hm
          exact ⟨m,ybV.2 ⟨y,by simp [hy],q1,q2,q3,q4⟩⟩
    rw [h4,←h1]
    unfold w1
    constructor
    · intro hh
      split at hh
      · rename_i c;exact .inl c
      · exact .inr (by omega)
    · rintro (c | c)
      · rw [if_pos c];omega
      · split <;> omega
def Lp(n:Nat)(es:List E3)(s:Nat→Int)(v:Nat):Int:=sm n (fun u=>W es v u*(s v-s u))
def deg(n:Nat)(es:List E3)(v:Nat):Int:=sm n (fun u=>W es v u)
theorem gi_pay{t:Int}{v:Nat}{x:Int×Int}{d:List Int}(hv:v<d.length)(hu:x.1.toNat<d.length)(hne:x.1.toNat≠v)(i:Nat) :
    gi (pay t v d x) i=gi d i-(if i=v then x.2*t else 0)+(if i=x.1.toNat then x.2*t else 0):=by
  unfold pay
  rw [ycQ (by simpa using hu),ycQ hv]
  by_cases e:i=x.1.toNat
  · subst e;rw [if_pos rfl,if_pos rfl,if_neg hne];rw [if_neg hne];omega
  · rw [if_neg e,if_neg e,ycQ hv];split <;> (try subst_vars) <;> omega
theorem gi_payAll{t:Int}{v n:Nat} : ∀ (l:List (Int×Int)) (d:List Int),d.length=n→v<n→(∀ x∈l,0≤x.1∧x.1<n∧x.1.toNat≠v)→∀ i,
    gi (yez t v l d) i=gi d i-(if i=v then t*addG (fun _=>true) l else 0)+t*addG (fun y=>y==(i:Int)) l
  | [],d,_,_,_,i=>by simp [yez,addG]
  | x::l,d,hd,hv,h,i=>by
    have hx:=h x (by simp)
    have h1:=gi_payAll (t:=t) (v:=v) l (pay t v d x) (by simp [pay,hd]) hv (fun y hy=>h y (by simp [hy])) i
    have h2:yez t v (x::l) d=yez t v l (pay t v d x):=rfl
    rw [h2,h1,gi_pay (by omega) (by omega) hx.2.2]
    simp only [addG,if_true]
    have hb:(x.1==(i:Int))=decide (i=x.1.toNat):=by
      rw [Bool.eq_iff_iff];simp;omega
    simp only [hb,decide_eq_true_eq]
    have e1:t*(x.2+addG (fun _=>true) l)=x.2*t+t*addG (fun _=>true) l:=by rw [Int.mul_add,Int.mul_comm t x.2]
    have e2:∀ a:Int,t*(x.2+a)=x.2*t+t*a:=fun a=>by rw [Int.mul_add,Int.mul_comm t x.2]
    by_cases c1:i=v <;> by_cases c2:i=x.1.toNat <;> simp only [c1,c2,if_true,if_false,e2,Int.zero_add] <;> (try split) <;> (try split) <;> (try simp only [e2,Int.zero_add]) <;> omega
def ind(inn:List Bool)(v:Nat):Int:=if gb inn v then 1 else 0
theorem links_ok{n:Nat}{es:List E3}(h:EOk n es)(v:Nat):∀ x∈ycr es (v:Int),0≤x.1∧x.1<n∧x.1.toNat≠v:=fun x hx=>by
  have h1:=ybZ h.range (v:=(v:Int)) (u:=x.1) (m:=x.2) hx
  obtain ⟨y,hy,q1,q2,q3,q4⟩:=(ybV (u:=x.1) (m:=x.2)).1 hx
  omega
theorem addG_true{n:Nat}{es:List E3}(h:EOk n es)(v:Nat):addG (fun _=>true) (ycr es (v:Int))=deg n es v:=by
  have:=yen h v (fun _=>true)
  unfold yaQ at this
  rw [yif] at this
  rw [this]
  exact yaw fun u _=>by simp
theorem gi_fireD{n:Nat}{es:List E3}(h:EOk n es)(inn:List Bool)(t:Int)(d:List Int)(hd:d.length=n):∀ k,k≤n→∀ i,i<n →
    gi (ycB es inn t d k) i=gi d i-t*(if i<k then ind inn i*deg n es i else 0)+t*sm k (fun j=>ind inn j*W es j i)
  | 0,_,i,_=>by simp [ycB,sm]
  | k+1,hk,i,hi=>by
    have ih:=gi_fireD h inn t d hd k (by omega) i hi
    rw [ycB,sm]
    by_cases hb:gb inn k=true
    · rw [if_pos hb,gi_payAll (n:=n) _ _ (by rw [ybL];exact hd) (by omega) (links_ok h k),ih,addG_true h]
      have hW:addG (fun y=>y==(i:Int)) (ycr es (k:Int))=W es k i:=by unfold W yaQ;rw [yif]
      rw [hW]
      have hind:ind inn k=1:=by simp [ind,hb]
      rw [hind]
      by_cases c1:i=k
      · subst c1
        rw [if_neg (by omega),if_pos rfl,if_pos (by omega),hind]
        simp only [Int.mul_add,Int.one_mul,Int.mul_zero];omega
      · rw [if_neg c1]
        by_cases c2:i<k
        · rw [if_pos c2,if_pos (by omega)];simp only [Int.mul_add,Int.one_mul];omega
        · rw [if_neg c2,if_neg (by omega)];simp only [Int.mul_add,Int.one_mul];omega
    · rw [if_neg hb,ih]
      have hind:ind inn k=0:=by simp [ind,hb]
      rw [hind]
      by_cases c1:i=k
      · subst c1
        rw [if_neg (by omega),if_pos (by omega),hind]
        simp
      · by_cases c2:i<k
        · rw [if_pos c2,if_pos (by omega)];simp
        · rw [if_neg c2,if_neg (by omega)];simp
theorem Lp_ind{n:Nat}{es:List E3}(s:Nat→Int)(v:Nat):Lp n es s v=s v*deg n es v-sm n (fun u=>s u*W es u v):=by
  unfold Lp deg
  rw [←yjS,←yfB]
  refine yaw fun u _=>?_
  rw [Int.mul_sub,Int.mul_comm (W es v u) (s v),ye0 es v u,Int.mul_comm (W es u v) (s u)]
theorem fire_lp{n:Nat}{es:List E3}(h:EOk n es)(inn:List Bool)(t:Int)(d:List Int)(hd:d.length=n){i:Nat}(hi:i<n):gi (ycB es inn t d n) i=gi d i-t*Lp n es (ind inn) i:=by
  rw [gi_fireD h inn t d hd n (Nat.le_refl _) i hi,if_pos hi,Lp_ind,Int.mul_sub];omega
theorem ygJ{n:Nat}{es:List E3}(a b:Nat→Int)(v:Nat):Lp n es (fun i=>a i+b i) v=Lp n es a v+Lp n es b v:=by
  unfold Lp
  rw [←ycc]
  exact yaw fun u _=>by rw [←Int.mul_add];congr 1;show a v+b v-(a u+b u)=_;omega
theorem yip{n:Nat}{es:List E3}(c:Int)(a:Nat→Int)(v:Nat):Lp n es (fun i=>c*a i) v=c*Lp n es a v:=by
  unfold Lp
  rw [←yjS]
  exact yaw fun u _=>by rw [←Int.mul_sub,Int.mul_left_comm]
theorem yfl{n:Nat}{es:List E3}(c:Int)(v:Nat):Lp n es (fun _=>c) v=0:=by
  unfold Lp
  rw [yaw (g:=fun _=>0) (fun u _=>by simp),ybJ]
theorem yfZ{n:Nat}{es:List E3}{a b:Nat→Int}(h:∀ i,i<n→a i=b i){v:Nat}(hv:v<n):Lp n es a v=Lp n es b v:=by
  unfold Lp
  exact yaw fun u hu=>by rw [h v hv,h u hu]
theorem Lp_cut{n:Nat}{es:List E3}(S:Nat→Bool)(s:Nat→Int):sm n (fun v=>if S v then Lp n es s v else 0)=sm n (fun v=>sm n (fun u=>if S v && !S u then W es v u*(s v-s u) else 0)):=by
  have h1:sm n (fun v=>if S v then Lp n es s v else 0)=sm n (fun v=>sm n (fun u=>(if S v && !S u then W es v u*(s v-s u) else 0)))+sm n (fun v=>sm n (fun u=>(if S v&&S u then W es v u*(s v-s u) else 0))):=by
    rw [←ycc]
    refine yaw fun v _=>?_
    rw [←ycc]
    cases hv:S v with
    | false=>simp [ybJ]
    | true =>
      simp only [if_true,Bool.true_and]
      unfold Lp
      refine yaw fun u _=>?_
      cases S u <;> simp
  have h2:sm n (fun v=>sm n (fun u=>(if S v&&S u then W es v u*(s v-s u) else 0)))=0:=by
    have h3:sm n (fun v=>sm n (fun u=>(if S v&&S u then W es v u*(s v-s u) else 0))) = - sm n (fun v=>sm n (fun u=>(if S v&&S u then W es v u*(s v-s u) else 0))):=by
      conv=>lhs;rw [ylP]
      have:∀ m (f:Nat→Int), - sm m f=sm m (fun i => - f i):=fun m f=>by
        have:=yjS (-1) f m
        simp only [Int.neg_mul,Int.one_mul] at this
        exact this.symm
      rw [this]
      refine yaw fun v _=>?_
      rw [this]
      refine yaw fun u _=>?_
      cases S u <;> cases S v <;> simp
      rw [ye0 es u v,←Int.mul_neg];congr 1;omega
    omega
  rw [h1,h2];omega
theorem yf8{n:Nat}{es:List E3}(s:Nat→Int):sm n (fun v=>Lp n es s v)=0:=by
  have:=Lp_cut (n:=n) (es:=es) (fun _=>true) s
  simp only [if_true,Bool.not_true,Bool.and_false,Bool.false_eq_true,if_false] at this
  rw [this,yaw (g:=fun _=>0) (fun v _=>ybJ n),ybJ]
end Go.Proofs.YtadpnlimiblniaaGreat

namespace Go.Proofs.YtadpnlimiblniaaGreat
open Go Go.RowKit Go.Shelf Go.Proofs.Tryz
set_option maxRecDepth 100000
set_option maxHeartbeats 8000000
def yew(s:List Int)(q:Nat):List Int:=s.map fun x=>x-gi s q
theorem yjq{s:List Int}{q j:Nat}(h:j<s.length):gi (yew s q) j=gi s j-gi s q:=by
  rw [yaN (by simpa [yew] using h),yaN h]
  simp [yew]
structure ResNil(A1:Option Addr)(l1 c1:Nat)(A2:Option Addr)(l2 c2:Nat):Prop where
  a1:A1=none
  l1:l1=0
  c1:c1=0
  a2:A2=none
  l2:l2=0
  c2:c2=0
structure ResOk(gd gs n cd cs:Nat)(d s:List Int)(A1:Option Addr)(l1 c1:Nat)(A2:Option Addr)(l2 c2:Nat)(w':World):Prop where
  a1:A1=some ⟨gd,0,none⟩
  l1:l1=n
  c1:c1=cd
  a2:A2=some ⟨gs,0,none⟩
  l2:l2=n
  c2:c2=cs
  row1:IRow w' gd 3 cd d
  row2:IRow w' gs 3 cs s
def ResPost(gd gs n cd cs q:Nat)(d s:List Int)(e:Int)(w:World)(A1:Option Addr)(l1 c1:Nat)(A2:Option Addr)(l2 c2:Nat)(er:Int)(w':World):Prop :=
  Keeps (fun j=>j=gs) w w'∧((e≠0∧er=e∧ResNil A1 l1 c1 A2 l2 c2)∨(e=0∧(ybf d n≠0∨ybf (yew s q) n≠0)∧er=11∧ResNil A1 l1 c1 A2 l2 c2) ∨
    (e=0∧ybf d n=0∧ybf (yew s q) n=0∧er=0∧ResOk gd gs n cd cs d (yew s q) A1 l1 c1 A2 l2 c2 w'))
theorem result_any(X gd gs n:Nat)(A:Option Addr)(es:List E3)(cap cd cs q:Nat)(d s:List Int)(e:Int)(w:World)(hS:yfO w X gd gs n A es cap cd cs q d s e)(hq:q<n)(hn:n≤12)(hbs:e=0→Bnd 100000000000 s) :
    Calls Tryz.prog 166 #[.pointer (some ⟨X,0,none⟩)] w fun e' w'=>∃ A1 l1 c1 A2 l2 c2 er,e' = .returned (.tuple #[.slice A1 l1 c1, .slice A2 l2 c2, .int .i64 er])∧ResPost gd gs n cd cs q d s e w A1 l1 c1 A2 l2 c2 er w':=by
  refine ygc _ w (ResPost gd gs n cd cs q d s e w) ?_
  unfold yct
  obtain ⟨hX,hd,hs,hne,hdl,hsl⟩:=hS
  have hXs:=hX.ne_ hs (by decide)
  refine ⟨e,hX.at_ 5 rfl,fun he=>?_,fun he=>⟨e,hX.drew.at_ 5 rfl,(Keeps.refl _ _).drew, .inl ⟨he,rfl,⟨rfl,rfl,rfl,rfl,rfl,rfl⟩⟩⟩⟩
  have hbs:=hbs he
  have ldq:=ild (Row.drew hs) (i:=(q:Int)) (by omega) (by omega)
  simp only [Int.toNat_natCast] at ldq
  refine ⟨_,_,_,hX.drew.at_ 4 rfl,_,hX.drew.at_ 2 rfl,ybt (by omega) (by omega),_,ldq,_,_,_,hX.drew.at_ 4 rfl,?_⟩
  refine ⟨fun m i w2=>∃ (k:Nat) (l:List Int),m=n-k∧k≤n∧i=(k:Int)∧l.length=n∧(∀ j,j<n→gi l j=if j<k then gi s j-gi s q else gi s j)∧IRow w2 gs 3 cs l∧Keeps (fun j=>j=gs) w w2,⟨n,0,s,rfl,by omega,rfl,hsl,fun j _=>by simp,Row.drew hs,(Keeps.refl _ _).drew⟩,?_⟩
  rintro m i w2 ⟨k,l,rfl,hk,rfl,hll,hlf,hs2,K2⟩
  have hX2:=K2.row hX hXs
  have hd2:IRow w2 gd 3 cd d:=K2.row hd hne
  refine ⟨fun hlt=>?_,fun hge=>?_⟩
  · have ldk:=ild hs2 (i:=(k:Int)) (by omega) (by omega)
    simp only [Int.toNat_natCast] at ldk
    have h1:=hlf k (by omega)
    rw [if_neg (by omega)] at h1
    have h2:=hbs k
    have h3:=hbs q
    refine ⟨_,_,_,hX2.at_ 4 rfl,ybt (by omega) (by omega),_,ldk,in64 (by omega),ybt (by omega) (by omega),iwr hs2 (by omega) (by omega),fun w3 e3=>⟨in64 (by omega),n-(k+1),by omega,k+1,l.set k (gi l k-gi s q),rfl,by omega,by omega,by simpa using hll,fun j hj=>?_,?_,?_⟩⟩
    · rw [ycQ (by omega)]
      split
      · rename_i e';subst e';rw [if_pos (by omega),h1]
      · rw [hlf j hj]
        by_cases h4:j<k
        · rw [if_pos h4,if_pos (by omega)]
        · rw [if_neg h4,if_neg (by omega)]
    · rw [e3];simpa using ist hs2 (k:Int) (gi l k-gi s q)
    · rw [e3];exact K2.set_ rfl _ _
  · obtain rfl:k=n:=by omega
    have hl:l=yew s q:=ygi (by rw [hll];simp [yew,hsl]) (fun j hj=>by rw [hlf j (by omega),if_pos (by omega),yjq (by omega)])
    subst hl
    refine ⟨fun w'=>w'=w2.drew∧ybf d k=0∧ybf (yew s q) k=0,?_,_,_,_,hX2.drew.at_ 3 rfl,_,by rw [yhK,ycD];exact Row.cell hX2.drew (i:=0) rfl,?_⟩
    · rintro w4 ⟨hw4,h1,h2⟩
      have hw4:=hw4.symm
      subst hw4
      exact ⟨_,_,_,hX2.drew.drew.at_ 3 rfl,_,_,_,hX2.drew.drew.at_ 4 rfl,K2.drew.drew, .inr (.inr ⟨he,h1,h2,rfl,⟨rfl,hdl,rfl,rfl,hsl,rfl,Row.drew (Row.drew hd2),Row.drew (Row.drew hs2)⟩⟩)⟩
    · have hc1:=yjT (some ⟨gd,0,none⟩) d cd (k:Int) w2.drew (IRow.ints (Row.drew hd2)) (by omega)
      have hc2:=yjT (some ⟨gs,0,none⟩) (yew s q) cs (k:Int) w2.drew (IRow.ints (Row.drew hs2)) (by omega)
      rw [show (yew s q).length=s.length by simp [yew]] at hc2
      refine hc1.mono ?_
      rintro _ w5 ⟨rfl,h5⟩
      have h5:=h5.symm
      subst h5
      refine ⟨_,rfl,fun h0=>⟨_,_,_,hX2.drew.at_ 4 rfl,_,by rw [yhK,ycD];exact Row.cell hX2.drew (i:=0) rfl,hc2.mono ?_⟩,fun h0=>⟨K2.drew, .inr (.inl ⟨he, .inl h0,rfl,⟨rfl,rfl,rfl,rfl,rfl,rfl⟩⟩)⟩⟩
      rintro _ w6 ⟨rfl,h6⟩
      have h6:=h6.symm
      subst h6
      exact ⟨_,rfl,fun h1=>⟨rfl,h0,h1⟩,fun h1=>⟨K2.drew, .inr (.inl ⟨he, .inr h1,rfl,⟨rfl,rfl,rfl,rfl,rfl,rfl⟩⟩)⟩⟩
end Go.Proofs.YtadpnlimiblniaaGreat

namespace Go.Proofs.YtadpnlimiblniaaGreat
open Go Go.Proofs.Tryz
theorem fireE_ok{d s:List Int}(hd:∀ j, -2097152≤gi d j∧gi d j≤2097152)(hs:∀ j, -2097152≤gi s j∧gi s j≤2097152)(e:Int):∀ j,yic d s e j=e
  | 0=>rfl
  | j+1=>by
    rw [yic,fireE_ok hd hs e j,if_neg]
    rintro ⟨h, -⟩
    have h1:=hd j
    have h2:=hs j
    unfold bigAt at h
    rw [decide_eq_true_eq] at h
    omega
theorem yit{d:List Int}{n:Nat}(h:d.length=n){i:Nat}(hi:¬i<n):gi d i=0:=gi_ge (by omega)
theorem yjD{inn:List Bool}{t:Int}{s:List Int}{n:Nat}(hs:s.length=n){v:Nat}(hv:v<n):gi (ycJ inn t s n) v=gi s v+t*ind inn v:=by
  rw [yi3 inn t s n v (by omega)]
  unfold ind
  by_cases h:gb inn v=true
  · rw [if_pos ⟨hv,h⟩,if_pos h];omega
  · rw [if_neg (fun x=>h x.2),if_neg h];omega
theorem Lp_fireS{n:Nat}{es:List E3}{inn:List Bool}{t:Int}{s:List Int}(hs:s.length=n){v:Nat}(hv:v<n):Lp n es (gi (ycJ inn t s n)) v=Lp n es (gi s) v+t*Lp n es (ind inn) v:=by
  rw [yfZ (b:=fun i=>gi s i+t*ind inn i) (fun i hi=>yjD hs hi) hv,ygJ,yip]
theorem Lp_ind_in{n:Nat}{es:List E3}{inn:List Bool}{v:Nat}(hb:gb inn v=true):Lp n es (ind inn) v=sm n (fun u=>if gb inn u=true then 0 else W es v u):=by
  unfold Lp
  refine yaw fun u _=>?_
  have:ind inn v=1:=by simp [ind,hb]
  rw [this]
  unfold ind
  split <;> simp
theorem yie{n:Nat}{es:List E3}{inn:List Bool}{v:Nat}(hb:¬gb inn v=true):Lp n es (ind inn) v = - sm n (fun u=>if gb inn u=true then W es v u else 0):=by
  have e:∀ (f:Nat→Int), - sm n f=sm n (fun i => - f i):=fun f=>by
    have:=yjS (-1) f n
    simp only [Int.neg_mul,Int.one_mul] at this
    exact this.symm
  rw [e]
  unfold Lp
  refine yaw fun u _=>?_
  have:ind inn v=0:=by simp [ind,hb]
  rw [this]
  unfold ind
  split <;> simp
def FF(n:Nat)(es:List E3)(o:List Int)(k:Int):Int:=sm n (fun v=>if k<gi o v then sm n (fun u=>if gi o u<gi o v then W es v u else 0) else 0)
def CC(n:Nat)(es:List E3)(o:List Int)(k:Int):Int:=sm n (fun v=>if gi o v=k then sm n (fun u=>if gi o u<k then W es v u else 0) else 0)
def tot(n:Nat)(es:List E3):Int:=sm n (fun v=>sm n (fun u=>W es v u))
theorem FF_step(n:Nat)(es:List E3)(o:List Int)(k:Int):FF n es o k=FF n es o (k+1)+CC n es o (k+1):=by
  unfold FF CC
  rw [←ycc]
  refine yaw fun v _=>?_
  by_cases h:gi o v=k+1
  · rw [if_pos (by omega),if_neg (by omega),if_pos h,h];omega
  · by_cases h2:k<gi o v
    · rw [if_pos h2,if_pos (by omega),if_neg h];omega
    · rw [if_neg h2,if_neg (by omega),if_neg h];omega
section
variable {n : Nat} {es : List E3} (hE : EOk n es)
include hE
theorem CC_nonneg(o:List Int)(k:Int):0≤CC n es o k:=ya5 fun v _=>by
  split
  · exact ya5 fun u _=>by have:=ya2 hE v u;split <;> omega
  · omega
theorem FF_nonneg(o:List Int)(k:Int):0≤FF n es o k:=ya5 fun v _=>by
  split
  · exact ya5 fun u _=>by have:=ya2 hE v u;split <;> omega
  · omega
theorem FF_half(o:List Int)(k:Int):2*FF n es o k≤tot n es:=by
  have h1:FF n es o k≤sm n (fun v=>sm n (fun u=>if gi o u<gi o v then W es v u else 0)):=ydh fun v _=>by
    split
    · exact Int.le_refl _
    · exact ya5 fun u _=>by have:=ya2 hE v u;split <;> omega
  have h2:sm n (fun v=>sm n (fun u=>if gi o u<gi o v then W es v u else 0))=sm n (fun v=>sm n (fun u=>if gi o v<gi o u then W es v u else 0)):=by
    rw [ylP]
    exact yaw fun v _=>yaw fun u _=>by rw [ye0 es u v]
  have h3:sm n (fun v=>sm n (fun u=>if gi o u<gi o v then W es v u else 0))+sm n (fun v=>sm n (fun u=>if gi o v<gi o u then W es v u else 0))≤tot n es:=by
    unfold tot
    rw [←ycc]
    refine ydh fun v _=>?_
    rw [←ycc]
    refine ydh fun u _=>?_
    have:=ya2 hE v u
    split <;> split <;> omega
  omega
variable {q : Nat} {o : List Int} (hD : Dist n es q o) (hc : ∀ v, v < n → 0 ≤ gi o v)
include hD hc
theorem Dist.lip{v u:Nat}(hv:v<n)(hu:u<n)(h:W es v u≠0):gi o u≤gi o v+1:=by
  have h1:0<W es v u:=by have:=ya2 hE v u;omega
  exact (hD.step v hv (hc v hv) u ((W_adj hE).1 h1)).2
theorem near_in{k:Int}{v:Nat}(hv:v<n)(hk:gi o v<k):0≤Lp n es (ind (yaW o k)) v∧Lp n es (ind (yaW o k)) v≤CC n es o k:=by
  have hol:=hD.len
  rw [Lp_ind_in (by rw [yf5 (by omega)];simpa using hk)]
  constructor
  · exact ya5 fun u _=>by have:=ya2 hE v u;split <;> omega
  · refine ydh fun u hu=>?_
    rw [yf5 (by omega)]
    by_cases h:gi o u=k
    · rw [if_neg (by simp;omega),if_pos h]
      have h2:=yik (f:=fun i=>if gi o i<k then W es u i else 0) (n:=n) (fun i _=>by have:=ya2 hE u i;show 0≤ite _ _ _;split <;> omega) v hv
      simp only [if_pos hk] at h2
      rw [ye0 es v u];exact h2
    · rw [if_neg h]
      split
      · omega
      · rename_i h2
        simp only [decide_eq_true_eq] at h2
        by_cases h3:W es v u=0
        · omega
        · have:=hD.lip hE hc hv hu h3;omega
theorem near_at{k:Int}{v:Nat}(hv:v<n)(hk:gi o v=k):Lp n es (ind (yaW o k)) v = - yaQ es (v:Int) (fun u=>gb (yaW o k) u.toNat) ∧ - CC n es o k≤Lp n es (ind (yaW o k)) v:=by
  have hol:=hD.len
  have h1:=yie (n:=n) (es:=es) (inn:=yaW o k) (v:=v) (by rw [yf5 (by omega)];simp;omega)
  rw [yen hE,h1]
  simp only [Int.toNat_natCast]
  refine ⟨trivial,?_⟩
  have h2:=yik (f:=fun v=>if gi o v=k then sm n (fun u=>if gi o u<k then W es v u else 0) else 0) (n:=n) (fun i _=>by
    show 0≤ite _ _ _
    split
    · exact ya5 fun u _=>by have:=ya2 hE i u;split <;> omega
    · omega) v hv
  simp only [if_pos hk] at h2
  have h3:sm n (fun u=>if gb (yaW o k) u=true then W es v u else 0)=sm n (fun u=>if gi o u<k then W es v u else 0):=yaw fun u hu=>by
    rw [yf5 (by omega)]
    simp only [decide_eq_true_eq]
  rw [h3]
  unfold CC
  omega
theorem near_out{k:Int}{v:Nat}(hv:v<n)(hk:k<gi o v):Lp n es (ind (yaW o k)) v=0:=by
  have hol:=hD.len
  rw [yie (by rw [yf5 (by omega)];simp;omega)]
  have:sm n (fun u=>if gb (yaW o k) u=true then W es v u else 0)=sm n (fun _=>0):=yaw fun u hu=>by
    rw [yf5 (by omega)]
    by_cases h:gi o u<k
    · rw [if_pos (by simpa using h)]
      by_cases h3:W es v u=0
      · exact h3
      · have:=hD.lip hE hc hu hv (by rw [ye0];exact h3);omega
    · rw [if_neg (by simpa using h)]
  rw [this,ybJ];rfl
end
section
variable {es : List E3} {o : List Int} {k : Int} {d : List Int}
theorem ceil_ge{a b:Int}(hb:1≤b):a≤(a+b-1).tdiv b*b∨a+b-1<0:=by
  by_cases h:a+b-1<0
  · exact .inr h
  · left
    rw [Int.tdiv_eq_ediv_of_nonneg (by omega)]
    have h1:=Int.emod_add_mul_ediv (a+b-1) b
    have h2:=Int.emod_lt_of_pos (a+b-1) (show 0<b by omega)
    rw [Int.mul_comm b] at h1
    omega
theorem ceil_le{a b M:Int}(hb:1≤b)(ha:1≤a)(hM:a≤M):(a+b-1).tdiv b≤M∧1≤(a+b-1).tdiv b:=by
  rw [Int.tdiv_eq_ediv_of_nonneg (by omega)]
  constructor
  · apply Int.le_of_lt_add_one
    apply Int.ediv_lt_of_lt_mul (by omega)
    have:a≤M*b:=by
      have:=Int.mul_le_mul_of_nonneg_left hb (show 0≤M by omega)
      omega
    rw [Int.add_mul];omega
  · apply Int.le_ediv_of_mul_le (by omega);omega
theorem timesL_le{M:Int}(h0:0≤M):∀ n,(∀ v,v<n → -gi d v≤M)→(∀ v,v<n→gi o v=k→1≤yaQ es (v:Int) (fun u=>gb (yaW o k) u.toNat))→0≤ybw es o k d n∧ybw es o k d n≤M
  | 0,_,_=>by simp [ybw];exact h0
  | n+1,hd,hj=>by
    have ih:=timesL_le h0 n (fun v hv=>hd v (by omega)) (fun v hv=>hj v (by omega))
    rw [ybw]
    split
    · rename_i h
      have:=ceil_le (hj n (by omega) h.1) (show 1 ≤ -gi d n by omega) (hd n (by omega))
      unfold mxF
      split <;> omega
    · exact ih
theorem timesL_ge:∀ n,(∀ v,v<n→gi o v=k→1≤yaQ es (v:Int) (fun u=>gb (yaW o k) u.toNat))→∀ v,v<n→gi o v=k→gi d v<0 →
    1≤ybw es o k d n ∧ -gi d v≤ybw es o k d n*yaQ es (v:Int) (fun u=>gb (yaW o k) u.toNat)
  | n+1,hj,v,hv,hk,hd=>by
    rw [ybw]
    have mx:∀ a b:Int,a≤mxF a b∧b≤mxF a b:=fun a b=>by unfold mxF;split <;> omega
    have hjv:=hj v hv hk
    have up:∀ {a b:Int},a≤b → -gi d v≤a*yaQ es (v:Int) (fun u=>gb (yaW o k) u.toNat) → -gi d v≤b*yaQ es (v:Int) (fun u=>gb (yaW o k) u.toNat):=fun {a b} h h2 =>
      Int.le_trans h2 (Int.mul_le_mul_of_nonneg_right h (by omega))
    by_cases e:v=n
    · subst e
      rw [if_pos ⟨hk,hd⟩]
      have h1:=ceil_le (M := -gi d v) hjv (show 1 ≤ -gi d v by omega) (Int.le_refl _)
      have h2:=mx (ybw es o k d v) ((-gi d v+yaQ es (v:Int) (fun u=>gb (yaW o k) u.toNat)-1).tdiv (yaQ es (v:Int) (fun u=>gb (yaW o k) u.toNat)))
      refine ⟨by omega,up h2.2 ?_⟩
      rcases ceil_ge (a := -gi d v) hjv with h | h
      · exact h
      · omega
    · have ih:=timesL_ge n (fun v hv=>hj v (by omega)) v (by omega) hk hd
      split
      · have h2:=mx (ybw es o k d n) ((-gi d n+yaQ es (n:Int) (fun u=>gb (yaW o k) u.toNat)-1).tdiv (yaQ es (n:Int) (fun u=>gb (yaW o k) u.toNat)))
        exact ⟨by omega,up h2.1 ih.2⟩
      · exact ih
theorem yhk:∀ n,(∀ v,v<n→gi o v=k→0≤gi d v)→ybw es o k d n=0
  | 0,_=>rfl
  | n+1,h=>by
    rw [ybw,if_neg (fun x=>by have:=h n (by omega) x.1;omega)]
    exact yhk n fun v hv=>h v (by omega)
end
structure GL(n:Nat)(es:List E3)(q:Nat)(D:Int)(d0:List Int)(o:List Int)(k:Nat)(d s:List Int)(e:Int):Prop where
  e0:e=0
  dl:d.length=n
  sl:s.length=n
  kn:k+1≤n
  lp:∀ v,v<n→gi d v=gi d0 v-Lp n es (gi s) v
  bd:∀ v,v<n → - (D*2^(FF n es o k).toNat)≤gi d v∧gi d v≤D*2^(FF n es o k).toNat
  pos:∀ v,v<n→(k:Int)<gi o v→0≤gi d v
  s0:∀ v,v<n→0≤gi s v∧gi s v≤((n:Int)-1-k)*(D*512)
  sq:∀ v,v<n→gi s v≤gi s q
  same:(∀ v,v<n→v≠q→0≤gi d0 v)→d=d0∧∀ v,v<n→gi s v=0
theorem pow_bnd{D x:Int}(hD:0≤D)(hx:x≤9):D*2^x.toNat≤D*512:=by
  refine Int.mul_le_mul_of_nonneg_left ?_ hD
  have:(2:Nat)^x.toNat≤2^9:=Nat.pow_le_pow_right (by omega) (by omega)
  have h2:((2^x.toNat:Nat):Int)≤((2^9:Nat):Int):=by exact_mod_cast this
  have h3:((2^x.toNat:Nat):Int)=(2:Int)^x.toNat:=by push_cast;rfl
  rw [←h3];exact h2
theorem pow_step{D x c T:Int}(hD:0≤D)(hx:0≤x)(hc:0≤c)(h0:0≤T)(hT:T≤D*2^x.toNat):D*2^x.toNat+T*c≤D*2^(x+c).toNat:=by
  have e:(x+c).toNat=x.toNat+c.toNat:=by omega
  rw [e,Int.pow_add,←Int.mul_assoc]
  generalize hB:D*2^x.toNat=B at *
  have h1:T*c≤B*c:=Int.mul_le_mul_of_nonneg_right hT hc
  have h2:(c:Int)+1≤2^c.toNat:=by
    have:c.toNat<2^c.toNat:=Nat.lt_two_pow_self
    have h3:((c.toNat:Nat):Int)<((2^c.toNat:Nat):Int):=by exact_mod_cast this
    have h4:((2^c.toNat:Nat):Int)=(2:Int)^c.toNat:=by push_cast;rfl
    rw [h4] at h3;omega
  have h5:B*(c+1)≤B*2^c.toNat:=Int.mul_le_mul_of_nonneg_left h2 (by omega)
  rw [Int.mul_add] at h5
  omega
theorem mul_bnd{n k:Nat}{D:Int}(hD:0≤D)(hn:n≤6):((n:Int)-1-k)*(D*512)≤D*2560:=by
  have:((n:Int)-1-k)*(D*512)≤5*(D*512):=Int.mul_le_mul_of_nonneg_right (by omega) (by omega)
  omega
section
variable {n : Nat} {es : List E3} {q : Nat} {D : Int} {d0 : List Int} (hE : EOk n es) (hn : n ≤ 6) (hq : q < n) (ht : tot n es ≤ 18) (hD0 : 0 ≤ D) (hD1 : D ≤ 200) (hc : ∀ o, Dist n es q o → ∀ v, v < n → 0 ≤ gi o v)
  (hd0:∀ v,v<n → -D≤gi d0 v∧gi d0 v≤D) (hdl:d0.length=n)
include hE hn hq ht hD0 hD1 hc hd0 hdl
theorem GL.start(o:List Int)(hD:Dist n es q o):GL n es q D d0 o (ygm o n).toNat d0 (List.replicate n 0) 0:=by
  have hm:∃ j,j<o.length∧ygm o n=gi o j:=yjF o n (by rw [hD.len];omega) (by rw [hD.len];omega)
  obtain ⟨j,hj,hmj⟩:=hm
  have hhi:=hD.high j
  have h0:0≤ygm o n:=by
    have:=yiT o n q hq
    rw [hD.q0] at this;omega
  have hs:∀ v,gi (List.replicate n 0) v=0:=fun v=>by
    rcases Nat.lt_or_ge v n with h | h
    · rw [yaN (by simpa using h)];simp
    · exact gi_ge (by simpa using h)
  have hF:0≤FF n es o (ygm o n).toNat:=FF_nonneg hE o _
  have h1:D*1≤D*2^(FF n es o (ygm o n).toNat).toNat:=Int.mul_le_mul_of_nonneg_left (by
    have:(0:Int)<2^(FF n es o (ygm o n).toNat).toNat:=Int.pow_pos (by omega)
    omega) hD0
  refine ⟨rfl,hdl,by simp,by omega,fun v hv=>?_,fun v hv=>?_,fun v hv h=>?_,fun v hv=>?_,fun v hv=>?_,fun _=>⟨rfl,fun v hv=>hs v⟩⟩
  · rw [yfZ (b:=fun _=>0) (fun i _=>hs i) hv,yfl];omega
  · have:=hd0 v hv;omega
  · have:=yiT o n v hv;omega
  · rw [hs]
    have:0≤((n:Int)-1-(ygm o n).toNat)*(D*512):=Int.mul_nonneg (by omega) (by omega)
    omega
  · rw [hs,hs];exact Int.le_refl _
theorem GL.bnd{o:List Int}{k:Nat}{d s:List Int}{e:Int}(h:GL n es q D d0 o k d s e):Bnd 102400 d∧Bnd 512000 s:=by
  constructor
  · intro i
    by_cases hi:i<n
    · have h1:=h.bd i hi
      have h2:=FF_half hE o k
      have h3:=pow_bnd hD0 (show FF n es o k≤9 by omega)
      omega
    · rw [yit h.dl hi];omega
  · intro i
    by_cases hi:i<n
    · have h1:=h.s0 i hi
      have h2:=mul_bnd (k:=k) hD0 hn
      omega
    · rw [yit h.sl hi];omega
theorem GL.step{o:List Int}{k:Nat}{d s:List Int}(hD:Dist n es q o)(h:GL n es q D d0 o (k+1) d s 0) :
    ybw es o ((k:Int)+1) d n≤2147483648 ∧
      (0<ybw es o ((k:Int)+1) d n→GL n es q D d0 o k (ycB es (yaW o ((k:Int)+1)) (ybw es o ((k:Int)+1) d n) d n) (ycJ (yaW o ((k:Int)+1)) (ybw es o ((k:Int)+1) d n) s n)
        (yic (ycB es (yaW o ((k:Int)+1)) (ybw es o ((k:Int)+1) d n) d n) (ycJ (yaW o ((k:Int)+1)) (ybw es o ((k:Int)+1) d n) s n) 0 n)) ∧
      (¬0<ybw es o ((k:Int)+1) d n→GL n es q D d0 o k d s 0):=by
  have hb:=h.bnd hE hn hq ht hD0 hD1 hc hd0 hdl
  obtain ⟨-,dl,sl,kn,lp,bd,pos,s0,sq,same⟩:=h
  have hcast:((k+1:Nat):Int)=(k:Int)+1:=by omega
  rw [hcast] at bd pos s0
  have hF0:=FF_nonneg hE o ((k:Int)+1)
  have hF1:=FF_half hE o ((k:Int)+1)
  have hFk1:=FF_half hE o (k:Int)
  have hCC:=CC_nonneg hE o ((k:Int)+1)
  have hFk:FF n es o k=FF n es o ((k:Int)+1)+CC n es o ((k:Int)+1):=FF_step n es o k
  have hj:∀ v,v<n→gi o v=(k:Int)+1→1≤yaQ es (v:Int) (fun u=>gb (yaW o ((k:Int)+1)) u.toNat):=fun v hv hk=>near_pos hD (fun x hx=>(hE x hx).2.2.2.2.1) hv hk
  have hcc:=hc o hD
  have hol:=hD.len
  have hB0:0≤D*2^(FF n es o ((k:Int)+1)).toNat:=Int.mul_nonneg hD0 (Int.le_of_lt (Int.pow_pos (by omega)))
  have hT:=timesL_le (es:=es) (o:=o) (k:=(k:Int)+1) (d:=d) hB0 n (fun v hv=>by have:=bd v hv;omega) hj
  have hBk:=pow_bnd hD0 (show FF n es o ((k:Int)+1)≤9 by omega)
  have hTg:=timesL_ge (es:=es) (o:=o) (k:=(k:Int)+1) (d:=d) n hj
  have hTz:=yhk (es:=es) (o:=o) (k:=(k:Int)+1) (d:=d) n
  have hst:=pow_step hD0 hF0 hCC hT.1 hT.2
  rw [←hFk] at hst
  generalize ybw es o ((k:Int)+1) d n=T at *
  generalize hC:CC n es o ((k:Int)+1)=C at *
  generalize D*2^(FF n es o ((k:Int)+1)).toNat=B at *
  have hBk':D*2^(FF n es o (k:Int)).toNat≤D*512:=pow_bnd hD0 (by omega)
  generalize hBB:D*2^(FF n es o (k:Int)).toNat=B' at *
  have hTC:0≤T*C:=Int.mul_nonneg hT.1 hCC
  have hsm:((n:Int)-1-((k:Int)+1))*(D*512)+D*512=((n:Int)-1-k)*(D*512):=by
    have:(n:Int)-1-k=((n:Int)-1-((k:Int)+1))+1:=by omega
    rw [this,Int.add_mul,Int.one_mul]
  refine ⟨by omega,fun hpos=>?_,fun hz=>?_⟩
  · have hfd:∀ v,v<n→gi (ycB es (yaW o ((k:Int)+1)) T d n) v=gi d v-T*Lp n es (ind (yaW o ((k:Int)+1))) v:=fun v hv=>fire_lp hE _ T d dl hv
    have hfs:∀ v,v<n→gi (ycJ (yaW o ((k:Int)+1)) T s n) v=gi s v+T*ind (yaW o ((k:Int)+1)) v:=fun v hv=>yjD sl hv
    have hdl':(ycB es (yaW o ((k:Int)+1)) T d n).length=n:=by rw [ybL,dl]
    have hsl':(ycJ (yaW o ((k:Int)+1)) T s n).length=n:=by rw [yb7,sl]
    have hind:∀ v,0≤T*ind (yaW o ((k:Int)+1)) v∧T*ind (yaW o ((k:Int)+1)) v≤T:=fun v=>by unfold ind;split <;> omega
    have hbd:∀ v,v<n → -B'≤gi d v-T*Lp n es (ind (yaW o ((k:Int)+1))) v∧gi d v-T*Lp n es (ind (yaW o ((k:Int)+1))) v≤B':=fun v hv=>by
      have b:=bd v hv
      have mulb:∀ x:Int,x≤C→T*x≤T*C:=fun x hx=>Int.mul_le_mul_of_nonneg_left hx hT.1
      rcases Int.lt_trichotomy (gi o v) ((k:Int)+1) with h | h | h
      · have h1:=near_in hE hD hcc hv h
        rw [hC] at h1
        have h2:=mulb _ h1.2
        have h3:=Int.mul_nonneg hT.1 h1.1
        omega
      · have h1:=near_at hE hD hcc hv h
        have h4:=yen hE v (fun u=>gb (yaW o ((k:Int)+1)) u.toNat)
        have h5:1≤yaQ es (v:Int) (fun u=>gb (yaW o ((k:Int)+1)) u.toNat):=hj v hv h
        rw [hC] at h1
        have h2:=mulb (- Lp n es (ind (yaW o ((k:Int)+1))) v) (by omega)
        have h3:=Int.mul_nonneg hT.1 (show 0 ≤ - Lp n es (ind (yaW o ((k:Int)+1))) v by omega)
        rw [Int.mul_neg] at h2 h3
        omega
      · have h1:=near_out hE hD hcc hv h
        rw [h1];omega
    have hsb:∀ v,v<n→0≤gi s v+T*ind (yaW o ((k:Int)+1)) v∧gi s v+T*ind (yaW o ((k:Int)+1)) v≤((n:Int)-1-k)*(D*512):=fun v hv=>by
      have h1:=s0 v hv
      have h2:=hind v
      omega
    have hbig:((n:Int)-1-k)*(D*512)≤D*2560:=mul_bnd hD0 hn
    refine ⟨fireE_ok (fun j=>?_) (fun j=>?_) 0 n,hdl',hsl',by omega,fun v hv=>?_,fun v hv=>?_,fun v hv hk=>?_,fun v hv=>?_,fun v hv=>?_,fun hs=>?_⟩
    · by_cases hjn:j<n
      · rw [hfd j hjn]
        have h1:=bd j hjn
        have h2 : -1*(T*C)≤0:=by omega
        have h3:T*C≤B':=by omega
        have h4:=hbd j hjn
        omega
      · rw [yit hdl' hjn];omega
    · by_cases hjn:j<n
      · rw [hfs j hjn]
        have:=hsb j hjn
        omega
      · rw [yit hsl' hjn];omega
    · rw [hfd v hv,Lp_fireS sl hv,lp v hv];omega
    · rw [hfd v hv,hBB]
      exact hbd v hv
    · rw [hfd v hv]
      by_cases h:gi o v=(k:Int)+1
      · have h1:=near_at hE hD hcc hv h
        rw [h1.1,Int.mul_neg]
        have h2:=hj v hv h
        by_cases hneg:gi d v<0
        · have:=(hTg v hv h hneg).2;omega
        · have:=Int.mul_nonneg hT.1 (show 0≤yaQ es (v:Int) (fun u=>gb (yaW o ((k:Int)+1)) u.toNat) by omega)
          omega
      · rw [near_out hE hD hcc hv (by omega)]
        have:=pos v hv (by omega)
        omega
    · rw [hfs v hv];exact hsb v hv
    · rw [hfs v hv,hfs q hq]
      have h1:ind (yaW o ((k:Int)+1)) q=1:=by
        unfold ind
        rw [if_pos]
        rw [yf5 (by omega),hD.q0];simp <;> omega
      have h2:=hind v
      have h3:=sq v hv
      rw [h1];omega
    · exfalso
      obtain ⟨rfl,hs2⟩:=same hs
      have:=hTz (fun v hv hk=>hs v hv (fun e=>by subst e;rw [hD.q0] at hk;omega))
      omega
  · have hT0:T=0:=by omega
    subst hT0
    refine ⟨rfl,dl,sl,by omega,lp,fun v hv=>by have:=bd v hv;rw [hBB];omega,fun v hv hk=>?_,fun v hv=>?_,sq,same⟩
    · by_cases h:gi o v=(k:Int)+1
      · apply Int.not_lt.1
        intro hneg
        have:=(hTg v hv h hneg).1
        omega
      · exact pos v hv (by omega)
    · have:=s0 v hv;omega
end
end Go.Proofs.YtadpnlimiblniaaGreat

namespace Go.Proofs.YtadpnlimiblniaaGreat
open Go Go.Proofs.Tryz
def Conn(n:Nat)(es:List E3)(q:Nat):Prop:=∀ S:Nat→Bool,S q=false→(∃ v,v<n∧S v=true)→∃ v u,v<n∧u<n∧S v=true∧S u=false∧0<W es v u
structure Red(n:Nat)(es:List E3)(q:Nat)(d:List Int):Prop where
  pos:∀ v,v<n→v≠q→0≤gi d v
  no:∀ S:Nat→Bool,S q=false→(∃ v,v<n∧S v=true)→∃ v,v<n∧S v=true∧gi d v<sm n (fun u=>if S u then 0 else W es v u)
theorem yd8(c:Int):∀ n:Nat,sm n (fun _=>c)=n*c
  | 0=>by simp [sm]
  | n+1=>by
    rw [sm,yd8 c n]
    have:((n+1:Nat):Int)=(n:Int)+1:=by omega
    rw [this,Int.add_mul];omega
theorem sm_split{f:Nat→Int}{n q:Nat}(hq:q<n):sm n f=f q+sm n (fun v=>if v=q then 0 else f v):=by
  have h1:=ye9 (f q) hq
  rw [←h1,←ycc]
  exact yaw fun i _=>by
    show f i=ite _ _ _+ite _ _ _
    split
    · subst_vars;omega
    · omega
def low(n:Nat)(f:Nat→Int)(c:Int):Int:=sm n (fun x=>if f x<c then 1 else 0)
theorem climb{n:Nat}{es:List E3}{q:Nat}(hE:EOk n es)(hC:Conn n es q)(hq:q<n){f:Nat→Int}{G:Int}(hG0:0≤G)(hG:∀ S:Nat→Bool,S q=false→sm n (fun v=>if S v then Lp n es f v else 0)≤G) :
    ∀ v,v<n→f v-f q≤low n f (f v)*G:=by
  suffices H:∀ (k:Nat) v,v<n→low n f (f v)≤k→f v-f q≤low n f (f v)*G from fun v hv=>H (low n f (f v)).toNat v hv (by omega)
  have lown:∀ c,0≤low n f c:=fun c=>ya5 fun x _=>by show 0≤ite _ _ _;split <;> omega
  have step:∀ v,v<n→f q<f v→∃ u,u<n∧f u<f v∧f v-f u≤G∧low n f (f u)+1≤low n f (f v):=by
    intro v hv hlt
    have hS0:(fun x=>decide (f v≤f x)) q=false:=by simp;omega
    obtain ⟨x,u,hx,hu,hSx,hSu,hW⟩:=hC (fun x=>decide (f v≤f x)) hS0 ⟨v,hv,by simp⟩
    simp only [decide_eq_true_eq,decide_eq_false_iff_not] at hSx hSu
    have h1:=hG (fun x=>decide (f v≤f x)) hS0
    rw [Lp_cut] at h1
    have nn:∀ a b,0≤(if (decide (f v≤f a) && !decide (f v≤f b))=true then W es a b*(f a-f b) else 0):=fun a b=>by
      split
      · rename_i h
        simp only [Bool.and_eq_true,decide_eq_true_eq,Bool.not_eq_true',decide_eq_false_iff_not] at h
        exact Int.mul_nonneg (ya2 hE a b) (by omega)
      · omega
    have h2:=yik (n:=n) (f:=fun a=>sm n (fun b=>if (decide (f v≤f a) && !decide (f v≤f b))=true then W es a b*(f a-f b) else 0)) (fun a _=>ya5 fun b _=>nn a b) x hx
    have h3:=yik (n:=n) (f:=fun b=>if (decide (f v≤f x) && !decide (f v≤f b))=true then W es x b*(f x-f b) else 0) (fun b _=>nn x b) u hu
    have h4:(decide (f v≤f x) && !decide (f v≤f u))=true:=by
      simp only [Bool.and_eq_true,decide_eq_true_eq,Bool.not_eq_true',decide_eq_false_iff_not];omega
    simp only [h4,if_true] at h3
    have h5:1*(f x-f u)≤W es x u*(f x-f u):=Int.mul_le_mul_of_nonneg_right (by omega) (by omega)
    have h6:f x-f u≤G:=by
      have h2':sm n (fun b=>if (decide (f v≤f x) && !decide (f v≤f b))=true then W es x b*(f x-f b) else 0)≤sm n (fun a=>sm n (fun b=>if (decide (f v≤f a) && !decide (f v≤f b))=true then W es a b*(f a-f b) else 0)):=h2
      omega
    refine ⟨u,hu,by omega,by omega,?_⟩
    unfold low
    have h7:=ye9 1 hu
    rw [←h7,←ycc]
    refine ydh fun i _=>?_
    show ite _ _ _+ite _ _ _≤ite _ _ _
    by_cases e:i=u
    · subst e;rw [if_neg (by omega),if_pos rfl,if_pos (by omega)];omega
    · rw [if_neg e];split <;> split <;> omega
  intro k
  induction k with
  | zero =>
    intro v hv hk
    by_cases h:f q<f v
    · obtain ⟨u,hu,h1,h2,h3⟩:=step v hv h
      have:=lown (f u);omega
    · have:=Int.mul_nonneg (lown (f v)) hG0;omega
  | succ k ih =>
    intro v hv hk
    by_cases h:f q<f v
    · obtain ⟨u,hu,h1,h2,h3⟩:=step v hv h
      have h4:=ih u hu (by omega)
      have h5:(low n f (f u)+1)*G≤low n f (f v)*G:=Int.mul_le_mul_of_nonneg_right h3 hG0
      rw [Int.add_mul] at h5;omega
    · have:=Int.mul_nonneg (lown (f v)) hG0;omega
theorem low_le{n:Nat}{f:Nat→Int}{v:Nat}(hv:v<n):low n f (f v)≤(n:Int)-1:=by
  have h7:=ye9 1 hv
  have h1:low n f (f v)+sm n (fun i=>if i=v then 1 else 0)≤sm n (fun _=>1):=by
    unfold low
    rw [←ycc]
    refine ydh fun i _=>?_
    show (if f i<f v then (1:Int) else 0)+(if i=v then (1:Int) else 0)≤1
    by_cases e:i=v
    · subst e;rw [if_neg (by omega),if_pos rfl];omega
    · rw [if_neg e];split <;> omega
  rw [h7] at h1
  rw [yd8] at h1;omega
theorem red_script{n:Nat}{es:List E3}{q:Nat}(hE:EOk n es)(hq:q<n){d d':List Int}(h:Red n es q d)(hpos:∀ v,v<n→v≠q→0≤gi d' v){f:Nat→Int}(hf:∀ v,v<n→gi d' v=gi d v-Lp n es f v):∀ v,v<n→f v≤f q:=by
  suffices H:∀ (k:Nat) v,v<n→n≤k+(low n f (f v)).toNat→f v≤f q from fun v hv=>H n v hv (by omega)
  have lown:∀ c,0≤low n f c:=fun c=>ya5 fun x _=>by show 0≤ite _ _ _;split <;> omega
  intro k
  induction k with
  | zero=>intro v hv hk;have:=low_le (f:=f) hv;have:=lown (f v);omega
  | succ k ih =>
    intro v hv hk
    apply Int.not_lt.1
    intro hlt
    by_cases hmx:∃ x,x<n∧f v<f x
    · obtain ⟨x,hx,hvx⟩:=hmx
      have h1:low n f (f v)+1≤low n f (f x):=by
        unfold low
        have h7:=ye9 1 hv
        rw [←h7,←ycc]
        refine ydh fun i _=>?_
        show ite _ _ _+ite _ _ _≤ite _ _ _
        by_cases e:i=v
        · subst e;rw [if_neg (by omega),if_pos rfl,if_pos (by omega)];omega
        · rw [if_neg e];split <;> split <;> omega
      have:=ih x hx (by have:=lown (f v);omega)
      omega
    · have hmx2:∀ x,x<n→f x≤f v:=fun x hx=>Int.not_lt.1 fun h=>hmx ⟨x,hx,h⟩
      obtain ⟨x,hx,hSx,hlt2⟩:=h.no (fun x=>decide (f x=f v)) (by simp;omega) ⟨v,hv,by simp⟩
      simp only [decide_eq_true_eq] at hSx hlt2
      have h2:=hf x hx
      have h3:sm n (fun u=>if f u=f v then 0 else W es x u)≤Lp n es f x:=ydh fun u hu=>by
        have hu2:=hmx2 u hu
        have hw:=ya2 hE x u
        show ite _ _ _≤W es x u*(f x-f u)
        split
        · rename_i e;rw [show f x-f u=0 by omega];omega
        · have:=Int.mul_le_mul_of_nonneg_left (show 1≤f x-f u by omega) hw
          omega
      have h4:=hpos x hx (fun e=>by subst e;omega)
      omega
structure GS0(n:Nat)(es:List E3)(q:Nat)(D:Int)(d0 d s:List Int):Prop where
  dl:d.length=n
  sl:s.length=n
  lp:∀ v,v<n→gi d v=gi d0 v-Lp n es (gi s) v
  pos:∀ v,v<n→v≠q→0≤gi d v
  off:sm n (fun v=>if v=q then 0 else gi d v)≤D*2560
  s0:∀ v,v<n→0≤gi s v
  sq:gi s q≤D*2560
def left' (D:Int)(n:Nat)(s:List Int):Int:=sm n (fun v=>D*2600-gi s v)
def GS(n:Nat)(es:List E3)(q:Nat)(D:Int)(d0:List Int)(m:Nat)(d s:List Int)(e:Int):Prop:=e=0∧GS0 n es q D d0 d s∧m=(left' D n s).toNat
theorem timesS_all{es:List E3}{left:List Bool}{d:List Int}{M:Int}(hM:0≤M):∀ n,(∀ v,v<n→gi d v≤M∨gb left v=false)→(∀ v,v<n→gb left v=true→yaQ es (v:Int) (fun u=>!gb left u.toNat)≤gi d v∧0≤yaQ es (v:Int) (fun u=>!gb left u.toNat)) →
    0≤yby es left d n∧yby es left d n≤M∧∀ v,v<n→gb left v=true→0<yaQ es (v:Int) (fun u=>!gb left u.toNat)→1≤yby es left d n∧yby es left d n*yaQ es (v:Int) (fun u=>!gb left u.toNat)≤gi d v
  | 0,_,_=>by simp [yby];exact hM
  | n+1,hd,hj=>by
    obtain ⟨i1,i2,i3⟩:=timesS_all hM n (fun v hv=>hd v (by omega)) (fun v hv=>hj v (by omega))
    rw [yby]
    by_cases hc:gb left n=true∧0<yaQ es (n:Int) (fun u=>!gb left u.toNat)
    · rw [if_pos hc]
      have h1:=hj n (by omega) hc.1
      have hdM:gi d n≤M:=by
        rcases hd n (by omega) with h | h
        · exact h
        · rw [hc.1] at h;cases h
      have hJ:=hc.2
      have hq1:(gi d n).tdiv (yaQ es (n:Int) (fun u=>!gb left u.toNat))*yaQ es (n:Int) (fun u=>!gb left u.toNat)≤gi d n:=by
        rw [Int.tdiv_eq_ediv_of_nonneg (by omega)]
        exact Int.ediv_mul_le _ (by omega)
      have hq2:1≤(gi d n).tdiv (yaQ es (n:Int) (fun u=>!gb left u.toNat)):=by
        rw [Int.tdiv_eq_ediv_of_nonneg (by omega)]
        exact Int.le_ediv_of_mul_le hJ (by omega)
      have hq3:(gi d n).tdiv (yaQ es (n:Int) (fun u=>!gb left u.toNat))≤M:=by
        have:=Int.mul_le_mul_of_nonneg_left (show 1≤yaQ es (n:Int) (fun u=>!gb left u.toNat) by omega) (show 0≤(gi d n).tdiv (yaQ es (n:Int) (fun u=>!gb left u.toNat)) by omega)
        omega
      generalize hX:(gi d n).tdiv (yaQ es (n:Int) (fun u=>!gb left u.toNat))=X at *
      by_cases hc2:yby es left d n=0∨X<yby es left d n
      · rw [if_pos hc2]
        refine ⟨by omega,hq3,fun v hv hl hp=>?_⟩
        by_cases e:v=n
        · subst e;exact ⟨hq2,hq1⟩
        · obtain ⟨j1,j2⟩:=i3 v (by omega) hl hp
          refine ⟨hq2,?_⟩
          have:=Int.mul_le_mul_of_nonneg_right (show X≤yby es left d n by omega) (Int.le_of_lt hp)
          omega
      · rw [if_neg hc2]
        refine ⟨i1,i2,fun v hv hl hp=>?_⟩
        by_cases e:v=n
        · subst e
          refine ⟨by omega,?_⟩
          have:=Int.mul_le_mul_of_nonneg_right (show yby es left d v≤X by omega) (Int.le_of_lt hp)
          omega
        · exact i3 v (by omega) hl hp
    · rw [if_neg hc]
      refine ⟨i1,i2,fun v hv hl hp=>?_⟩
      by_cases e:v=n
      · subst e;exact absurd ⟨hl,hp⟩ hc
      · exact i3 v (by omega) hl hp
theorem ygv{burnt:List Bool}{n v:Nat}(hl:burnt.length=n)(hv:v<n):gb (leftOf burnt) v = !gb burnt v:=by
  rw [yb5 (by simpa [leftOf] using (by omega:v<burnt.length)),yb5 (by omega)]
  simp [leftOf]
section
variable {n : Nat} {es : List E3} {q : Nat} {D : Int} {d0 : List Int} (hE : EOk n es) (hn : n ≤ 6) (hq : q < n) (hD0 : 0 ≤ D) (hD1 : D ≤ 200) (hC : Conn n es q)
  (hd0:∀ v,v<n → -D≤gi d0 v∧gi d0 v≤D)
include hE hn hq hD0 hD1 hC hd0
theorem GS0.bnd{d s:List Int}(h:GS0 n es q D d0 d s):(∀ v,v<n→gi s v≤gi s q+D*30)∧(∀ v,v<n → -(D*2566)≤gi d v∧gi d v≤D*2566)∧0≤gi s q:=by
  refine ⟨fun v hv=>?_,?_,h.s0 q hq⟩
  · have hnD:sm n (fun _=>D)≤6*D:=by
      rw [yd8]
      exact Int.mul_le_mul_of_nonneg_right (by omega) hD0
    have h1:=climb hE hC hq (f:=gi s) (G:=6*D) (by omega) (fun S hS=>by
      refine Int.le_trans (ydh fun v hv=>?_) hnD
      show ite _ _ _≤D
      split
      · rename_i hSv
        have h1:=h.lp v hv
        have h2:=h.pos v hv (fun e=>by subst e;rw [hS] at hSv;cases hSv)
        have h3:=hd0 v hv
        omega
      · exact hD0) v hv
    have h2:=low_le (f:=gi s) hv
    have h3:=Int.mul_le_mul_of_nonneg_right (show low n (gi s) (gi s v)≤5 by omega) (show 0≤6*D by omega)
    omega
  · have hoff0:∀ v,v<n→0≤(if v=q then 0 else gi d v):=fun v hv=>by
      split
      · omega
      · rename_i e;exact h.pos v hv e
    have hoffn:=ya5 hoff0
    have hoffs:=h.off
    have htot:sm n (gi d)=sm n (gi d0):=by
      have h1:=yf8 (n:=n) (es:=es) (gi s)
      have h2:sm n (gi d)=sm n (gi d0)-sm n (fun v=>Lp n es (gi s) v):=by
        rw [←yfB]
        exact yaw fun i hi=>h.lp i hi
      omega
    have h6:sm n (gi d0)≤6*D ∧ -(6*D)≤sm n (gi d0):=by
      constructor
      · refine Int.le_trans (ydh fun v hv=>(hd0 v hv).2) ?_
        rw [yd8];exact Int.mul_le_mul_of_nonneg_right (by omega) hD0
      · have h7:sm n (fun _ => -D)≤sm n (gi d0):=ydh fun v hv=>(hd0 v hv).1
        rw [yd8] at h7
        have h8:(n:Int)*D≤6*D:=Int.mul_le_mul_of_nonneg_right (by omega) hD0
        rw [Int.mul_neg] at h7
        omega
    have hsp:=sm_split (f:=gi d) hq
    intro v hv
    by_cases e:v=q
    · subst e;omega
    · have h8:=yik hoff0 v hv
      rw [if_neg e] at h8
      have h9:=h.pos v hv e
      omega
theorem GS.bnd{m:Nat}{d s:List Int}{e:Int}(h:GS n es q D d0 m d s e):Bnd 600000 d∧Bnd 600000 s:=by
  obtain ⟨-,h0, -⟩:=h
  obtain ⟨b1,b2,b3⟩:=h0.bnd hE hn hq hD0 hD1 hC hd0
  have hsq:=h0.sq
  constructor
  · intro i
    by_cases hi:i<n
    · have:=b2 i hi;omega
    · rw [yit h0.dl hi];omega
  · intro i
    by_cases hi:i<n
    · have:=b1 i hi;have:=h0.s0 i hi;omega
    · rw [yit h0.sl hi];omega
theorem GS.step{m:Nat}{d s:List Int}{burnt:List Bool}(h:GS n es q D d0 m d s 0)(hB:Burns n es q d burnt)(hany:(leftOf burnt).any id=true) :
    0≤yby es (leftOf burnt) d n∧yby es (leftOf burnt) d n≤2147483648∧(∀ v,v<n→gb (leftOf burnt) v=true→0≤gi d v) ∧
      ∃ m',m'<m∧GS n es q D d0 m' (ycB es (leftOf burnt) (yby es (leftOf burnt) d n) d n) (ycJ (leftOf burnt) (yby es (leftOf burnt) d n) s n)
        (yic (ycB es (leftOf burnt) (yby es (leftOf burnt) d n) d n) (ycJ (leftOf burnt) (yby es (leftOf burnt) d n) s n) 0 n):=by
  have hb:=h.bnd hE hn hq hD0 hD1 hC hd0
  obtain ⟨-,h0,hm⟩:=h
  have hLq:gb (leftOf burnt) q=false:=by rw [ygv hB.len hq,hB.at_q];rfl
  have hnq:∀ v,gb (leftOf burnt) v=true→v≠q:=fun v hv e=>by subst e;rw [hLq] at hv;cases hv
  have hjl:∀ v:Nat,yaQ es (v:Int) (fun u=>!gb (leftOf burnt) u.toNat)=sm n (fun u=>if gb (leftOf burnt) u=true then 0 else W es v u):=fun v=>by
    rw [yen hE]
    exact yaw fun u hu=>by
      simp only [Int.toNat_natCast]
      by_cases hs:gb (leftOf burnt) u=true
      · simp [hs]
      · simp [hs]
  have hj0:∀ v:Nat,0≤yaQ es (v:Int) (fun u=>!gb (leftOf burnt) u.toNat):=fun v=>by
    rw [hjl]
    exact ya5 fun u _=>by have:=ya2 hE v u;split <;> omega
  have hjd:∀ v,v<n→gb (leftOf burnt) v=true→yaQ es (v:Int) (fun u=>!gb (leftOf burnt) u.toNat)≤gi d v:=fun v hv hl=>by
    have h1:=hB.closed v hv (by rw [ygv hB.len hv] at hl;simpa using hl)
    rw [yen hE] at h1 ⊢
    refine Int.le_trans (Int.le_of_eq (yaw fun u hu=>?_)) h1
    simp only [Int.toNat_natCast,ygv hB.len hu,Bool.not_not]
  obtain ⟨t0,t1,t2⟩:=timesS_all (es:=es) (left:=leftOf burnt) (d:=d) (M:=600000) (by omega) n (fun v hv => .inl (hb.1 v).2) (fun v hv hl=>⟨hjd v hv hl,hj0 v⟩)
  -- a way out
  have hex:∃ v,v<n∧gb (leftOf burnt) v=true:=by
    obtain ⟨x,hx,hxt⟩:=List.any_eq_true.1 hany
    obtain ⟨i,hi,hxi⟩:=List.mem_iff_getElem.1 hx
    refine ⟨i,by simpa [leftOf,hB.len] using hi,?_⟩
    rw [yb5 hi,hxi];simpa using hxt
  obtain ⟨v,u,hv,hu,hSv,hSu,hW⟩:=hC (gb (leftOf burnt)) hLq hex
  have hjv:0<yaQ es (v:Int) (fun u=>!gb (leftOf burnt) u.toNat):=by
    rw [hjl]
    have:=yik (n:=n) (f:=fun u=>if gb (leftOf burnt) u=true then 0 else W es v u) (fun u _=>by have:=ya2 hE v u;show 0≤ite _ _ _;split <;> omega) u hu
    simp only [hSu,Bool.false_eq_true,if_false] at this
    omega
  have hT1:=(t2 v hv hSv hjv).1
  clear hex
  refine ⟨t0,by omega,fun v hv hl=>h0.pos v hv (hnq v hl),?_⟩
  generalize yby es (leftOf burnt) d n=T at *
  have hfd:∀ v,v<n→gi (ycB es (leftOf burnt) T d n) v=gi d v-T*Lp n es (ind (leftOf burnt)) v:=fun v hv=>fire_lp hE _ T d h0.dl hv
  have hfs:∀ v,v<n→gi (ycJ (leftOf burnt) T s n) v=gi s v+T*ind (leftOf burnt) v:=fun v hv=>yjD h0.sl hv
  have hind:∀ v,0≤T*ind (leftOf burnt) v:=fun v=>by unfold ind;split <;> omega
  have hq0:ind (leftOf burnt) q=0:=by unfold ind;rw [hLq];rfl
  have hout:∀ v,¬gb (leftOf burnt) v=true→Lp n es (ind (leftOf burnt)) v≤0:=fun v hl=>by
    rw [yie hl]
    have:=ya5 (n:=n) (f:=fun u=>if gb (leftOf burnt) u=true then W es v u else 0) (fun u _=>by have:=ya2 hE v u;show 0≤ite _ _ _;split <;> omega)
    omega
  have hG:GS0 n es q D d0 (ycB es (leftOf burnt) T d n) (ycJ (leftOf burnt) T s n):=by
    refine ⟨by rw [ybL,h0.dl],by rw [yb7,h0.sl],fun v hv=>?_,fun v hv hvq=>?_,?_,fun v hv=>?_,?_⟩
    · rw [hfd v hv,Lp_fireS h0.sl hv,h0.lp v hv];omega
    · rw [hfd v hv]
      have hp:=h0.pos v hv hvq
      by_cases hl:gb (leftOf burnt) v=true
      · rw [Lp_ind_in hl,←hjl]
        by_cases hz:0<yaQ es (v:Int) (fun u=>!gb (leftOf burnt) u.toNat)
        · have:=(t2 v hv hl hz).2;omega
        · have h1:=hj0 v
          rw [show yaQ es (v:Int) (fun u=>!gb (leftOf burnt) u.toNat)=0 by omega];omega
      · have h1:=hout v hl
        have h2:=Int.mul_nonneg t0 (show 0 ≤ - Lp n es (ind (leftOf burnt)) v by omega)
        rw [Int.mul_neg] at h2;omega
    · have h1:sm n (fun v=>if v=q then 0 else gi (ycB es (leftOf burnt) T d n) v)=sm n (fun v=>if v=q then 0 else gi d v)-T*sm n (fun v=>if v=q then 0 else Lp n es (ind (leftOf burnt)) v):=by
        rw [←yjS,←yfB]
        refine yaw fun v hv=>?_
        show ite _ _ _=ite _ _ _-T*ite _ _ _
        split
        · omega
        · exact hfd v hv
      have h2:=sm_split (f:=Lp n es (ind (leftOf burnt))) hq
      have h3:sm n (Lp n es (ind (leftOf burnt)))=0:=yf8 (n:=n) (es:=es) (ind (leftOf burnt))
      have h4:=hout q (by rw [hLq];simp)
      have h5:=Int.mul_nonneg t0 (show 0≤sm n (fun v=>if v=q then 0 else Lp n es (ind (leftOf burnt)) v) by omega)
      have:=h0.off
      omega
    · rw [hfs v hv];have:=h0.s0 v hv;have:=hind v;omega
    · rw [hfs q hq,hq0];have:=h0.sq;omega
  obtain ⟨b1,b2,b3⟩:=hG.bnd hE hn hq hD0 hD1 hC hd0
  have hsq:=hG.sq
  refine ⟨_,?_,fireE_ok (fun j=>?_) (fun j=>?_) 0 n,hG,rfl⟩
  · rw [hm]
    have h1:0≤left' D n (ycJ (leftOf burnt) T s n):=ya5 fun v hv=>by
      show 0≤D*2600-gi (ycJ (leftOf burnt) T s n) v
      have:=b1 v hv;omega
    have h2:left' D n (ycJ (leftOf burnt) T s n)+1≤left' D n s:=by
      unfold left'
      have h3:sm n (fun v=>D*2600-gi (ycJ (leftOf burnt) T s n) v)=sm n (fun v=>D*2600-gi s v)-sm n (fun v=>T*ind (leftOf burnt) v):=by
        rw [←yfB]
        refine yaw fun v hv=>?_
        show D*2600-gi (ycJ (leftOf burnt) T s n) v=_-_
        rw [hfs v hv];omega
      have h4:=yik (n:=n) (f:=fun v=>T*ind (leftOf burnt) v) (fun v _=>hind v) v hv
      have h5:ind (leftOf burnt) v=1:=by unfold ind;rw [if_pos hSv]
      simp only [h5] at h4
      omega
    omega
  · by_cases hj:j<n
    · have:=b2 j hj;omega
    · rw [yit hG.dl hj];omega
  · by_cases hj:j<n
    · have:=b1 j hj;have:=hG.s0 j hj;omega
    · rw [yit hG.sl hj];omega
theorem GS0.red{d s:List Int}{burnt:List Bool}(h:GS0 n es q D d0 d s)(hB:Burns n es q d burnt)(hany:(leftOf burnt).any id=false):Red n es q d:=by
  refine ⟨h.pos,fun S hS ⟨v,hv,hSv⟩=>?_⟩
  apply Classical.byContradiction
  intro hno
  have h1:=hB.forced S hS (fun x hx hSx=>by
    apply Int.not_lt.1
    intro hlt
    rw [yen hE] at hlt
    refine hno ⟨x,hx,hSx,Int.lt_of_lt_of_le hlt (Int.le_of_eq (yaw fun u hu=>?_))⟩
    simp only [Int.toNat_natCast]
    by_cases hs:S u=true
    · simp [hs]
    · simp [hs]) v hv hSv
  have h2:gb (leftOf burnt) v=true:=by rw [ygv hB.len hv,h1];rfl
  have hvl:v<(leftOf burnt).length:=by simp [leftOf,hB.len,hv]
  rw [yb5 hvl] at h2
  have h3:(leftOf burnt).any id=true:=List.any_eq_true.2 ⟨_,List.getElem_mem hvl,h2⟩
  rw [hany] at h3;cases h3
theorem GL.settle{o:List Int}{d s:List Int}{e:Int}(hD:Dist n es q o)(hc:∀ v,v<n→0≤gi o v)(ht:tot n es≤18)(h:GL n es q D d0 o 0 d s e):GS n es q D d0 (left' D n s).toNat d s e:=by
  have hF:=FF_half hE o ((0:Nat):Int)
  have hB:=pow_bnd hD0 (show FF n es o ((0:Nat):Int)≤9 by omega)
  have hpos:∀ v,v<n→v≠q→0≤gi d v:=fun v hv hvq=>h.pos v hv (by
    have h1:=hc v hv
    have h2:gi o v≠0:=fun e=>hvq (hD.zero v hv e)
    omega)
  refine ⟨h.e0,⟨h.dl,h.sl,h.lp,hpos,?_,fun v hv=>(h.s0 v hv).1,?_⟩,rfl⟩
  · have h1:sm n (fun v=>if v=q then 0 else gi d v)≤sm n (fun v=>if v=q then 0 else D*512):=ydh fun v hv=>by
      show ite _ _ _≤ite _ _ _
      split
      · omega
      · have:=h.bd v hv;omega
    have h2:=sm_split (f:=fun _=>D*512) hq
    rw [yd8] at h2
    have h3:(n:Int)*(D*512)≤6*(D*512):=Int.mul_le_mul_of_nonneg_right (by omega) (by omega)
    omega
  · have:=(h.s0 q hq).2
    have:=mul_bnd (n:=n) (k:=0) hD0 hn
    omega
end
end Go.Proofs.YtadpnlimiblniaaGreat

namespace Go.Proofs.YtadpnlimiblniaaGreat
open Go.RowKit Go.Maps Go.Proofs.Tryz
set_option maxRecDepth 100000
set_option maxHeartbeats 400000
theorem yi1(g:Nat)(F:List Nat)(v:Nat)(w:World)(hF:NRow w g 184 12 F)(h:ydb F)(hv:v<12) :
    Calls Tryz.prog 171 #[.pointer (some ⟨g,0,none⟩), .int .i64 (v:Int)] w fun e w'=>e = .returned (.int .i64 (root F v:Int))∧w=w':=by
  have H:=Lib.hid h
  clear h
  go_enter func171,ntmps171
  go_wp2
  go_loopw [1] (fun i wr=>∃ u:Nat,u<12∧i = .int .i64 (u:Int)∧Hid (root F v=root F u)∧Same wr w) (fun i _=>(intOf i).toNat)
  case atStart=>exact ⟨v,hv,rfl,rfl, .refl _⟩
  case round =>
    obtain ⟨u,hu,rfl,hr,hw⟩:=hrel
    obtain rfl:wr=w:=hw.out
    have hc:=ncell hF (k:=u) (by rw [H.out.1];exact hu)
    simp only [Int.ofNat_eq_natCast] at hc
    have hle:=H.out.2 u hu
    by_cases he:gn F u=u
    · have hb:=neF (a:=(gn F u:Int)) (b:=(u:Int)) (by rw [he])
      have HE:=Lib.hid he
      clear he hw
      go_wp2
      go_ret
      exact ⟨yeB (yfG (by rw [hr.out,ycT HE.out])),rfl⟩
    · have hb:=neT (a:=(gn F u:Int)) (b:=(u:Int)) (by omega)
      clear hw
      go_wp2
      go_roundw
      case rel=>exact ⟨gn F u,by omega,rfl,by rw [Hid,hr.out,yfK H.out hu he], .refl _⟩
      case measure=>simp [intOf];omega
theorem join_any(g:Nat)(F:List Nat)(a b:Nat)(w:World)(hF:NRow w g 184 12 F)(h:ydb F)(ha:a<12)(hb:b<12) :
    Calls Tryz.prog 170 #[.pointer (some ⟨g,0,none⟩), .int .i64 (a:Int), .int .i64 (b:Int)] w fun e w'=>e = .returned (.tuple #[])∧NRow w' g 184 12 (ycV F a b)∧Keeps (· = g) w w':=by
  have h1:=yd4 h a ha
  have h2:=yd4 h b hb
  have hfa:=Row.frozen hF (root F a)
  have hfb:=Row.frozen hF (root F b)
  have hca:=ncell hF (k:=root F a) (by rw [h.1];omega)
  have hcb:=ncell hF (k:=root F b) (by rw [h.1];omega)
  have l1:root F a<12:=by omega
  have l2:root F b<12:=by omega
  have H1:=Lib.hid h1
  have H2:=Lib.hid h2
  clear h1 h2
  go_enter func170,ntmps170
  go_wp2_with fail
  refine (yi1 g F a _ hF h ha).mono ?_
  rintro e w' ⟨rfl,rfl⟩
  go_wp2_with fail
  refine (yi1 g F b _ hF h hb).mono ?_
  rintro e w' ⟨rfl,rfl⟩
  have HF:=Lib.hid hF
  clear hF
  go_wp2
  all_goals go_end0
  all_goals (refine ⟨rfl,?_,(by repeat (first | exact Keeps.refl _ _ | assumption | refine Keeps.drew ?_ | refine Keeps.drewN ?_ _ | refine Keeps.alloc ?_ _ | refine Keeps.setRow ?_ (by simp) _ | refine Keeps.setRow ?_ (by simp;omega) _ | refine Keeps.setCell ?_ (by simp) _ | refine Keeps.setCell ?_ (by simp;omega) _))⟩)
  all_goals (first
    | (rw [show ycV F a b=F.set (root F a) (root F b) by unfold ycV;rw [Nat.max_eq_left (by omega),Nat.min_eq_right (by omega)]];exact nset HF.out _ _)
    | (rw [show ycV F a b=F.set (root F b) (root F a) by unfold ycV;rw [Nat.max_eq_right (by omega),Nat.min_eq_left (by omega)]];exact nset HF.out _ _)
    | (rw [show ycV F a b=F.set (root F a) (root F a) by unfold ycV;rw [Nat.max_eq_right (by omega),Nat.min_eq_left (by omega)];congr 1 <;> omega];exact nset HF.out _ _))
def yig(F:List Nat):Value := .agg (yeC F).toArray
theorem grown_any(w:World) :
    Calls Tryz.prog 169 #[] w fun e w'=>e = .returned (yig ydC)∧Pure w w':=by
  go_enter func169,ntmps169
  go_wp2
  refine wp_loop_rounds 13 ?_
  repeat any_goals (rw [rounds_succ];go_wp2)
  exact bodyPost_ret (v:=yig ydC) (by simp [results,Tryz.results169,go_sem,yig,yeC,ydC,List.range,List.range.loop]) rfl ⟨rfl,(by repeat (first | exact Keeps.refl _ _ | assumption | refine Keeps.drew ?_ | refine Keeps.drewN ?_ _ | refine Keeps.alloc ?_ _ | refine Keeps.setRow ?_ (by simp) _ | refine Keeps.setRow ?_ (by simp;omega) _ | refine Keeps.setCell ?_ (by simp) _ | refine Keeps.setCell ?_ (by simp;omega) _))⟩
theorem forestV_lit{F:List Nat}(h:F.length=12):∃ a0 a1 a2 a3 a4 a5 a6 a7 a8 a9 a10 a11:Nat,F=[a0,a1,a2,a3,a4,a5,a6,a7,a8,a9,a10,a11]:=by
  match F,h with
  | [a0,a1,a2,a3,a4,a5,a6,a7,a8,a9,a10,a11],_=>exact ⟨a0,a1,a2,a3,a4,a5,a6,a7,a8,a9,a10,a11,rfl⟩
theorem forest_info:(Tryz.prog.info? 184).map (·.size)=some 12:=by kernel_rfl
theorem joined_any(A:Option Addr)(es:List E3)(cap:Nat)(n:Int)(w:World)(hd:ydB w A es)(hlen:es.length≤1000000000)(hE:ydE es) :
    Calls Tryz.prog 158 #[.agg #[.int .i64 n, .slice A es.length cap]] w fun e w'=>e = .returned (yig (yaA es))∧Pure w w':=by
  have HD:=Lib.hid hd
  have HE:=Lib.hid hE
  clear hd hE
  go_enter func158,ntmps158
  go_wp2_with fail
  refine (grown_any _).mono ?_
  rintro e w1 ⟨rfl,hp1⟩
  have r0:=hp1.row (Row.alloc (Row.new w #[.int .i64 n, .slice A es.length cap] 24) _) id
  have r1:=hp1.row (Row.new (w.alloc (.cells #[.int .i64 n, .slice A es.length cap] 24)) #[.int .i64 0, .int .i64 0, .int .i64 0, .int .i64 0, .int .i64 0, .int .i64 0, .int .i64 0, .int .i64 0, .int .i64 0, .int .i64 0, .int .i64 0, .int .i64 0] 184) id
  rw [World.size_alloc] at r1
  have k0:Pure w w1:=Pure.after (by repeat (first | exact Keeps.refl _ _ | assumption | refine Keeps.drew ?_ | refine Keeps.drewN ?_ _ | refine Keeps.alloc ?_ _ | refine Keeps.setRow ?_ (by simp) _ | refine Keeps.setRow ?_ (by simp;omega) _ | refine Keeps.setCell ?_ (by simp) _ | refine Keeps.setCell ?_ (by simp;omega) _)) hp1
  have r00:=Row.cell r0 (i:=0) rfl
  have r01:=Row.cell r0 (i:=1) rfl
  have s0:=r0.lt
  have s1:=r1.lt
  unfold yig yeC ydC
  simp only [List.range,List.range.loop,List.map]
  go_wp2
  have hf0:NRow (w1.alloc (.cells #[.int .i64 0, .int .i64 1, .int .i64 2, .int .i64 3, .int .i64 4, .int .i64 5, .int .i64 6, .int .i64 7, .int .i64 8, .int .i64 9, .int .i64 10, .int .i64 11] 184)) w1.heap.size 184 12 (yaA (es.take 0)) :=
    Row.new w1 #[.int .i64 0, .int .i64 1, .int .i64 2, .int .i64 3, .int .i64 4, .int .i64 5, .int .i64 6, .int .i64 7, .int .i64 8, .int .i64 9, .int .i64 10, .int .i64 11] 184
  have g0:=Row.alloc r0 (.cells #[.int .i64 0, .int .i64 1, .int .i64 2, .int .i64 3, .int .i64 4, .int .i64 5, .int .i64 6, .int .i64 7, .int .i64 8, .int .i64 9, .int .i64 10, .int .i64 11] 184)
  have g1:=Row.alloc r1 (.cells #[.int .i64 0, .int .i64 1, .int .i64 2, .int .i64 3, .int .i64 4, .int .i64 5, .int .i64 6, .int .i64 7, .int .i64 8, .int .i64 9, .int .i64 10, .int .i64 11] 184)
  have k1:=Keeps.alloc k0 (.cells #[.int .i64 0, .int .i64 1, .int .i64 2, .int .i64 3, .int .i64 4, .int .i64 5, .int .i64 6, .int .i64 7, .int .i64 8, .int .i64 9, .int .i64 10, .int .i64 11] 184)
  go_loopw [10] (fun i wr=>∃ k:Nat,k≤es.length∧i = .int .i64 k∧NRow wr w1.heap.size 184 12 (yaA (es.take k))∧Row wr (w.heap.size+1) 184 12 [.int .i64 0, .int .i64 0, .int .i64 0, .int .i64 0, .int .i64 0, .int .i64 0, .int .i64 0, .int .i64 0, .int .i64 0, .int .i64 0, .int .i64 0, .int .i64 0]∧Pure w wr) (fun i _=>es.length-(intOf i).toNat)
  case atStart=>exact ⟨0,Nat.zero_le _,rfl,hf0,g1,k1⟩
  clear hf0 g0 g1 k1 r0 r1 k0 r00 r01 hp1
  case round =>
    obtain ⟨k,hk,rfl,hf,hr1,hp⟩:=hrel
    have sM:=hf.lt
    by_cases hlt:k<es.length
    · obtain ⟨b,off,rfl,hb,hc⟩:=HD.out (by omega)
      obtain ⟨c0,c1,c2⟩:=hc k hlt
      clear hc
      replace c0:=hp.cell id c0
      replace c1:=hp.cell id c1
      replace c2:=hp.cell id c2
      obtain ⟨x1,x2,x3,x4⟩:=HE.out _ (ge_mem hlt)
      obtain ⟨u,hu⟩:∃ u:Nat,(ge es k).1=(u:Int):=⟨(ge es k).1.toNat,by omega⟩
      obtain ⟨v,hv⟩:∃ v:Nat,(ge es k).2.1=(v:Int):=⟨(ge es k).2.1.toNat,by omega⟩
      have hbw:b<wr.heap.size:=Nat.lt_of_lt_of_le hb hp.size
      have hT:Hid (yaA (es.take (k+1))=ycV (yaA (es.take k)) u v):=by rw [Hid,joinedF_take es hlt,hu,hv];rfl
      rw [hu] at c0 x1 x2
      rw [hv] at c1 x3 x4
      clear hu hv
      go_wp2_with fail
      refine (join_any w1.heap.size (yaA (es.take k)) u v _ (Row.alloc hf _) (ycb _ (HE.out.take k)) (by omega) (by omega)).mono ?_
      rintro e w2 ⟨rfl,hf2,hp2⟩
      go_wp2
      go_roundw
      case rel=>exact ⟨k+1,by omega,by go_num,by rw [hT.out];exact hf2,hp2.row (Row.alloc hr1 _) (by omega),(Keeps.alloc hp _).then hp2 (fun j hj e=>by omega)⟩
      case measure=>simp [intOf];omega
    · obtain rfl:k=es.length:=by omega
      rw [List.take_length] at hf
      have hL:=(ycb es HE.out).1
      have hfull:=NRow.full (xs:=yaA es) (by rw [hL];exact hf)
      have hold:=Row.full (xs:=[.int .i64 0, .int .i64 0, .int .i64 0, .int .i64 0, .int .i64 0, .int .i64 0, .int .i64 0, .int .i64 0, .int .i64 0, .int .i64 0, .int .i64 0, .int .i64 0]) hr1
      have hinfo:(Tryz.prog.info? 184).map (·.size)=some (yeC (yaA es)).toArray.size:=by
        rw [List.size_toArray,yfb,hL];exact forest_info
      have HFU:=Lib.hid hfull
      have HOL:=Lib.hid hold
      have HIN:=Lib.hid hinfo
      clear hfull hold hinfo hL
      go_wp2_with (first
        | (refine wpList_load_row rfl 184 (.tmp 3) rfl w1.heap.size rfl 184 (yeC (yaA es)).toArray (0,0) _ HFU.out underlying184 rfl HIN.out ?_)
        | (refine yiA rfl 184 (.tmp 2) (.tmp 20) rfl (w.heap.size+1) rfl (yeC (yaA es)).toArray rfl 184 _ HOL.out (by rw [List.size_toArray,List.size_toArray,yfb,(ycb es HE.out).1];rfl) HIN.out (nvals_one _) ?_))
      refine bodyPost_ret (results_cell_row rfl _ _ (w.heap.size+1) 184 (yeC (yaA es)).toArray (0,0) _ rfl (setRow_heap _ _ _ _ _ _ HOL.out) underlying184 rfl HIN.out) rfl ⟨rfl,(by repeat (first | exact Keeps.refl _ _ | assumption | refine Keeps.drew ?_ | refine Keeps.drewN ?_ _ | refine Keeps.alloc ?_ _ | refine Keeps.setRow ?_ (by simp) _ | refine Keeps.setRow ?_ (by simp;omega) _ | refine Keeps.setCell ?_ (by simp) _ | refine Keeps.setCell ?_ (by simp;omega) _))⟩
def ycF(F:List Nat):Nat→List (List Nat)
  | 0=>[]
  | k+1=>(if root F k=k then ycF F k++[[]] else ycF F k).modify (yaH F (root F k)) (· ++ [k])
theorem ydM(F:List Nat):∀ k,(ycF F k).length=yaH F k
  | 0=>rfl
  | k+1=>by
    rw [ycF,List.length_modify,yaH]
    split <;> simp [ydM F k]
theorem rows_le(F:List Nat):∀ k,∀ r∈ycF F k,r.length≤k
  | 0=>by simp [ycF]
  | k+1=>by
    intro r hr
    rw [ycF] at hr
    obtain ⟨i,hi,rfl⟩:=List.getElem_of_mem hr
    have hb:∀ r'∈(if root F k=k then ycF F k++[[]] else ycF F k),r'.length≤k:=by
      intro r' hr'
      split at hr'
      · rcases List.mem_append.1 hr' with h1 | h1
        · exact rows_le F k r' h1
        · simp at h1;subst h1;simp
      · exact rows_le F k r' hr'
    rw [List.getElem_modify]
    rw [List.length_modify] at hi
    have:=hb _ (List.getElem_mem hi)
    split
    · simp;omega
    · omega
theorem nroots_mono(F:List Nat){a b:Nat}(h:a≤b):yaH F a≤yaH F b:=by
  induction b with
  | zero => obtain rfl : a = 0 := by omega
            exact Nat.le_refl _
  | succ b ih =>
    rcases Nat.lt_or_ge a (b+1) with h1 | h1
    · rw [yaH];have:=ih (by omega);omega
    · obtain rfl:a=b+1:=by omega
      exact Nat.le_refl _
theorem yjN(F:List Nat){r k:Nat}(h:r<k)(hr:root F r=r):yaH F r<yaH F k:=by
  have:=nroots_mono F (show r+1≤k from h)
  rw [yaH,if_pos hr] at this
  omega
theorem nroots_le(F:List Nat):∀ k,yaH F k≤k
  | 0=>Nat.le_refl _
  | k+1=>by rw [yaH];have:=nroots_le F k;split <;> omega
def ye3(w:World)(B:Nat)(vals:List Value)(rows:List (List Nat)):Prop :=
  vals.length=rows.length∧(∀ (i:Nat) (v:Value) (r:List Nat),vals[i]? = some v→rows[i]? = some r→w.ownsRow B 3 1 v r.length (yeC r)) ∧
    ∀ (i j:Nat) (v u:Value),i≠j→vals[i]? = some v→vals[j]? = some u→v.ownBlock=none∨v.ownBlock≠u.ownBlock
theorem ye3.nil(w:World)(B:Nat):ye3 w B [] []:=⟨rfl,by simp,by simp⟩
theorem ye3.kept{w w':World}{B:Nat}{vals:List Value}{rows:List (List Nat)}{row:Option Nat}(h:ye3 w B vals rows)(hg:w.grownBy w' row)(hr:∀ v∈vals,v.ownBlock=none∨v.ownBlock≠row):ye3 w' B vals rows :=
  ⟨h.1,fun i v r hv hr'=>(h.2.1 i v r hv hr').kept hg (hr v (List.mem_of_getElem? hv)),h.2.2⟩
theorem ye3.push{w:World}{B:Nat}{vals:List Value}{rows:List (List Nat)}(h:ye3 w B vals rows):ye3 w B (vals++[.slice none 0 0]) (rows++[[]]):=by
  refine ⟨by simp [h.1],fun i v r hv hr=>?_,fun i j v u hij hv hu=>?_⟩
  · rcases Nat.lt_or_ge i vals.length with hi | hi
    · rw [List.getElem?_append_left hi] at hv
      rw [List.getElem?_append_left (by rw [←h.1];exact hi)] at hr
      exact h.2.1 i v r hv hr
    · rw [List.getElem?_append_right hi] at hv
      rw [List.getElem?_append_right (by rw [←h.1];exact hi)] at hr
      have hi0:i-vals.length=0:=by
        rcases Nat.eq_zero_or_pos (i-vals.length) with h0 | h0
        · exact h0
        · rw [List.getElem?_eq_none (by simp;omega)] at hv;cases hv
      rw [hi0] at hv
      rw [←h.1,hi0] at hr
      simp at hv hr
      subst hv;subst hr
      exact World.ownsRow_nil _ _ _ _
  · rcases Nat.lt_or_ge i vals.length with hi | hi
    · rcases Nat.lt_or_ge j vals.length with hj | hj
      · rw [List.getElem?_append_left hi] at hv
        rw [List.getElem?_append_left hj] at hu
        exact h.2.2 i j v u hij hv hu
      · rw [List.getElem?_append_right hj] at hu
        cases hvo:v.ownBlock with
        | none=>exact .inl rfl
        | some g =>
          refine .inr ?_
          have:u = .slice none 0 0:=by
            have:=List.mem_of_getElem? hu
            simpa using this
          subst this
          simp [Value.ownBlock]
    · rw [List.getElem?_append_right hi] at hv
      have:v = .slice none 0 0:=by
        have:=List.mem_of_getElem? hv
        simpa using this
      subst this
      exact .inl rfl
theorem ye3.grow{w w':World}{B:Nat}{vals:List Value}{rows:List (List Nat)}{c:Nat}{v v':Value}{r:List Nat}{x:Nat}(h:ye3 w B vals rows)(hv:vals[c]? = some v)(hr:rows[c]? = some r)
    (hg:w.grownBy w' v.ownBlock) (hown:w'.ownsRow B 3 1 v' (r.length+1) (yeC r++[.int .i64 (Int.ofNat x)])) (hat:v'.ownBlock=v.ownBlock∨∃ g,v'.ownBlock=some g∧w.heap.size≤g) :
    ye3 w' B (vals.set c v') (rows.modify c (· ++ [x])):=by
  have hc:c<vals.length:=(List.getElem?_eq_some_iff.1 hv).1
  have hlt:∀ (i:Nat) (u:Value),vals[i]? = some u→∀ k,u.ownBlock=some k→k<w.heap.size:=fun i u hu k hk=>by
    have hi:i<vals.length:=(List.getElem?_eq_some_iff.1 hu).1
    have hri:rows[i]? = some (rows[i]'(by rw [←h.1];exact hi)):=List.getElem?_eq_getElem (by rw [←h.1];exact hi)
    exact ((h.2.1 i u _ hu hri).lt k hk).2
  refine ⟨by simp [h.1],fun i u r' hu hr'=>?_,fun i j u z hij hu hz=>?_⟩
  · by_cases e:i=c
    · subst e
      rw [List.getElem?_set_self hc] at hu
      rw [List.getElem?_modify,hr] at hr'
      simp at hu hr'
      subst hu;subst hr'
      simpa [yeC] using hown
    · rw [List.getElem?_set_ne (fun e'=>e e'.symm)] at hu
      rw [List.getElem?_modify] at hr'
      have e':¬c=i:=fun h=>e h.symm
      have hr'':rows[i]? = some r':=by cases hq:rows[i]? <;> simp_all
      exact (h.2.1 i u r' hu hr'').kept hg (h.2.2 i c u v e hu hv)
  · by_cases e:i=c
    · subst e
      rw [List.getElem?_set_self hc] at hu
      rw [List.getElem?_set_ne (fun e'=>hij e')] at hz
      simp at hu
      subst hu
      rcases hat with e1 | ⟨g,e1,hgs⟩
      · rw [e1];exact h.2.2 i j v z hij hv hz
      · refine .inr ?_
        rw [e1]
        intro e2
        have:=hlt j z hz g e2.symm
        omega
    · rw [List.getElem?_set_ne (fun e'=>e e'.symm)] at hu
      by_cases e3:j=c
      · subst e3
        rw [List.getElem?_set_self hc] at hz
        simp at hz
        subst hz
        cases huo:u.ownBlock with
        | none=>exact .inl rfl
        | some k =>
          refine .inr ?_
          rcases hat with e1 | ⟨g,e1,hgs⟩
          · rw [e1]
            have:=h.2.2 i j u v hij hu hv
            rw [huo] at this
            rcases this with h0 | h0
            · cases h0
            · exact h0
          · rw [e1]
            intro e2
            have:=hlt i u hu k huo
            cases e2
            omega
      · rw [List.getElem?_set_ne (fun e'=>e3 e'.symm)] at hz
        exact h.2.2 i j u z hij hu hz
theorem ints_info:(Tryz.prog.info? 29).map (fun i=>(i.zero,i.size,i.bytes))=some (some (.slice none 0 0),1,24):=by kernel_rfl
theorem zero_int(w:World):(zeroValue 3).run Tryz.prog w = .ok (.int .i64 0) w:=by kernel_rfl
theorem key_int:Keyed Tryz.prog 3:=int_keyed underlying3
theorem wf_small{r:Nat}(hr:r<1000):(Lit.int .i64 (r:Int)).wf=true:=WalkArith.wf_i64 (by omega)
theorem yb3{H:Type}{w:World}{M n:Nat}{D:DataW H}{r:Nat}{c:Int}(h:w.ownsMap Tryz.prog 3 (plainElem Tryz.prog 3) M n D)(hr:r<1000)(hD:D.atKey (.int .i64 (r:Int)) (.lit (.int .i64 0)) = .lit (.int .i64 c)) :
    (Instr.lookup 198 (.map (some M)) (.int .i64 (r:Int)) false).run Tryz.prog w = .ok (.int .i64 c) w:=by
  obtain ⟨c',h1,h2,_⟩:=h.lookup_int key_int underlying198 underlying3 (zero_int w) (key := .int .i64 (r:Int)) (keyOf_int_mk underlying3 (wf_small hr))
  rw [hD] at h2
  simp at h2
  rw [h1,h2]
theorem yjO{w:World}{B n:Nat}{v:Value}{xs:List Value}{e:TypeId}(h:w.ownsRow B e 1 v n xs):∃ A c,v = .slice A n c:=by
  rcases h.2 with ⟨rfl,rfl⟩ | ⟨g,cap,cur,rfl,_⟩
  · exact ⟨_,_,rfl⟩
  · exact ⟨_,_,rfl⟩
theorem yh5{H:Type}{P:Program}{w:World}{B e size n m k:Nat}{v:Value}{xs:List Value}{R:Value→Option (DataW H×List MemPlace)}{D:DataW H}{M:Nat}(h:w.ownsRow B e size v n xs)(hm:w.ownsMap P k R M m D):v.ownBlock=none∨v.ownBlock≠some M:=by
  obtain ⟨es,clock,hM,_⟩:=hm
  rcases h.2 with ⟨rfl,_⟩ | ⟨g,cap,cur,rfl,_,hg,_⟩
  · exact .inl rfl
  · refine .inr ?_
    simp only [Value.ownBlock]
    intro e'
    cases e'
    rw [hg] at hM
    cases hM
theorem own_ne_map' {H:Type}{P:Program}{w:World}{B e size n m k:Nat}{v:Value}{xs:List Value}{R:Value→Option (DataW H×List MemPlace)}{D:DataW H}{M:Nat}(h:w.ownsRow B e size v n xs)(hm:w.ownsMap P k R M m D):some M≠v.ownBlock:=by
  rcases yh5 h hm with e | e
  · rw [e];simp
  · exact fun e'=>e e'.symm
theorem undrew{w w':World}{r:Option Nat}(h:w.drew.grownBy w' r):w.grownBy w' r:=⟨h.os,h.tape,h.output,h.size,h.block⟩
theorem yfC{w:World}{B B' e e' size size' n n':Nat}{v v':Value}{xs xs':List Value}(he:e≠e')(h:w.ownsRow B e size v n xs)(h':w.ownsRow B' e' size' v' n' xs'):v.ownBlock=none∨v.ownBlock≠v'.ownBlock:=by
  rcases h.2 with ⟨rfl,_⟩ | ⟨g,cap,cur,rfl,_,hg,_⟩
  · exact .inl rfl
  · refine .inr ?_
    rcases h'.2 with ⟨rfl,_⟩ | ⟨g',cap',cur',rfl,_,hg',_⟩
    · simp [Value.ownBlock]
    · simp only [Value.ownBlock]
      intro e''
      simp only [Option.some.injEq] at e''
      subst e''
      rw [hg] at hg'
      simp only [Option.some.injEq,Obj.cells.injEq] at hg'
      exact he hg'.2.1
theorem ye3.row{w:World}{B:Nat}{vals:List Value}{rows:List (List Nat)}(h:ye3 w B vals rows){v:Value}(hv:v∈vals):∃ n xs,w.ownsRow B 3 1 v n xs:=by
  obtain ⟨i,hi,rfl⟩:=List.getElem_of_mem hv
  have hr:rows[i]? = some (rows[i]'(by rw [←h.1];exact hi)):=List.getElem?_eq_getElem (by rw [←h.1];exact hi)
  exact ⟨_,_,h.2.1 i _ _ (List.getElem?_eq_getElem hi) hr⟩
theorem row_block{w:World}{B e n c g cap:Nat}{xs:List Value}{u:Value}(h:w.ownsRow B e 1 (.slice (some ⟨g,0,none⟩) n cap) n xs)(hu:xs[c]? = some u):w.cell? ⟨g,c,none⟩=some u∧w.frozen? ⟨g,c,none⟩=false:=by
  have h1:=h.cells (g:=g) rfl c u hu
  have hadd:(⟨g,0,none⟩:Addr).add c=⟨g,c,none⟩:=by unfold Addr.add;split <;> simp_all
  rw [hadd] at h1
  refine ⟨h1,?_⟩
  rcases h.2 with ⟨h0,_⟩ | ⟨g',cap',cur,h0,_,hg,_⟩
  · cases h0
  · cases h0
    simp [World.frozen?,hg]
set_option maxHeartbeats 4000000 in
theorem parts_any(g:Nat)(F:List Nat)(n:Nat)(w:World)(hF:NRow w g 184 12 F)(h:ydb F)(hn:n≤12) :
    Calls Tryz.prog 159 #[.pointer (some ⟨g,0,none⟩), .int .i64 (n:Int)] w fun e w'=>∃ v vals,e = .returned v∧w'.ownsRow w.heap.size 29 1 v (yaH F n) vals∧ye3 w' w.heap.size vals (ycF F n)∧Pure w w':=by
  have HF:=Lib.hid h
  clear h
  obtain ⟨i0,hi,hz0,hz1,hz2⟩:=info_parts int_info
  obtain ⟨i1,hi1,hy0,hy1,hy2⟩:=info_parts ints_info
  have hmm:=@run_makeMap Tryz.prog
  go_enter func159,ntmps159
  go_wp2
  have hm0:=World.ownsMap_made (H:=Unit) w Tryz.prog 3 (plainElem Tryz.prog 3)
  go_loopw [5,11] (fun out i wr=>∃ (k:Nat) (vals:List Value) (D:DataW Unit),k≤n∧i = .int .i64 k∧wr.ownsRow w.heap.size 29 1 out (yaH F k) vals∧ye3 wr w.heap.size vals (ycF F k) ∧
      wr.ownsMap Tryz.prog 3 (plainElem Tryz.prog 3) w.heap.size k D∧Hid (IsMap D∧∀ r,r<k→root F r=r→D.atKey (.int .i64 (r:Int)) (.lit (.int .i64 0)) = .lit (.int .i64 (yaH F r:Int)))∧Pure w wr) (fun _ i _=>n-(intOf i).toNat)
  case atStart=>exact ⟨0,[], .map [],Nat.zero_le _,rfl,World.ownsRow_nil _ _ _ _,ye3.nil _ _,hm0,⟨isMap_empty,fun r hr=>absurd hr (by omega)⟩,(by repeat (first | exact Keeps.refl _ _ | assumption | refine Keeps.drew ?_ | refine Keeps.drewN ?_ _ | refine Keeps.alloc ?_ _ | refine Keeps.setRow ?_ (by simp) _ | refine Keeps.setRow ?_ (by simp;omega) _ | refine Keeps.setCell ?_ (by simp) _ | refine Keeps.setCell ?_ (by simp;omega) _))⟩
  case round =>
    obtain ⟨k,vals,D,hk,rfl,hown,hsl,hmap,HD,hp⟩:=hrel
    clear hm0
    have hFr:NRow wr g 184 12 F:=hp.row hF id
    obtain ⟨A,cp,rfl⟩:=yjO hown
    by_cases hlt:k<n
    · have hrl:=yd4 HF.out k (by omega)
      have hnk:=nroots_le F k
      have hMw:w.heap.size<wr.heap.size:=hmap.lt
      by_cases hr:root F k=k
      case' pos =>
        have hb:((root F k:Int)==(k:Int))=true:=by simp [hr]
        have HR:=Lib.hid hr
        go_wp2_with fail
        refine (yi1 g F k _ hFr HF.out (by omega)).mono ?_
        rintro e w' ⟨rfl,rfl⟩
        rw [hr] at hb ⊢
        clear hr
        go_wp2_with (first
          | (refine wpList_mapUpdate_own _ rfl _ _ _ 198 rfl 3 3 key_int underlying198 _ w.heap.size k D rfl hmap (by unfold maxLen;omega) _ _ _ rfl rfl (keyOf_int_mk underlying3 (wf_small (by omega))) (.lit (.int .i64 (yaH F k:Int))) [] (plainElem_int underlying3 (wf_small (by omega))) ?_;intro w1 hmap1 hgrow1;have hown1:=hown.kept hgrow1 (yh5 hown hmap);have hsl1:=hsl.kept hgrow1 (fun v hv=>by obtain ⟨_,_,hq⟩:=hsl.row hv;exact yh5 hq hmap);have hsz1:=hgrow1.size)
          | (at_builtin;refine wpList_append_own _ rfl _ _ 25 rfl w.heap.size 29 i1 (.slice none 0 0) 1 24 underlying25 hi1 hy0 hy1 hy2 rfl (by decide) _ _ _ rfl (hown1.alloc _) ⟨w1.heap.size,0,none⟩ 1 1 [.slice none 0 0] rfl rfl (cell_one_new _ _ _) (by simp [Value.oneCell']) (by unfold maxLen;omega) (by omega) (by have:=hp.size;simp;omega) ?_;intro v2 wA hown2 hgrow2 _))
        obtain ⟨G,capA,rfl,hG1,hG2⟩:=hown2.form (by omega)
        have hS:=((hsl1.kept (World.grownBy_alloc w1 _ none) (fun v _=>by cases v.ownBlock <;> simp)).kept hgrow2 (fun v hv=>by obtain ⟨_,_,hq⟩:=hsl1.row hv;exact yfC (by decide) hq hown1)).push
        have hM:=(hmap1.alloc (.cells #[.slice none 0 0] 29)).kept hgrow2 (own_ne_map' hown1 hmap1)
        have hP:Pure w wA:=by
          refine Keeps.grown (Keeps.alloc (Keeps.grown hp hgrow1 (fun j e hj=>by cases e;omega)) _) hgrow2 (fun j e hj=>?_)
          have:=(hown1.lt j e).1
          omega
        have hlen:vals.length=yaH F k:=by have:=hown.1;omega
        have hO:=hown2
        obtain ⟨vi,hvi⟩:∃ vi:Value,vi = .slice none 0 0:=⟨_,rfl⟩
        obtain ⟨rr,hrr⟩:∃ rr:List Nat,rr=[]:=⟨_,rfl⟩
        have HX:Hid ((ycF F k++[[]])[yaH F k]? = some rr∧(ycF F (k+1)=(ycF F k++[[]]).modify (yaH F k) (· ++ [k])∧yaH F (k+1)=yaH F k+1)∧(IsMap (D.put (.int .i64 (k:Int)) (.lit (.int .i64 (yaH F k:Int))))∧∀ r,r<k+1→root F r=r→(D.put (.int .i64 (k:Int)) (.lit (.int .i64 (yaH F k:Int)))).atKey (.int .i64 (r:Int)) (.lit (.int .i64 0)) = .lit (.int .i64 (yaH F r:Int)))∧(D.put (.int .i64 (k:Int)) (.lit (.int .i64 (yaH F k:Int)))).atKey (.int .i64 (k:Int)) (.lit (.int .i64 0)) = .lit (.int .i64 (yaH F k:Int))∧(vals++[.slice none 0 0])[yaH F k]? = some vi∧yaH F k<yaH F k+1):=by
          rw [hvi,hrr]
          have hk1:WideAt.IsKeyLit (.int .i64 (k:Int)):=trivial
          refine ⟨?_,⟨?_,?_⟩,⟨HD.out.1.put _ _,?_⟩,?_,?_,by omega⟩
          · rw [List.getElem?_append_right (by rw [ydM];exact Nat.le_refl _),ydM];simp
          · rw [ycF,HR.out,if_pos rfl]
          · rw [yaH,if_pos HR.out]
          · intro q hq hqr
            by_cases e:q=k
            · subst e;exact atKey_put_same HD.out.1 hk1 _ _
            · rw [atKey_put_other (by simp;omega)]
              exact HD.out.2 q (by omega) hqr
          · exact atKey_put_same HD.out.1 hk1 _ _
          · rw [List.getElem?_append_right (by omega),hlen];simp
        clear hgrow2 hmap1 hgrow1 hown1 hsl1 hsz1 hown hsl hmap HD hlen hown2 HR
        generalize hvv:vals++[(.slice none 0 0:Value)]=vA at *
        clear hvv
        generalize hrw:ycF F k++[[]]=rowsA at *
        clear hrw
        have hform:∃ Ai ci,vi = .slice Ai rr.length ci:=⟨none,0,by rw [hvi,hrr];rfl⟩
        have hvo':wA.ownsRow w.heap.size 3 1 vi rr.length (yeC rr):=by rw [hvi,hrr];exact World.ownsRow_nil _ _ _ _
        have hrl12:rr.length≤1000:=by rw [hrr];simp
        clear hvi hrr
        generalize hL:yaH F k+1=L at *
        clear hL
        generalize hcc:yaH F k=c at *
        clear hcc
        generalize hDD:D.put (.int .i64 (k:Int)) (.lit (.int .i64 (c:Int)))=DA at *
        clear hDD
        obtain ⟨Ai,ci,rfl⟩:=hform
        have hcL:c<L:=HX.out.2.2.2.2.2
        have hc0:(0:Int)≤(c:Int):=by omega
        have hc1:(c:Int)<(L:Int):=by omega
        have hcv:=HX.out.2.2.2.2.1
        obtain ⟨hq1,hq2⟩:=row_block hO hcv
        have hr12:k<1000:=by omega
        have hLk:=yb3 hM hr12 HX.out.2.2.2.1
        have hlk1:=yb3 (World.ownsMap.drew hM) hr12 HX.out.2.2.2.1
        have hlk2:=yb3 (World.ownsMap.drew (hM.alloc (.cells #[.int .i64 (k:Int)] 3))) hr12 HX.out.2.2.2.1
        have hGn:=yfC (by decide) hO hvo'
        have hMG:=own_ne_map' hvo' hM
        have hGw:G<wA.heap.size:=(hO.lt G rfl).2
        have HO:=Lib.hid hO
        have HS:=Lib.hid hS
        have HM:=Lib.hid hM
        have HV:=Lib.hid hvo'
        have HMG:=Lib.hid hMG
        have HGn:Hid (some G≠(Value.slice Ai rr.length ci).ownBlock):=by
          rcases hGn with e | e
          · simp [Value.ownBlock] at e
          · exact e
        clear hO hS hM hvo' hMG hGn hcv hLk
        go_region_law ((refine step_append_lies _ (by rfl) _ _ _ (by rfl) w.heap.size 3 i0 _ 1 8 underlying29 hi hz0 hz1 hz2 rfl (by omega) (.slice Ai rr.length ci) rr.length (yeC rr) (by rfl) ((HV.out.alloc _).drew) ⟨wA.heap.size,0,none⟩ 1 1 [.int .i64 (k:Int)] (by rfl) (by rfl) (World.news_of_block (cs:=#[.int .i64 (k:Int)]) (t:=3) (fr:=(0,0)) (heap_alloc_new wA _)) (by simp [Value.oneCell']) (by omega) (by unfold maxLen;omega) (by omega) (by simp;omega) (wA.heap.size+1) (by simp) ?_;intro gg cap w3 hown3 hgrow hat hlt3;have hbG:=hgrow.block G (by simp;omega) HGn.out;have hbG':=hbG.trans (Below.heap_alloc wA _ G hGw);have hq3:=(World.cell?_of_block (w:=wA) (a:=⟨G,c,none⟩) hbG').trans hq1;have hq4:=(World.frozen?_of_block (w:=wA) (a:=⟨G,c,none⟩) hbG').trans hq2;have hM3:=(World.ownsMap.drew (HM.out.alloc (.cells #[.int .i64 (k:Int)] 3))).kept hgrow HMG.out;have hlk3:=yb3 hM3 hr12 HX.out.2.2.2.1;have HM3:=Lib.hid hM3;have HG3:=Lib.hid hgrow;have HO3:=Lib.hid hown3;have HA3:=Lib.hid hat;clear hbG hbG' hM3 hgrow hown3 hat))
        all_goals (
          have o3:=(HO.out.alloc (.cells #[.int .i64 (k:Int)] 3)).kept (w':=w3) (undrew HG3.out) (.inr (by simpa [Value.ownBlock] using HGn.out))
          have o4:=o3.stored c (.slice (some ⟨gg,0,none⟩) (rr.length+1) cap)
          have s3:=ye3.grow (v' := .slice (some ⟨gg,0,none⟩) (rr.length+1) cap) (x:=k) (HS.out.kept (World.grownBy_alloc wA (.cells #[.int .i64 (k:Int)] 3) none) (fun v _=>by cases v.ownBlock <;> simp)) HX.out.2.2.2.2.1 HX.out.1 (undrew HG3.out) HO3.out (by
            rcases HA3.out with e | e
            · exact .inl e.symm
            · exact .inr ⟨gg,rfl,by rw [e];simp⟩)
          have s4:=s3.kept o4.2 (fun v hv=>by obtain ⟨_,_,hq⟩:=s3.row hv;exact yfC (by decide) hq o3)
          have m4:=HM3.out.kept o4.2 (own_ne_map' o3 HM3.out)
          have p4:Pure w (w3.setCell ⟨G,c,none⟩ (.slice (some ⟨gg,0,none⟩) (rr.length+1) cap)):=by
            refine Keeps.setCell (Keeps.grown (Keeps.drew (Keeps.alloc hP _)) HG3.out (fun j e hj=>?_)) (by simp;omega) _
            have:=(HV.out.lt j e).1
            omega
          have HO4:=Lib.hid o4.1
          have HS4:=Lib.hid s4
          have HM4:=Lib.hid m4
          have HP4:=Lib.hid p4
          clear o3 o4 s3 s4 m4 p4 hq1 hq2 hq3 hq4 hlk1 hlk2 hlk3
          go_wp2
          go_roundw
          case rel=>exact ⟨k+1,vA.set c (.slice (some ⟨gg,0,none⟩) (rr.length+1) cap),DA,by omega,by go_num,by rw [HX.out.2.1.2];exact HO4.out,by rw [HX.out.2.1.1];exact HS4.out,HM4.out,HX.out.2.2.1,HP4.out⟩
          case measure=>simp [intOf];omega)
      case' neg =>
        have hb:((root F k:Int)==(k:Int))=false:=by simp;omega
        have hrk:root F k<k:=by omega
        have HR:=Lib.hid hr
        clear hr
        have hcl:yaH F (root F k)<yaH F k:=yjN F hrk (ygO HF.out (by omega))
        obtain ⟨G,capA,e0,hG1,hG2⟩:=hown.form (by omega)
        cases e0
        have hlen:vals.length=yaH F k:=by have:=hown.1;omega
        have hv0:vals[yaH F (root F k)]? = some (vals[yaH F (root F k)]'(by omega)):=List.getElem?_eq_getElem _
        have hr0:(ycF F k)[yaH F (root F k)]? = some ((ycF F k)[yaH F (root F k)]'(by rw [ydM];omega)):=List.getElem?_eq_getElem _
        obtain ⟨vi,hvi⟩:∃ vi:Value,vi=vals[yaH F (root F k)]'(by omega):=⟨_,rfl⟩
        obtain ⟨rr,hrr⟩:∃ rr:List Nat,rr=(ycF F k)[yaH F (root F k)]'(by rw [ydM];omega):=⟨_,rfl⟩
        rw [←hvi] at hv0
        rw [←hrr] at hr0
        have hrl12:rr.length≤1000:=by
          have:=rows_le F k rr (by rw [hrr];exact List.getElem_mem _)
          omega
        clear hvi hrr
        go_wp2_with fail
        refine (yi1 g F k _ hFr HF.out (by omega)).mono ?_
        rintro e w' ⟨rfl,rfl⟩
        go_wp2
        obtain ⟨wA,hwA⟩:∃ wA:World,wA=wr:=⟨_,rfl⟩
        rw [←hwA] at hown hsl hmap hp hG2 ⊢
        clear hwA
        have hO:=hown
        have hS:=hsl
        have hM:=hmap.mono (Nat.le_succ k)
        have hP:=hp
        have hvo':=hsl.2.1 _ _ _ hv0 hr0
        have hform:∃ Ai ci,vi = .slice Ai rr.length ci:=yjO hvo'
        have HX:Hid ((ycF F k)[yaH F (root F k)]? = some rr∧(ycF F (k+1)=(ycF F k).modify (yaH F (root F k)) (· ++ [k])∧yaH F (k+1)=yaH F k)∧(IsMap D∧∀ r,r<k+1→root F r=r→D.atKey (.int .i64 (r:Int)) (.lit (.int .i64 0)) = .lit (.int .i64 (yaH F r:Int)))∧D.atKey (.int .i64 (root F k:Int)) (.lit (.int .i64 0)) = .lit (.int .i64 (yaH F (root F k):Int))∧vals[yaH F (root F k)]? = some vi∧yaH F (root F k)<yaH F k):=by
          refine ⟨hr0,⟨?_,?_⟩,⟨HD.out.1,?_⟩,?_,hv0,hcl⟩
          · rw [ycF,if_neg HR.out]
          · rw [yaH,if_neg HR.out,Nat.add_zero]
          · intro q hq hqr
            by_cases e:q=k
            · subst e;exact absurd hqr HR.out
            · exact HD.out.2 q (by omega) hqr
          · exact HD.out.2 _ hrk (ygO HF.out (by omega))
        clear hown hsl hmap HD hlen HR hv0 hr0 hcl
        generalize hL:yaH F k=L at *
        clear hL
        generalize hcc:yaH F (root F k)=c at *
        clear hcc
        generalize hrw:ycF F k=rowsA at *
        clear hrw
        generalize hq:root F k=r at *
        clear hq
        obtain ⟨Ai,ci,rfl⟩:=hform
        have hcL:c<L:=HX.out.2.2.2.2.2
        have hc0:(0:Int)≤(c:Int):=by omega
        have hc1:(c:Int)<(L:Int):=by omega
        have hcv:=HX.out.2.2.2.2.1
        obtain ⟨hq1,hq2⟩:=row_block hO hcv
        have hr12:r<1000:=by omega
        have hLk:=yb3 hM hr12 HX.out.2.2.2.1
        have hlk1:=yb3 (World.ownsMap.drew hM) hr12 HX.out.2.2.2.1
        have hlk2:=yb3 (World.ownsMap.drew (hM.alloc (.cells #[.int .i64 (k:Int)] 3))) hr12 HX.out.2.2.2.1
        have hGn:=yfC (by decide) hO hvo'
        have hMG:=own_ne_map' hvo' hM
        have hGw:G<wA.heap.size:=(hO.lt G rfl).2
        have HO:=Lib.hid hO
        have HS:=Lib.hid hS
        have HM:=Lib.hid hM
        have HV:=Lib.hid hvo'
        have HMG:=Lib.hid hMG
        have HGn:Hid (some G≠(Value.slice Ai rr.length ci).ownBlock):=by
          rcases hGn with e | e
          · simp [Value.ownBlock] at e
          · exact e
        clear hO hS hM hvo' hMG hGn hcv hLk
        go_region_law ((refine step_append_lies _ (by rfl) _ _ _ (by rfl) w.heap.size 3 i0 _ 1 8 underlying29 hi hz0 hz1 hz2 rfl (by omega) (.slice Ai rr.length ci) rr.length (yeC rr) (by rfl) ((HV.out.alloc _).drew) ⟨wA.heap.size,0,none⟩ 1 1 [.int .i64 (k:Int)] (by rfl) (by rfl) (World.news_of_block (cs:=#[.int .i64 (k:Int)]) (t:=3) (fr:=(0,0)) (heap_alloc_new wA _)) (by simp [Value.oneCell']) (by omega) (by unfold maxLen;omega) (by omega) (by simp;omega) (wA.heap.size+1) (by simp) ?_;intro gg cap w3 hown3 hgrow hat hlt3;have hbG:=hgrow.block G (by simp;omega) HGn.out;have hbG':=hbG.trans (Below.heap_alloc wA _ G hGw);have hq3:=(World.cell?_of_block (w:=wA) (a:=⟨G,c,none⟩) hbG').trans hq1;have hq4:=(World.frozen?_of_block (w:=wA) (a:=⟨G,c,none⟩) hbG').trans hq2;have hM3:=(World.ownsMap.drew (HM.out.alloc (.cells #[.int .i64 (k:Int)] 3))).kept hgrow HMG.out;have hlk3:=yb3 hM3 hr12 HX.out.2.2.2.1;have HM3:=Lib.hid hM3;have HG3:=Lib.hid hgrow;have HO3:=Lib.hid hown3;have HA3:=Lib.hid hat;clear hbG hbG' hM3 hgrow hown3 hat))
        all_goals (
          have o3:=(HO.out.alloc (.cells #[.int .i64 (k:Int)] 3)).kept (w':=w3) (undrew HG3.out) (.inr (by simpa [Value.ownBlock] using HGn.out))
          have o4:=o3.stored c (.slice (some ⟨gg,0,none⟩) (rr.length+1) cap)
          have s3:=ye3.grow (v' := .slice (some ⟨gg,0,none⟩) (rr.length+1) cap) (x:=k) (HS.out.kept (World.grownBy_alloc wA (.cells #[.int .i64 (k:Int)] 3) none) (fun v _=>by cases v.ownBlock <;> simp)) HX.out.2.2.2.2.1 HX.out.1 (undrew HG3.out) HO3.out (by
            rcases HA3.out with e | e
            · exact .inl e.symm
            · exact .inr ⟨gg,rfl,by rw [e];simp⟩)
          have s4:=s3.kept o4.2 (fun v hv=>by obtain ⟨_,_,hq⟩:=s3.row hv;exact yfC (by decide) hq o3)
          have m4:=HM3.out.kept o4.2 (own_ne_map' o3 HM3.out)
          have p4:Pure w (w3.setCell ⟨G,c,none⟩ (.slice (some ⟨gg,0,none⟩) (rr.length+1) cap)):=by
            refine Keeps.setCell (Keeps.grown (Keeps.drew (Keeps.alloc hP _)) HG3.out (fun j e hj=>?_)) (by simp;omega) _
            have:=(HV.out.lt j e).1
            omega
          have HO4:=Lib.hid o4.1
          have HS4:=Lib.hid s4
          have HM4:=Lib.hid m4
          have HP4:=Lib.hid p4
          clear o3 o4 s3 s4 m4 p4 hq1 hq2 hq3 hq4 hlk1 hlk2 hlk3
          go_wp2
          go_roundw
          case rel=>exact ⟨k+1,vals.set c (.slice (some ⟨gg,0,none⟩) (rr.length+1) cap),D,by omega,by go_num,by rw [HX.out.2.1.2];exact HO4.out,by rw [HX.out.2.1.1];exact HS4.out,HM4.out,HX.out.2.2.1,HP4.out⟩
          case measure=>simp [intOf];omega)
    · go_wp2
      go_ret
      obtain rfl:k=n:=by omega
      exact ⟨_,vals,rfl,hown,hsl,hp⟩
theorem gchk_ends{n:Int}(hn:n≤12):∀ (es:List E3) (a b:Int),gchk n a b es=0→ydE es:=by
  intro es
  induction es with
  | nil=>intro a b _ x hx;cases hx
  | cons e t ih =>
    intro a b h
    rw [gchk] at h
    split at h
    · rename_i h1
      split at h
      · rename_i h2
        intro x hx
        rcases List.mem_cons.1 hx with rfl | hx
        · omega
        · exact ih _ _ h x hx
      · omega
    · omega
theorem gcheck_ends{n:Int}{es:List E3}(h:yav n es=0):ydE es∧1≤n∧n≤12:=by
  rw [yav] at h
  split at h
  · rename_i h1
    exact ⟨gchk_ends h1.2 es _ _ h,h1⟩
  · omega
def ydD(n:Int)(es:List E3):Bool:=yaH (yaA es) n.toNat==1
theorem own_base{w:World}{B B' e size n:Nat}{v:Value}{xs:List Value}(h:w.ownsRow B e size v n xs)(hB:B'≤B):w.ownsRow B' e size v n xs:=by
  refine ⟨h.1,?_⟩
  rcases h.2 with h0 | ⟨g,cap,cur,hv,hb,r⟩
  · exact .inl h0
  · exact .inr ⟨g,cap,cur,hv,Nat.le_trans hB hb,r⟩
theorem ye3.base{w:World}{B B':Nat}{vals:List Value}{rows:List (List Nat)}(h:ye3 w B vals rows)(hB:B'≤B):ye3 w B' vals rows :=
  ⟨h.1,fun i v r hv hr=>own_base (h.2.1 i v r hv hr) hB,h.2.2⟩
def CompPost(n:Int)(es:List E3)(w:World)(e:Ending)(w':World):Prop :=
  ∃ v L vals,e = .returned (.tuple #[v, .int .i64 (yav n es)])∧w'.ownsRow w.heap.size 29 1 v L vals∧(yav n es≠0→L=0) ∧
    (yav n es=0→L=yaH (yaA es) n.toNat∧ye3 w' w.heap.size vals (ycF (yaA es) n.toNat))∧Pure w w'
theorem components_any(A:Option Addr)(es:List E3)(cap:Nat)(n:Int)(w:World)(hd:ydB w A es)(hlen:es.length≤1000000000) :
    Calls Tryz.prog 141 #[.agg #[.int .i64 n, .slice A es.length cap]] w (CompPost n es w):=by
  by_cases hg:yav n es=0
  case neg =>
    have hb:=neT hg
    have HG:=Lib.hid hg
    clear hg
    go_enter func141,ntmps141
    go_wp2_with fail
    refine (gcheck_any A es cap n _ (hd.keep (by repeat (first | exact Keeps.refl _ _ | assumption | refine Keeps.drew ?_ | refine Keeps.drewN ?_ _ | refine Keeps.alloc ?_ _ | refine Keeps.setRow ?_ (by simp) _ | refine Keeps.setRow ?_ (by simp;omega) _ | refine Keeps.setCell ?_ (by simp) _ | refine Keeps.setCell ?_ (by simp;omega) _))) hlen).mono ?_
    rintro e w1 ⟨rfl,hp1⟩
    go_wp2
    go_ret2
    exact ⟨.slice none 0 0,0,[],rfl,World.ownsRow_nil _ _ _ _,fun _=>rfl,fun h=>absurd h HG.out,Pure.after (by repeat (first | exact Keeps.refl _ _ | assumption | refine Keeps.drew ?_ | refine Keeps.drewN ?_ _ | refine Keeps.alloc ?_ _ | refine Keeps.setRow ?_ (by simp) _ | refine Keeps.setRow ?_ (by simp;omega) _ | refine Keeps.setCell ?_ (by simp) _ | refine Keeps.setCell ?_ (by simp;omega) _)) hp1⟩
  have hb:=neF hg
  obtain ⟨hE,h1,h2⟩:=gcheck_ends hg
  have HG:=Lib.hid hg
  clear hg
  go_enter func141,ntmps141
  go_wp2_with fail
  refine (gcheck_any A es cap n _ (hd.keep (by repeat (first | exact Keeps.refl _ _ | assumption | refine Keeps.drew ?_ | refine Keeps.drewN ?_ _ | refine Keeps.alloc ?_ _ | refine Keeps.setRow ?_ (by simp) _ | refine Keeps.setRow ?_ (by simp;omega) _ | refine Keeps.setCell ?_ (by simp) _ | refine Keeps.setCell ?_ (by simp;omega) _))) hlen).mono ?_
  rintro e w1 ⟨rfl,hp1⟩
  have p1:Pure w w1:=Pure.after (by repeat (first | exact Keeps.refl _ _ | assumption | refine Keeps.drew ?_ | refine Keeps.drewN ?_ _ | refine Keeps.alloc ?_ _ | refine Keeps.setRow ?_ (by simp) _ | refine Keeps.setRow ?_ (by simp;omega) _ | refine Keeps.setCell ?_ (by simp) _ | refine Keeps.setCell ?_ (by simp;omega) _)) hp1
  have r0:=hp1.row (Row.new w #[.int .i64 n, .slice A es.length cap] 24) id
  have c0:=Row.cell r0 (i:=0) rfl
  have c1:=Row.cell r0 (i:=1) rfl
  have s0:=r0.lt
  go_wp2_with fail
  refine (joined_any A es cap n _ (hd.keep p1) hlen hE).mono ?_
  rintro e w2 ⟨rfl,hp2⟩
  have p2:Pure w w2:=Pure.after p1 hp2
  have r1:=hp2.row r0 id
  have d0:=Row.cell r1 (i:=0) rfl
  have d1:=Row.cell r1 (i:=1) rfl
  have s1:=r1.lt
  clear c0 c1 s0 r0
  have hF:=ycb es hE
  obtain ⟨a0,a1,a2,a3,a4,a5,a6,a7,a8,a9,a10,a11,hl⟩:=forestV_lit hF.1
  obtain ⟨m,rfl⟩:=Int.eq_ofNat_of_zero_le (show 0≤n by omega)
  have HL:=Lib.hid hl
  have hrow:NRow (w2.alloc (.cells (yeC (yaA es)).toArray 184)) w2.heap.size 184 12 (yaA es):=by
    have:=Row.new w2 (yeC (yaA es)).toArray 184
    have hsz:(yeC (yaA es)).toArray.size=12:=by rw [List.size_toArray,yfb,hF.1]
    rw [hsz] at this
    exact this
  rw [hl] at hrow
  unfold yig
  rw [hl]
  clear hl
  have hF':ydb [a0,a1,a2,a3,a4,a5,a6,a7,a8,a9,a10,a11]:=by rw [←HL.out];exact hF
  have HF:=Lib.hid hF'
  clear hF hF'
  simp only [yeC,List.map] at hrow ⊢
  go_wp2_with fail
  refine (parts_any w2.heap.size _ m _ hrow HF.out (by omega)).mono ?_
  rintro e w3 ⟨v,vals,rfl,ho,hs,hp3⟩
  have p3:Pure w w3:=Pure.after (Keeps.alloc p2 _) hp3
  have HO:=Lib.hid ho
  clear ho
  go_wp2
  go_ret2
  have hle:w.heap.size≤(w2.alloc (.cells #[.int .i64 0] 0)).heap.size:=by have:=p2.size;simp;omega
  simp only [World.size_alloc] at hle
  refine ⟨v,_,vals,yeB (by rw [HG.out];rfl),own_base HO.out (by simpa using hle),fun h=>absurd HG.out h,fun _=>⟨by rw [HL.out];rfl,?_⟩,p3⟩
  have:=hs.base (B':=w.heap.size) (by simpa using hle)
  rw [HL.out]
  exact this
theorem ydO(A:Option Addr)(es:List E3)(cap:Nat)(n:Int)(w:World)(hd:ydB w A es)(hlen:es.length≤1000000000) :
    Calls Tryz.prog 112 #[.agg #[.int .i64 n, .slice A es.length cap]] w fun e w' =>
      e = .returned (.tuple #[.bool (decide (yav n es=0∧ydD n es=true)), .int .i64 (yav n es)])∧Pure w w':=by
  go_enter func112,ntmps112
  go_wp2_with fail
  refine (components_any A es cap n _ (hd.keep (by repeat (first | exact Keeps.refl _ _ | assumption | refine Keeps.drew ?_ | refine Keeps.drewN ?_ _ | refine Keeps.alloc ?_ _ | refine Keeps.setRow ?_ (by simp) _ | refine Keeps.setRow ?_ (by simp;omega) _ | refine Keeps.setCell ?_ (by simp) _ | refine Keeps.setCell ?_ (by simp;omega) _))) hlen).mono ?_
  rintro e w1 ⟨v,L,vals,rfl,ho,h1,h2,hp1⟩
  have p1:Pure w w1:=Pure.after (by repeat (first | exact Keeps.refl _ _ | assumption | refine Keeps.drew ?_ | refine Keeps.drewN ?_ _ | refine Keeps.alloc ?_ _ | refine Keeps.setRow ?_ (by simp) _ | refine Keeps.setRow ?_ (by simp;omega) _ | refine Keeps.setCell ?_ (by simp) _ | refine Keeps.setCell ?_ (by simp;omega) _)) hp1
  have hL:((L:Int)==1)=decide (yav n es=0∧ydD n es=true):=by
    by_cases hg:yav n es=0
    · obtain ⟨rfl,_⟩:=h2 hg
      simp only [hg,true_and,ydD]
      rw [Bool.eq_iff_iff]
      simp
      omega
    · rw [h1 hg]
      simp [hg]
  obtain ⟨A1,c1,rfl⟩:=yjO ho
  have HL:=Lib.hid hL
  clear hL ho h1 h2
  go_wp2
  go_ret2
  refine ⟨?_,p1⟩
  rw [←HL.out]
  rfl
end Go.Proofs.YtadpnlimiblniaaGreat

namespace Go.Proofs.YtadpnlimiblniaaGreat
open Go Go.Proofs.Tryz
theorem gchk_ok{n:Int} : ∀ (es:List E3) (a b:Int),gchk n a b es=0→∀ x∈es,0≤x.1∧x.1<n∧0≤x.2.1∧x.2.1<n∧1≤x.2.2∧x.2.2≤50
  | [],_,_,_=>by simp
  | x::t,a,b,h=>by
    rw [gchk] at h
    split at h
    · rename_i c
      split at h
      · intro y hy
        rcases List.mem_cons.1 hy with rfl | hy
        · omega
        · exact gchk_ok t _ _ h y hy
      · omega
    · omega
theorem ybW{n:Nat}{es:List E3}(h:yav n es=0):EOk n es∧1≤n∧n≤12:=by
  unfold yav at h
  split at h
  · rename_i c
    exact ⟨gchk_ok es _ _ h,by omega,by omega⟩
  · omega
theorem root_side{n:Nat}{S:Nat→Bool} : ∀ (es:List E3),ydE es→(∀ x∈es,S x.1.toNat=S x.2.1.toNat)→∀ v,v<12→S (root (yaA es) v)=S v:=by
  suffices H:∀ (l:List E3) (F:List Nat),ydE l→(∀ x∈l,S x.1.toNat=S x.2.1.toNat)→ydb F→(∀ v,v<12→S (root F v)=S v)→∀ v,v<12→S (root (l.foldl (fun F x=>ycV F x.1.toNat x.2.1.toNat) F) v)=S v by
    intro es hE hS
    refine H es ydC hE hS yfV fun v hv=>?_
    rw [ycT (by rw [ygZ (by simpa [ydC] using hv)];simp [ydC])]
  intro l
  induction l with
  | nil=>exact fun F _ _ _ h=>h
  | cons x l ih =>
    intro F hE hS hF h
    have hx:=hE x (by simp)
    have hSx:=hS x (by simp)
    refine ih _ (fun y hy=>hE y (by simp [hy])) (fun y hy=>hS y (by simp [hy])) (ye7 hF (by omega) (by omega)) fun v hv=>?_
    rw [yg4 hF (by omega) (by omega) v hv]
    have ha:=h x.1.toNat (by omega)
    have hb:=h x.2.1.toNat (by omega)
    split
    · rename_i e
      rw [←h v hv,e]
      rcases Nat.le_total (root F x.1.toNat) (root F x.2.1.toNat) with q | q
      · rw [Nat.max_eq_right q,Nat.min_eq_left q,ha,hb,hSx]
      · rw [Nat.max_eq_left q,Nat.min_eq_right q,ha,hb,hSx]
    · exact h v hv
theorem root_edge:∀ (es:List E3),ydE es→∀ x∈es,root (yaA es) x.1.toNat=root (yaA es) x.2.1.toNat:=by
  suffices H:∀ (l:List E3) (F:List Nat),ydE l→ydb F→(∀ a b,a<12→b<12→root F a=root F b→root (l.foldl (fun F x=>ycV F x.1.toNat x.2.1.toNat) F) a=root (l.foldl (fun F x=>ycV F x.1.toNat x.2.1.toNat) F) b) ∧
      ∀ x∈l,root (l.foldl (fun F x=>ycV F x.1.toNat x.2.1.toNat) F) x.1.toNat=root (l.foldl (fun F x=>ycV F x.1.toNat x.2.1.toNat) F) x.2.1.toNat from
    fun es hE=>(H es ydC hE yfV).2
  intro l
  induction l with
  | nil=>exact fun F _ _=>⟨fun a b _ _ h=>h,by simp⟩
  | cons x l ih =>
    intro F hE hF
    have hx:=hE x (by simp)
    have hJ:=ye7 hF (a:=x.1.toNat) (b:=x.2.1.toNat) (by omega) (by omega)
    obtain ⟨i1,i2⟩:=ih (ycV F x.1.toNat x.2.1.toNat) (fun y hy=>hE y (by simp [hy])) hJ
    have hr:=yg4 hF (a:=x.1.toNat) (b:=x.2.1.toNat) (by omega) (by omega)
    refine ⟨fun a b ha hb h=>i1 a b ha hb (by rw [hr a ha,hr b hb,h]),fun y hy=>?_⟩
    rcases List.mem_cons.1 hy with rfl | hy
    · refine i1 _ _ (by omega) (by omega) ?_
      rw [hr _ (by omega),hr _ (by omega)]
      rcases Nat.le_total (root F y.1.toNat) (root F y.2.1.toNat) with q | q
      · rw [Nat.max_eq_right q,Nat.min_eq_left q,if_pos rfl];split <;> omega
      · rw [Nat.max_eq_left q,Nat.min_eq_right q,if_pos rfl];split <;> omega
    · exact i2 y hy
theorem nroots_one{F:List Nat}(hF:ydb F){n:Nat}(hn:1≤n)(h12:n≤12):yaH F n=1↔∀ v,v<n→root F v=root F 0:=by
  have h0:root F 0=0:=by have:=(yd4 hF 0 (by omega)).1;omega
  constructor
  · intro h v hv
    have h1:=yd4 hF v (by omega)
    have h2:root F (root F v)=root F v:=ygO hF (by omega)
    rw [h0]
    apply Nat.eq_zero_of_not_pos
    intro hpos
    have h3:=yjN F hpos h0
    have h4:=yjN F (show root F v<n by omega) h2
    omega
  · intro h
    have H:∀ k,k+1≤n→yaH F (k+1)=1:=by
      intro k
      induction k with
      | zero=>intro _;rw [yaH,yaH,if_pos h0]
      | succ k ih =>
        intro hk
        rw [yaH,ih (by omega),if_neg]
        rw [h (k+1) (by omega),h0];omega
    obtain ⟨k,rfl⟩:∃ k,n=k+1:=⟨n-1,by omega⟩
    exact H k (Nat.le_refl _)
section
variable {n : Nat} {es : List E3} (hE : EOk n es) (hn : 1 ≤ n) (h12 : n ≤ 12)
include hE hn h12
theorem EOk.ends:ydE es:=fun x hx=>by have:=hE x hx;omega
theorem W_edge{x:E3}(hx:x∈es)(hne:x.1≠x.2.1):0<W es x.1.toNat x.2.1.toNat:=by
  have h:=hE x hx
  exact (W_adj hE).2 ⟨x.2.2,ybV.2 ⟨x,hx,hne,by omega,by omega,rfl⟩⟩
theorem yi7{q:Nat}(hq:q<n):ydD n es=true↔Conn n es q:=by
  have hF:=ycb es (hE.ends hn h12)
  have hk:ydD n es=true↔∀ v,v<n→root (yaA es) v=root (yaA es) 0:=by
    unfold ydD
    rw [beq_iff_eq,Int.toNat_natCast]
    exact nroots_one hF hn h12
  rw [hk]
  constructor
  · intro h S hS ⟨v,hv,hSv⟩
    apply Classical.byContradiction
    intro hno
    have hcl:∀ x∈es,S x.1.toNat=S x.2.1.toNat:=fun x hx=>by
      have hb:=hE x hx
      by_cases e:x.1=x.2.1
      · rw [e]
      · have hw:=W_edge hE hn h12 hx e
        cases h1:S x.1.toNat <;> cases h2:S x.2.1.toNat
        · rfl
        · exact absurd ⟨x.2.1.toNat,x.1.toNat,by omega,by omega,h2,h1,by rw [ye0];exact hw⟩ hno
        · exact absurd ⟨x.1.toNat,x.2.1.toNat,by omega,by omega,h1,h2,hw⟩ hno
        · rfl
    have hs:=root_side (n:=n) es (hE.ends hn h12) hcl
    have h1:=hs v (by omega)
    have h2:=hs q (by omega)
    rw [h v hv] at h1
    rw [h q hq,h1,hSv,hS] at h2
    cases h2
  · intro hC v hv
    have hedge:=root_edge es (hE.ends hn h12)
    suffices H:∀ v,v<n→root (yaA es) v=root (yaA es) q by rw [H v hv,H 0 (by omega)]
    intro v hv
    apply Classical.byContradiction
    intro hne
    obtain ⟨a,b,ha,hb,hSa,hSb,hW⟩:=hC (fun v=>decide (root (yaA es) v≠root (yaA es) q)) (by simp) ⟨v,hv,by simpa using hne⟩
    obtain ⟨m,hm⟩:=(W_adj hE).1 hW
    obtain ⟨x,hx,q1,q2,q3,q4⟩:=ybV.1 hm
    have h1:=hedge x hx
    have hbx:=hE x hx
    simp only [decide_eq_true_eq,decide_eq_false_iff_not,ne_eq,Decidable.not_not] at hSa hSb
    rcases q2 with q2 | q2
    · rw [show x.1.toNat=a by omega,show x.2.1.toNat=b by omega,hSb] at h1;exact hSa h1
    · rw [show x.1.toNat=b by omega,show x.2.1.toNat=a by omega,hSb] at h1;exact hSa h1.symm
theorem dist_pos{q:Nat}{o:List Int}(hC:Conn n es q)(hD:Dist n es q o):∀ v,v<n→0≤gi o v:=by
  intro v hv
  apply Int.not_lt.1
  intro hneg
  obtain ⟨a,b,ha,hb,hSa,hSb,hW⟩:=hC (fun v=>decide (gi o v<0)) (by rw [hD.q0];simp) ⟨v,hv,by simpa using hneg⟩
  simp only [decide_eq_true_eq,decide_eq_false_iff_not] at hSa hSb
  have:=hD.step b hb (by omega) a ((W_adj hE).1 (by rw [ye0];exact hW))
  omega
theorem tot_le:tot n es≤2*(es.map (·.2.2)).sum:=by
  clear hn h12
  induction es with
  | nil =>
    unfold tot
    rw [yaw (g:=fun _=>0) (fun v _=>by rw [yaw (g:=fun _=>0) (fun u _=>W_nil v u),ybJ]),ybJ]
    simp
  | cons x es ih =>
    have ih:=ih (fun y hy=>hE y (by simp [hy]))
    have hx:=hE x (by simp)
    have h1:tot n (x::es)=sm n (fun v=>sm n (fun u=>w1 x v u))+tot n es:=by
      unfold tot
      rw [←ycc]
      refine yaw fun v _=>?_
      rw [←ycc]
      exact yaw fun u _=>ygd x es v u
    have h2:sm n (fun v=>sm n (fun u=>w1 x v u))≤sm n (fun v=>sm n (fun u=>(if v=x.1.toNat then (if u=x.2.1.toNat then x.2.2 else 0) else 0)+(if v=x.2.1.toNat then (if u=x.1.toNat then x.2.2 else 0) else 0))) :=
      ydh fun v _=>ydh fun u _=>by
        show w1 x v u≤ite _ _ _+ite _ _ _
        unfold w1
        split
        · rename_i c
          rcases c.2 with c2 | c2
          · rw [if_pos (show v=x.1.toNat by omega),if_pos (show u=x.2.1.toNat by omega)]
            split <;> (try split) <;> omega
          · rw [if_pos (show v=x.2.1.toNat by omega),if_pos (show u=x.1.toNat by omega)]
            split <;> (try split) <;> omega
        · split <;> (try split) <;> (try split) <;> (try split) <;> omega
    have h3:∀ a b:Nat,a<n→b<n→sm n (fun v=>sm n (fun u=>if v=a then (if u=b then x.2.2 else 0) else 0))=x.2.2:=fun a b ha hb=>by
      rw [yaw (g:=fun v=>if v=a then x.2.2 else 0) (fun v _=>by
        by_cases e:v=a
        · simp only [if_pos e];exact ye9 _ hb
        · simp only [if_neg e];exact ybJ n)]
      exact ye9 _ ha
    have h4:sm n (fun v=>sm n (fun u=>(if v=x.1.toNat then (if u=x.2.1.toNat then x.2.2 else 0) else 0)+(if v=x.2.1.toNat then (if u=x.1.toNat then x.2.2 else 0) else 0)))=x.2.2+x.2.2:=by
      have e:∀ A B:Nat→Nat→Int,sm n (fun v=>sm n (fun u=>A v u+B v u))=sm n (fun v=>sm n (A v))+sm n (fun v=>sm n (B v)):=fun A B=>by
        rw [←ycc]
        exact yaw fun v _=>by rw [←ycc]
      refine (e (fun v u=>if v=x.1.toNat then (if u=x.2.1.toNat then x.2.2 else 0) else 0) (fun v u=>if v=x.2.1.toNat then (if u=x.1.toNat then x.2.2 else 0) else 0)).trans ?_
      rw [h3 x.1.toNat x.2.1.toNat (by omega) (by omega),h3 x.2.1.toNat x.1.toNat (by omega) (by omega)]
    rw [List.map_cons,List.sum_cons,h1]
    omega
end
end Go.Proofs.YtadpnlimiblniaaGreat

namespace Go.Proofs.YtadpnlimiblniaaGreat
open Go.RowKit Go.Proofs.Tryz
set_option maxRecDepth 100000
set_option maxHeartbeats 8000000
def ybo(n:Int)(es:List E3)(q:Int)(d:List Int):Int :=
  if yav n es=0 then (if ydD n es=true then (if 0≤q∧q<n then ybf d n else 2) else 13) else yav n es
theorem given_any(A D:Option Addr)(es:List E3)(d:List Int)(cap cd:Nat)(n q:Int)(w:World)(he:ydB w A es)(hel:es.length≤1000000000)(hd:Ints w D d)(hdl:d.length≤1000000000) :
    Calls Tryz.prog 162 #[.agg #[.int .i64 n, .slice A es.length cap], .int .i64 q, .slice D d.length cd] w fun e w'=>e = .returned (.int .i64 (ybo n es q d))∧Pure w w':=by
  by_cases hg:yav n es=0
  case neg =>
    have hb:=neT hg
    have HG:=Lib.hid hg
    clear hg
    go_enter func162,ntmps162
    go_wp2_with fail
    refine (ydO A es cap n _ (he.keep (by repeat (first | exact Keeps.refl _ _ | assumption | refine Keeps.drew ?_ | refine Keeps.drewN ?_ _ | refine Keeps.alloc ?_ _ | refine Keeps.setRow ?_ (by simp) _ | refine Keeps.setRow ?_ (by simp;omega) _ | refine Keeps.setCell ?_ (by simp) _ | refine Keeps.setCell ?_ (by simp;omega) _))) hel).mono ?_
    rintro e w1 ⟨rfl,hp1⟩
    go_wp2
    go_ret
    exact ⟨yeB (yfG (by rw [ybo,if_neg HG.out])),Pure.after (by repeat (first | exact Keeps.refl _ _ | assumption | refine Keeps.drew ?_ | refine Keeps.drewN ?_ _ | refine Keeps.alloc ?_ _ | refine Keeps.setRow ?_ (by simp) _ | refine Keeps.setRow ?_ (by simp;omega) _ | refine Keeps.setCell ?_ (by simp) _ | refine Keeps.setCell ?_ (by simp;omega) _)) hp1⟩
  have hb:=neF hg
  by_cases hc:ydD n es=true
  case neg =>
    have hc':decide (yav n es=0∧ydD n es=true)=false:=by simp [hg];simpa using hc
    have HG:=Lib.hid hg
    have HC:=Lib.hid hc
    clear hg hc
    go_enter func162,ntmps162
    go_wp2_with fail
    refine (ydO A es cap n _ (he.keep (by repeat (first | exact Keeps.refl _ _ | assumption | refine Keeps.drew ?_ | refine Keeps.drewN ?_ _ | refine Keeps.alloc ?_ _ | refine Keeps.setRow ?_ (by simp) _ | refine Keeps.setRow ?_ (by simp;omega) _ | refine Keeps.setCell ?_ (by simp) _ | refine Keeps.setCell ?_ (by simp;omega) _))) hel).mono ?_
    rintro e w1 ⟨rfl,hp1⟩
    rw [hc']
    clear hc'
    go_wp2
    go_ret
    exact ⟨yeB (yfG (by rw [ybo,if_pos HG.out,if_neg HC.out])),Pure.after (by repeat (first | exact Keeps.refl _ _ | assumption | refine Keeps.drew ?_ | refine Keeps.drewN ?_ _ | refine Keeps.alloc ?_ _ | refine Keeps.setRow ?_ (by simp) _ | refine Keeps.setRow ?_ (by simp;omega) _ | refine Keeps.setCell ?_ (by simp) _ | refine Keeps.setCell ?_ (by simp;omega) _)) hp1⟩
  have hc':decide (yav n es=0∧ydD n es=true)=true:=by simp [hg,hc]
  have HG:=Lib.hid hg
  have HC:=Lib.hid hc
  clear hg hc
  by_cases hq:0≤q∧q<n
  · obtain ⟨hq0,hq1⟩:=hq
    have t1:decide (q<0)=false:=by simp;omega
    have t2:decide (n≤q)=false:=by simp;omega
    go_enter func162,ntmps162
    go_wp2_with fail
    refine (ydO A es cap n _ (he.keep (by repeat (first | exact Keeps.refl _ _ | assumption | refine Keeps.drew ?_ | refine Keeps.drewN ?_ _ | refine Keeps.alloc ?_ _ | refine Keeps.setRow ?_ (by simp) _ | refine Keeps.setRow ?_ (by simp;omega) _ | refine Keeps.setCell ?_ (by simp) _ | refine Keeps.setCell ?_ (by simp;omega) _))) hel).mono ?_
    rintro e w1 ⟨rfl,hp1⟩
    rw [hc']
    clear hc'
    have r0:=hp1.row (Row.new w #[.int .i64 n, .slice A es.length cap] 24) id
    have c0:=Row.cell r0 (i:=0) rfl
    have p1:Pure w w1:=Pure.after (by repeat (first | exact Keeps.refl _ _ | assumption | refine Keeps.drew ?_ | refine Keeps.drewN ?_ _ | refine Keeps.alloc ?_ _ | refine Keeps.setRow ?_ (by simp) _ | refine Keeps.setRow ?_ (by simp;omega) _ | refine Keeps.setCell ?_ (by simp) _ | refine Keeps.setCell ?_ (by simp;omega) _)) hp1
    have hd1:=hd.keep p1
    go_wp2_with (go_at_call 85;refine (yjT D d cd n _ hd1 hdl).mono ?_;rintro e w' ⟨rfl,rfl⟩)
    go_ret
    exact ⟨yeB (yfG (by rw [ybo,if_pos HG.out,if_pos HC.out,if_pos ⟨hq0,hq1⟩])),p1⟩
  · go_enter func162,ntmps162
    go_wp2_with fail
    refine (ydO A es cap n _ (he.keep (by repeat (first | exact Keeps.refl _ _ | assumption | refine Keeps.drew ?_ | refine Keeps.drewN ?_ _ | refine Keeps.alloc ?_ _ | refine Keeps.setRow ?_ (by simp) _ | refine Keeps.setRow ?_ (by simp;omega) _ | refine Keeps.setCell ?_ (by simp) _ | refine Keeps.setCell ?_ (by simp;omega) _))) hel).mono ?_
    rintro e w1 ⟨rfl,hp1⟩
    rw [hc']
    clear hc'
    have r0:=hp1.row (Row.new w #[.int .i64 n, .slice A es.length cap] 24) id
    have c0:=Row.cell r0 (i:=0) rfl
    have p1:Pure w w1:=Pure.after (by repeat (first | exact Keeps.refl _ _ | assumption | refine Keeps.drew ?_ | refine Keeps.drewN ?_ _ | refine Keeps.alloc ?_ _ | refine Keeps.setRow ?_ (by simp) _ | refine Keeps.setRow ?_ (by simp;omega) _ | refine Keeps.setCell ?_ (by simp) _ | refine Keeps.setCell ?_ (by simp;omega) _)) hp1
    go_wp2
    all_goals try (exfalso;omega)
    all_goals go_ret
    all_goals exact ⟨yeB (yfG (by rw [ybo,if_pos HG.out,if_pos HC.out,if_neg hq])),p1⟩
end Go.Proofs.YtadpnlimiblniaaGreat

namespace Go.Proofs.YtadpnlimiblniaaGreat
open Go Go.Proofs.Tryz
theorem yjI{d:List Int}{n:Nat}(h:ybf d n=0):d.length=n∧1≤n∧n≤12∧∀ j,j<n → -1048576≤gi d j∧gi d j≤1048576:=by
  unfold ybf yhM at h
  by_cases c:1≤(n:Int)∧(n:Int)≤12
  · rw [if_pos c,if_pos rfl] at h
    by_cases c2:(d.length:Int)=n
    · rw [if_pos c2] at h
      by_cases c3:d.all inF=true
      · refine ⟨by omega,by omega,by omega,fun j hj=>?_⟩
        have:=(yeR inF d).1 c3 j (by omega)
        simpa [inF] using this
      · rw [if_neg c3] at h;omega
    · rw [if_neg c2] at h;omega
  · rw [if_neg c,if_neg (by omega)] at h;omega
theorem yfE{d:List Int}{n:Nat}(hl:d.length=n)(h1:1≤n)(h12:n≤12)(h:∀ j,j<n → -1048576≤gi d j∧gi d j≤1048576):ybf d n=0:=by
  unfold ybf yhM
  rw [if_pos (show 1≤(n:Int)∧(n:Int)≤12 by omega),if_pos rfl,if_pos (show (d.length:Int)=n by omega),if_pos]
  rw [yeR]
  intro j hj
  have:=h j (by omega)
  simpa [inF] using this
theorem ygC{n:Int}{es:List E3}{q:Int}{d:List Int}(h:ybo n es q d=0):yav n es=0∧ydD n es=true∧0≤q∧q<n∧ybf d n=0:=by
  unfold ybo at h
  split at h
  · rename_i c1
    split at h
    · rename_i c2
      split at h
      · rename_i c3;exact ⟨c1,c2,c3.1,c3.2,h⟩
      · omega
    · omega
  · exact absurd h (by assumption)
structure Leads(n:Nat)(es:List E3)(q:Nat)(d d' s':List Int):Prop where
  dl:d'.length=n
  sl:s'.length=n
  lp:∀ v,v<n→gi d' v=gi d v-Lp n es (gi s') v
  sq:gi s' q=0
  pos:∀ v,v<n→v≠q→0≤gi d' v
  bd:∀ v,v<n → -600000≤gi d' v∧gi d' v≤600000
  bs:∀ v,v<n → -600000≤gi s' v∧gi s' v≤600000
structure Reduces(n:Nat)(es:List E3)(q:Nat)(d d' s':List Int):Prop extends Leads n es q d d' s' where
  red:Red n es q d'
theorem Lp_norm{n:Nat}{es:List E3}{s:List Int}{q:Nat}(hs:s.length=n){v:Nat}(hv:v<n):Lp n es (gi (yew s q)) v=Lp n es (gi s) v:=by
  rw [yfZ (b:=fun i=>gi s i+(- gi s q)) (fun i hi=>by show gi (yew s q) i=gi s i + - gi s q;rw [yjq (by omega)];omega) hv,ygJ,yfl];omega
theorem yir(s:List Int)(q:Nat):(yew s q).length=s.length:=by simp [yew]
def yjK(P:Nat→Nat→List Int→List Int→Prop)(n:Int)(es:List E3)(q:Int)(d:List Int)(w:World)(A1:Option Addr)(l1 c1:Nat)(A2:Option Addr)(l2 c2:Nat)(er:Int)(w':World):Prop :=
  Pure w w'∧er=ybo n es q d∧(er≠0→ResNil A1 l1 c1 A2 l2 c2)∧(er=0→∃ gd gs cd cs d' s',P n.toNat q.toNat d' s'∧ResOk gd gs n.toNat cd cs d' s' A1 l1 c1 A2 l2 c2 w'∧w.heap.size≤gd∧w.heap.size≤gs∧gd≠gs∧cd≤maxLen∧cs≤maxLen)
structure Small(n:Int)(es:List E3)(d:List Int):Prop where
  el:es.length≤40
  g:yav n es=0→n≤6∧(es.map (·.2.2)).sum≤9
  d:ybf d n=0→∀ v:Nat,(v:Int)<n → -200≤gi d v∧gi d v≤200
theorem GS.leads{n:Nat}{es:List E3}{q:Nat}{d0:List Int}(hE:EOk n es)(hn:n≤6)(hq:q<n)(hC:Conn n es q)(hd0:∀ v,v<n → -200≤gi d0 v∧gi d0 v≤200){m:Nat}{d s:List Int}{e:Int}(h:GS n es q 200 d0 m d s e) :
    Leads n es q d0 d (yew s q):=by
  obtain ⟨-,h0, -⟩:=h
  obtain ⟨b1,b2,b3⟩:=h0.bnd hE hn hq (by omega) (by omega) hC hd0
  have hsq:=h0.sq
  refine ⟨h0.dl,by rw [yir,h0.sl],fun v hv=>by rw [Lp_norm h0.sl hv];exact h0.lp v hv,by rw [yjq (by rw [h0.sl];exact hq)];omega,h0.pos,fun v hv=>?_,fun v hv=>?_⟩
  · have:=b2 v hv;omega
  · have:=b1 v hv;have:=h0.s0 v hv;rw [yjq (by rw [h0.sl];exact hv)];omega
section
variable {n : Nat} {es : List E3} {q : Nat} {d0 : List Int} (hE : EOk n es) (hn : n ≤ 6) (hn1 : 1 ≤ n) (hq : q < n) (hC : Conn n es q) (hsum : (es.map (·.2.2)).sum ≤ 9) (hel : es.length ≤ 40) (hd0 : ∀ v, v < n → -200 ≤ gi d0 v ∧ gi d0 v ≤ 200) (hdl : d0.length = n)
include hE hn hn1 hq hC hsum hel hd0 hdl
theorem lend_state(X gd gs:Nat)(A:Option Addr)(cap cd cs:Nat)(w:World)(hS:yfO w X gd gs n A es cap cd cs q d0 (List.replicate n 0) 0)(hes:ydB w A es)(heg:∀ b off,A=some ⟨b,off,none⟩→0<es.length→b≠gd∧b≠gs∧b≠X) :
    Calls Tryz.prog 164 #[.pointer (some ⟨X,0,none⟩)] w fun e' w'=>e' = .returned (.tuple #[]) ∧
      ∃ m d s,GS n es q 200 d0 m d s 0∧((∀ v,v<n→v≠q→0≤gi d0 v)→d=d0)∧yfO w' X gd gs n A es cap cd cs q d s 0∧Keeps (fun j=>j=gd∨j=gs∨j=X) w w':=by
  have hc:∀ o,Dist n es q o→∀ v,v<n→0≤gi o v:=fun o hD=>dist_pos hE hn1 (by omega) hC hD
  have ht:tot n es≤18:=by have:=tot_le hE hn1 (by omega);omega
  refine (lend_any (fun o k d s e=>GL n es q 200 d0 o k d s e) X gd gs n A es cap cd cs q d0 (List.replicate n 0) 0 w hS hes heg hq (by omega) hE.range (fun x hx=>(hE x hx).2.2.2.2.1) (by omega)
    (fun o hD=>GL.start hE hn hq ht (by omega) (by omega) hc hd0 hdl o hD)
    (fun o k d s e h=>?_) (fun o k d s hD h hl hl2=>GL.step hE hn hq ht (by omega) (by omega) hc hd0 hdl hD h)).mono ?_
  · have:=GL.bnd hE hn hq ht (by omega) (by omega) hc hd0 hdl h
    exact ⟨fun i=>by have:=this.1 i;omega,fun i=>by have:=this.2 i;omega⟩
  · rintro _ w1 ⟨rfl,o,k,d,s,e,hD,hg,hS1,hk,K⟩
    have he:=hg.e0
    subst he
    have hk0 : k = 0 := by rcases hk with h | h
                           · exact h
                           · exact absurd rfl h
    subst hk0
    exact ⟨rfl,_,d,s,hg.settle hE hn hq (by omega) (by omega) hC hd0 hD (hc o hD) ht,fun h=>(hg.same h).1,hS1,K⟩
theorem settle_state(X gd gs:Nat)(A:Option Addr)(cap cd cs:Nat)(m:Nat)(d s:List Int)(w:World)(hG:GS n es q 200 d0 m d s 0)(hS:yfO w X gd gs n A es cap cd cs q d s 0)(hes:ydB w A es)(heg:∀ b off,A=some ⟨b,off,none⟩→0<es.length→b≠gd∧b≠gs∧b≠X) :
    Calls Tryz.prog 165 #[.pointer (some ⟨X,0,none⟩)] w fun e' w'=>e' = .returned (.tuple #[]) ∧
      ∃ m d s,GS n es q 200 d0 m d s 0∧Red n es q d∧yfO w' X gd gs n A es cap cd cs q d s 0∧Keeps (fun j=>j=gd∨j=gs∨j=X) w w':=by
  refine (settle_any (fun m d s e=>GS n es q 200 d0 m d s e) X gd gs n A es cap cd cs q m d s 0 w hS hes heg hq (by omega) hE.range (by omega) hG (fun m d s e h=>?_)
    (fun m d s burnt h hl hl2 hB hany=>GS.step hE hn hq (by omega) (by omega) hC hd0 h hB hany)).mono ?_
  · have:=GS.bnd hE hn hq (by omega) (by omega) hC hd0 h
    exact ⟨fun i=>by have:=this.1 i;omega,fun i=>by have:=this.2 i;omega⟩
  · rintro _ w1 ⟨rfl,m,d,s,e,hg,hS1,hb,K⟩
    have he:=hg.1
    subst he
    rcases hb with h | ⟨burnt,hB,hany⟩
    · exact absurd rfl h
    · exact ⟨rfl,m,d,s,hg,hg.2.1.red hE hn hq (by omega) (by omega) hC hd0 hB hany,hS1,K⟩
theorem result_state(X gd gs:Nat)(A:Option Addr)(cap cd cs:Nat)(m:Nat)(d s:List Int)(w:World)(hG:GS n es q 200 d0 m d s 0)(hS:yfO w X gd gs n A es cap cd cs q d s 0) :
    Calls Tryz.prog 166 #[.pointer (some ⟨X,0,none⟩)] w fun e' w'=>∃ A1 l1 c1 A2 l2 c2,e' = .returned (.tuple #[.slice A1 l1 c1, .slice A2 l2 c2, .int .i64 0]) ∧
      Keeps (fun j=>j=gs) w w'∧ResOk gd gs n cd cs d (yew s q) A1 l1 c1 A2 l2 c2 w'∧Leads n es q d0 d (yew s q):=by
  have hL:=hG.leads hE hn hq hC hd0
  have hb:=GS.bnd hE hn hq (by omega) (by omega) hC hd0 hG
  refine (result_any X gd gs n A es cap cd cs q d s 0 w hS hq (by omega) (fun _ i=>by have:=hb.2 i;omega)).mono ?_
  rintro _ w1 ⟨A1,l1,c1,A2,l2,c2,er,rfl,K,h⟩
  have k1:ybf d n=0:=yfE hL.dl hn1 (by omega) (fun j hj=>by have:=hL.bd j hj;omega)
  have k2:ybf (yew s q) n=0:=yfE hL.sl hn1 (by omega) (fun j hj=>by have:=hL.bs j hj;omega)
  rcases h with h | h | h
  · exact absurd rfl h.1
  · rcases h.2.1 with h | h
    · exact absurd k1 h
    · exact absurd k2 h
  · obtain ⟨-, -, -,rfl,hr⟩:=h
    exact ⟨A1,l1,c1,A2,l2,c2,rfl,K,hr,hL⟩
end
theorem reduce_any(A D:Option Addr)(es:List E3)(d:List Int)(cap cd:Nat)(n q:Int)(w:World)(he:ydB w A es)(hd:Ints w D d)(hdl:d.length≤1000000000)(hsm:Small n es d) :
    Calls Tryz.prog 153 #[.agg #[.int .i64 n, .slice A es.length cap], .int .i64 q, .slice D d.length cd] w fun e w'=>∃ A1 l1 c1 A2 l2 c2 er,e = .returned (.tuple #[.slice A1 l1 c1, .slice A2 l2 c2, .int .i64 er]) ∧
      yjK (fun n q d' s'=>Reduces n es q d d' s') n es q d w A1 l1 c1 A2 l2 c2 er w':=by
  refine yfQ n A es.length cap q D d.length cd w (yjK (fun n q d' s'=>Reduces n es q d d' s') n es q d w) ?_
  unfold yc5
  intro g2 w2 hN
  have pN:Pure w w2:=hN.keeps _
  refine (given_any A D es d cap cd n q w2 (he.keep pN) (by have:=hsm.el;omega) (hd.keep pN) hdl).mono ?_
  rintro _ w3 ⟨rfl,p3⟩
  have p03:=pN.trans p3
  refine ⟨_,rfl,p3.kp (by simp),fun h0=>?_,fun h0=>⟨p03,rfl,fun _=>⟨rfl,rfl,rfl,rfl,rfl,rfl⟩,fun h=>absurd h h0⟩⟩
  obtain ⟨k1,k2,k3,k4,k5⟩:=ygC h0
  have hs6:=hsm.g k1
  obtain ⟨n,rfl⟩:∃ n':Nat,n=(n':Int):=⟨n.toNat,by omega⟩
  obtain ⟨q,rfl⟩:∃ q':Nat,q=(q':Int):=⟨q.toNat,by omega⟩
  obtain ⟨hE,hn1,hn12⟩:=ybW k1
  obtain ⟨hdn, -, -, -⟩:=yjI k5
  have hC:Conn n es q:=(yi7 hE hn1 hn12 (by omega)).1 k2
  have hd0:∀ v,v<n → -200≤gi d v∧gi d v≤200:=fun v hv=>hsm.d k5 v (by omega)
  have hes3:=he.keep p03
  refine (begin_any A D es d cap cd n q w3 (hd.keep p03) hdn hn1 hn12).mono ?_
  rintro _ w4 ⟨X,gd,gs,cd',rfl,hX,hgd,hgs,hS,p4,hcm⟩
  have sz:=hN.size
  have ag:=hN.at_
  have s3:=p3.size
  refine ⟨_,rfl,p4.kp (by simp),?_⟩
  have heg:∀ b off,A=some ⟨b,off,none⟩→0<es.length→b≠gd∧b≠gs∧b≠X:=fun b off hA h0=>by
    obtain ⟨b',off',hA',hb, -⟩:=hes3 h0
    rw [hA] at hA';cases hA';omega
  have hes4:=hes3.keep p4
  have ks:∀ {S:Nat→Prop} {a b:World},Keeps S a b→(∀ k,S k→w3.heap.size≤k)→Kp a b g2:=fun K hS=>K.kp (fun h=>by have:=hS _ h;omega)
  have hfr:∀ k,(k=gd∨k=gs∨k=X)→w3.heap.size≤k:=fun k hk=>by rcases hk with rfl | rfl | rfl <;> omega
  refine (lend_state hE (by omega) hn1 (by omega) hC hs6.2 hsm.el hd0 hdn X gd gs A cap cd' n w4 hS hes4 heg).mono ?_
  rintro _ w5 ⟨rfl,m,d5,s5,hG5, -,hS5,K5⟩
  refine ⟨rfl,ks K5 hfr,?_⟩
  have hes5:=hes4.keepL K5 (fun b off h h0=>by have:=heg b off h h0;omega)
  refine (settle_state hE (by omega) hn1 (by omega) hC hs6.2 hsm.el hd0 hdn X gd gs A cap cd' n m d5 s5 w5 hG5 hS5 hes5 heg).mono ?_
  rintro _ w6 ⟨rfl,m6,d6,s6,hG6,hR6,hS6,K6⟩
  refine ⟨rfl,ks K6 hfr,?_⟩
  refine (result_state hE (by omega) hn1 (by omega) hC hs6.2 hsm.el hd0 hdn X gd gs A cap cd' n m6 d6 s6 w6 hG6 hS6).mono ?_
  rintro _ w7 ⟨A1,l1,c1,A2,l2,c2,rfl,K7,hr,hL⟩
  refine ⟨_,_,_,_,_,_,_,rfl,ks K7 (fun k hk=>by rw [hk];omega),?_⟩
  have pf:∀ {S:Nat→Prop} {a b c:World},Pure a b→Keeps S b c→(∀ k,S k→a.heap.size≤k)→Pure a c:=fun p K h=>(p.mono (fun _ _=>False.elim)).then K (fun k hk hs=>by have:=h k hs;omega)
  have sw:=p03.size
  have hfr0:∀ k,(k=gd∨k=gs∨k=X)→w.heap.size≤k:=fun k hk=>by have:=hfr k hk;omega
  refine ⟨pf (pf (pf (p03.trans p4) K5 hfr0) K6 hfr0) K7 (fun k hk=>by rw [hk];omega),h0.symm,fun h=>absurd rfl h,fun _=>⟨gd,gs,cd',n,d6,yew s6 q,⟨?_,hR6⟩,?_,by omega,by omega,hS.2.2.2.1,hcm,by unfold maxLen;omega⟩⟩
  · simpa using hL
  · simpa using hr
end Go.Proofs.YtadpnlimiblniaaGreat

namespace Go.Proofs.YtadpnlimiblniaaGreat
open Go Go.RowKit Go.Proofs.Tryz
theorem red_iff{n:Nat}{es:List E3}{q:Nat}{d:List Int}{burnt:List Bool}(hE:EOk n es)(hq:q<n)(hB:Burns n es q d burnt)(hpos:∀ v,v<n→v≠q→0≤gi d v):Red n es q d↔(leftOf burnt).any id=false:=by
  constructor
  · intro hR
    cases hany:(leftOf burnt).any id with
    | false=>rfl
    | true =>
      exfalso
      obtain ⟨x,hx,hxt⟩:=List.any_eq_true.1 hany
      obtain ⟨i,hi,hxi⟩:=List.mem_iff_getElem.1 hx
      have hin:i<n:=by simpa [leftOf,hB.len] using hi
      obtain ⟨v,hv,hSv,hlt⟩:=hR.no (gb (leftOf burnt)) (by rw [ygv hB.len hq,hB.at_q];rfl) ⟨i,hin,by rw [yb5 hi,hxi];simpa using hxt⟩
      have h1:=hB.closed v hv (by rw [ygv hB.len hv] at hSv;simpa using hSv)
      rw [yen hE] at h1
      have h2:sm n (fun u=>if gb (leftOf burnt) u=true then 0 else W es v u)=sm n (fun u=>if gb burnt (u:Int).toNat=true then W es v u else 0):=yaw fun u hu=>by
        rw [ygv hB.len hu,Int.toNat_natCast]
        by_cases c:gb burnt u=true
        · simp [c]
        · simp [c]
      omega
  · intro hany
    refine ⟨hpos,fun S hS ⟨v,hv,hSv⟩=>?_⟩
    apply Classical.byContradiction
    intro hno
    have h1:=hB.forced S hS (fun x hx hSx=>by
      apply Int.not_lt.1
      intro hlt
      rw [yen hE] at hlt
      refine hno ⟨x,hx,hSx,Int.lt_of_lt_of_le hlt (Int.le_of_eq (yaw fun u hu=>?_))⟩
      simp only [Int.toNat_natCast]
      by_cases hs:S u=true
      · simp [hs]
      · simp [hs]) v hv hSv
    have h2:gb (leftOf burnt) v=true:=by rw [ygv hB.len hv,h1];rfl
    have hvl:v<(leftOf burnt).length:=by simp [leftOf,hB.len,hv]
    rw [yb5 hvl] at h2
    have h3:(leftOf burnt).any id=true:=List.any_eq_true.2 ⟨_,List.getElem_mem hvl,h2⟩
    rw [hany] at h3;cases h3
end Go.Proofs.YtadpnlimiblniaaGreat

namespace Go.Proofs.YtadpnlimiblniaaGreat
open Go Go.RowKit Go.Shelf Go.Proofs.Tryz
def es3:List E3:=[(0,1,1),(0,2,1),(1,2,1)]
theorem W3:W es3 0 0=0∧W es3 0 1=1∧W es3 0 2=1∧W es3 1 0=1∧W es3 1 1=0∧W es3 1 2=1∧W es3 2 0=1∧W es3 2 1=1∧W es3 2 2=0:=by decide
def yhg(n a b:Int)(x:E3):Int:=if (0≤x.1∧x.1<n)∧(0≤x.2.1∧x.2.1<n)∧1≤x.2.2∧x.2.2≤50 then (if x.1≤x.2.1∧ydR a b x.1 x.2.1<0 then 0 else 9) else 2
theorem ygM(n a b:Int)(x:E3)(t:List E3):gchk n a b (x::t)=if yhg n a b x=0 then gchk n x.1 x.2.1 t else yhg n a b x:=by
  rw [gchk]
  unfold yhg
  by_cases c:(0≤x.1∧x.1<n)∧(0≤x.2.1∧x.2.1<n)∧1≤x.2.2∧x.2.2≤50
  · rw [if_pos c,if_pos c]
    by_cases c2:x.1≤x.2.1∧ydR a b x.1 x.2.1<0
    · rw [if_pos c2,if_pos c2,if_pos rfl]
    · rw [if_neg c2,if_neg c2,if_neg (by omega)]
  · rw [if_neg c,if_neg c,if_neg (by omega)]
theorem yh6(a b c d:Int):ydR a b c d<0↔a<c∨(a=c∧b<d):=by
  unfold ydR orF cmpF
  by_cases h1:a<c
  · simp [h1]
  · by_cases h2:c<a
    · simp [h1,h2];omega
    · have:a=c:=by omega
      subst this
      simp
      by_cases h3:b<d
      · simp [h3]
      · by_cases h4:d<b <;> simp [h3,h4]
def pre(es:List E3)(k:Nat):Int×Int:=if k=0 then (-1, -1) else ((ge es (k-1)).1,(ge es (k-1)).2.1)
theorem gchk_lt{n:Int} : ∀ (es:List E3) (a b:Int),gchk n a b es=0→∀ x∈es,(a<x.1∨(a=x.1∧b<x.2.1))∧x.1≤x.2.1
  | [],_,_,_=>by simp
  | x::t,a,b,h=>by
    rw [ygM] at h
    by_cases h0:yhg n a b x=0
    · rw [if_pos h0] at h
      have hx:x.1≤x.2.1∧(a<x.1∨(a=x.1∧b<x.2.1)):=by
        unfold yhg at h0
        split at h0
        · split at h0
          · rename_i c;exact ⟨c.1,(yh6 _ _ _ _).1 c.2⟩
          · omega
        · omega
      intro y hy
      rcases List.mem_cons.1 hy with rfl | hy
      · exact ⟨hx.2,hx.1⟩
      · have:=gchk_lt t _ _ h y hy
        omega
    · rw [if_neg h0] at h;exact absurd h h0
theorem yjy{n:Int}(u v:Nat)(huv:u≠v):∀ (es:List E3) (a b:Int),gchk n a b es=0→((es.find? fun x=>decide (x.1=mnF (u:Int) v∧x.2.1=mxF (u:Int) v)).map (·.2.2)).getD 0=W es u v
  | [],_,_,_=>rfl
  | x::t,a,b,h=>by
    have hlt:=gchk_lt (x::t) a b h
    rw [ygM] at h
    by_cases h0:yhg n a b x=0
    · rw [if_pos h0] at h
      have ih:=yjy u v huv t _ _ h
      have ht:=gchk_lt t _ _ h
      have hx:=(hlt x (by simp)).2
      have hmn:mnF (u:Int) v=if (u:Int)<v then (u:Int) else v:=by unfold mnF;split <;> (try split) <;> omega
      have hmx:mxF (u:Int) v=if (u:Int)<v then (v:Int) else u:=by unfold mxF;split <;> (try split) <;> omega
      rw [List.find?_cons,ygd]
      by_cases c:x.1=mnF (u:Int) v∧x.2.1=mxF (u:Int) v
      · have hnone:t.find? (fun x=>decide (x.1=mnF (u:Int) v∧x.2.1=mxF (u:Int) v))=none:=by
          rw [List.find?_eq_none]
          intro y hy
          have:=ht y hy
          simp only [decide_eq_true_eq]
          omega
        rw [hnone] at ih
        have hw:w1 x u v=x.2.2:=by
          unfold w1
          rw [if_pos]
          rw [hmn,hmx] at c
          by_cases q:(u:Int)<v
          · rw [if_pos q,if_pos q] at c;omega
          · rw [if_neg q,if_neg q] at c;omega
        rw [decide_eq_true c,hw,←ih]
        simp
      · have hw:w1 x u v=0:=by
          unfold w1
          rw [if_neg]
          intro q
          apply c
          rw [hmn,hmx]
          by_cases q2:(u:Int)<v
          · rw [if_pos q2,if_pos q2];omega
          · rw [if_neg q2,if_neg q2];omega
        rw [decide_eq_false c,hw,←ih]
        simp
    · rw [if_neg h0] at h;exact absurd h h0
theorem ydZ{n:Int}{es:List E3}(h:yav n es=0):gchk n (-1) (-1) es=0:=by
  unfold yav at h
  split at h
  · exact h
  · omega
def yi8(n:Int)(es:List E3)(a b:Int):Bool:=decide (es.length≤40∧(yav n es=0→n≤a∧(es.map (·.2.2)).sum≤b))
theorem gb_rep(n v:Nat):gb (List.replicate n false) v=false:=by
  rcases Nat.lt_or_ge v n with h | h
  · rw [yb5 (by simpa using h)];simp
  · exact gb_ge (by simpa using h)
theorem set_same{l:List Bool}{v:Nat}(h:gb l v=true):l.set v true=l:=by
  rcases Nat.lt_or_ge v l.length with hv | hv
  · rw [yb5 hv] at h
    rw [←h];exact List.set_getElem_self hv
  · rw [gb_ge hv] at h;cases h
def Cl(n:Nat)(es:List E3)(o:List Bool):Prop:=∀ a b,a<n→b<n→gb o a=true→0<W es a b→gb o b=true
theorem root_W{n:Nat}{es:List E3}(hE:EOk n es)(hn:1≤n)(h12:n≤12){a b:Nat}(h:0<W es a b):root (yaA es) a=root (yaA es) b:=by
  obtain ⟨m,hm⟩:=(W_adj hE).1 h
  obtain ⟨x,hx,q1,q2,q3,q4⟩:=ybV.1 hm
  have h1:=root_edge es (hE.ends hn h12) x hx
  have hbx:=hE x hx
  rcases q2 with q2 | q2
  · rwa [show x.1.toNat=a by omega,show x.2.1.toNat=b by omega] at h1
  · rw [show x.1.toNat=b by omega,show x.2.1.toNat=a by omega] at h1;exact h1.symm
theorem conn_root{n:Nat}{es:List E3}(hE:EOk n es)(hn:1≤n)(h12:n≤12):ydD n es=true↔∀ v,v<n→root (yaA es) v=root (yaA es) 0:=by
  have hF:=ycb es (hE.ends hn h12)
  unfold ydD
  rw [beq_iff_eq,Int.toNat_natCast]
  exact nroots_one hF hn h12
theorem cl_root{n:Nat}{es:List E3}(hE:EOk n es)(hn:1≤n)(h12:n≤12){o:List Bool}(hC:Cl n es o){v:Nat}(hv:v<n)(hvo:gb o v=true)(hs:∀ u,u<n→gb o u=true→root (yaA es) u=root (yaA es) v) :
    ∀ u,u<n→gb o u=decide (root (yaA es) u=root (yaA es) v):=by
  have hcl:∀ x∈es,gb o x.1.toNat=gb o x.2.1.toNat:=fun x hx=>by
    have hb:=hE x hx
    by_cases e:x.1=x.2.1
    · rw [e]
    · have hw:=W_edge hE hn h12 hx e
      cases h1:gb o x.1.toNat <;> cases h2:gb o x.2.1.toNat
      · rfl
      · rw [hC _ _ (by omega) (by omega) h2 (by rw [ye0];exact hw)] at h1;cases h1
      · rw [hC _ _ (by omega) (by omega) h1 hw] at h2;cases h2
      · rfl
  have hside:=root_side (n:=n) (S:=gb o) es (hE.ends hn h12) hcl
  intro u hu
  cases h:gb o u with
  | true=>exact (decide_eq_true (hs u hu h)).symm
  | false =>
    symm
    rw [decide_eq_false_iff_not]
    intro e
    have h1:=hside u (by omega)
    have h2:=hside v (by omega)
    rw [e,h2,hvo] at h1
    rw [h] at h1;cases h1
def yaS(n:Int)(es:List E3):Int:=if yav n es=0 then (if ydD n es=true then 0 else 13) else yav n es
end Go.Proofs.YtadpnlimiblniaaGreat

namespace Go.Proofs.YtadpnlimiblniaaGreat
open Go Go.Proofs.Tryz
theorem reduce_red_any(A D:Option Addr)(es:List E3)(d:List Int)(cap cd:Nat)(n q:Int)(w:World)(he:ydB w A es)(hd:Ints w D d)(hdl:d.length≤1000000000)(hel:es.length≤40)(hred:ybo n es q d=0→Red n.toNat es q.toNat d∧∀ v:Nat,(v:Int)<n → -600000≤gi d v∧gi d v≤600000) :
    Calls Tryz.prog 153 #[.agg #[.int .i64 n, .slice A es.length cap], .int .i64 q, .slice D d.length cd] w fun e w'=>∃ A1 l1 c1 A2 l2 c2 er,e = .returned (.tuple #[.slice A1 l1 c1, .slice A2 l2 c2, .int .i64 er]) ∧
      yjK (fun n q d' s'=>Reduces n es q d d' s') n es q d w A1 l1 c1 A2 l2 c2 er w':=by
  refine yfQ n A es.length cap q D d.length cd w (yjK (fun n q d' s'=>Reduces n es q d d' s') n es q d w) ?_
  unfold yc5
  intro g2 w2 hN
  have pN:Pure w w2:=hN.keeps _
  refine (given_any A D es d cap cd n q w2 (he.keep pN) (by omega) (hd.keep pN) hdl).mono ?_
  rintro _ w3 ⟨rfl,p3⟩
  have p03:=pN.trans p3
  refine ⟨_,rfl,p3.kp (by simp),fun h0=>?_,fun h0=>⟨p03,rfl,fun _=>⟨rfl,rfl,rfl,rfl,rfl,rfl⟩,fun h=>absurd h h0⟩⟩
  obtain ⟨k1,k2,k3,k4,k5⟩:=ygC h0
  have hrr:=hred h0
  obtain ⟨n,rfl⟩:∃ n':Nat,n=(n':Int):=⟨n.toNat,by omega⟩
  obtain ⟨q,rfl⟩:∃ q':Nat,q=(q':Int):=⟨q.toNat,by omega⟩
  obtain ⟨hE,hn1,hn12⟩:=ybW k1
  obtain ⟨hdn, -, -, -⟩:=yjI k5
  have hC:Conn n es q:=(yi7 hE hn1 hn12 (by omega)).1 k2
  simp only [Int.toNat_natCast] at hrr
  obtain ⟨hRd,hbd⟩:=hrr
  have hes3:=he.keep p03
  refine (begin_any A D es d cap cd n q w3 (hd.keep p03) hdn hn1 hn12).mono ?_
  rintro _ w4 ⟨X,gd,gs,cd',rfl,hX,hgd,hgs,hS,p4,hcm⟩
  have sz:=hN.size
  have ag:=hN.at_
  have s3:=p3.size
  refine ⟨_,rfl,p4.kp (by simp),?_⟩
  have heg:∀ b off,A=some ⟨b,off,none⟩→0<es.length→b≠gd∧b≠gs∧b≠X:=fun b off hA h0=>by
    obtain ⟨b',off',hA',hb, -⟩:=hes3 h0
    rw [hA] at hA';cases hA';omega
  have hes4:=hes3.keep p4
  have ks:∀ {S:Nat→Prop} {a b:World},Keeps S a b→(∀ k,S k→w3.heap.size≤k)→Kp a b g2:=fun K hS=>K.kp (fun h=>by have:=hS _ h;omega)
  have hfr:∀ k,(k=gd∨k=gs∨k=X)→w3.heap.size≤k:=fun k hk=>by rcases hk with rfl | rfl | rfl <;> omega
  have hz:∀ i,gi (List.replicate n (0:Int)) i=0:=fun i=>by
    rcases Nat.lt_or_ge i n with h | h
    · rw [yaN (by simpa using h)];simp
    · exact gi_ge (by simpa using h)
  have hB1:Bnd 600000 d:=fun i=>by
    by_cases hi:i<n
    · exact hbd i (by omega)
    · rw [gi_ge (by omega)];omega
  refine (lend_any (fun o k d' s' e=>d'=d∧s'=List.replicate n 0∧e=0) X gd gs n A es cap cd' n q d (List.replicate n 0) 0 w4 hS hes4 heg (by omega) (by omega) hE.range (fun x hx=>(hE x hx).2.2.2.2.1) (by omega) (fun o hD=>⟨rfl,rfl,rfl⟩)
    (fun o k d' s' e ⟨h1,h2,h3⟩=>⟨fun i=>by have:=hB1 i;rw [h1];omega,fun i=>by rw [h2,hz];omega⟩) (fun o k d' s' hD ⟨h1,h2,h3⟩ hl hl2=>?_)).mono ?_
  · have hzero:ybw es o ((k:Int)+1) d' n=0:=yhk n fun v hv hk=>by
      rw [h1]
      by_cases e:v=q
      · rw [e,hD.q0] at hk;omega
      · exact hRd.pos v hv e
    rw [hzero]
    exact ⟨by omega,fun h=>absurd h (by omega),fun _=>⟨h1,h2,rfl⟩⟩
  rintro _ w5 ⟨rfl,o,k,d5,s5,e5,hD,⟨rfl,rfl,rfl⟩,hS5,hk,K5⟩
  refine ⟨rfl,ks K5 hfr,?_⟩
  have hes5:=hes4.keepL K5 (fun b off h h0=>by have:=heg b off h h0;omega)
  refine (settle_any (fun m d' s' e=>d'=d5∧s'=List.replicate n 0∧e=0) X gd gs n A es cap cd' n q 0 d5 (List.replicate n 0) 0 w5 hS5 hes5 heg (by omega) (by omega) hE.range (by omega) ⟨rfl,rfl,rfl⟩
    (fun m d' s' e ⟨h1,h2,h3⟩=>⟨fun i=>by have:=hB1 i;rw [h1];omega,fun i=>by rw [h2,hz];omega⟩) (fun m d' s' burnt ⟨h1,h2,h3⟩ hl hl2 hB hany=>?_)).mono ?_
  · exfalso
    rw [h1] at hB
    have:=(red_iff hE (by omega) hB hRd.pos).1 hRd
    rw [this] at hany;cases hany
  rintro _ w6 ⟨rfl,m6,d6,s6,e6,⟨rfl,rfl,rfl⟩,hS6,hb6,K6⟩
  refine ⟨rfl,ks K6 hfr,?_⟩
  have hnz:∀ v,v<n→gi (yew (List.replicate n (0:Int)) q) v=0:=fun v hv=>by rw [yjq (by simpa using hv),hz,hz];omega
  have hL:Leads n es q d6 d6 (yew (List.replicate n 0) q):=⟨hdn,by rw [yir];simp,fun v hv=>by
    rw [yfZ (b:=fun _=>0) (fun i hi=>hnz i hi) hv,yfl];omega,hnz q (by omega),hRd.pos,fun v hv=>hbd v (by omega),fun v hv=>by rw [hnz v hv];omega⟩
  refine (result_any X gd gs n A es cap cd' n q d6 (List.replicate n 0) 0 w6 hS6 (by omega) (by omega) (fun _ i=>by rw [hz];omega)).mono ?_
  rintro _ w7 ⟨A1,l1,c1,A2,l2,c2,er,rfl,K7,h⟩
  have k2':ybf (yew (List.replicate n 0) q) n=0:=yfE hL.sl hn1 (by omega) (fun j hj=>by rw [hnz j hj];omega)
  rcases h with h | h | h
  · exact absurd rfl h.1
  · rcases h.2.1 with h | h
    · exact absurd k5 h
    · exact absurd k2' h
  obtain ⟨-, -, -,rfl,hr⟩:=h
  refine ⟨_,_,_,_,_,_,_,rfl,ks K7 (fun k hk=>by rw [hk];omega),?_⟩
  have pf:∀ {S:Nat→Prop} {a b c:World},Pure a b→Keeps S b c→(∀ k,S k→a.heap.size≤k)→Pure a c:=fun p K h=>(p.mono (fun _ _=>False.elim)).then K (fun k hk hs=>by have:=h k hs;omega)
  have sw:=p03.size
  have hfr0:∀ k,(k=gd∨k=gs∨k=X)→w.heap.size≤k:=fun k hk=>by have:=hfr k hk;omega
  refine ⟨pf (pf (pf (p03.trans p4) K5 hfr0) K6 hfr0) K7 (fun k hk=>by rw [hk];omega),h0.symm,fun h=>absurd rfl h,fun _=>⟨gd,gs,cd',n,d6,yew (List.replicate n 0) q,⟨?_,?_⟩,?_,by omega,by omega,hS.2.2.2.1,hcm,by unfold maxLen;omega⟩⟩
  · simpa using hL
  · simpa using hRd
  · simpa using hr
end Go.Proofs.YtadpnlimiblniaaGreat
