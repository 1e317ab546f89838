/- Texts laid together: Vq, Vy. -/
import Derived.Test.YtencmgolklfmkaaGreatK6
set_option linter.unusedVariables false
set_option linter.unusedSimpArgs false
set_option linter.unusedSectionVars false
/- The chapter's examples: the triangle. -/
namespace Go.Proofs.YtencmgolklfmkaaGreat
open Go Go.RowKit Go.Shelf Go.Proofs.Tryz
set_option maxRecDepth 100000
def es0:List E3:=[(0,1,1),(0,2,1),(1,2,1)]
def E0:List (Int×Int):=[(0,1),(0,2),(1,2)]
def cyc0:List (List Int):=[[-1,1, -1],[1, -1,1]]
def bnd0:List (List Int):=[[-1, -1,0],[-1,0,1],[0, -1, -1],[0,1,1],[1,0, -1],[1,1,0]]
theorem ends0:ybd es0=E0:=by decide +kernel
theorem sml0:smlE 3 es0=0:=by decide +kernel
theorem smp0:SmP 3 es0:=⟨by decide,fun _ _=>by rw [ends0];decide⟩
theorem gr0:GrOk 3 es0 E0:=by
  obtain ⟨k,hk,G⟩:=gr_of (n:=3) (es:=es0) (by decide +kernel)
  have:k=3:=by omega
  subst this
  rw [ends0] at G;exact G
theorem yit:CycL E0 cyc0:=by
  refine ⟨by unfold Asc cyc0;decide +kernel,fun y=>?_⟩
  rw [←yhK gr0.ok,show dirL E0 3=[[1, -1,1],[-1,1, -1]] by decide +kernel]
  unfold cyc0
  simp only [List.mem_cons,List.not_mem_nil,or_false]
  exact Or.comm
theorem yfL{zs:List (List Int)}(h:CycL (ybd es0) zs):zs=cyc0:=by rw [ends0] at h;exact h.uniq yit
def wholeC(n:Nat)(es:List E3)(U:Nat→Bool):Bool:=(List.range n).any U&&(List.range n).all fun u=>(List.range n).all fun v=>!U u || !U v || decide (root (yap (es.filter (inE U))) u=root (yap (es.filter (inE U))) v)
theorem whole_of{n:Nat}{es:List E3}{U:Nat→Bool}(hE:ycL es)(hn:n≤12)(h:wholeC n es U=true):yhm n es U:=by
  unfold wholeC at h
  rw [Bool.and_eq_true,List.any_eq_true,List.all_eq_true] at h
  obtain ⟨⟨v,hv,huv⟩,h2⟩:=h
  refine (whole_iff hE hn).2 ⟨⟨v,List.mem_range.1 hv,huv⟩,fun u v hu hv huu huv=>?_⟩
  have:=List.all_eq_true.1 (h2 u (List.mem_range.2 hu)) v (List.mem_range.2 hv)
  rw [huu,huv] at this
  simpa using this
theorem isB0{w:Nat}(h1:1≤w)(h2:w<7):isB 3 es0 w=true:=by
  have hall:((List.range 7).all fun w=>decide (w=0) || (wholeC 3 es0 (fun v=>w.testBit v)&&wholeC 3 es0 fun v=>!w.testBit v))=true:=by decide +kernel
  have h:=List.all_eq_true.1 hall w (List.mem_range.2 h2)
  rw [decide_eq_false (show ¬w=0 by omega),Bool.false_or,Bool.and_eq_true] at h
  have hE12:ycL es0:=yfX (ybr gr0.g).1 (by decide)
  exact isB_iff.2 ⟨by decide +kernel,whole_of hE12 (by decide) h.1,whole_of hE12 (by decide) h.2⟩
theorem bondLst0:bondLst 3 es0 E0 7=[1,2,3,4,5,6].map fun w=>yhB E0 (bitV w):=by
  unfold bondLst bondW
  rw [List.filter_congr (q:=fun w=>decide (1≤w)) fun w hw=>?_]
  · rfl
  · by_cases h:1≤w
    · rw [isB0 h (List.mem_range.1 hw),Bool.and_true]
    · rw [decide_eq_false h,Bool.false_and]
theorem bnd_uniq0{zs:List (List Int)}(hp:zs.Perm (bondLst 3 es0 E0 (2^3-1)))(hs:zs.Pairwise fun a b=>¬lexC b a<0):zs=bnd0:=by
  refine yiQ (hp.trans ?_) hs (by unfold bnd0;decide +kernel)
  rw [show (2^3-1:Nat)=7 by rfl,bondLst0]
  have:([1,2,3,4,5,6].map fun w=>yhB E0 (bitV w)).isPerm bnd0=true:=by decide +kernel
  exact List.isPerm_iff.1 this
theorem near0{L:List (List Int)}(hL:Asc L)(hm:∀ z,z∈L↔NearC E0 [3,0,0] 6 z):L=[[1, -1,1]]:=by
  refine Asc.eq hL (by unfold Asc;simp) fun z=>?_
  rw [hm]
  have hc:Circ E0.length E0 (gi [1, -1,1]):=IsDC.circ ((yit.mem _).1 (by decide))
  constructor
  · rintro ⟨h1,h2,h3⟩
    match z,h1 with
    | [a,b,c],_ =>
      have e0:=h2 0
      have e1:=h2 1
      have g0:bdy E0.length E0 (gi [a,b,c]) 0 = -a-b:=by
        show 0+a*(0-1)+b*(0-1)+c*(0-0) = -a-b
        omega
      have g1:bdy E0.length E0 (gi [a,b,c]) 1=a-c:=by
        show 0+a*(1-0)+b*(0-0)+c*(0-1)=a-c
        omega
      have g3:dotL (ybi [3,0,0] [a,b,c]) (ybi [3,0,0] [a,b,c])=(3-a)*(3-a)+(0-b)*(0-b)+(0-c)*(0-c):=by
        show 0+(3-a)*(3-a)+(0-b)*(0-b)+(0-c)*(0-c)=_
        omega
      rw [g0] at e0;rw [g1] at e1;rw [g3] at h3
      have hb:b = -a:=by omega
      have hcc:c=a:=by omega
      subst hb;subst hcc
      have h4:(c-1)*(c-1)=0:=by
        have e1:(3-c)*(3-c)=9-6*c+c*c:=by
          rw [Int.sub_mul,Int.mul_sub,Int.mul_sub];omega
        have e2:(0 - -c)*(0 - -c)=c*c:=by rw [show 0 - -c=c by omega]
        have e3:(0-c)*(0-c)=c*c:=by rw [show 0-c = -c by omega,Int.neg_mul_neg]
        have e4:(c-1)*(c-1)=c*c-2*c+1:=by rw [Int.sub_mul,Int.mul_sub,Int.mul_sub];omega
        rw [e1,e2,e3] at h3
        rw [e4];omega
      have h5:c=1:=by
        rcases Int.mul_eq_zero.1 h4 with q | q <;> omega
      subst h5
      simp
  · intro h
    rw [List.mem_singleton.1 h]
    exact ⟨rfl,hc,by decide +kernel⟩
theorem p_awake{R:Bool→Prop}(h:R true):yb9 R:=by
  have hv1:vecE 3 es0 [2, -1,1]=0:=by decide +kernel
  have hv2:vecE 3 es0 [3,0,0]=0:=by decide +kernel
  have hv3:vecE 3 es0 [4,0,0]=0:=by decide +kernel
  unfold yb9 yc6
  refine yfr smp0 (fun q=>absurd sml0 q) fun _ zs hz=>?_
  rw [yfL hz]
  refine yfK (by decide) gr0 (by decide +kernel) fun bs hp hs=>?_
  rw [bnd_uniq0 hp hs]
  refine yh3 smp0 (fun q=>absurd hv1 q) (fun _=>by unfold Bd;decide) fun _ zs hz=>?_
  rw [yfL hz]
  have hsl:slF cyc0 4096 [2, -1,1] 0=some ([1,0,0],1):=by decide +kernel
  refine ⟨fun y k hy=>?_,fun hn=>by rw [hsl] at hn;cases hn⟩
  rw [hsl] at hy;cases hy
  refine yg3 smp0 (fun q=>absurd hv2 q) (fun _ c=>absurd c ?_) fun _ _ _ zs y k m hm hz hy C L hL hmem=>?_
  · rintro (c | c)
    · exact absurd c (by decide +kernel)
    · exact c (by unfold Bd;decide)
  have hm3:m=3:=by omega
  subst hm3
  rw [yfL hz] at hy
  have hsl2:slF cyc0 4096 [3,0,0] 0=some ([2,1, -1],1):=by decide +kernel
  rw [hsl2] at hy;cases hy
  have hd:dotL [2,1, -1] [2,1, -1]=6:=by decide
  rw [hd,ends0] at hmem
  rw [near0 hL hmem,hd]
  refine yft smp0 (fun q=>absurd hv2 q) (fun _=>by unfold Bd;decide) (fun _ c=>absurd c (by decide)) fun _ _ _ zs hz=>?_
  rw [yfL hz,show (ydR cyc0 [3,0,0] 2).isNone=true by decide +kernel]
  refine yft smp0 (fun q=>absurd hv3 q) (fun _=>by unfold Bd;decide) (fun _ c=>absurd c (by decide)) fun _ _ _ zs hz=>?_
  rw [yfL hz,show (ydR cyc0 [4,0,0] 2).isNone=false by decide +kernel]
  refine ⟨i64 (by decide),i64 (by decide),i64 (by decide),i64 (by decide),i64 (by decide),fun _=>?_,fun c=>absurd (by decide) c⟩
  refine yd8 (a:=cyc0) (by decide) (fun v hv=>by rw [(yit.vs v hv).1];decide) ⟨fun _=>?_,fun c=>absurd rfl c⟩
  have hb:∀ v∈bnd0,v.length≤1000000000:=by unfold bnd0;decide
  refine yd8 (a:=bnd0) (by decide) hb ⟨fun _=>?_,fun c=>absurd rfl c⟩
  refine yh7 (by decide) ⟨fun _=>⟨fun _=>?_,fun c=>absurd rfl c⟩,fun c=>absurd (by decide) c⟩
  refine yd8 (a:=[[1, -1,1]]) (by decide) (by decide) ⟨fun _=>⟨fun _=>⟨fun _=>h,fun c=>absurd rfl c⟩,fun c=>absurd rfl c⟩,fun c=>absurd rfl c⟩
end Go.Proofs.YtencmgolklfmkaaGreat

/- The reference's nearest vectors; the laws VoronoiNearest and VoronoiLeast. -/
namespace Go.Proofs.YtencmgolklfmkaaGreat
open Go Go.RowKit Go.Shelf Go.Proofs.Tryz
set_option maxRecDepth 100000
theorem sq_succ(k:Nat):(((k:Int)+1)*((k:Int)+1))=(k:Int)*k+2*k+1:=by
  rw [Int.add_mul,Int.mul_add,Int.mul_add];omega
theorem p_r49_root{N:Int}(hN:N≤1000000){R:Int→Prop}(h:∀ k:Nat,k≤1000→(0≤N→(k:Int)*k≤N∧N<((k:Int)+1)*((k:Int)+1))→(N<0→k=0)→R k):yju N R:=by
  refine ⟨fun m i=>∃ k:Nat,i=k∧k+m=1001∧(0≤N→(k:Int)*k≤N)∧(N<0→k=0),⟨1001,0,rfl,rfl,fun z=>by simpa using z,fun _=>rfl⟩,?_⟩
  rintro m i ⟨k,rfl,hk,hs,hng⟩
  have e:=sq_succ k
  have hk0:(0:Int)≤(k:Int)*k:=Int.mul_nonneg (by omega) (by omega)
  have hkm:(k:Int)*k≤1002001:=by
    have:=Nat.mul_le_mul (show k≤1001 by omega) (show k≤1001 by omega)
    have e2:(k:Int)*k=((k*k:Nat):Int):=by push_cast;rfl
    omega
  refine ⟨i64 (by omega),i64 (by omega),fun c=>?_,fun c=>?_⟩
  · have h1:k+1≤1000:=by
      refine Nat.le_of_not_lt fun q=>?_
      have:=Nat.mul_le_mul (show 1001≤k+1 by omega) (show 1001≤k+1 by omega)
      have e2:((k:Int)+1)*((k:Int)+1)=(((k+1)*(k+1):Nat):Int):=by push_cast;rfl
      omega
    exact ⟨m-1,by omega,k+1,by omega,by omega,fun _=>by push_cast;exact c,fun z=>by omega⟩
  · have hk1:k≤1000:=by
      refine Nat.le_of_not_lt fun q=>?_
      have hkm:k=1001:=by omega
      subst hkm
      by_cases z:0≤N
      · have:=hs z;omega
      · have:=hng (by omega);omega
    exact h k hk1 (fun z=>⟨hs z,by omega⟩) hng
section
variable {n : Int} {es : List E3} {x : List Int}
theorem yjO{k:Nat}{E:List (Int×Int)}(G:GrOk k es E)(hl:es.length≤100)(hc:yd0 k es=true){R:Int→Prop}(h:R ((E.length:Int)+1-k)):yjs (k:Int) es R:=by
  have hn:=G.few
  have hlen:=G.len
  refine yji G hl ⟨i64 (by omega),p_r08_PartsN (by omega) G.g ?_⟩
  have h1:yay (yap es) k=1:=by
    have hc2:=hc
    unfold yd0 at hc2
    rw [beq_iff_eq,Int.toNat_natCast] at hc2
    exact hc2
  rw [h1]
  refine ⟨i64 (by omega),?_⟩
  rw [show (E.length:Int)-k+((1:Nat):Int)=(E.length:Int)+1-k by omega]
  exact h
theorem p_r49_Near(hl:es.length≤40)(hx:x.length≤60){R:Bool→Prop}(h:∀ b,R b):yjw n es x R:=by
  refine ⟨∃ k:Nat,n=k∧GrOk k es (ybd es)∧yd0 n es=true∧x.length=(ybd es).length,fun ⟨k,hk,G,hc,hxl⟩=>?_,yfe (by omega) ⟨fun q=>?_,fun _=>h _⟩⟩
  · subst hk
    have hn:=G.few
    refine ⟨fun m a i=>∃ j:Nat,i=j∧j+m=100∧0≤a∧a≤100000000,⟨100,0,rfl,rfl,by decide,by decide⟩,?_⟩
    rintro m a i ⟨j,rfl,hj,a0,a1⟩
    refine ⟨0≤a∧a<100000∧j<99,fun ⟨_,ha,hj2⟩=>?_,yjO G (by omega) hc ⟨fun c=>⟨fun c2=>⟨a0,c2,by omega⟩,fun _=>h _⟩,fun _=>h _⟩⟩
    refine p_r16_DotAny rfl (by omega) fun s=>p_r49_root (by unfold mnF;split <;> omega) fun r hr hrr hrn=>?_
    have h3:(0:Int)≤a*(2*r+1):=Int.mul_nonneg a0 (by omega)
    have h4:a*(2*r+1)≤a*2001:=Int.mul_le_mul_of_nonneg_left (by omega) a0
    by_cases hr100:r≤100
    · have h5:a*(2*r+1)≤a*201:=Int.mul_le_mul_of_nonneg_left (by omega) a0
      exact ⟨i64 (by omega),i64 (by omega),i64 (by omega),i64 (by omega),m-1,by omega,j+1,by omega,by omega,h3,by omega⟩
    · refine absurd ?_ hr100
      by_cases z:0≤mnF s 10000
      · have h7:=(hrr z).1
        refine Nat.le_of_not_lt fun q=>?_
        have:=Nat.mul_le_mul (show 101≤r by omega) (show 101≤r by omega)
        have e2:(r:Int)*r=((r*r:Nat):Int):=by push_cast;rfl
        have h8:mnF s 10000≤10000:=by unfold mnF;split <;> omega
        omega
      · have:=hrn (by omega);omega
  · obtain ⟨g,hc⟩:=yfZ q
    obtain ⟨k,rfl,G⟩:=gr_of g
    exact yji G (by omega) ⟨fun c=>⟨k,rfl,G,hc,by omega⟩,fun _=>h _⟩
theorem p_r49_Nearest{k:Nat}{zs:List (List Int)}{y:List Int}(G:GrOk k es (ybd es))(hl:es.length≤100)(hc:yd0 k es=true)(hg:(ybd es).length+1≤k+4)(C:ClOk k (ybd es) zs x y){R:List (List Int)→Int→Prop}(hR:∀ L,Asc L→(∀ z,z∈L↔NearC (ybd es) x (dotL y y) z)→R L (dotL y y)):yjo (k:Int) es x R:=by
  obtain ⟨E,hE⟩:∃ E,E=ybd es:=⟨_,rfl⟩
  rw [←hE] at G C hR hg
  have hm8:=C.m8
  have hxl:=C.xl
  have hx9:=C.x9
  have hd0:0≤dotL x x:=yjD _
  have hd1:dotL x x≤648:=by
    have h1:=yih hx9 hx9 rfl
    have h2:=Nat.mul_le_mul_right (9*9) (show x.length≤8 by omega)
    omega
  have hy0:0≤dotL y y:=yjD _
  refine p_r16_Dot rfl (by omega) (hx9.mono (by decide)) (hx9.mono (by decide)) (p_r49_root (by omega) fun a ha hab _=>?_)
  obtain ⟨ha1,ha2⟩:=hab hd0
  have ha25:a≤25:=Nat.le_of_not_lt fun q=>by
    have:=Nat.mul_le_mul (show 26≤a by omega) (show 26≤a by omega)
    have e2:(a:Int)*a=((a*a:Nat):Int):=by push_cast;rfl
    omega
  have hroot:∀ b:Int,b*b≤dotL x x→b.natAbs≤a:=fun b hb=>Nat.le_of_not_lt fun q=>by
    have h1:=Nat.mul_le_mul (show a+1≤b.natAbs by omega) (show a+1≤b.natAbs by omega)
    have h2:((b.natAbs*b.natAbs:Nat):Int)=b*b:=Int.natAbs_mul_self
    have h3:((a:Int)+1)*((a:Int)+1)=(((a+1)*(a+1):Nat):Int):=by push_cast;rfl
    omega
  refine p_r49_Around G hl hc hm8 hg ha25 hx9 hxl fun A IA hAl=>?_
  have hF4:(yjl E E.length).length≤4:=by have:=free_len G hc;omega
  have hAb:∀ z∈A,Bd 136 z:=fun z hz=>(IA.bd z hz).mono (by
    have:=Nat.mul_le_mul hF4 (show 9+a≤34 by omega)
    omega)
  obtain ⟨dz,hdz⟩:∃ dz:List Int→Int,dz=fun z=>dotL (ybi x z) (ybi x z):=⟨_,rfl⟩
  have hmemz:∀ z,NearC E x (dotL y y) z→z∈A:=fun z hz=>by
    refine (IA.mem z).2 ⟨hz.len,hz.circ,fun j hj=>?_⟩
    rw [if_pos hj]
    have hfm:=yjv.1 (List.getElem_mem hj:(yjl E E.length)[j]∈yjl E E.length)
    refine hroot _ ?_
    have h1:=hz.dist
    rw [yie hxl] at h1
    have h2:=sq_le_dot (m:=E.length) (x:=fun i=>gi x i-gi z i) hfm.1
    have h3:=C.dn
    omega
  have hcirc:∀ z∈A,z.length=E.length∧Circ E.length E (gi z):=fun z hz=>⟨((IA.mem z).1 hz).1,((IA.mem z).1 hz).2.1⟩
  have hleast:∀ z∈A,dotL y y≤dz z:=fun z hz=>by rw [hdz];exact C.least (hcirc z hz).2
  refine ⟨fun m best out i=>Cnt A.length (fun t=>dotL y y≤best∧best≤dotL x x∧(∀ z∈A.take t,best≤dz z)∧out=(A.take t).filter fun z=>decide (dz z=best)) m i,Cnt.start ⟨C.dn,Int.le_refl _,fun z hz=>by simp at hz,rfl⟩,?_⟩
  rintro m best out i ⟨t,rfl,rfl,ht,hb1,hb2,hb3,ho⟩
  have hol:out.length≤t:=by
    rw [ho]
    refine Nat.le_trans (List.length_filter_le _ _) ?_
    rw [List.length_take];omega
  refine ⟨fun hlt=>?_,fun hge=>?_⟩
  · have htA:t<A.length:=by omega
    obtain ⟨z,hz⟩:∃ z,z=gx A t:=⟨_,rfl⟩
    have hzA:z∈A:=by rw [hz,yaM htA];exact List.getElem_mem htA
    have hzl:=(hcirc z hzA).1
    have b1:=hAb z hzA
    have b2:Bd 145 (ybi x z):=fun i hi=>by
      rw [ybl] at hi
      rw [ybS hi]
      have h1:=hx9 i hi
      have h2:=b1 i (by omega)
      omega
    have htk:A.take (t+1)=A.take t++[z]:=by rw [List.take_add_one,List.getElem?_eq_getElem htA,hz,yaM htA];rfl
    rw [Int.toNat_natCast,←hz]
    refine ⟨by omega,p_r49_Less (by omega) (by omega) (hx9.mono (by decide)) (b1.mono (by decide)) (p_r16_Dot rfl (by rw [ybl];omega) (b2.mono (by decide)) (b2.mono (by decide)) ?_)⟩
    have hdzz:dotL (ybi x z) (ybi x z)=dz z:=by rw [hdz]
    rw [hdzz]
    have hlz:=hleast z hzA
    have step:∀ (b:Int) (o:List (List Int)),dotL y y≤b→b≤dotL x x→(∀ w∈A.take t,b≤dz w)→b≤dz z→o=(A.take t).filter (fun w=>decide (dz w=b))→((dz z=b→(o.length+1≤1000000000∧(In64 ((t:Int)+1)∧∃ m3,m3<A.length-t∧Cnt A.length (fun t=>dotL y y≤b∧b≤dotL x x∧(∀ w∈A.take t,b≤dz w)∧o++[z]=(A.take t).filter fun w=>decide (dz w=b)) m3 ((t:Int)+1))))∧(¬(dz z=b)→(In64 ((t:Int)+1)∧∃ m4,m4<A.length-t∧Cnt A.length (fun t=>dotL y y≤b∧b≤dotL x x∧(∀ w∈A.take t,b≤dz w)∧o=(A.take t).filter fun w=>decide (dz w=b)) m4 ((t:Int)+1)))):=fun b o g1 g2 g3 g4 g5=>by
      have hall:∀ w∈A.take (t+1),b≤dz w:=fun w hw=>by
        rw [htk] at hw
        rcases List.mem_append.1 hw with q | q
        · exact g3 w q
        · rw [List.mem_singleton.1 q];exact g4
      have hol:o.length≤t:=by
        rw [g5]
        refine Nat.le_trans (List.length_filter_le _ _) ?_
        rw [List.length_take];omega
      refine ⟨fun c=>⟨by omega,Cnt.next htA (by omega) ⟨g1,g2,hall,?_⟩⟩,fun c=>Cnt.next htA (by omega) ⟨g1,g2,hall,?_⟩⟩
      · rw [htk,List.filter_append,List.filter_cons,if_pos (decide_eq_true c),List.filter_nil,g5]
      · rw [htk,List.filter_append,List.filter_cons,if_neg (fun q=>c (of_decide_eq_true q)),List.filter_nil,List.append_nil,g5]
    refine ⟨fun b o=>dotL y y≤b∧b≤dotL x x∧(∀ w∈A.take t,b≤dz w)∧b≤dz z∧o=(A.take t).filter (fun w=>decide (dz w=b)),fun b o ⟨g1,g2,g3,g4,g5⟩=>step b o g1 g2 g3 g4 g5,fun c=>⟨hlz,by omega,fun w hw=>by have:=hb3 w hw;omega,Int.le_refl _,?_⟩,fun c=>⟨hb1,hb2,hb3,by omega,ho⟩⟩
    symm
    rw [List.filter_eq_nil_iff]
    intro w hw q
    have:=hb3 w hw
    have:=of_decide_eq_true q
    omega
  · have:t=A.length:=by omega
    subst this
    rw [List.take_length] at hb3 ho
    have hbe:best=dotL y y:=by
      have h1:=hb3 _ (hmemz _ C.z0)
      have h2:dz (ybi x y)=dotL y y:=by rw [hdz];exact C.z0.dist
      omega
    subst hbe
    have hnd:out.Nodup:=by rw [ho];exact IA.nd.filter _
    have hom:∀ z,z∈out↔NearC E x (dotL y y) z:=fun z=>by
      rw [ho,List.mem_filter]
      constructor
      · rintro ⟨h1,h2⟩
        have h2:=of_decide_eq_true h2
        rw [hdz] at h2
        exact ⟨(hcirc z h1).1,(hcirc z h1).2,h2⟩
      · intro hz
        exact ⟨hmemz z hz,decide_eq_true (by rw [hdz];exact hz.dist)⟩
    refine ygx (by omega) (fun z hz=>by have:=((hom z).1 hz).len;omega) fun L hp hs=>hR L (asc_of hp hs hnd) fun z=>hp.mem_iff.trans (hom z)
theorem yjy(H:SmP n es)(hxl:x.length≤1000000){R:List (List Int)→Int→Int→Prop}(h1:vecE n es x≠0→R [] 0 (vecE n es x))(h2:vecE n es x=0→(4<genE n es∨¬Bd 9 x)→R [] 0 12)
    (h3:vecE n es x=0→genE n es≤4→Bd 9 x→yjo n es x fun r3 r4=>R r3 r4 0):yjq n es x R:=by
  have hes:=H.es40
  refine yja (by omega) hxl ⟨fun q=>?_,fun q=>h1 q⟩
  have q1:=(ye0 q).1
  obtain ⟨m,rfl,G,hc,h5,h8⟩:=H.get q1
  refine yjO G (by omega) hc ⟨fun c=>h2 q (.inl (by unfold genE;exact c)),fun c=>?_⟩
  refine ⟨Cnt x.length (fun k=>∀ i,i<k→(gi x i).natAbs≤9),Cnt.start (fun i hi=>by omega),?_⟩
  rintro m' _ ⟨k,rfl,rfl,hk,hj⟩
  refine ⟨fun hlt=>?_,fun hge=>?_⟩
  · have hkl:k<x.length:=by omega
    rw [Int.toNat_natCast]
    refine ⟨by omega,fun c1=>h2 q (.inr fun z=>by have:=z k hkl;omega),fun c1=>⟨fun c2=>h2 q (.inr fun z=>by have:=z k hkl;omega),fun c2=>Cnt.next hkl (by omega) fun i hi=>?_⟩⟩
    by_cases e:i=k
    · rw [e];omega
    · exact hj i (by omega)
  · have:k=x.length:=by omega
    subst this
    exact h3 q (by unfold genE;omega) hj
theorem p_nearest:yjm n es x (fun r=>r=true):=by
  refine ⟨FewP n es x,fun H=>?_,p_r49_Few (fun H=>⟨fun _=>p_r49_Near H.es40 H.x60 fun b=>⟨fun _=>H,fun _=>p_awake rfl⟩,fun z=>absurd rfl z⟩) ⟨fun z=>(by cases z),fun _=>p_awake rfl⟩⟩
  have hes:=H.es40
  have hxl:x.length≤1000000:=by have:=H.x60;omega
  have fin:∀ (L:List (List Int)) (d e:Int),L.length≤1000000000→(∀ v∈L,v.length≤1000000000)→yb9 (fun (r7:Bool)=>((r7=true→ya0 L L (fun (r8:Bool)=>((r8=true→((d=d→decide (e=e)=true)∧(¬(d=d)→false=true)))∧(¬(r8=true)→false=true))))∧(¬(r7=true)→false=true))):=fun L d e hL hv =>
    p_awake ⟨fun _=>yd8 hL hv ⟨fun _=>⟨fun _=>decide_eq_true rfl,fun z=>absurd rfl z⟩,fun z=>absurd rfl z⟩,fun z=>absurd rfl z⟩
  refine yg3 H.smp (fun q=>yjy H.smp hxl (fun _=>fin [] _ _ (by decide) fun v hv=>(by cases hv)) (fun z=>absurd z q) fun z=>absurd z q) (fun q c=>yjy H.smp hxl (fun z=>absurd q z) (fun _ _=>fin [] _ _ (by decide) fun v hv=>(by cases hv)) fun _ g b=>absurd c ?_) fun q g4 b9 zs y k m hm hz hy C L hL hmem=>yjy H.smp hxl (fun z=>absurd q z) (fun _ c=>absurd c ?_) fun _ _ _=>?_
  · rintro (c | c)
    · omega
    · exact c b
  · rintro (c | c)
    · omega
    · exact c b9
  · subst hm
    obtain ⟨m',hm',G,hc,h5,h8⟩:=H.smp.get (ye0 q).1
    have:m'=m:=by omega
    subst this
    refine p_r49_Nearest G (by omega) hc (by unfold genE at g4;omega) C fun L' hL' hmem'=>?_
    have e:L'=L:=Asc.eq hL' hL fun z=>(hmem' z).trans (hmem z).symm
    rw [e]
    have hN:NInv (ybd es) zs x (dotL y y) (ybi x y) L:=⟨hL.nodup,fun z hz=>(hmem z).1 hz,(hmem _).2 C.z0⟩
    have hc2:=C.count hN
    exact fin L _ _ (by omega) fun v hv=>by have:=((hmem v).1 hv).len;omega
end
end Go.Proofs.YtencmgolklfmkaaGreat
