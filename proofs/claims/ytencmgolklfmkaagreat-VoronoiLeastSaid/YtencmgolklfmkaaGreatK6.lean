/- Texts laid together: Vp, Vr, Vw, Vx, Vq, Vy. -/
import Derived.Test.YtencmgolklfmkaaGreatK5
set_option linter.unusedVariables false
set_option linter.unusedSimpArgs false
set_option linter.unusedSectionVars false
/- voronoi.Closest returns the nearest vectors. -/
namespace Go.Proofs.YtencmgolklfmkaaGreat
open Go Go.RowKit Go.Shelf Go.Proofs.Tryz
set_option maxRecDepth 100000
theorem yka{s:List (List Int)}{F:List Int→(Bool→Prop)→Prop}{p:List Int→Bool}{R:Bool→Prop}(hl:s.length≤1000000000)(hF:∀ v∈s,∀ R':Bool→Prop,R' (p v)→F v R')(h:R (s.any p)):yaX s F R:=by
  refine ⟨fun m i=>Cnt s.length (fun k=>s.any p=(s.drop k).any p) m i,Cnt.start rfl,?_⟩
  rintro m _ ⟨k,rfl,rfl,hk,he⟩
  refine ⟨fun hlt=>?_,fun hge=>?_⟩
  · have hks:k<s.length:=by omega
    rw [Int.toNat_natCast]
    rw [List.drop_eq_getElem_cons hks,List.any_cons,←yaM hks] at he
    refine ⟨by omega,hF _ (by rw [yaM hks];exact List.getElem_mem hks) _ ⟨fun c=>?_,fun c=>?_⟩⟩
    · rw [he,c,Bool.true_or] at h
      show R (decide (0≤(k:Int)))
      rw [decide_eq_true (by omega)];exact h
    · have c:p (gx s k)=false:=by simpa using c
      rw [c,Bool.false_or] at he
      exact Cnt.next hks (by omega) he
  · have:k=s.length:=by omega
    rw [he,this,List.drop_length] at h;exact h
theorem yj8{s:List Int}{F:Int→(Bool→Prop)→Prop}{p:Int→Bool}{R:Bool→Prop}(hl:s.length≤1000000000)(hF:∀ v∈s,∀ R':Bool→Prop,R' (p v)→F v R')(h:R (s.any p)):yaR s F R:=by
  refine ⟨fun m i=>Cnt s.length (fun k=>s.any p=(s.drop k).any p) m i,Cnt.start rfl,?_⟩
  rintro m _ ⟨k,rfl,rfl,hk,he⟩
  refine ⟨fun hlt=>?_,fun hge=>?_⟩
  · have hks:k<s.length:=by omega
    rw [Int.toNat_natCast]
    rw [List.drop_eq_getElem_cons hks,List.any_cons,←ybe hks] at he
    refine ⟨by omega,hF _ (yjg hks) _ ⟨fun c=>?_,fun c=>?_⟩⟩
    · rw [he,c,Bool.true_or] at h
      show R (decide (0≤(k:Int)))
      rw [decide_eq_true (by omega)];exact h
    · have c:p (gi s k)=false:=by simpa using c
      rw [c,Bool.false_or] at he
      exact Cnt.next hks (by omega) he
  · have:k=s.length:=by omega
    rw [he,this,List.drop_length] at h;exact h
def out9(a:Int):Bool:=!decide (-9≤a∧a≤9)
theorem p_out9{a:Int}{R:Bool→Prop}(h:R (out9 a)):((a<(-9)→R true)∧(¬(a<(-9))→R (decide (9<a)))):=by
  unfold out9 at h
  refine ⟨fun c=>?_,fun c=>?_⟩
  · rw [decide_eq_false (by omega)] at h;exact h
  · by_cases q:9<a
    · rw [decide_eq_false (by omega)] at h;rw [decide_eq_true q];exact h
    · rw [decide_eq_true (by omega)] at h;rw [decide_eq_false q];exact h
theorem any9{x:List Int} : x.any out9=false↔Bd 9 x:=by
  rw [List.any_eq_false]
  constructor
  · intro h i hi
    have:=h _ (yjg hi)
    unfold out9 at this
    have : -9≤gi x i∧gi x i≤9:=by simpa using this
    omega
  · intro h a ha
    obtain ⟨i,hi,rfl⟩:=List.getElem_of_mem ha
    have:=h i hi
    rw [ybe hi] at this
    unfold out9
    simp only [Bool.not_eq_true',decide_eq_false_iff_not,Classical.not_not]
    omega
def genE(n:Int)(es:List E3):Int:=((ybd es).length:Int)+1-n
section
variable {n : Int} {es : List E3} {x : List Int}
theorem p_genus(H:SmP n es)(q:smlE n es=0){R:Int→Int→Prop}(h:R (genE n es) 0):ycp n es R:=by
  obtain ⟨k,rfl,G,hc,h5,h8⟩:=H.get q
  obtain ⟨hE,h1,h12⟩:=ybr G.g
  refine p_graph_Genus (by have:=H.es40;omega) G.g (fun v hv=>(yhM hE h1 h12 hv).1 hc) ?_
  rw [G.size];exact h
theorem p_near_list{m:Nat}{E:List (Int×Int)}{zs:List (List Int)}{y:List Int}(H:ClOk m E zs x y)(hzl:zs.length≤1000000000){R:List (List Int)→Prop}(hR:∀ L,Asc L→(∀ z,z∈L↔NearC E x (dotL y y) z)→R L) :
    (∃ I2:Nat→(List (List Int))→Int→Prop,(∃ m0,I2 m0 ([ybi x y]) 0)∧∀ (m2:Nat) (v:List (List Int)) (v2:Int),I2 m2 v v2 →
      ((v2<((v.length:Nat):Int) →
        (∃ I3:Nat→(List (List Int))→Int→Prop,(∃ m0,I3 m0 v 0)∧∀ (m3:Nat) (v3:List (List Int)) (v4:Int),I3 m3 v3 v4 →
          ((v4<((zs.length:Nat):Int) →
            ((0≤v4∧v4<((zs.length:Nat):Int))∧((0≤v2∧v2<((v3.length:Nat):Int)) ∧
              ybg (gx v3 v2.toNat) (gx zs v4.toNat) (fun (r10:List Int)=>ybg x r10 (fun (r11:List Int)=>ya2 r11 r11 (fun (r12:Int) =>
                ((r12=dotL y y→yaX v3 (fun x R=>ybX x r10 R) (fun (r13:Bool) =>
                    ((r13=true→(In64 (v4+1)∧∃ m4,m4<m3∧I3 m4 v3 (v4+1)))∧(¬(r13=true)→(v3.length+1≤1000000000∧(In64 (v4+1)∧∃ m5,m5<m3∧I3 m5 (v3++[r10]) (v4+1))))))) ∧
                  (¬(r12=dotL y y)→(In64 (v4+1)∧∃ m6,m6<m3∧I3 m6 v3 (v4+1)))))))))) ∧
          (¬(v4<((zs.length:Nat):Int))→(In64 (v2+1)∧∃ m7,m7<m2∧I2 m7 v3 (v2+1)))))) ∧
      (¬(v2<((v.length:Nat):Int))→ydr v (fun (y:List (List Int))=>R y)))):=by
  obtain ⟨d,hd⟩:∃ d,d=dotL y y:=⟨_,rfl⟩
  obtain ⟨z0,hz0⟩:∃ z0,z0=ybi x y:=⟨_,rfl⟩
  have hcount:∀ v,NInv E zs x d z0 v→v.length≤6561:=fun v hv=>by rw [hd,hz0] at hv;exact H.count hv
  have hbd:∀ z,NearC E x d z→Bd 27 (ybi x z)∧Bd 36 z:=fun z hz=>by rw [hd] at hz;exact NearC.bd H hz
  have hvs:=H.zs.vs
  have hst:NInv E zs x d z0 [z0]:=⟨by simp,fun z hz=>by rw [List.mem_singleton.1 hz,hd,hz0];exact H.z0,by simp⟩
  have hxl:=H.xl
  have hm8:=H.m8
  refine ⟨fun m2 v v2=>∃ j:Nat,v2=j∧j≤v.length∧j+m2=6562∧NInv E zs x d z0 v∧∀ i,i<j→∀ c∈zs,NearC E x d (ybi (gx v i) c)→ybi (gx v i) c∈v,⟨6562,0,rfl,by omega,rfl,by rw [←hz0];exact hst,fun i hi=>by omega⟩,?_⟩
  rintro m2 v v2 ⟨j,rfl,hjv,hjm,hN,hcl⟩
  have hvl:=hcount v hN
  refine ⟨fun hlt=>?_,fun hge=>?_⟩
  · have hjl:j<v.length:=by omega
    refine ⟨fun m3 v3 v4=>Cnt zs.length (fun t=>NInv E zs x d z0 v3∧v <+: v3∧∀ i,i<t→NearC E x d (ybi (gx v j) (gx zs i))→ybi (gx v j) (gx zs i)∈v3) m3 v4,Cnt.start ⟨hN,List.prefix_refl _,fun i hi=>by omega⟩,?_⟩
    rintro m3 v3 v4 ⟨t,rfl,rfl,ht,hN3,hpre,hin⟩
    have hv3l:=hcount v3 hN3
    have hple:=hpre.length_le
    refine ⟨fun hlt2=>?_,fun hge2=>?_⟩
    · have htz:t<zs.length:=by omega
      have hgx3:gx v3 j=gx v j:=by
        rw [yaM (by omega),yaM hjl]
        exact (hpre.getElem hjl).symm
      have hu:=hN.near (gx v j) (by rw [yaM hjl];exact List.getElem_mem hjl)
      obtain ⟨c1,c2⟩:=hvs (gx zs t) (by rw [yaM htz];exact List.getElem_mem htz)
      have hcz:gx zs t∈zs:=by rw [yaM htz];exact List.getElem_mem htz
      obtain ⟨u1,u2⟩:=hbd _ hu
      rw [Int.toNat_natCast,Int.toNat_natCast,hgx3]
      have ul:=hu.len
      have b1:Bd 37 (ybi (gx v j) (gx zs t)):=fun i hi=>by
        rw [ybl] at hi
        rw [ybS hi]
        have h1:=u2 i hi
        have h2:=c2 i (by omega)
        omega
      have l1:(ybi (gx v j) (gx zs t)).length=E.length:=by rw [ybl,ul]
      have b2:Bd 46 (ybi x (ybi (gx v j) (gx zs t))):=fun i hi=>by
        rw [ybl] at hi
        rw [ybS hi]
        have h1:=H.x9 i hi
        have h2:=b1 i (by omega)
        omega
      refine ⟨by omega,by omega,ydE (by omega) (by omega) (u2.mono (by decide)) (c2.mono (by decide)) ?_⟩
      refine ydE (by omega) (by omega) (H.x9.mono (by decide)) (b1.mono (by decide)) ?_
      refine ycD rfl (by rw [ybl];omega) (b2.mono (by decide)) (b2.mono (by decide)) ?_
      obtain ⟨w,hw⟩:∃ w,w=ybi (gx v j) (gx zs t):=⟨_,rfl⟩
      have hcirc:Circ E.length E (gi w):=by
        rw [hw]
        exact (hu.circ.sub ((H.zs.mem _).1 hcz).circ).congr fun i hi=>(ybS (by omega)).symm
      have hnw:dotL (ybi x w) (ybi x w)=d→NearC E x d w:=fun q=>⟨by rw [hw];exact l1,hcirc,q⟩
      rw [←hw,←hd]
      rw [←hw] at l1 b1
      have nx:∀ v3':List (List Int),NInv E zs x d z0 v3'→v3 <+: v3'→(NearC E x d w→w∈v3')→In64 ((t:Int)+1)∧∃ m',m'<zs.length-t∧Cnt zs.length (fun t=>NInv E zs x d z0 v3'∧v <+: v3'∧∀ i,i<t→NearC E x d (ybi (gx v j) (gx zs i))→ybi (gx v j) (gx zs i)∈v3') m' ((t:Int)+1):=fun v3' g1 g2 g3=>Cnt.next htz (by omega) ⟨g1,hpre.trans g2,fun i hi hz=>by
        by_cases e:i=t
        · subst e;rw [←hw] at hz ⊢;exact g3 hz
        · exact g2.subset (hin i (by omega) hz)⟩
      refine ⟨fun q=>yka (p:=fun z=>decide (w=z)) (by omega) (fun z hz R' hR'=>yh7 (by omega) hR') ⟨fun c=>?_,fun c=>?_⟩,fun q=>nx v3 hN3 (List.prefix_refl _) fun z=>absurd z.dist q⟩
      · obtain ⟨z,hz,hp⟩:=List.any_eq_true.1 c
        have:=of_decide_eq_true hp
        subst this
        exact nx v3 hN3 (List.prefix_refl _) fun _=>hz
      · have hnot:w∉v3:=fun z=>c (List.any_eq_true.2 ⟨w,z,decide_eq_true rfl⟩)
        have hN3':NInv E zs x d z0 (v3++[w]):=by
          refine ⟨?_,fun z hz=>?_,List.mem_append_left _ hN3.first⟩
          · rw [List.nodup_append]
            refine ⟨hN3.nd,by simp,fun a ha b hb e=>?_⟩
            rw [List.mem_singleton.1 hb] at e
            subst e;exact hnot ha
          · rcases List.mem_append.1 hz with h | h
            · exact hN3.near z h
            · rw [List.mem_singleton.1 h];exact hnw q
        exact ⟨by omega,nx _ hN3' (List.prefix_append _ _) fun _=>by simp⟩
    · have:t=zs.length:=by omega
      subst this
      refine ⟨i64 (by omega),m2-1,by omega,j+1,by omega,by omega,by omega,hN3,fun i hi c hc hz=>?_⟩
      have hgx3:gx v3 i=gx v i:=by
        rw [yaM (by omega),yaM (by omega)]
        exact (hpre.getElem (by omega)).symm
      rw [hgx3] at hz ⊢
      by_cases e:i=j
      · subst e
        obtain ⟨t,ht2,rfl⟩:=List.getElem_of_mem hc
        rw [←yaM ht2] at hz ⊢
        exact hin t ht2 hz
      · exact hpre.subset (hcl i (by omega) c hc hz)
  · have:j=v.length:=by omega
    subst this
    refine ⟨by omega,fun z hz=>?_,fun L hp hs=>hR L (asc_of hp hs hN.nd) fun z=>⟨fun hz=>?_,fun hz=>?_⟩⟩
    · have:=(hN.near z hz).len;omega
    · rw [←hd];exact hN.near z (hp.mem_iff.1 hz)
    · refine hp.mem_iff.2 ?_
      rw [hd,hz0] at hN
      rw [hd] at hcl
      refine H.all hN (fun u hu c hc hn=>?_) _ z _ hz hN.first (Nat.le_refl _)
      obtain ⟨i,hi,rfl⟩:=List.getElem_of_mem hu
      rw [←yaM hi] at hn ⊢
      exact hcl i hi c hc hn
theorem yg3(H:SmP n es){R:List (List Int)→Int→Int→Prop}(h1:vecE n es x≠0→R [] 0 (vecE n es x))(h2:vecE n es x=0→(4<genE n es∨¬Bd 9 x)→R [] 0 12)
    (h3:vecE n es x=0→genE n es≤4→Bd 9 x→∀ zs y k (m:Nat),n=m→CycL (ybd es) zs→slF zs 4096 x 0=some (y,k)→ClOk m (ybd es) zs x y→∀ L,Asc L→(∀ z,z∈L↔NearC (ybd es) x (dotL y y) z)→R L (dotL y y) 0):yct n es x R:=by
  refine ydP H (fun q=>⟨fun z=>absurd z q,fun _=>h1 q⟩) fun q zs hz=>⟨fun _=>p_genus H (ye0 q).1 ⟨fun _=>?_,fun z=>absurd rfl z⟩,fun z=>absurd rfl z⟩
  have q1:=(ye0 q).1
  have q2:=(ye0 q).2.1
  obtain ⟨m,rfl,G,hc,h5,h8⟩:=H.get q1
  refine ⟨genE m es≤4∧Bd 9 x,fun ⟨g4,b9⟩=>?_,fun c=>h2 q (.inl c),fun c=>?_⟩
  · have S:=yjj H q (b9.mono (by decide)) hz
    have hd0:=yih b9 b9 rfl
    have hd1:=Nat.mul_le_mul_right (9*9) (show x.length≤8 by omega)
    obtain ⟨y,k,hy⟩:=ykd (f:=4096) (k:=0) S.vs (by omega)
    have hyl:=slF_len hy
    have hdn:=slF_down S.vs hy
    have C:ClOk m (ybd es) zs x y:=⟨G.ok,hz,h8,q2,b9,by omega,slF_circ hz q2 hy,least_step G.ok hz (by omega) (slF_le hy).2,hdn⟩
    have by2:Bd 2000000 y:=yiA (by have:=S.sq;omega)
    refine yfp S (fun v hv=>((hz.mem v).1 hv).nn) (fun y' k' hy'=>?_) fun hn=>by rw [hn] at hy;cases hy
    rw [hy] at hy'
    cases hy'
    refine ⟨fun _=>ycD rfl (by omega) by2 by2 (ydE (by omega) (by omega) (b9.mono (by decide)) (by2.mono (by decide)) ?_),fun z=>absurd rfl z⟩
    exact p_near_list C S.len fun L hL hm=>h3 q g4 b9 zs y k m rfl hz hy C L hL hm
  · refine yj8 (p:=out9) (by omega) (fun v _ R' hR'=>p_out9 hR') ⟨fun d=>h2 q (.inr fun z=>?_),fun d=>⟨by omega,any9.1 (by simpa using d)⟩⟩
    rw [any9.2 z] at d;cases d
end
end Go.Proofs.YtencmgolklfmkaaGreat

/- The first spanning tree, plainly. -/
namespace Go.Proofs.YtencmgolklfmkaaGreat
open Go Go.RowKit Go.Shelf Go.Proofs.Tryz
set_option maxRecDepth 100000
def eA(E:List (Int×Int))(i:Nat):Nat:=(gx E i).1.toNat
def eB(E:List (Int×Int))(i:Nat):Nat:=(gx E i).2.toNat
def pt(E:List (Int×Int)):Nat→Nat→Nat
  | 0,v=>v
  | k+1,v=>if pt E k v=pt E k (eB E k) then pt E k (eA E k) else pt E k v
def inT(E:List (Int×Int))(i:Nat):Bool:=decide (pt E i (eA E i)≠pt E i (eB E i))
section
variable {E : List (Int × Int)}
variable {n : Nat} (hE : ya6 n E)
include hE
end
section
variable {E : List (Int × Int)} {n : Nat} {es : List E3}
end
end Go.Proofs.YtencmgolklfmkaaGreat

/- The reference's first tree, paths in it, and the basis of the cycle lattice. -/
namespace Go.Proofs.YtencmgolklfmkaaGreat
open Go Go.RowKit Go.Shelf Go.Proofs.Tryz
set_option maxRecDepth 100000
section
variable {E : List (Int × Int)} {es : List E3} {n : Nat}
def asg(out:List Int)(v:Nat):Bool:=decide (gi out v ≠ -2)
def cntA(n:Nat)(out:List Int):Int:=sm n fun v=>if asg out v=true then 1 else 0
structure ParI(E:List (Int×Int))(n root:Nat)(out:List Int)(dp:Nat→Int):Prop where
  len:out.length=n
  rl:root<n
  ra:asg out root=true
  dn:∀ v,0≤dp v
  dc:∀ v,v<n→asg out v=true→dp v<cntA n out
  pr:∀ v,v<n→asg out v=true→v≠root→∃ e u:Nat,gi out v=e∧e<E.length∧inT E e=true∧u<n∧((eA E e=v∧eB E e=u)∨(eB E e=v∧eA E e=u))∧asg out u=true∧dp u<dp v
structure PathT(E:List (Int×Int))(a b:Int)(p:List Dart):Prop where
  ch:Ch E a p b
  nd:(p.map Prod.fst).Nodup
  tr:∀ d∈p,d.1<E.length∧inT E d.1=true
structure LoopV(E:List (Int×Int))(e:Nat)(y:List Int):Prop where
  len:y.length=E.length
  circ:Circ E.length E (gi y)
  one:gi y e=1
  free:∀ f,f<E.length→inT E f=false→f≠e→gi y f=0
  bd:Bd 1 y
def yjl(E:List (Int×Int))(k:Nat):List Nat:=chL (fun i=>!inT E i) k
end
end Go.Proofs.YtencmgolklfmkaaGreat

/- The reference's Around: all circulations that are near enough outside of the tree. -/
namespace Go.Proofs.YtencmgolklfmkaaGreat
open Go Go.RowKit Go.Shelf Go.Proofs.Tryz
set_option maxRecDepth 100000
section
variable {E : List (Int × Int)} {n : Nat} {es : List E3}
structure BasOk(n:Nat)(E:List (Int×Int))(l:List (List Int)):Prop where
  hE:ya6 n E
  len:l.length=(yjl E E.length).length
  lv:∀ i,∀ hi:i<(yjl E E.length).length,LoopV E (yjl E E.length)[i] (gx l i)
structure ArI(E:List (Int×Int))(x:List Int)(a:Nat)(i:Nat)(A:List (List Int)):Prop where
  nd:A.Nodup
  len:A.length=(2*a+1)^i
  mem:∀ z,z∈A↔z.length=E.length∧Circ E.length E (gi z)∧∀ j,∀ hj:j<(yjl E E.length).length,if j<i then (gi x (yjl E E.length)[j]-gi z (yjl E E.length)[j]).natAbs≤a else gi z (yjl E E.length)[j]=0
  bd:∀ z∈A,Bd (i*(9+a)) z
end
end Go.Proofs.YtencmgolklfmkaaGreat

/- The chapter's examples: the triangle. -/
namespace Go.Proofs.YtencmgolklfmkaaGreat
open Go Go.RowKit Go.Shelf Go.Proofs.Tryz
set_option maxRecDepth 100000
def es0:List E3:=[(0,1,1),(0,2,1),(1,2,1)]
def E0:List (Int×Int):=[(0,1),(0,2),(1,2)]
def cyc0:List (List Int):=[[-1,1, -1],[1, -1,1]]
def bnd0:List (List Int):=[[-1, -1,0],[-1,0,1],[0, -1, -1],[0,1,1],[1,0, -1],[1,1,0]]
theorem ends0:ybd es0=E0:=by decide +kernel
theorem sml0:smlE 3 es0=0:=by decide +kernel
theorem smp0:SmP 3 es0:=⟨by decide,fun _ _=>by rw [ends0];decide⟩
theorem gr0:GrOk 3 es0 E0:=by
  obtain ⟨k,hk,G⟩:=gr_of (n:=3) (es:=es0) (by decide +kernel)
  have:k=3:=by omega
  subst this
  rw [ends0] at G;exact G
theorem yit:CycL E0 cyc0:=by
  refine ⟨by unfold Asc cyc0;decide +kernel,fun y=>?_⟩
  rw [←yhK gr0.ok,show dirL E0 3=[[1, -1,1],[-1,1, -1]] by decide +kernel]
  unfold cyc0
  simp only [List.mem_cons,List.not_mem_nil,or_false]
  exact Or.comm
theorem yfL{zs:List (List Int)}(h:CycL (ybd es0) zs):zs=cyc0:=by rw [ends0] at h;exact h.uniq yit
def wholeC(n:Nat)(es:List E3)(U:Nat→Bool):Bool:=(List.range n).any U&&(List.range n).all fun u=>(List.range n).all fun v=>!U u || !U v || decide (root (yap (es.filter (inE U))) u=root (yap (es.filter (inE U))) v)
theorem whole_of{n:Nat}{es:List E3}{U:Nat→Bool}(hE:ycL es)(hn:n≤12)(h:wholeC n es U=true):yhm n es U:=by
  unfold wholeC at h
  rw [Bool.and_eq_true,List.any_eq_true,List.all_eq_true] at h
  obtain ⟨⟨v,hv,huv⟩,h2⟩:=h
  refine (whole_iff hE hn).2 ⟨⟨v,List.mem_range.1 hv,huv⟩,fun u v hu hv huu huv=>?_⟩
  have:=List.all_eq_true.1 (h2 u (List.mem_range.2 hu)) v (List.mem_range.2 hv)
  rw [huu,huv] at this
  simpa using this
theorem isB0{w:Nat}(h1:1≤w)(h2:w<7):isB 3 es0 w=true:=by
  have hall:((List.range 7).all fun w=>decide (w=0) || (wholeC 3 es0 (fun v=>w.testBit v)&&wholeC 3 es0 fun v=>!w.testBit v))=true:=by decide +kernel
  have h:=List.all_eq_true.1 hall w (List.mem_range.2 h2)
  rw [decide_eq_false (show ¬w=0 by omega),Bool.false_or,Bool.and_eq_true] at h
  have hE12:ycL es0:=yfX (ybr gr0.g).1 (by decide)
  exact isB_iff.2 ⟨by decide +kernel,whole_of hE12 (by decide) h.1,whole_of hE12 (by decide) h.2⟩
theorem bondLst0:bondLst 3 es0 E0 7=[1,2,3,4,5,6].map fun w=>yhB E0 (bitV w):=by
  unfold bondLst bondW
  rw [List.filter_congr (q:=fun w=>decide (1≤w)) fun w hw=>?_]
  · rfl
  · by_cases h:1≤w
    · rw [isB0 h (List.mem_range.1 hw),Bool.and_true]
    · rw [decide_eq_false h,Bool.false_and]
theorem bnd_uniq0{zs:List (List Int)}(hp:zs.Perm (bondLst 3 es0 E0 (2^3-1)))(hs:zs.Pairwise fun a b=>¬lexC b a<0):zs=bnd0:=by
  refine yiQ (hp.trans ?_) hs (by unfold bnd0;decide +kernel)
  rw [show (2^3-1:Nat)=7 by rfl,bondLst0]
  have:([1,2,3,4,5,6].map fun w=>yhB E0 (bitV w)).isPerm bnd0=true:=by decide +kernel
  exact List.isPerm_iff.1 this
theorem near0{L:List (List Int)}(hL:Asc L)(hm:∀ z,z∈L↔NearC E0 [3,0,0] 6 z):L=[[1, -1,1]]:=by
  refine Asc.eq hL (by unfold Asc;simp) fun z=>?_
  rw [hm]
  have hc:Circ E0.length E0 (gi [1, -1,1]):=IsDC.circ ((yit.mem _).1 (by decide))
  constructor
  · rintro ⟨h1,h2,h3⟩
    match z,h1 with
    | [a,b,c],_ =>
      have e0:=h2 0
      have e1:=h2 1
      have g0:bdy E0.length E0 (gi [a,b,c]) 0 = -a-b:=by
        show 0+a*(0-1)+b*(0-1)+c*(0-0) = -a-b
        omega
      have g1:bdy E0.length E0 (gi [a,b,c]) 1=a-c:=by
        show 0+a*(1-0)+b*(0-0)+c*(0-1)=a-c
        omega
      have g3:dotL (ybi [3,0,0] [a,b,c]) (ybi [3,0,0] [a,b,c])=(3-a)*(3-a)+(0-b)*(0-b)+(0-c)*(0-c):=by
        show 0+(3-a)*(3-a)+(0-b)*(0-b)+(0-c)*(0-c)=_
        omega
      rw [g0] at e0;rw [g1] at e1;rw [g3] at h3
      have hb:b = -a:=by omega
      have hcc:c=a:=by omega
      subst hb;subst hcc
      have h4:(c-1)*(c-1)=0:=by
        have e1:(3-c)*(3-c)=9-6*c+c*c:=by
          rw [Int.sub_mul,Int.mul_sub,Int.mul_sub];omega
        have e2:(0 - -c)*(0 - -c)=c*c:=by rw [show 0 - -c=c by omega]
        have e3:(0-c)*(0-c)=c*c:=by rw [show 0-c = -c by omega,Int.neg_mul_neg]
        have e4:(c-1)*(c-1)=c*c-2*c+1:=by rw [Int.sub_mul,Int.mul_sub,Int.mul_sub];omega
        rw [e1,e2,e3] at h3
        rw [e4];omega
      have h5:c=1:=by
        rcases Int.mul_eq_zero.1 h4 with q | q <;> omega
      subst h5
      simp
  · intro h
    rw [List.mem_singleton.1 h]
    exact ⟨rfl,hc,by decide +kernel⟩
theorem yj6{R:Bool→Prop}(h:R true):yb9 R:=by
  have hv1:vecE 3 es0 [2, -1,1]=0:=by decide +kernel
  have hv2:vecE 3 es0 [3,0,0]=0:=by decide +kernel
  have hv3:vecE 3 es0 [4,0,0]=0:=by decide +kernel
  unfold yb9 yc6
  refine yfr smp0 (fun q=>absurd sml0 q) fun _ zs hz=>?_
  rw [yfL hz]
  refine yfK (by decide) gr0 (by decide +kernel) fun bs hp hs=>?_
  rw [bnd_uniq0 hp hs]
  refine yh3 smp0 (fun q=>absurd hv1 q) (fun _=>by unfold Bd;decide) fun _ zs hz=>?_
  rw [yfL hz]
  have hsl:slF cyc0 4096 [2, -1,1] 0=some ([1,0,0],1):=by decide +kernel
  refine ⟨fun y k hy=>?_,fun hn=>by rw [hsl] at hn;cases hn⟩
  rw [hsl] at hy;cases hy
  refine yg3 smp0 (fun q=>absurd hv2 q) (fun _ c=>absurd c ?_) fun _ _ _ zs y k m hm hz hy C L hL hmem=>?_
  · rintro (c | c)
    · exact absurd c (by decide +kernel)
    · exact c (by unfold Bd;decide)
  have hm3:m=3:=by omega
  subst hm3
  rw [yfL hz] at hy
  have hsl2:slF cyc0 4096 [3,0,0] 0=some ([2,1, -1],1):=by decide +kernel
  rw [hsl2] at hy;cases hy
  have hd:dotL [2,1, -1] [2,1, -1]=6:=by decide
  rw [hd,ends0] at hmem
  rw [near0 hL hmem,hd]
  refine yft smp0 (fun q=>absurd hv2 q) (fun _=>by unfold Bd;decide) (fun _ c=>absurd c (by decide)) fun _ _ _ zs hz=>?_
  rw [yfL hz,show (ydR cyc0 [3,0,0] 2).isNone=true by decide +kernel]
  refine yft smp0 (fun q=>absurd hv3 q) (fun _=>by unfold Bd;decide) (fun _ c=>absurd c (by decide)) fun _ _ _ zs hz=>?_
  rw [yfL hz,show (ydR cyc0 [4,0,0] 2).isNone=false by decide +kernel]
  refine ⟨i64 (by decide),i64 (by decide),i64 (by decide),i64 (by decide),i64 (by decide),fun _=>?_,fun c=>absurd (by decide) c⟩
  refine yd8 (a:=cyc0) (by decide) (fun v hv=>by rw [(yit.vs v hv).1];decide) ⟨fun _=>?_,fun c=>absurd rfl c⟩
  have hb:∀ v∈bnd0,v.length≤1000000000:=by unfold bnd0;decide
  refine yd8 (a:=bnd0) (by decide) hb ⟨fun _=>?_,fun c=>absurd rfl c⟩
  refine yh7 (by decide) ⟨fun _=>⟨fun _=>?_,fun c=>absurd rfl c⟩,fun c=>absurd (by decide) c⟩
  refine yd8 (a:=[[1, -1,1]]) (by decide) (by decide) ⟨fun _=>⟨fun _=>⟨fun _=>h,fun c=>absurd rfl c⟩,fun c=>absurd rfl c⟩,fun c=>absurd rfl c⟩
end Go.Proofs.YtencmgolklfmkaaGreat

/- The reference's nearest vectors; the laws VoronoiNearest and VoronoiLeast. -/
namespace Go.Proofs.YtencmgolklfmkaaGreat
open Go Go.RowKit Go.Shelf Go.Proofs.Tryz
set_option maxRecDepth 100000
theorem sq_succ(k:Nat):(((k:Int)+1)*((k:Int)+1))=(k:Int)*k+2*k+1:=by
  rw [Int.add_mul,Int.mul_add,Int.mul_add];omega
theorem p_r49_root{N:Int}(hN:N≤1000000){R:Int→Prop}(h:∀ k:Nat,k≤1000→(0≤N→(k:Int)*k≤N∧N<((k:Int)+1)*((k:Int)+1))→(N<0→k=0)→R k):yju N R:=by
  refine ⟨fun m i=>∃ k:Nat,i=k∧k+m=1001∧(0≤N→(k:Int)*k≤N)∧(N<0→k=0),⟨1001,0,rfl,rfl,fun z=>by simpa using z,fun _=>rfl⟩,?_⟩
  rintro m i ⟨k,rfl,hk,hs,hng⟩
  have e:=sq_succ k
  have hk0:(0:Int)≤(k:Int)*k:=Int.mul_nonneg (by omega) (by omega)
  have hkm:(k:Int)*k≤1002001:=by
    have:=Nat.mul_le_mul (show k≤1001 by omega) (show k≤1001 by omega)
    have e2:(k:Int)*k=((k*k:Nat):Int):=by push_cast;rfl
    omega
  refine ⟨i64 (by omega),i64 (by omega),fun c=>?_,fun c=>?_⟩
  · have h1:k+1≤1000:=by
      refine Nat.le_of_not_lt fun q=>?_
      have:=Nat.mul_le_mul (show 1001≤k+1 by omega) (show 1001≤k+1 by omega)
      have e2:((k:Int)+1)*((k:Int)+1)=(((k+1)*(k+1):Nat):Int):=by push_cast;rfl
      omega
    exact ⟨m-1,by omega,k+1,by omega,by omega,fun _=>by push_cast;exact c,fun z=>by omega⟩
  · have hk1:k≤1000:=by
      refine Nat.le_of_not_lt fun q=>?_
      have hkm:k=1001:=by omega
      subst hkm
      by_cases z:0≤N
      · have:=hs z;omega
      · have:=hng (by omega);omega
    exact h k hk1 (fun z=>⟨hs z,by omega⟩) hng
section
variable {n : Int} {es : List E3} {x : List Int}
theorem yjO{k:Nat}{E:List (Int×Int)}(G:GrOk k es E)(hl:es.length≤100)(hc:yd0 k es=true){R:Int→Prop}(h:R ((E.length:Int)+1-k)):yjs (k:Int) es R:=by
  have hn:=G.few
  have hlen:=G.len
  refine yji G hl ⟨i64 (by omega),p_r08_PartsN (by omega) G.g ?_⟩
  have h1:yay (yap es) k=1:=by
    have hc2:=hc
    unfold yd0 at hc2
    rw [beq_iff_eq,Int.toNat_natCast] at hc2
    exact hc2
  rw [h1]
  refine ⟨i64 (by omega),?_⟩
  rw [show (E.length:Int)-k+((1:Nat):Int)=(E.length:Int)+1-k by omega]
  exact h
theorem p_r49_Near(hl:es.length≤40)(hx:x.length≤60){R:Bool→Prop}(h:∀ b,R b):yjw n es x R:=by
  refine ⟨∃ k:Nat,n=k∧GrOk k es (ybd es)∧yd0 n es=true∧x.length=(ybd es).length,fun ⟨k,hk,G,hc,hxl⟩=>?_,yfe (by omega) ⟨fun q=>?_,fun _=>h _⟩⟩
  · subst hk
    have hn:=G.few
    refine ⟨fun m a i=>∃ j:Nat,i=j∧j+m=100∧0≤a∧a≤100000000,⟨100,0,rfl,rfl,by decide,by decide⟩,?_⟩
    rintro m a i ⟨j,rfl,hj,a0,a1⟩
    refine ⟨0≤a∧a<100000∧j<99,fun ⟨_,ha,hj2⟩=>?_,yjO G (by omega) hc ⟨fun c=>⟨fun c2=>⟨a0,c2,by omega⟩,fun _=>h _⟩,fun _=>h _⟩⟩
    refine p_r16_DotAny rfl (by omega) fun s=>p_r49_root (by unfold mnF;split <;> omega) fun r hr hrr hrn=>?_
    have h3:(0:Int)≤a*(2*r+1):=Int.mul_nonneg a0 (by omega)
    have h4:a*(2*r+1)≤a*2001:=Int.mul_le_mul_of_nonneg_left (by omega) a0
    by_cases hr100:r≤100
    · have h5:a*(2*r+1)≤a*201:=Int.mul_le_mul_of_nonneg_left (by omega) a0
      exact ⟨i64 (by omega),i64 (by omega),i64 (by omega),i64 (by omega),m-1,by omega,j+1,by omega,by omega,h3,by omega⟩
    · refine absurd ?_ hr100
      by_cases z:0≤mnF s 10000
      · have h7:=(hrr z).1
        refine Nat.le_of_not_lt fun q=>?_
        have:=Nat.mul_le_mul (show 101≤r by omega) (show 101≤r by omega)
        have e2:(r:Int)*r=((r*r:Nat):Int):=by push_cast;rfl
        have h8:mnF s 10000≤10000:=by unfold mnF;split <;> omega
        omega
      · have:=hrn (by omega);omega
  · obtain ⟨g,hc⟩:=yfZ q
    obtain ⟨k,rfl,G⟩:=gr_of g
    exact yji G (by omega) ⟨fun c=>⟨k,rfl,G,hc,by omega⟩,fun _=>h _⟩
theorem p_least:yj1 n es x (fun r=>r=true):=by
  refine ⟨SmP n es∧vecE n es x=0∧Bd 9 x∧genE n es≤4,fun ⟨H,hv,b9,g4⟩=>?_,?_⟩
  · have hes:=H.es40
    obtain ⟨m,rfl,G,hc,h5,h8⟩:=H.get (ye0 hv).1
    have hxl:=(ye0 hv).2.1
    refine yh3 H (fun q=>absurd hv q) (fun _=>b9.mono (by decide)) fun _ zs hz=>⟨fun y k hy=>?_,fun hn=>?_⟩
    · refine yg3 H (fun q=>absurd hv q) (fun _ c=>absurd c ?_) fun _ _ _ zs' y' k' m' hm' hz' hy' C L hL hmem=>?_
      · rintro (c | c)
        · omega
        · exact c b9
      have hzz:=hz'.uniq hz
      subst hzz
      rw [hy'] at hy
      cases hy
      refine yfr H (fun q=>absurd (ye0 hv).1 q) fun _ zs'' hz''=>?_
      have hzz:=hz''.uniq hz'
      subst hzz
      have hN:NInv (ybd es) zs'' x (dotL y y) (ybi x y) L:=⟨hL.nodup,fun z hz=>(hmem z).1 hz,(hmem _).2 C.z0⟩
      have hLl:=C.count hN
      have hyl:=C.yl
      have hyb:Bd 27 y:=yiA (by have:=C.dn;have:=C.bdx;omega)
      have hvs:=hz''.vs
      have hzl:=hz''.len G.ok
      have hpw:=few_pow h5 h8
      have hmul:=Nat.mul_le_mul_right ((2*(ybd es).length+1)^m) (show m≤m+1 by omega)
      refine ⟨True,fun _=>?_,i64 (by decide),i64 (by decide),fun _=>⟨fun _=>⟨fun c=>?_,fun _=>p_r16_Dot rfl (by omega) (hyb.mono (by decide)) (hyb.mono (by decide)) ⟨fun _=>trivial,fun c=>absurd rfl c⟩⟩,fun c=>absurd (by omega) c⟩,fun c=>absurd rfl c⟩
      · refine yj9 (by omega) (by omega) (b9.mono (by decide)) (hyb.mono (by decide)) (yka (p:=fun z=>decide (z=ybi x y)) (by omega) (fun z hz R' hR'=>yh7 (by have:=((hmem z).1 hz).len;omega) hR') ⟨fun _=>?_,fun c=>absurd (List.any_eq_true.2 ⟨_,hN.first,decide_eq_true rfl⟩) c⟩)
        refine ⟨Cnt L.length (fun _=>True),Cnt.start trivial,?_⟩
        rintro m1 _ ⟨t,rfl,rfl,ht,_⟩
        refine ⟨fun hlt=>?_,fun _=>yj6 rfl⟩
        have htL:t<L.length:=by omega
        obtain ⟨z,hze⟩:∃ z,z=gx L t:=⟨_,rfl⟩
        have hzn:=(hmem z).1 (by rw [hze,yaM htL];exact List.getElem_mem htL)
        have hzlen:=hzn.len
        obtain ⟨zb1,zb2⟩:=NearC.bd C hzn
        rw [Int.toNat_natCast,←hze]
        refine ⟨by omega,fun _=>?_,fun c=>absurd (by omega) c⟩
        refine ⟨Cnt zs''.length (fun _=>True),Cnt.start trivial,?_⟩
        rintro m2 _ ⟨s,rfl,rfl,hs,_⟩
        refine ⟨fun hlt2=>?_,fun _=>Cnt.next htL (by omega) trivial⟩
        have hsz:s<zs''.length:=by omega
        obtain ⟨v,hve⟩:∃ v,v=gx zs'' s:=⟨_,rfl⟩
        have hvm:v∈zs'':=by rw [hve,yaM hsz];exact List.getElem_mem hsz
        obtain ⟨v1,v2⟩:=hvs v hvm
        have hvc:=((hz''.mem v).1 hvm).circ
        rw [Int.toNat_natCast,←hve]
        have hlb:Bd 28 (ybi (ybi x z) v):=fun i hi=>by
          rw [ybl] at hi
          have h1:=zb1 i hi
          rw [ybS hi]
          rw [ybl] at hi
          have h2:=v2 i (by omega)
          omega
        refine ⟨by omega,fun _=>yj9 (by omega) (by omega) (b9.mono (by decide)) (zb2.mono (by decide)) (yj9 (by rw [ybl];omega) (by rw [ybl];omega) (zb1.mono (by decide)) (v2.mono (by decide)) (p_r16_Dot rfl (by rw [ybl,ybl];omega) (hlb.mono (by decide)) (hlb.mono (by decide)) ⟨fun c=>?_,fun c=>Cnt.next hsz (by omega) trivial⟩)),fun c=>absurd (by omega) c⟩
        -- nothing is nearer
        have hsum:Circ (ybd es).length (ybd es) (gi (tab (fun i=>gi z i+gi v i) (ybd es).length)):=(hzn.circ.add hvc).congr fun i hi=>(ycc (fun i=>gi z i+gi v i) hi).symm
        have hle:=C.least hsum
        rw [show ybi x (tab (fun i=>gi z i+gi v i) (ybd es).length)=ybi (ybi x z) v from ygj (by rw [ybl,ybl,ybl]) fun i hi=>by
          rw [ybl] at hi
          rw [ybS hi,ybS (by rw [ybl];exact hi),ybS hi,ycc _ (by omega)];omega] at hle
        exact absurd c (by omega)
      · have:=List.length_pos_of_mem hN.first
        omega
    · have S:=yjj H hv (b9.mono (by decide)) hz
      have hd0:=yih b9 b9 rfl
      have hd1:=Nat.mul_le_mul_right (9*9) (show x.length≤8 by omega)
      obtain ⟨y,k,hy⟩:=ykd (f:=4096) (k:=0) S.vs (by omega)
      rw [hn] at hy;cases hy
  · refine p_r08_FewTrees ⟨fun q=>?_,fun _=>⟨fun z=>(by cases z),fun _=>yj6 rfl⟩⟩
    obtain ⟨s1,s2⟩:=small_getV q
    have H:SmP n es:=⟨s1,fun g _=>⟨(s2 g).1,by have:=(s2 g).2;omega⟩⟩
    refine yfe (by omega) ⟨fun qj=>?_,fun _=>⟨fun z=>(by cases z),fun _=>yj6 rfl⟩⟩
    obtain ⟨g,hc⟩:=yfZ qj
    obtain ⟨m,rfl,G⟩:=gr_of g
    have h8:=(s2 g).2
    have hsml:smlE (m:Int) es=0:=by unfold smlE;rw [if_neg (fun z=>z qj),if_neg (by omega)]
    refine yji G (by omega) ⟨fun hxl=>?_,fun _=>⟨fun z=>(by cases z),fun _=>yj6 rfl⟩⟩
    have hp50:∀ (a:Int) (R':Bool→Prop),R' (!decide (-50≤a∧a≤50))→((a<(-50)→R' true)∧(¬(a<(-50))→R' (decide (50<a)))):=fun a R' h=>by
      refine ⟨fun c=>?_,fun c=>?_⟩
      · rw [decide_eq_false (by omega)] at h;exact h
      · by_cases q:50<a
        · rw [decide_eq_false (by omega)] at h;rw [decide_eq_true q];exact h
        · rw [decide_eq_true (by omega)] at h;rw [decide_eq_false q];exact h
    refine yj8 (p:=fun a=>!decide (-50≤a∧a≤50)) (by omega) (fun v _ R' hR'=>hp50 v R' hR') ⟨fun _=>?_,fun _=>yj6 rfl⟩
    refine yjO G (by omega) hc ⟨fun _=>yj6 rfl,fun g4=>p_r49_Near s1 (by omega) fun b=>⟨fun _=>?_,fun _=>yj6 rfl⟩⟩
    refine yj8 (p:=out9) (by omega) (fun v _ R' hR'=>p_out9 hR') ⟨fun _=>yj6 rfl,fun d=>⟨H,?_,any9.1 (by simpa using d),by unfold genE;omega⟩⟩
    have b9:Bd 9 x:=any9.1 (by simpa using d)
    unfold vecE
    rw [if_neg (fun z=>z hsml),if_neg (fun z=>z (by omega)),if_pos]
    rw [List.all_eq_true]
    intro a ha
    obtain ⟨i,hi,rfl⟩:=List.getElem_of_mem ha
    have:=b9 i hi
    rw [ybe hi] at this
    exact decide_eq_true (by omega)
end
end Go.Proofs.YtencmgolklfmkaaGreat
