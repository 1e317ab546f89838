/- Texts laid together: Vo, Vp, Vq. -/
import Derived.Test.YtencmgolklfmkaaGreatK7
set_option linter.unusedVariables false
set_option linter.unusedSimpArgs false
set_option linter.unusedSectionVars false
/- The nearest vectors: what voronoi.Closest finds. -/
namespace Go.Proofs.YtencmgolklfmkaaGreat
open Go Go.RowKit Go.Shelf Go.Proofs.Tryz
set_option maxRecDepth 100000
section
variable {E : List (Int × Int)} {n : Nat}
theorem part_of2(hE:ya6 n E){z:Nat→Int}(hz:Circ E.length E z)(h0:∃ i,i<E.length∧z i≠0) :
    ∃ s p,DCyc E.length E s p∧Circ E.length E (fun i=>z i-vec p i)∧siz E.length (fun i=>z i-vec p i)<siz E.length z∧∀ i,i<E.length→0≤vec p i*(z i-vec p i):=by
  obtain ⟨s,p,hp,ha⟩:=yiM hE hz h0
  have key:∀ i,i<E.length→(z i-vec p i).natAbs≤(z i).natAbs∧0≤vec p i*(z i-vec p i)∧(vec p i≠0→(z i-vec p i).natAbs<(z i).natAbs):=by
    intro i hi
    by_cases q:vec p i=0
    · rw [q];simp
    · obtain ⟨d,hd,rfl,e⟩:=yip hp.ed q
      have h2:=(ha d hd).2
      rw [e]
      rcases ycJ d.2 with e1 | e1 <;> rw [e1] at h2 ⊢ <;> refine ⟨by omega,by omega,fun _=>by omega⟩
  obtain ⟨d,hd⟩:=List.exists_mem_of_ne_nil _ hp.ne
  refine ⟨s,p,hp,hz.sub hp.circ,siz_lt (fun i hi=>(key i hi).1) (hp.lt d hd) ((key d.1 (hp.lt d hd)).2.2 ?_),fun i hi=>(key i hi).2.1⟩
  rw [yho hp.ed hd]
  rcases ycJ d.2 with e1 | e1 <;> rw [e1] <;> decide
theorem near_pm(hE:ya6 n E){y:Nat→Int}(hy:yfz E.length E y):∀ (k:Nat) (z:Nat→Int),siz E.length z≤k→Circ E.length E z→2*dot_ E.length y z=dot_ E.length z z→pm1 E.length z:=by
  intro k
  induction k with
  | zero =>
    intro z hk hz _
    rcases yhd E.length z with h0 | h0
    · exact fun i hi => .inl (h0 i hi)
    · obtain ⟨s,p,_,_,h3,_⟩:=part_of2 hE hz h0
      omega
  | succ k ih =>
    intro z hk hz he
    rcases yhd E.length z with h0 | h0
    · exact fun i hi => .inl (h0 i hi)
    · obtain ⟨s,p,hp,hz',h3,h4⟩:=part_of2 hE hz h0
      have h5:=hy _ hz'
      have h6:=hy _ hp.circ
      have h7:0≤dot_ E.length (vec p) (fun i=>z i-vec p i):=dot_nn h4
      have e:dot_ E.length z z=dot_ E.length (vec p) (vec p)+2*dot_ E.length (vec p) (fun i=>z i-vec p i)+dot_ E.length (fun i=>z i-vec p i) (fun i=>z i-vec p i):=by
        rw [←dot_sum];exact ybA (fun i _=>by omega) (fun i _=>by omega)
      have e2:dot_ E.length y z=dot_ E.length y (vec p)+dot_ E.length y (fun i=>z i-vec p i):=by
        rw [←ygv];exact ybA (fun i _=>rfl) (fun i _=>by omega)
      have h8:dot_ E.length (vec p) (fun i=>z i-vec p i)=0:=by omega
      have h9:=ih _ (by omega) hz' (by omega)
      intro i hi
      have h10:=ygu (n:=E.length) (f:=fun i=>vec p i*(z i-vec p i)) h4 i hi
      have h11:vec p i*(z i-vec p i)=0:=Int.le_antisymm (by unfold dot_ at h8;rw [h8] at h10;exact h10) (h4 i hi)
      have h12:=ygL hp.ed i
      have h13:z i-vec p i=0∨z i-vec p i=1∨z i-vec p i = -1:=h9 i hi
      rcases Int.mul_eq_zero.1 h11 with q | q
      · omega
      · have:z i=vec p i:=by omega
        rw [this];exact h12
def enc3:List Int→Int
  | []=>0
  | a::t=>(a+1)+3*enc3 t
theorem enc3_range:∀ {l:List Int},(∀ a∈l, -1≤a∧a≤1)→0≤enc3 l∧enc3 l<((3^l.length:Nat):Int)
  | [],_=>by simp [enc3]
  | a::t,h=>by
    have h1:=enc3_range (l:=t) fun b hb=>h b (by simp [hb])
    have h2:=h a (by simp)
    rw [enc3,List.length_cons,Nat.pow_succ]
    omega
theorem enc3_inj:∀ {l m:List Int},l.length=m.length→(∀ a∈l, -1≤a∧a≤1)→(∀ a∈m, -1≤a∧a≤1)→enc3 l=enc3 m→l=m
  | [],[],_,_,_,_=>rfl
  | a::t,b::u,hl,h,k,e=>by
    have h2:=h a (by simp)
    have k2:=k b (by simp)
    rw [enc3,enc3] at e
    have h3:a=b:=by omega
    have h4:=enc3_inj (l:=t) (m:=u) (by simpa using hl) (fun c hc=>h c (by simp [hc])) (fun c hc=>k c (by simp [hc])) (by omega)
    rw [h3,h4]
theorem yfC{α β:Type}{f:α→β} : ∀ {l:List α},l.Nodup→(∀ a∈l,∀ b∈l,f a=f b→a=b)→(l.map f).Nodup
  | [],_,_=>List.nodup_nil
  | a::t,h,k=>by
    rw [List.map_cons,List.nodup_cons]
    rw [List.nodup_cons] at h
    refine ⟨fun z=>?_,yfC h.2 fun b hb c hc=>k b (by simp [hb]) c (by simp [hc])⟩
    obtain ⟨b,hb,e⟩:=List.mem_map.1 z
    have:=k b (by simp [hb]) a (by simp) e
    subst this
    exact h.1 hb
theorem pm_count{m:Nat}{l:List (List Int)}(hn:l.Nodup)(h:∀ w∈l,w.length=m∧∀ a∈w, -1≤a∧a≤1):l.length≤3^m:=by
  rw [←List.length_map (f:=enc3)]
  refine yhY (yfC hn fun a ha b hb e=>enc3_inj (by rw [(h a ha).1,(h b hb).1]) (h a ha).2 (h b hb).2 e) fun v hv=>?_
  obtain ⟨w,hw,rfl⟩:=List.mem_map.1 hv
  have:=enc3_range (h w hw).2
  rw [(h w hw).1] at this
  exact this
theorem IsDC.circ{y:List Int}(h:IsDC E y):Circ E.length E (gi y):=by
  obtain ⟨s,p,hp,rfl⟩:=h
  exact hp.circ.congr fun i hi=>(ycc _ hi).symm
theorem circ_zero:Circ E.length E fun _=>0:=fun v=>by
  unfold bdy
  rw [yaw (g:=fun _=>0) fun i _=>Int.zero_mul _,ybY]
theorem Circ.add{m:Nat}{x y:Nat→Int}(hx:Circ m E x)(hy:Circ m E y):Circ m E (fun i=>x i+y i):=fun v=>by rw [bdy_add,hx v,hy v];rfl
theorem IsDC.neg(hE:ya6 n E){y:List Int}(h:IsDC E y):IsDC E (tab (fun i => -gi y i) E.length):=by
  obtain ⟨s,p,hp,rfl⟩:=h
  have hset:=hp.set (n:=n)
  have hb:∀ i,i<E.length→gi (tab (vec p) E.length) i=vec p i:=fun i hi=>ycc _ hi
  rw [show tab (fun i => -gi (tab (vec p) E.length) i) E.length=tab (fun i => -vec p i) E.length from ygB fun i hi=>by rw [hb i hi]]
  obtain ⟨d,hd⟩:=List.exists_mem_of_ne_nil _ hp.ne
  refine (hset.dc hE hp.circ.neg (fun i hi z=>(yio hp.ed i).1 (by have z : -vec p i≠0:=z;omega)) ⟨d.1,hp.lt d hd,?_⟩ fun i hi=>?_).1
  · show -vec p d.1≠0
    rw [yho hp.ed hd]
    rcases ycJ d.2 with e | e <;> rw [e] <;> decide
  · show -vec p i=0 ∨ -vec p i=1 ∨ -vec p i = -1
    have:=ygL hp.ed i
    omega
variable {zs : List (List Int)}
theorem slF_circ(hz:CycL E zs):∀ {f:Nat} {x:List Int} {k:Nat} {y:List Int} {j:Nat},x.length=E.length→slF zs f x k=some (y,j)→Circ E.length E fun i=>gi x i-gi y i
  | f,x,k,y,j,hx,h=>by
    cases hs:ydR zs x 1 with
    | none =>
      rw [yej hs] at h;cases h
      exact circ_zero.congr fun i _=>by omega
    | some v =>
      match f with
      | 0=>rw [yis hs] at h;cases h
      | f+1 =>
        rw [ygd hs] at h
        have h1:=slF_circ hz (f:=f) (by rw [ybl];exact hx) h
        have h2:=((hz.mem v).1 (yh6 hs).1).circ
        refine (h1.add h2).congr fun i hi=>?_
        rw [ybS (by omega)];omega
theorem slF_down:∀ {f:Nat} {x:List Int} {k:Nat} {y:List Int} {j:Nat},Vs x.length zs→slF zs f x k=some (y,j)→dotL y y≤dotL x x
  | f,x,k,y,j,hx,h=>by
    cases hs:ydR zs x 1 with
    | none=>rw [yej hs] at h;cases h;exact Int.le_refl _
    | some v =>
      match f with
      | 0=>rw [yis hs] at h;cases h
      | f+1 =>
        rw [ygd hs] at h
        have h1:=slF_down (f:=f) (by rw [ybl];exact hx) h
        have h2:=yiu hx hs
        omega
theorem slF_total:∀ {f:Nat} {x:List Int} {k:Nat},Vs x.length zs→dotL x x≤(f:Int)→∃ y j,slF zs f x k=some (y,j)
  | f,x,k,hx,h=>by
    cases hs:ydR zs x 1 with
    | none=>exact ⟨x,k,yej hs⟩
    | some v =>
      have h2:=yiu hx hs
      have h3:=dot_self_nn (m:=(ybi x v).length) (gi (ybi x v))
      have h3:0≤dotL (ybi x v) (ybi x v):=h3
      match f,h with
      | 0,h=>omega
      | f+1,h =>
        obtain ⟨y,j,e⟩:=slF_total (f:=f) (x:=ybi x v) (k:=k+1) (by rw [ybl];exact hx) (by omega)
        exact ⟨y,j,by rw [ygd hs];exact e⟩
theorem least_step(hE:ya6 n E)(hz:CycL E zs){y:List Int}(hy:y.length=E.length)(hs:ydR zs y 1=none):yfz E.length E (gi y):=by
  refine least_of hE fun s p hp=>?_
  have hmem:tab (vec p) E.length∈zs:=(hz.mem _).2 ⟨s,p,hp,rfl⟩
  have h1:=List.find?_eq_none.1 hs _ hmem
  have h1:¬(1*dotL (tab (vec p) E.length) (tab (vec p) E.length)<2*dotL y (tab (vec p) E.length)):=fun z=>h1 (decide_eq_true z)
  unfold dotL at h1
  rw [yaI,hy,ybA (x:=gi (tab (vec p) E.length)) (x':=vec p) (y:=gi (tab (vec p) E.length)) (y':=vec p) (fun i hi=>ycc _ hi) fun i hi=>ycc _ hi,ybA (x:=gi y) (x':=gi y) (y:=gi (tab (vec p) E.length)) (y':=vec p) (fun i hi=>rfl) fun i hi=>ycc _ hi] at h1
  omega
structure NearC(E:List (Int×Int))(x:List Int)(d:Int)(z:List Int):Prop where
  len:z.length=E.length
  circ:Circ E.length E (gi z)
  dist:dotL (ybi x z) (ybi x z)=d
theorem yie{x z:List Int}(hx:x.length=E.length):dotL (ybi x z) (ybi x z)=dot_ E.length (fun i=>gi x i-gi z i) (fun i=>gi x i-gi z i):=by
  unfold dotL
  rw [ybl,hx]
  exact ybA (fun i hi=>ybS (by omega)) fun i hi=>ybS (by omega)
structure NInv(E:List (Int×Int))(zs:List (List Int))(x:List Int)(d:Int)(z0:List Int)(v:List (List Int)):Prop where
  nd:v.Nodup
  near:∀ z∈v,NearC E x d z
  first:z0∈v
section
variable {x y : List Int} {d : Int}
structure ClOk(n:Nat)(E:List (Int×Int))(zs:List (List Int))(x y:List Int):Prop where
  hE:ya6 n E
  zs:CycL E zs
  m8:E.length≤8
  xl:x.length=E.length
  x9:Bd 9 x
  yl:y.length=E.length
  yc:Circ E.length E fun i=>gi x i-gi y i
  le:yfz E.length E (gi y)
  dn:dotL y y≤dotL x x
variable (H : ClOk n E zs x y)
include H
theorem ClOk.z0:NearC E x (dotL y y) (ybi x y):=by
  refine ⟨by rw [ybl,H.xl],H.yc.congr fun i hi=>(ybS (by rw [H.xl];exact hi)).symm,?_⟩
  rw [yie H.xl]
  unfold dotL
  rw [H.yl]
  exact ybA (fun i hi=>by rw [ybS (by rw [H.xl];exact hi)];omega) fun i hi=>by rw [ybS (by rw [H.xl];exact hi)];omega
theorem ClOk.least_at{z:List Int}(hz:NearC E x (dotL y y) z):yfz E.length E (fun i=>gi x i-gi z i):=by
  have h1:=H.le.move (z:=fun i=>gi z i-(gi x i-gi y i)) (hz.circ.sub H.yc) ?_
  · refine fun u hu=>?_
    have:=h1 u hu
    rw [ybA (x:=fun i=>gi x i-gi z i) (x':=fun i=>gi y i-(gi z i-(gi x i-gi y i))) (y:=u) (y':=u) (fun i _=>by omega) fun i _=>rfl]
    exact this
  · have h2:=hz.dist
    rw [yie H.xl] at h2
    unfold dotL at h2
    rw [H.yl] at h2
    rw [←h2]
    exact ybA (fun i _=>by omega) fun i _=>by omega
theorem ClOk.bdx:dotL x x≤729:=by
  have h1:=yih H.x9 H.x9 rfl
  have h2:=Nat.mul_le_mul_right (9*9) (show x.length≤8 by rw [H.xl];exact H.m8)
  omega
theorem NearC.bd{z:List Int}(hz:NearC E x (dotL y y) z):Bd 27 (ybi x z)∧Bd 36 z:=by
  have h1:=H.bdx
  have h2:=H.dn
  have h3:Bd 27 (ybi x z):=yiA (by rw [hz.dist];omega)
  refine ⟨h3,fun i hi=>?_⟩
  have hi':i<x.length:=by rw [H.xl,←hz.len];exact hi
  have h4:=h3 i (by rw [ybl];exact hi')
  rw [ybS hi'] at h4
  have h5:=H.x9 i hi'
  omega
theorem ClOk.count{v:List (List Int)}(hv:NInv E zs x (dotL y y) (ybi x y) v):v.length≤6561:=by
  have h1:(v.map fun z=>ybi z (ybi x y)).length≤3^E.length:=by
    refine pm_count (yfC hv.nd fun a ha b hb e=>?_) fun w hw=>?_
    · have la:=(hv.near a ha).len
      have lb:=(hv.near b hb).len
      refine ygj (by omega) fun i hi=>?_
      have e2:gi (ybi a (ybi x y)) i=gi (ybi b (ybi x y)) i:=by rw [e]
      rw [ybS hi,ybS (x:=b) (by omega)] at e2
      omega
    · obtain ⟨z,hz,rfl⟩:=List.mem_map.1 hw
      have hn:=hv.near z hz
      refine ⟨by rw [ybl,hn.len],fun a ha=>?_⟩
      obtain ⟨i,hi,rfl⟩:=List.getElem_of_mem ha
      rw [ybl] at hi
      rw [←ybe (by rw [ybl];exact hi),ybS hi,ybS (by rw [H.xl,←hn.len];exact hi)]
      have hc:Circ E.length E (fun i=>gi z i-(gi x i-gi y i)):=hn.circ.sub H.yc
      have:=near_pm H.hE H.le _ _ (Nat.le_refl _) hc ?_ i (by rw [←hn.len];exact hi)
      · rcases this with q | q | q <;> rw [q] <;> decide
      · have h2:=hn.dist
        rw [yie H.xl] at h2
        unfold dotL at h2
        rw [H.yl] at h2
        rw [ybA (x:=fun i=>gi x i-gi z i) (x':=fun i=>gi y i-(gi z i-(gi x i-gi y i))) (y:=fun i=>gi x i-gi z i) (y':=fun i=>gi y i-(gi z i-(gi x i-gi y i))) (fun i _=>by omega) fun i _=>by omega,ygA] at h2
        omega
  rw [List.length_map] at h1
  have h2:(3:Nat)^E.length≤3^8:=Nat.pow_le_pow_right (by omega) H.m8
  have h3:(3:Nat)^8=6561:=by decide
  omega
theorem ClOk.all{v:List (List Int)}(hv:NInv E zs x (dotL y y) (ybi x y) v)(hcl:∀ z∈v,∀ c∈zs,NearC E x (dotL y y) (ybi z c)→ybi z c∈v):∀ (k:Nat) (z u:List Int),NearC E x (dotL y y) z→u∈v→siz E.length (fun i=>gi z i-gi u i)≤k→z∈v:=by
  intro k
  have base:∀ z u:List Int,NearC E x (dotL y y) z→u∈v→(∀ i,i<E.length→gi z i-gi u i=0)→z∈v:=fun z u hz hu h0=>by
    have:=hv.near u hu
    rw [show z=u from ygj (by rw [hz.len,this.len]) fun i hi=>by have:=h0 i (by rw [←hz.len];exact hi);omega]
    exact hu
  induction k with
  | zero =>
    intro z u hz hu hk
    have hc:=hz.circ.sub (hv.near u hu).circ
    rcases yhd E.length (fun i=>gi z i-gi u i) with h0 | h0
    · exact base z u hz hu h0
    · obtain ⟨s,p,_,_,h3,_⟩:=part_of2 H.hE hc h0
      omega
  | succ k ih =>
    intro z u hz hu hk
    have hnu:=hv.near u hu
    have hc:=hz.circ.sub hnu.circ
    rcases yhd E.length (fun i=>gi z i-gi u i) with h0 | h0
    · exact base z u hz hu h0
    · have hl:=H.least_at hnu
      have d1:=hz.dist
      have d2:=hnu.dist
      rw [yie H.xl] at d1 d2
      obtain ⟨s,p,hp,h1,h2,h3⟩:=near_step H.hE hl hc (by rw [d2,←d1];exact ybA (fun i _=>by omega) fun i _=>by omega) h0
      obtain ⟨c,hcdef⟩:∃ c,c=tab (fun i => -gi (tab (vec p) E.length) i) E.length:=⟨_,rfl⟩
      have hcz:c∈zs:=by rw [hcdef];exact (H.zs.mem _).2 (IsDC.neg H.hE ⟨s,p,hp,rfl⟩)
      have hgc:∀ i,i<E.length→gi c i = -vec p i:=fun i hi=>by rw [hcdef,ycc _ hi,ycc _ hi]
      have hul:u.length=E.length:=hnu.len
      have hgu:∀ i,i<E.length→gi (ybi u c) i=gi u i+vec p i:=fun i hi=>by rw [ybS (by omega),hgc i hi];omega
      have hnew:NearC E x (dotL y y) (ybi u c):=by
        refine ⟨by rw [ybl,hul],(hnu.circ.add hp.circ).congr fun i hi=>(hgu i hi).symm,?_⟩
        rw [yie H.xl,←d2,←h3]
        exact ybA (fun i hi=>by rw [hgu i hi];omega) fun i hi=>by rw [hgu i hi];omega
      refine ih z (ybi u c) hz (hcl u hu c hcz hnew) ?_
      have:siz E.length (fun i=>gi z i-gi (ybi u c) i)=siz E.length (fun i=>gi z i-gi u i-vec p i):=by
        unfold siz
        refine congrArg Int.toNat (yaw fun i hi=>?_)
        show ((gi z i-gi (ybi u c) i).natAbs:Int)=((gi z i-gi u i-vec p i).natAbs:Int)
        rw [hgu i hi,show gi z i-(gi u i+vec p i)=gi z i-gi u i-vec p i by omega]
      omega
end
end
end Go.Proofs.YtencmgolklfmkaaGreat

/- voronoi.Closest returns the nearest vectors. -/
namespace Go.Proofs.YtencmgolklfmkaaGreat
open Go Go.RowKit Go.Shelf Go.Proofs.Tryz
set_option maxRecDepth 100000
theorem p_containsLL{s:List (List Int)}{F:List Int→(Bool→Prop)→Prop}{p:List Int→Bool}{R:Bool→Prop}(hl:s.length≤1000000000)(hF:∀ v∈s,∀ R':Bool→Prop,R' (p v)→F v R')(h:R (s.any p)):yaX s F R:=by
  refine ⟨fun m i=>Cnt s.length (fun k=>s.any p=(s.drop k).any p) m i,Cnt.start rfl,?_⟩
  rintro m _ ⟨k,rfl,rfl,hk,he⟩
  refine ⟨fun hlt=>?_,fun hge=>?_⟩
  · have hks:k<s.length:=by omega
    rw [Int.toNat_natCast]
    rw [List.drop_eq_getElem_cons hks,List.any_cons,←yaM hks] at he
    refine ⟨by omega,hF _ (by rw [yaM hks];exact List.getElem_mem hks) _ ⟨fun c=>?_,fun c=>?_⟩⟩
    · rw [he,c,Bool.true_or] at h
      show R (decide (0≤(k:Int)))
      rw [decide_eq_true (by omega)];exact h
    · have c:p (gx s k)=false:=by simpa using c
      rw [c,Bool.false_or] at he
      exact Cnt.next hks (by omega) he
  · have:k=s.length:=by omega
    rw [he,this,List.drop_length] at h;exact h
theorem p_containsL{s:List Int}{F:Int→(Bool→Prop)→Prop}{p:Int→Bool}{R:Bool→Prop}(hl:s.length≤1000000000)(hF:∀ v∈s,∀ R':Bool→Prop,R' (p v)→F v R')(h:R (s.any p)):yaR s F R:=by
  refine ⟨fun m i=>Cnt s.length (fun k=>s.any p=(s.drop k).any p) m i,Cnt.start rfl,?_⟩
  rintro m _ ⟨k,rfl,rfl,hk,he⟩
  refine ⟨fun hlt=>?_,fun hge=>?_⟩
  · have hks:k<s.length:=by omega
    rw [Int.toNat_natCast]
    rw [List.drop_eq_getElem_cons hks,List.any_cons,←ybe hks] at he
    refine ⟨by omega,hF _ (yjg hks) _ ⟨fun c=>?_,fun c=>?_⟩⟩
    · rw [he,c,Bool.true_or] at h
      show R (decide (0≤(k:Int)))
      rw [decide_eq_true (by omega)];exact h
    · have c:p (gi s k)=false:=by simpa using c
      rw [c,Bool.false_or] at he
      exact Cnt.next hks (by omega) he
  · have:k=s.length:=by omega
    rw [he,this,List.drop_length] at h;exact h
def out9(a:Int):Bool:=!decide (-9≤a∧a≤9)
theorem p_out9{a:Int}{R:Bool→Prop}(h:R (out9 a)):((a<(-9)→R true)∧(¬(a<(-9))→R (decide (9<a)))):=by
  unfold out9 at h
  refine ⟨fun c=>?_,fun c=>?_⟩
  · rw [decide_eq_false (by omega)] at h;exact h
  · by_cases q:9<a
    · rw [decide_eq_false (by omega)] at h;rw [decide_eq_true q];exact h
    · rw [decide_eq_true (by omega)] at h;rw [decide_eq_false q];exact h
theorem any9{x:List Int} : x.any out9=false↔Bd 9 x:=by
  rw [List.any_eq_false]
  constructor
  · intro h i hi
    have:=h _ (yjg hi)
    unfold out9 at this
    have : -9≤gi x i∧gi x i≤9:=by simpa using this
    omega
  · intro h a ha
    obtain ⟨i,hi,rfl⟩:=List.getElem_of_mem ha
    have:=h i hi
    rw [ybe hi] at this
    unfold out9
    simp only [Bool.not_eq_true',decide_eq_false_iff_not,Classical.not_not]
    omega
def genE(n:Int)(es:List E3):Int:=((ybd es).length:Int)+1-n
section
variable {n : Int} {es : List E3} {x : List Int}
theorem p_genus(H:SmP n es)(q:smlE n es=0){R:Int→Int→Prop}(h:R (genE n es) 0):ycp n es R:=by
  obtain ⟨k,rfl,G,hc,h5,h8⟩:=H.get q
  obtain ⟨hE,h1,h12⟩:=ybr G.g
  refine p_graph_Genus (by have:=H.es40;omega) G.g (fun v hv=>(yhM hE h1 h12 hv).1 hc) ?_
  rw [G.size];exact h
theorem p_near_list{m:Nat}{E:List (Int×Int)}{zs:List (List Int)}{y:List Int}(H:ClOk m E zs x y)(hzl:zs.length≤1000000000){R:List (List Int)→Prop}(hR:∀ L,Asc L→(∀ z,z∈L↔NearC E x (dotL y y) z)→R L) :
    (∃ I2:Nat→(List (List Int))→Int→Prop,(∃ m0,I2 m0 ([ybi x y]) 0)∧∀ (m2:Nat) (v:List (List Int)) (v2:Int),I2 m2 v v2 →
      ((v2<((v.length:Nat):Int) →
        (∃ I3:Nat→(List (List Int))→Int→Prop,(∃ m0,I3 m0 v 0)∧∀ (m3:Nat) (v3:List (List Int)) (v4:Int),I3 m3 v3 v4 →
          ((v4<((zs.length:Nat):Int) →
            ((0≤v4∧v4<((zs.length:Nat):Int))∧((0≤v2∧v2<((v3.length:Nat):Int)) ∧
              ybg (gx v3 v2.toNat) (gx zs v4.toNat) (fun (r10:List Int)=>ybg x r10 (fun (r11:List Int)=>ya2 r11 r11 (fun (r12:Int) =>
                ((r12=dotL y y→yaX v3 (fun x R=>ybX x r10 R) (fun (r13:Bool) =>
                    ((r13=true→(In64 (v4+1)∧∃ m4,m4<m3∧I3 m4 v3 (v4+1)))∧(¬(r13=true)→(v3.length+1≤1000000000∧(In64 (v4+1)∧∃ m5,m5<m3∧I3 m5 (v3++[r10]) (v4+1))))))) ∧
                  (¬(r12=dotL y y)→(In64 (v4+1)∧∃ m6,m6<m3∧I3 m6 v3 (v4+1)))))))))) ∧
          (¬(v4<((zs.length:Nat):Int))→(In64 (v2+1)∧∃ m7,m7<m2∧I2 m7 v3 (v2+1)))))) ∧
      (¬(v2<((v.length:Nat):Int))→ydr v (fun (y:List (List Int))=>R y)))):=by
  obtain ⟨d,hd⟩:∃ d,d=dotL y y:=⟨_,rfl⟩
  obtain ⟨z0,hz0⟩:∃ z0,z0=ybi x y:=⟨_,rfl⟩
  have hcount:∀ v,NInv E zs x d z0 v→v.length≤6561:=fun v hv=>by rw [hd,hz0] at hv;exact H.count hv
  have hbd:∀ z,NearC E x d z→Bd 27 (ybi x z)∧Bd 36 z:=fun z hz=>by rw [hd] at hz;exact NearC.bd H hz
  have hvs:=H.zs.vs
  have hst:NInv E zs x d z0 [z0]:=⟨by simp,fun z hz=>by rw [List.mem_singleton.1 hz,hd,hz0];exact H.z0,by simp⟩
  have hxl:=H.xl
  have hm8:=H.m8
  refine ⟨fun m2 v v2=>∃ j:Nat,v2=j∧j≤v.length∧j+m2=6562∧NInv E zs x d z0 v∧∀ i,i<j→∀ c∈zs,NearC E x d (ybi (gx v i) c)→ybi (gx v i) c∈v,⟨6562,0,rfl,by omega,rfl,by rw [←hz0];exact hst,fun i hi=>by omega⟩,?_⟩
  rintro m2 v v2 ⟨j,rfl,hjv,hjm,hN,hcl⟩
  have hvl:=hcount v hN
  refine ⟨fun hlt=>?_,fun hge=>?_⟩
  · have hjl:j<v.length:=by omega
    refine ⟨fun m3 v3 v4=>Cnt zs.length (fun t=>NInv E zs x d z0 v3∧v <+: v3∧∀ i,i<t→NearC E x d (ybi (gx v j) (gx zs i))→ybi (gx v j) (gx zs i)∈v3) m3 v4,Cnt.start ⟨hN,List.prefix_refl _,fun i hi=>by omega⟩,?_⟩
    rintro m3 v3 v4 ⟨t,rfl,rfl,ht,hN3,hpre,hin⟩
    have hv3l:=hcount v3 hN3
    have hple:=hpre.length_le
    refine ⟨fun hlt2=>?_,fun hge2=>?_⟩
    · have htz:t<zs.length:=by omega
      have hgx3:gx v3 j=gx v j:=by
        rw [yaM (by omega),yaM hjl]
        exact (hpre.getElem hjl).symm
      have hu:=hN.near (gx v j) (by rw [yaM hjl];exact List.getElem_mem hjl)
      obtain ⟨c1,c2⟩:=hvs (gx zs t) (by rw [yaM htz];exact List.getElem_mem htz)
      have hcz:gx zs t∈zs:=by rw [yaM htz];exact List.getElem_mem htz
      obtain ⟨u1,u2⟩:=hbd _ hu
      rw [Int.toNat_natCast,Int.toNat_natCast,hgx3]
      have ul:=hu.len
      have b1:Bd 37 (ybi (gx v j) (gx zs t)):=fun i hi=>by
        rw [ybl] at hi
        rw [ybS hi]
        have h1:=u2 i hi
        have h2:=c2 i (by omega)
        omega
      have l1:(ybi (gx v j) (gx zs t)).length=E.length:=by rw [ybl,ul]
      have b2:Bd 46 (ybi x (ybi (gx v j) (gx zs t))):=fun i hi=>by
        rw [ybl] at hi
        rw [ybS hi]
        have h1:=H.x9 i hi
        have h2:=b1 i (by omega)
        omega
      refine ⟨by omega,by omega,ydE (by omega) (by omega) (u2.mono (by decide)) (c2.mono (by decide)) ?_⟩
      refine ydE (by omega) (by omega) (H.x9.mono (by decide)) (b1.mono (by decide)) ?_
      refine ycD rfl (by rw [ybl];omega) (b2.mono (by decide)) (b2.mono (by decide)) ?_
      obtain ⟨w,hw⟩:∃ w,w=ybi (gx v j) (gx zs t):=⟨_,rfl⟩
      have hcirc:Circ E.length E (gi w):=by
        rw [hw]
        exact (hu.circ.sub ((H.zs.mem _).1 hcz).circ).congr fun i hi=>(ybS (by omega)).symm
      have hnw:dotL (ybi x w) (ybi x w)=d→NearC E x d w:=fun q=>⟨by rw [hw];exact l1,hcirc,q⟩
      rw [←hw,←hd]
      rw [←hw] at l1 b1
      have nx:∀ v3':List (List Int),NInv E zs x d z0 v3'→v3 <+: v3'→(NearC E x d w→w∈v3')→In64 ((t:Int)+1)∧∃ m',m'<zs.length-t∧Cnt zs.length (fun t=>NInv E zs x d z0 v3'∧v <+: v3'∧∀ i,i<t→NearC E x d (ybi (gx v j) (gx zs i))→ybi (gx v j) (gx zs i)∈v3') m' ((t:Int)+1):=fun v3' g1 g2 g3=>Cnt.next htz (by omega) ⟨g1,hpre.trans g2,fun i hi hz=>by
        by_cases e:i=t
        · subst e;rw [←hw] at hz ⊢;exact g3 hz
        · exact g2.subset (hin i (by omega) hz)⟩
      refine ⟨fun q=>p_containsLL (p:=fun z=>decide (w=z)) (by omega) (fun z hz R' hR'=>yh7 (by omega) hR') ⟨fun c=>?_,fun c=>?_⟩,fun q=>nx v3 hN3 (List.prefix_refl _) fun z=>absurd z.dist q⟩
      · obtain ⟨z,hz,hp⟩:=List.any_eq_true.1 c
        have:=of_decide_eq_true hp
        subst this
        exact nx v3 hN3 (List.prefix_refl _) fun _=>hz
      · have hnot:w∉v3:=fun z=>c (List.any_eq_true.2 ⟨w,z,decide_eq_true rfl⟩)
        have hN3':NInv E zs x d z0 (v3++[w]):=by
          refine ⟨?_,fun z hz=>?_,List.mem_append_left _ hN3.first⟩
          · rw [List.nodup_append]
            refine ⟨hN3.nd,by simp,fun a ha b hb e=>?_⟩
            rw [List.mem_singleton.1 hb] at e
            subst e;exact hnot ha
          · rcases List.mem_append.1 hz with h | h
            · exact hN3.near z h
            · rw [List.mem_singleton.1 h];exact hnw q
        exact ⟨by omega,nx _ hN3' (List.prefix_append _ _) fun _=>by simp⟩
    · have:t=zs.length:=by omega
      subst this
      refine ⟨i64 (by omega),m2-1,by omega,j+1,by omega,by omega,by omega,hN3,fun i hi c hc hz=>?_⟩
      have hgx3:gx v3 i=gx v i:=by
        rw [yaM (by omega),yaM (by omega)]
        exact (hpre.getElem (by omega)).symm
      rw [hgx3] at hz ⊢
      by_cases e:i=j
      · subst e
        obtain ⟨t,ht2,rfl⟩:=List.getElem_of_mem hc
        rw [←yaM ht2] at hz ⊢
        exact hin t ht2 hz
      · exact hpre.subset (hcl i (by omega) c hc hz)
  · have:j=v.length:=by omega
    subst this
    refine ⟨by omega,fun z hz=>?_,fun L hp hs=>hR L (asc_of hp hs hN.nd) fun z=>⟨fun hz=>?_,fun hz=>?_⟩⟩
    · have:=(hN.near z hz).len;omega
    · rw [←hd];exact hN.near z (hp.mem_iff.1 hz)
    · refine hp.mem_iff.2 ?_
      rw [hd,hz0] at hN
      rw [hd] at hcl
      refine H.all hN (fun u hu c hc hn=>?_) _ z _ hz hN.first (Nat.le_refl _)
      obtain ⟨i,hi,rfl⟩:=List.getElem_of_mem hu
      rw [←yaM hi] at hn ⊢
      exact hcl i hi c hc hn
theorem yg3(H:SmP n es){R:List (List Int)→Int→Int→Prop}(h1:vecE n es x≠0→R [] 0 (vecE n es x))(h2:vecE n es x=0→(4<genE n es∨¬Bd 9 x)→R [] 0 12)
    (h3:vecE n es x=0→genE n es≤4→Bd 9 x→∀ zs y k (m:Nat),n=m→CycL (ybd es) zs→slF zs 4096 x 0=some (y,k)→ClOk m (ybd es) zs x y→∀ L,Asc L→(∀ z,z∈L↔NearC (ybd es) x (dotL y y) z)→R L (dotL y y) 0):yct n es x R:=by
  refine ydP H (fun q=>⟨fun z=>absurd z q,fun _=>h1 q⟩) fun q zs hz=>⟨fun _=>p_genus H (ye0 q).1 ⟨fun _=>?_,fun z=>absurd rfl z⟩,fun z=>absurd rfl z⟩
  have q1:=(ye0 q).1
  have q2:=(ye0 q).2.1
  obtain ⟨m,rfl,G,hc,h5,h8⟩:=H.get q1
  refine ⟨genE m es≤4∧Bd 9 x,fun ⟨g4,b9⟩=>?_,fun c=>h2 q (.inl c),fun c=>?_⟩
  · have S:=yjj H q (b9.mono (by decide)) hz
    have hd0:=yih b9 b9 rfl
    have hd1:=Nat.mul_le_mul_right (9*9) (show x.length≤8 by omega)
    obtain ⟨y,k,hy⟩:=slF_total (f:=4096) (k:=0) S.vs (by omega)
    have hyl:=slF_len hy
    have hdn:=slF_down S.vs hy
    have C:ClOk m (ybd es) zs x y:=⟨G.ok,hz,h8,q2,b9,by omega,slF_circ hz q2 hy,least_step G.ok hz (by omega) (slF_le hy).2,hdn⟩
    have by2:Bd 2000000 y:=yiA (by have:=S.sq;omega)
    refine yfp S (fun v hv=>((hz.mem v).1 hv).nn) (fun y' k' hy'=>?_) fun hn=>by rw [hn] at hy;cases hy
    rw [hy] at hy'
    cases hy'
    refine ⟨fun _=>ycD rfl (by omega) by2 by2 (ydE (by omega) (by omega) (b9.mono (by decide)) (by2.mono (by decide)) ?_),fun z=>absurd rfl z⟩
    exact p_near_list C S.len fun L hL hm=>h3 q g4 b9 zs y k m rfl hz hy C L hL hm
  · refine p_containsL (p:=out9) (by omega) (fun v _ R' hR'=>p_out9 hR') ⟨fun d=>h2 q (.inr fun z=>?_),fun d=>⟨by omega,any9.1 (by simpa using d)⟩⟩
    rw [any9.2 z] at d;cases d
end
end Go.Proofs.YtencmgolklfmkaaGreat

/- The chapter's examples: the triangle. -/
namespace Go.Proofs.YtencmgolklfmkaaGreat
open Go Go.RowKit Go.Shelf Go.Proofs.Tryz
set_option maxRecDepth 100000
def es0:List E3:=[(0,1,1),(0,2,1),(1,2,1)]
def E0:List (Int×Int):=[(0,1),(0,2),(1,2)]
def cyc0:List (List Int):=[[-1,1, -1],[1, -1,1]]
def bnd0:List (List Int):=[[-1, -1,0],[-1,0,1],[0, -1, -1],[0,1,1],[1,0, -1],[1,1,0]]
theorem ends0:ybd es0=E0:=by decide +kernel
theorem sml0:smlE 3 es0=0:=by decide +kernel
theorem smp0:SmP 3 es0:=⟨by decide,fun _ _=>by rw [ends0];decide⟩
theorem gr0:GrOk 3 es0 E0:=by
  obtain ⟨k,hk,G⟩:=gr_of (n:=3) (es:=es0) (by decide +kernel)
  have:k=3:=by omega
  subst this
  rw [ends0] at G;exact G
theorem yit:CycL E0 cyc0:=by
  refine ⟨by unfold Asc cyc0;decide +kernel,fun y=>?_⟩
  rw [←yhK gr0.ok,show dirL E0 3=[[1, -1,1],[-1,1, -1]] by decide +kernel]
  unfold cyc0
  simp only [List.mem_cons,List.not_mem_nil,or_false]
  exact Or.comm
theorem yfL{zs:List (List Int)}(h:CycL (ybd es0) zs):zs=cyc0:=by rw [ends0] at h;exact h.uniq yit
def wholeC(n:Nat)(es:List E3)(U:Nat→Bool):Bool:=(List.range n).any U&&(List.range n).all fun u=>(List.range n).all fun v=>!U u || !U v || decide (root (yap (es.filter (inE U))) u=root (yap (es.filter (inE U))) v)
theorem whole_of{n:Nat}{es:List E3}{U:Nat→Bool}(hE:ycL es)(hn:n≤12)(h:wholeC n es U=true):yhm n es U:=by
  unfold wholeC at h
  rw [Bool.and_eq_true,List.any_eq_true,List.all_eq_true] at h
  obtain ⟨⟨v,hv,huv⟩,h2⟩:=h
  refine (whole_iff hE hn).2 ⟨⟨v,List.mem_range.1 hv,huv⟩,fun u v hu hv huu huv=>?_⟩
  have:=List.all_eq_true.1 (h2 u (List.mem_range.2 hu)) v (List.mem_range.2 hv)
  rw [huu,huv] at this
  simpa using this
theorem isB0{w:Nat}(h1:1≤w)(h2:w<7):isB 3 es0 w=true:=by
  have hall:((List.range 7).all fun w=>decide (w=0) || (wholeC 3 es0 (fun v=>w.testBit v)&&wholeC 3 es0 fun v=>!w.testBit v))=true:=by decide +kernel
  have h:=List.all_eq_true.1 hall w (List.mem_range.2 h2)
  rw [decide_eq_false (show ¬w=0 by omega),Bool.false_or,Bool.and_eq_true] at h
  have hE12:ycL es0:=yfX (ybr gr0.g).1 (by decide)
  exact isB_iff.2 ⟨by decide +kernel,whole_of hE12 (by decide) h.1,whole_of hE12 (by decide) h.2⟩
theorem bondLst0:bondLst 3 es0 E0 7=[1,2,3,4,5,6].map fun w=>yhB E0 (bitV w):=by
  unfold bondLst bondW
  rw [List.filter_congr (q:=fun w=>decide (1≤w)) fun w hw=>?_]
  · rfl
  · by_cases h:1≤w
    · rw [isB0 h (List.mem_range.1 hw),Bool.and_true]
    · rw [decide_eq_false h,Bool.false_and]
theorem bnd_uniq0{zs:List (List Int)}(hp:zs.Perm (bondLst 3 es0 E0 (2^3-1)))(hs:zs.Pairwise fun a b=>¬lexC b a<0):zs=bnd0:=by
  refine yiQ (hp.trans ?_) hs (by unfold bnd0;decide +kernel)
  rw [show (2^3-1:Nat)=7 by rfl,bondLst0]
  have:([1,2,3,4,5,6].map fun w=>yhB E0 (bitV w)).isPerm bnd0=true:=by decide +kernel
  exact List.isPerm_iff.1 this
theorem near0{L:List (List Int)}(hL:Asc L)(hm:∀ z,z∈L↔NearC E0 [3,0,0] 6 z):L=[[1, -1,1]]:=by
  refine Asc.eq hL (by unfold Asc;simp) fun z=>?_
  rw [hm]
  have hc:Circ E0.length E0 (gi [1, -1,1]):=IsDC.circ ((yit.mem _).1 (by decide))
  constructor
  · rintro ⟨h1,h2,h3⟩
    match z,h1 with
    | [a,b,c],_ =>
      have e0:=h2 0
      have e1:=h2 1
      have g0:bdy E0.length E0 (gi [a,b,c]) 0 = -a-b:=by
        show 0+a*(0-1)+b*(0-1)+c*(0-0) = -a-b
        omega
      have g1:bdy E0.length E0 (gi [a,b,c]) 1=a-c:=by
        show 0+a*(1-0)+b*(0-0)+c*(0-1)=a-c
        omega
      have g3:dotL (ybi [3,0,0] [a,b,c]) (ybi [3,0,0] [a,b,c])=(3-a)*(3-a)+(0-b)*(0-b)+(0-c)*(0-c):=by
        show 0+(3-a)*(3-a)+(0-b)*(0-b)+(0-c)*(0-c)=_
        omega
      rw [g0] at e0;rw [g1] at e1;rw [g3] at h3
      have hb:b = -a:=by omega
      have hcc:c=a:=by omega
      subst hb;subst hcc
      have h4:(c-1)*(c-1)=0:=by
        have e1:(3-c)*(3-c)=9-6*c+c*c:=by
          rw [Int.sub_mul,Int.mul_sub,Int.mul_sub];omega
        have e2:(0 - -c)*(0 - -c)=c*c:=by rw [show 0 - -c=c by omega]
        have e3:(0-c)*(0-c)=c*c:=by rw [show 0-c = -c by omega,Int.neg_mul_neg]
        have e4:(c-1)*(c-1)=c*c-2*c+1:=by rw [Int.sub_mul,Int.mul_sub,Int.mul_sub];omega
        rw [e1,e2,e3] at h3
        rw [e4];omega
      have h5:c=1:=by
        rcases Int.mul_eq_zero.1 h4 with q | q <;> omega
      subst h5
      simp
  · intro h
    rw [List.mem_singleton.1 h]
    exact ⟨rfl,hc,by decide +kernel⟩
theorem p_awake{R:Bool→Prop}(h:R true):yb9 R:=by
  have hv1:vecE 3 es0 [2, -1,1]=0:=by decide +kernel
  have hv2:vecE 3 es0 [3,0,0]=0:=by decide +kernel
  have hv3:vecE 3 es0 [4,0,0]=0:=by decide +kernel
  unfold yb9 yc6
  refine yfr smp0 (fun q=>absurd sml0 q) fun _ zs hz=>?_
  rw [yfL hz]
  refine yfK (by decide) gr0 (by decide +kernel) fun bs hp hs=>?_
  rw [bnd_uniq0 hp hs]
  refine yh3 smp0 (fun q=>absurd hv1 q) (fun _=>by unfold Bd;decide) fun _ zs hz=>?_
  rw [yfL hz]
  have hsl:slF cyc0 4096 [2, -1,1] 0=some ([1,0,0],1):=by decide +kernel
  refine ⟨fun y k hy=>?_,fun hn=>by rw [hsl] at hn;cases hn⟩
  rw [hsl] at hy;cases hy
  refine yg3 smp0 (fun q=>absurd hv2 q) (fun _ c=>absurd c ?_) fun _ _ _ zs y k m hm hz hy C L hL hmem=>?_
  · rintro (c | c)
    · exact absurd c (by decide +kernel)
    · exact c (by unfold Bd;decide)
  have hm3:m=3:=by omega
  subst hm3
  rw [yfL hz] at hy
  have hsl2:slF cyc0 4096 [3,0,0] 0=some ([2,1, -1],1):=by decide +kernel
  rw [hsl2] at hy;cases hy
  have hd:dotL [2,1, -1] [2,1, -1]=6:=by decide
  rw [hd,ends0] at hmem
  rw [near0 hL hmem,hd]
  refine yft smp0 (fun q=>absurd hv2 q) (fun _=>by unfold Bd;decide) (fun _ c=>absurd c (by decide)) fun _ _ _ zs hz=>?_
  rw [yfL hz,show (ydR cyc0 [3,0,0] 2).isNone=true by decide +kernel]
  refine yft smp0 (fun q=>absurd hv3 q) (fun _=>by unfold Bd;decide) (fun _ c=>absurd c (by decide)) fun _ _ _ zs hz=>?_
  rw [yfL hz,show (ydR cyc0 [4,0,0] 2).isNone=false by decide +kernel]
  refine ⟨i64 (by decide),i64 (by decide),i64 (by decide),i64 (by decide),i64 (by decide),fun _=>?_,fun c=>absurd (by decide) c⟩
  refine yd8 (a:=cyc0) (by decide) (fun v hv=>by rw [(yit.vs v hv).1];decide) ⟨fun _=>?_,fun c=>absurd rfl c⟩
  have hb:∀ v∈bnd0,v.length≤1000000000:=by unfold bnd0;decide
  refine yd8 (a:=bnd0) (by decide) hb ⟨fun _=>?_,fun c=>absurd rfl c⟩
  refine yh7 (by decide) ⟨fun _=>⟨fun _=>?_,fun c=>absurd rfl c⟩,fun c=>absurd (by decide) c⟩
  refine yd8 (a:=[[1, -1,1]]) (by decide) (by decide) ⟨fun _=>⟨fun _=>⟨fun _=>h,fun c=>absurd rfl c⟩,fun c=>absurd rfl c⟩,fun c=>absurd rfl c⟩
theorem p_vslices{n:Int}{es:List E3}{x:List Int}{k:Int} : yiS n es x k (fun r=>r=true):=p_slices_of fun _ h=>p_awake h
end Go.Proofs.YtencmgolklfmkaaGreat
