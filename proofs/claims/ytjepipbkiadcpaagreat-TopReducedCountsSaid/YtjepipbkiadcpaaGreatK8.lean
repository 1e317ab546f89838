/- Texts laid together: Ss, Mx, Tq. -/
import Derived.Test.YtjepipbkiadcpaaGreatK7
set_option linter.unusedVariables false
set_option linter.unusedSimpArgs false
set_option linter.unusedSectionVars false
/- All superstable configurations (superstable.configurations, All). -/
namespace Go.Proofs.YtjepipbkiadcpaaGreat
open Go Go.Proofs.Tryz
structure SS(n:Nat)(es:List E3)(x:List Int):Prop where
  l:x.length=n
  z:gi x 0=0
  r:Red n es 0 x
theorem SS.top{n:Nat}{es:List E3}{x:List Int}(G:GOk n es)(h:SS n es x):∀ v,v<n→0≤gi x v∧gi x v≤8:=fun v hv=>by
  by_cases e:v=0
  · subst e;rw [h.z];omega
  · have h1:=h.r.pos v hv e
    have h2:=red_lt G.E h.r hv e
    have h3:=deg_le_sum (es:=es) (fun y hy=>by have:=G.E y hy;omega) n v
    have h4:=G.su
    omega
theorem SS.down{n:Nat}{es:List E3}{x c:List Int}(h:SS n es x)(hl:c.length=n)(hz:gi c 0=0)(hc:∀ v,v<n→0≤gi c v∧gi c v≤gi x v):SS n es c:=by
  refine ⟨hl,hz,fun v hv _=>(hc v hv).1,fun S hS hex=>?_⟩
  obtain ⟨v,hv,hSv,hlt⟩:=h.r.no S hS hex
  exact ⟨v,hv,hSv,Int.lt_of_le_of_lt (hc v hv).2 hlt⟩
theorem SS.zero{n:Nat}{es:List E3}(G:GOk n es):SS n es (List.replicate n 0):=by
  have h1:=G.n1
  refine ⟨by simp,yfo (by omega),fun v hv _=>by rw [yfo hv];omega,fun S hS hex=>?_⟩
  obtain ⟨v,u,hv,hu,hSv,hSu,hW⟩:=G.C 0 (by omega) S hS hex
  refine ⟨v,hv,hSv,?_⟩
  rw [yfo hv]
  have h2:=yg8 (f:=fun u=>if S u=true then 0 else W es v u) (n:=n) (fun i hi=>by
    have:=ya5 G.E v i
    show (0:Int)≤if S i=true then 0 else W es v i
    split <;> omega) u hu
  simp only [hSu,Bool.false_eq_true,if_false] at h2
  omega
def boxF:Nat→List (List Int)
  | 0=>[[]]
  | n+1=>(List.range 9).flatMap fun i:Nat=>(boxF n).map (((i:Nat):Int) :: ·)
theorem boxF_len:∀ n,(boxF n).length=9^n
  | 0=>rfl
  | n+1=>by
    rw [boxF,List.length_flatMap]
    have:(fun i:Nat=>((boxF n).map ((i:Int) :: ·)).length)=fun _=>9^n:=funext fun i=>by rw [List.length_map,boxF_len n]
    rw [this]
    simp [List.map_const',Nat.pow_succ]
    omega
theorem mem_boxF:∀ {n:Nat} {x:List Int},x.length=n→(∀ v,v<n→0≤gi x v∧gi x v≤8)→x∈boxF n
  | 0,x,hl,_=>by rw [List.length_eq_zero_iff.1 hl];simp [boxF]
  | n+1,[],hl,_=>by simp at hl
  | n+1,a::x,hl,h=>by
    have h0:=h 0 (by omega)
    have e0:gi (a::x) 0=a:=rfl
    rw [e0] at h0
    rw [boxF,List.mem_flatMap]
    refine ⟨a.toNat,List.mem_range.2 (by omega),List.mem_map.2 ⟨x,mem_boxF (by simpa using hl) fun v hv=>h (v+1) (by omega),?_⟩⟩
    rw [Int.toNat_of_nonneg h0.1]
theorem ss_few{n:Nat}{es:List E3}(G:GOk n es){l:List (List Int)}(hn:l.Nodup)(h:∀ x∈l,SS n es x):l.length≤6561:=by
  have h1:=G.n1
  have h5:=G.n5
  obtain ⟨N,rfl⟩:∃ N,n=N+1:=⟨n-1,by omega⟩
  have h2:l.length≤((boxF N).map ((0:Int) :: ·)).length:=yfj hn fun x hx=>by
    have hs:=h x hx
    have ht:=hs.top G
    obtain ⟨hl,hz,_⟩:=hs
    cases x with
    | nil=>simp at hl
    | cons a x =>
      have e0:a=0:=hz
      subst e0
      exact List.mem_map.2 ⟨x,mem_boxF (by simpa using hl) fun v hv=>ht (v+1) (by omega),rfl⟩
  rw [List.length_map,boxF_len] at h2
  have h3:9^N≤9^4:=Nat.pow_le_pow_right (by omega) (by omega)
  omega
def Agr(v:Nat)(x c:List Int):Prop:=∀ j,j<v→gi x j=gi c j
structure Gd(n:Nat)(es:List E3)(p:List (List Int)):Prop where
  nd:p.Nodup
  ss:∀ x∈p,SS n es x
structure At(n:Nat)(es:List E3)(v:Nat)(c:List Int):Prop where
  s:SS n es c
  t:∀ j,v≤j→j<n→gi c j=0
theorem At.next{n v k:Nat}{es:List E3}{c:List Int}(h:At n es v c)(hv:1≤v)(hvn:v<n)(hk:SS n es (c.set v (k:Int))):At n es (v+1) (c.set v (k:Int)):=by
  refine ⟨hk,fun j hj hjn=>?_⟩
  rw [ya7 (by rw [h.s.l];exact hvn),if_neg (by omega)]
  exact h.t j (by omega) hjn
theorem agr_next{n v k:Nat}{c x:List Int}(hc:c.length=n)(hvn:v<n):Agr (v+1) x (c.set v (k:Int))↔Agr v x c∧gi x v=k:=by
  unfold Agr
  have hs:∀ j,gi (c.set v (k:Int)) j=if j=v then (k:Int) else gi c j:=fun j=>ya7 (by omega)
  constructor
  · intro h
    refine ⟨fun j hj=>?_,?_⟩
    · have:=h j (by omega);rw [hs,if_neg (by omega)] at this;exact this
    · have:=h v (by omega);rw [hs,if_pos rfl] at this;exact this
  · rintro ⟨h1,h2⟩ j hj
    rw [hs]
    split
    · rename_i e;rw [e];exact h2
    · exact h1 j (by omega)
theorem set_set0{c:List Int}{v:Nat}{k:Int}(hv:v<c.length)(h0:gi c v=0):(c.set v k).set v 0=c:=by
  refine yfv (by simp) fun j hj=>?_
  rw [ya7 (by simpa using hv),ya7 hv]
  by_cases e:j=v
  · rw [if_pos e,e,h0]
  · rw [if_neg e,if_neg e]
open Classical in
theorem p_from{n:Nat}{es:List E3}(G:GOk n es):∀ (fu v:Nat) (c:List Int) (p:List (List Int)) (R:List (List Int)→Bool→List Int→Prop),n-v<fu→1≤v→v≤n→At n es v c→Gd n es p→(∀ x∈p,¬Agr v x c) →
    (∀ p',Gd n es p'→(∀ x,x∈p'↔x∈p∨SS n es x∧Agr v x c)→R p' true c)→yaz (fun p=>p.length≤6561) fu (v:Int) n es c 0 p R
  | 0,v,c,p,R,hf,_,_,_,_,_,_=>absurd hf (by omega)
  | fu+1,v,c,p,R,hf,hv1,hvn,hA,hp,hno,h=>by
    rw [yaz]
    have hn5:=G.n5
    have hcl:=hA.s.l
    unfold yaI
    refine ⟨fun hvn2=>ybx (by omega) ?_,fun hvn2=>⟨fun q=>absurd q (by omega),fun _=>?_⟩⟩
    · have e:v=n:=by omega
      subst e
      have hg:Gd v es (p++[c]):=by
        refine ⟨List.nodup_append.2 ⟨hp.nd,by simp,fun a ha b hb=>?_⟩,fun x hx=>?_⟩
        · rw [List.mem_singleton] at hb
          subst hb
          rintro rfl
          exact hno a ha fun j _=>rfl
        · rcases List.mem_append.1 hx with q | q
          · exact hp.ss x q
          · rw [List.mem_singleton] at q;subst q;exact hA.s
      refine ⟨ss_few G hg.nd hg.ss,h _ hg fun x=>?_,trivial⟩
      rw [List.mem_append,List.mem_singleton]
      refine or_congr Iff.rfl ⟨fun q=>by subst q;exact ⟨hA.s,fun j _=>rfl⟩,fun q=>yfv (by rw [q.1.l,hcl]) fun j hj=>q.2 j (by rw [q.1.l] at hj;exact hj)⟩
    · have hvl:v<c.length:=by omega
      have hs:∀ (k:Int) j,gi (c.set v k) j=if j=v then k else gi c j:=fun k j=>ya7 hvl
      have h0:gi c v=0:=hA.t v (Nat.le_refl _) (by omega)
      have hset0:c.set v ((0:Nat):Int)=c:=by
        refine yfv (by simp) fun j hj=>?_
        rw [hs];split
        · rename_i e;rw [e,h0];rfl
        · rfl
      refine ⟨fun m p3 c3=>∃ k:Nat,k≤9∧m=9-k∧c3=c.set v (k:Int)∧Gd n es p3∧∀ x,x∈p3↔x∈p∨SS n es x∧Agr v x c∧gi x v<k,⟨_,0,by omega,rfl,hset0.symm,hp,fun x=>⟨.inl,fun q=>q.elim id fun q=>?_⟩⟩,?_⟩
      · have:=q.1.top G v (by omega);have:=q.2.2;omega
      rintro m p3 c3 ⟨k,hk,rfl,rfl,hp3,hm3⟩
      have hcf:CfOk n (c.set v (k:Int)):=by
        refine ⟨by simpa using hcl,by rw [hs,if_neg (by omega)];exact hA.s.z,fun j hj=>?_⟩
        have:=hA.s.top G j hj
        rw [hs];split <;> omega
      refine p_calm G hcf ⟨fun hr=>?_,fun hr=>?_⟩
      · rw [decide_eq_true_iff] at hr
        have hss:SS n es (c.set v (k:Int)):=⟨hcf.l,hcf.z,hr⟩
        have hk8:=hss.top G v (by omega)
        rw [hs,if_pos rfl] at hk8
        have e1:((v:Nat):Int)+1=((v+1:Nat):Int):=by omega
        refine ⟨i64 (by omega),?_⟩
        rw [e1]
        refine p_from G fu (v+1) _ p3 _ (by omega) (by omega) (by omega) (hA.next hv1 (by omega) hss) hp3 (fun x hx hag=>?_) fun p4 hp4 hm4=>⟨fun _=>⟨?_,?_,?_⟩,fun q=>absurd rfl q⟩
        · rw [agr_next hcl (by omega)] at hag
          rcases (hm3 x).1 hx with q | q
          · exact hno x q hag.1
          · have:=q.2.2;omega
        · simp only [List.length_set];omega
        · rw [Int.toNat_natCast,hs,if_pos rfl];exact i64 (by omega)
        · rw [Int.toNat_natCast,hs,if_pos rfl,List.set_set]
          refine ⟨9-(k+1),by omega,k+1,by omega,rfl,by rw [show ((k:Nat):Int)+1=((k+1:Nat):Int) by omega],hp4,fun x=>?_⟩
          rw [hm4,hm3,agr_next hcl (by omega)]
          constructor
          · rintro ((q | q) | q)
            · exact .inl q
            · exact .inr ⟨q.1,q.2.1,by have:=q.2.2;omega⟩
            · exact .inr ⟨q.1,q.2.1,by have:=q.2.2;omega⟩
          · rintro (q | q)
            · exact .inl (.inl q)
            · have:=q.2.2
              by_cases e:gi x v=k
              · exact .inr ⟨q.1,q.2.1,e⟩
              · exact .inl (.inr ⟨q.1,q.2.1,by omega⟩)
      · refine ⟨by simp only [List.length_set];omega,?_⟩
        rw [Int.toNat_natCast,set_set0 hvl h0]
        refine h p3 hp3 fun x=>?_
        rw [hm3]
        refine or_congr Iff.rfl ⟨fun q=>⟨q.1,q.2.1⟩,fun q=>⟨q.1,q.2,?_⟩⟩
        apply Classical.byContradiction
        intro hge
        have h2:¬Red n es 0 (c.set v (k:Int)):=fun q=>hr (by rw [decide_eq_true_iff];exact q)
        refine h2 (q.1.down hcf.l hcf.z fun j hj=>⟨(hcf.b j hj).1,?_⟩).r
        rw [hs]
        by_cases e:j=v
        · rw [if_pos e,e];omega
        · rw [if_neg e]
          by_cases e2:j<v
          · rw [q.2 j e2];exact Int.le_refl _
          · rw [hA.t j (by omega) hj];exact (q.1.top G j hj).1
open Classical in
theorem ygO{n:Nat}{es:List E3}(G:GOk n es):yaP n es 0 (fun p=>p.length≤6561) (fun p=>Gd n es p∧∀ x,x∈p↔SS n es x):=by
  have h1:=G.n1
  have h5:=G.n5
  unfold yaP
  rw [Int.toNat_natCast]
  refine ⟨by omega,n+2,?_⟩
  rw [yaz]
  unfold yaI
  refine ⟨fun q=>absurd q (by omega),fun _=>⟨fun _=>⟨i64 (by omega),?_⟩,fun q=>absurd rfl q⟩⟩
  have e1:(0:Int)+1=((1:Nat):Int):=by omega
  rw [e1]
  refine p_from G (n+1) 1 _ [] _ (by omega) (by omega) (by omega) ⟨SS.zero G,fun j _ hj=>yfo hj⟩ ⟨List.nodup_nil,fun x hx=>by simp at hx⟩ (fun x hx=>by simp at hx) fun p hp hm=>⟨hp,fun x=>?_⟩
  rw [hm]
  refine ⟨fun q=>q.elim (fun q=>by simp at q) fun q=>q.1,fun q => .inr ⟨q,fun j hj=>?_⟩⟩
  have e:j=0:=by omega
  rw [e,q.z,yfo (by omega)]
end Go.Proofs.YtjepipbkiadcpaaGreat

/- stabilize.Maximal on small connected graphs, and all superstable configurations. -/
namespace Go.Proofs.YtjepipbkiadcpaaGreat
open Go Go.Proofs.Tryz
theorem mem_sF:∀ {es:List E3} {y:E3},y∈sF es→∃ x∈es,y=(x.1,x.2.1,1)
  | [],_,h=>by simp [sF] at h
  | x::t,y,h=>by
    rw [sF] at h
    rcases List.mem_append.1 h with q | q
    · exact ⟨x,by simp,(List.mem_replicate.1 q).2⟩
    · obtain ⟨z,hz,e⟩:=mem_sF q
      exact ⟨z,by simp [hz],e⟩
theorem ygx{n:Nat}{es:List E3}(hE:EOk n es)(hl:es.length≤1000):yb1 (n:Int) es (fun l=>l.map gmap <+: sF es) (fun l=>l.map gmap=sF es):=by
  unfold yb1
  refine ⟨fun m pre e2 v=>Cnt es.length (fun k=>pre.map gmap=sF (es.take k)∧0≤e2∧e2≤50*k) m v,Cnt.start ⟨rfl,by omega,by omega⟩,?_⟩
  rintro m pre e2 _ ⟨k,rfl,rfl,hk,hpre,he0,he1⟩
  simp only [Int.toNat_natCast]
  refine ⟨fun hlt=>⟨by omega,?_⟩,fun hge=>?_⟩
  · have hkl:k<es.length:=by omega
    have hx:=hE _ (List.mem_of_getElem? (ydI hkl))
    refine ⟨fun m pre e3 v=>Cnt (ge es k).2.2.toNat (fun j=>pre.map gmap=sF (es.take k)++List.replicate j ((ge es k).1,(ge es k).2.1,1)∧0≤e3∧e3≤50*k+j) m v,Cnt.start ⟨by simpa using hpre,he0,by omega⟩,?_⟩
    rintro m3 pre3 e3 _ ⟨j,rfl,rfl,hj,hp3,h30,h31⟩
    have hstep:∀ e:Int,(pre3++[(e,(ge es k).1,(ge es k).2.1)]).map gmap=sF (es.take k)++List.replicate (j+1) ((ge es k).1,(ge es k).2.1,1):=fun e=>by
      rw [List.map_append,hp3,List.replicate_succ',List.append_assoc];rfl
    refine ⟨fun h1=>⟨?_,⟨i64 (by omega),Cnt.next (by omega) (by omega) ⟨hstep e3,by omega,by omega⟩⟩,trivial⟩,fun h1=>Cnt.next (by omega) (by omega) ⟨?_,by omega,by omega⟩⟩
    · show (pre3++[(e3,(ge es k).1,(ge es k).2.1)]).map gmap <+: sF es
      rw [hstep];exact sF_pre hkl (by omega)
    · have e:j=(ge es k).2.2.toNat:=by omega
      rw [sF_take hkl,hp3,e]
  · have e:k=es.length:=by omega
    rw [e,List.take_length] at hpre
    exact hpre
theorem p_graph_EndsT{n:Nat}{es:List E3}{R:List (Int×Int)→Int→Prop}(hl:es.length≤40)(q:yap n es=0)(h:∀ r:List (Int×Int),r.length≤2000→(∀ k,k<r.length→(0≤(gx r k).1∧(gx r k).1<n)∧(0≤(gx r k).2∧(gx r k).2<n))→R r 0):yec (n:Int) es R:=by
  refine p_graph_Check (by omega) ⟨fun q=>?_,fun c=>absurd q c⟩
  obtain ⟨hE,hn1,hn12⟩:=ycl q
  have h3:=sF_few hE
  show ∃ Pr Rr:List (Int×Int×Int)→Prop,_
  refine ⟨_,_,ygx hE (by omega),fun pre out=>out=pre.map fun y=>(y.2.1,y.2.2),rfl,?_,?_⟩
  · rintro pre e a b out rfl hPr
    have hPr:(pre++[(e,a,b)]).map gmap <+: sF es:=hPr
    have h2:=hPr.length_le
    rw [List.length_map,List.length_append] at h2
    simp only [List.length_singleton] at h2
    refine ⟨by rw [List.length_map];omega,?_⟩
    show _=List.map _ _
    rw [List.map_append];rfl
  · rintro ys out rfl hR
    have hR:ys.map gmap=sF es:=hR
    refine h _ (by have:=congrArg List.length hR;rw [List.length_map] at this ⊢;omega) fun k hk=>?_
    have hm:=List.mem_of_getElem? (ycu hk)
    obtain ⟨y,hy,he⟩:=List.mem_map.1 hm
    obtain ⟨x,hx,e2⟩:=mem_sF (es:=es) (y:=gmap y) (by rw [←hR];exact List.mem_map.2 ⟨y,hy,rfl⟩)
    have:=hE x hx
    rw [←he]
    unfold gmap at e2
    simp only [Prod.mk.injEq] at e2
    simp only
    omega
structure TabB(n:Nat)(B:Int)(T:List (List Int)):Prop where
  l:T.length=n
  r:∀ a,a<n→(gx T a).length=n∧∀ b, -B≤gi (gx T a) b∧gi (gx T a) b≤B
theorem gx_set{T:List (List Int)}{a k:Nat}{r:List Int}(ha:a<T.length):gx (T.set a r) k=if k=a then r else gx T k:=by
  unfold gx
  simp only [List.getD_eq_getElem?_getD,List.getElem?_set]
  by_cases e:k=a
  · subst e;simp [ha]
  · rw [if_neg (by omega),if_neg e]
theorem TabB.set{n:Nat}{B:Int}{T:List (List Int)}(h:TabB n B T)(hB:0≤B){a b:Nat}(ha:a<n)(hb:b<n):TabB n (B+1) (T.set a ((gx T a).set b (gi (gx T a) b+1))):=by
  obtain ⟨h1,h2⟩:=h
  refine ⟨by simpa using h1,fun k hk=>?_⟩
  obtain ⟨q1,q2⟩:=h2 k hk
  rw [gx_set (by omega)]
  by_cases e:k=a
  · subst e
    rw [if_pos rfl]
    refine ⟨by simpa using q1,fun j=>?_⟩
    rw [ya7 (by omega)]
    have:=q2 j
    have:=q2 b
    split <;> omega
  · rw [if_neg e]
    exact ⟨q1,fun j=>by have:=q2 j;omega⟩
theorem gi_setB{l:List Int}{B:Int}{b:Nat}(hl:b<l.length)(h:∀ j, -B≤gi l j∧gi l j≤B):∀ j, -(B+1)≤gi (l.set b (gi l b+1)) j∧gi (l.set b (gi l b+1)) j≤B+1:=fun j=>by
  rw [ya7 hl]
  have:=h j
  have:=h b
  split <;> omega
theorem p_clone_M{s:List Int}{R:List Int→Prop}(hl:s.length≤1000000000)(h:R s):yaH s R:=by
  unfold yaH
  exact fun nil hn=>⟨fun q=>by rw [hn q] at h;exact h,fun q=>⟨by omega,h⟩⟩
theorem p_pileOf{n q:Nat}{es:List E3}{c:List Int}{R0:Int→Prop}{R1:List Int→Int→List (List Int)→List Int→List Int→Int→(Nat→Bool)→Int→Prop}(G:GOk n es)(hc:c.length=n)
    (h:∀ T V F z,V.length=n→(∀ j, -4000≤gi V j∧gi V j≤4000)→R1 c q T V F 0 z 0):ybO n es q c R0 R1:=by
  have hn1:=G.n1
  have hn5:=G.n5
  have hel:=G.el
  unfold ybO
  rw [Int.toNat_natCast]
  have key:∀ {R:List Int→Prop},R c→yaH c R:=fun h=>p_clone_M (by omega) h
  have hz:∀ j,gi (List.replicate n (0:Int)) j=0:=fun j=>by
    rcases Nat.lt_or_ge j n with q | q
    · exact yfo q
    · exact gi_ge (by simpa using q)
  refine ⟨fun a b d=>a=c∧b=List.replicate n 0∧d=List.replicate n 0,?_,?_⟩
  · rintro a0 _ _ ⟨hac,rfl,rfl⟩
    have hac:=hac.symm
    subst hac
    refine ⟨fun m v T=>Cnt n (fun k=>T=List.replicate k (List.replicate n (0:Int))) m v,Cnt.start rfl,?_⟩
    rintro m _ _ ⟨k,rfl,rfl,hk,rfl⟩
    refine ⟨fun hlt=>⟨by omega,by rw [List.length_replicate];omega,Cnt.next (by omega) (by omega) List.replicate_succ'.symm⟩,fun hge=>?_⟩
    have e:k=n:=by omega
    subst e
    refine p_graph_EndsT hel G.g fun r hr hb=>⟨fun _=>?_,fun q=>absurd rfl q⟩
    refine ⟨fun m v a T V F=>Cnt r.length (fun j=>c=a∧TabB k (2*j) T∧V.length=k∧(∀ i, -(2*(j:Int))≤gi V i∧gi V i≤2*j)∧F=List.replicate k 0) m v,
      Cnt.start ⟨rfl,⟨by simp,fun a ha=>by
        have e:gx (List.replicate k (List.replicate k (0:Int))) a=List.replicate k 0:=by unfold gx;simp [ha]
        rw [e];exact ⟨by simp,fun b=>by rw [hz];omega⟩⟩,by simp,fun i=>by rw [hz];omega,rfl⟩,?_⟩
    rintro m _ a T V F ⟨j,rfl,rfl,hj,rfl,hT,hV,hVb,rfl⟩
    simp only [Int.toNat_natCast]
    refine ⟨fun hlt=>⟨by omega,by omega,by omega,fun he=>Cnt.next (by omega) (by omega) ⟨trivial,⟨hT.l,fun a ha=>⟨(hT.r a ha).1,fun b=>by have:=(hT.r a ha).2 b;omega⟩⟩,hV,fun i=>by have:=hVb i;omega,trivial⟩,fun he=>?_⟩,fun hge=>?_⟩
    · obtain ⟨⟨a1,a2⟩,b1,b2⟩:=hb j (by omega)
      generalize (gx r j).1=x at *
      generalize (gx r j).2=y at *
      obtain ⟨x,rfl⟩:∃ x':Nat,x=x':=⟨x.toNat,by omega⟩
      obtain ⟨y,rfl⟩:∃ y':Nat,y=y':=⟨y.toNat,by omega⟩
      simp only [Int.toNat_natCast]
      have hT1:=hT.set (by omega) (a:=x) (b:=y) (by omega) (by omega)
      have hT2:=hT1.set (by omega) (a:=y) (b:=x) (by omega) (by omega)
      have hV1:=gi_setB (l:=V) (b:=x) (by omega) hVb
      have hV2:=gi_setB (l:=V.set x (gi V x+1)) (b:=y) (by rw [List.length_set];omega) hV1
      have r1:=hT.r x (by omega)
      have r2:=hT1.r y (by omega)
      have r3:=r1.2 y
      have r4:=r2.2 x
      have r5:=hVb x
      have r6:=hV1 y
      have l1:=hT.l
      have l2:=hT1.l
      have r7:=r1.1
      have r8:=r2.1
      refine ⟨by omega,by omega,i64 (by omega),by omega,by omega,i64 (by omega),by omega,i64 (by omega),by rw [List.length_set];omega,i64 (by omega),Cnt.next (by omega) (by omega) ⟨trivial,?_,by simpa using hV,fun i=>?_,trivial⟩⟩
      · have e:2*(((j+1:Nat)):Int)=2*(j:Int)+1+1:=by omega
        rw [e];exact hT2
      · have:=hV2 i;omega
    · refine ⟨fun m v z=>Cnt c.length (fun _=>True) m v,Cnt.start trivial,?_⟩
      rintro m _ z ⟨i,rfl,rfl,hi, -⟩
      refine ⟨fun hlt=>?_,fun hge=>h _ _ _ _ hV fun i=>by have:=hVb i;omega⟩
      unfold ybT ybs
      simp only [Int.toNat_natCast]
      exact ⟨fun _=>⟨by omega,Cnt.next (by omega) (by omega) trivial⟩,fun _=>⟨by omega,by omega,by omega,Cnt.next (by omega) (by omega) trivial⟩⟩
  · exact ⟨key ⟨⟨by omega,rfl,rfl,rfl⟩,⟨by omega,rfl,rfl,rfl⟩⟩,⟨by omega,key ⟨rfl,rfl,rfl⟩,key ⟨rfl,rfl,rfl⟩⟩,⟨by omega,key ⟨rfl,rfl,rfl⟩,key ⟨rfl,rfl,rfl⟩⟩⟩
theorem p_first{n q:Nat}{es:List E3}{R:List Int→Int→Prop}(G:GOk n es)(hq:q<n)(h:∀ l,R l 0):ybJ n es q R:=by
  have hn1:=G.n1
  have hn5:=G.n5
  unfold ybJ yck
  refine p_rooted G hq ⟨fun _=>⟨by omega,?_⟩,fun q=>absurd rfl q⟩
  rw [Int.toNat_natCast]
  refine p_pileOf G (by simp) fun T V F z hV hVb=>⟨fun _=>?_,fun q=>absurd rfl q⟩
  refine ⟨fun m v o=>Cnt V.length (fun _=>o.length=n) m v,Cnt.start (by simp),?_⟩
  rintro m _ o ⟨k,rfl,rfl,hk,ho⟩
  rw [Int.toNat_natCast]
  have:=hVb k
  exact ⟨fun hlt=>⟨by omega,fun _=>Cnt.next (by omega) (by omega) ho,fun _=>⟨i64 (by omega),by omega,Cnt.next (by omega) (by omega) (by simpa using ho)⟩⟩,fun _=>h o⟩
theorem yg6{n:Nat}{es:List E3}{R:List (List Int)→Int→Prop}(G:GOk n es)(h:∀ L,Gd n es L→(∀ x,x∈L↔SS n es x)→R L 0):yb8 n es 0 R:=by
  have hn1:=G.n1
  unfold yb8
  refine p_first (q:=0) G (by omega) fun l=>⟨fun _=>?_,fun q=>absurd rfl q⟩
  unfold yba
  refine ⟨_,_,ygO G,fun p o=>o=p,rfl,fun p y o ho hp=>?_,fun ys o ho hR=>?_⟩
  · have ho:o=p:=ho
    subst ho
    have hp:(o++[y]).length≤6561:=hp
    rw [List.length_append,List.length_singleton] at hp
    exact ⟨fun q=>by omega,fun _=>⟨by omega,rfl⟩⟩
  · have ho:o=ys:=ho
    subst ho
    exact h _ hR.1 hR.2
end Go.Proofs.YtjepipbkiadcpaaGreat

/- TopReducedCounts: the systems of the classes of a degree. -/
namespace Go.Proofs.YtjepipbkiadcpaaGreat
open Go Go.Proofs.Tryz
theorem first_setQ(N:Nat)(k:Int):(List.replicate (N+1) (0:Int)).set N k=ydH (N+1) k:=by
  refine yfv (by rw [List.length_set,List.length_replicate,ygP (by omega)]) fun i hi=>?_
  rw [List.length_set,List.length_replicate] at hi
  rw [ya7 (by rw [List.length_replicate];omega),gi_firstF,yfo hi]
  rfl
theorem yiw{N k:Nat}(hN:N≤4)(hk:k≤6):yb6 (ydH (N+1) (k:Int)) (fun p=>p <+: ycC (N+1) k) (fun p=>p=ycC (N+1) k):=by
  unfold yb6
  obtain ⟨⟨B0,hB0⟩,hst⟩:=ygi N k
  have hmem:∀ x∈ycC (N+1) k,x.length=N+1∧∀ j,j<N+1 → -1000000≤gi x j∧gi x j≤1000000:=fun x hx=>by
    obtain ⟨h1,h2,h3⟩:=(yc7 N k x).1 hx
    exact ⟨h1,fun j hj=>by have:=dg_entry h2 (j:=j) (by omega);omega⟩
  generalize ycC (N+1) k=L at hB0 hst hmem ⊢
  refine ⟨fun q pre more v=>∃ B,L=pre++B∧q=B.length∧(more=true→∃ B',B=v::B')∧(more=false→B=[]),⟨L.length,L,rfl,rfl,fun _=>⟨B0,hB0⟩,fun q=>(by cases q)⟩,?_⟩
  rintro q pre more v ⟨B,hL,rfl,hm,hn⟩
  refine ⟨fun hmt=>?_,fun hmf=>?_⟩
  · obtain ⟨B',rfl⟩:=hm hmt
    obtain ⟨hvl,hvb⟩:=hmem v (by rw [hL];simp)
    have hL2:L=(pre++[v])++B':=by rw [hL];simp
    have hat:=(show yeM (pre++v::B') none by rw [←hL];exact hst).at_
    refine ybx (by omega) ⟨⟨B',hL2.symm⟩,?_,trivial⟩
    refine p_chips_step (by omega) (by omega) (fun j hj=>hvb j (by omega)) (fun y hy=>⟨B'.length,by simp,B',hL2,rfl,fun _=>?_,fun q=>(by cases q)⟩) (fun hno=>?_)
    · rw [hy] at hat
      cases B' with
      | nil=>simp at hat
      | cons z B'=>simp at hat;exact ⟨B',by rw [hat]⟩
    · rw [hno] at hat
      refine ⟨B'.length,by simp,B',hL2,rfl,fun q=>(by cases q),fun _=>?_⟩
      cases B' with
      | nil=>rfl
      | cons z B'=>simp at hat
  · have hB:=hn (by simpa using hmf)
    rw [hB,List.append_nil] at hL
    exact hL.symm
def cntQ(k i:Nat):Int:=if k=0 then 1 else if k=1 then (i:Int) else if k=2 then (i:Int)*(i+1) / 2 else (i:Int)*(i+1)*(i+2) / 6
theorem p_chips_AllQ{N k:Nat}{R:List (List Int)→Int→Prop}(hN:N≤4)(hk:k≤3)(h:R (ycC (N+1) k) 0):ydV ((N+1:Nat):Int) (k:Int) R:=by
  unfold ydV
  have hv:∀ {R':Int→Prop},R' 0→ybB ((N+1:Nat):Int) R':=fun h=>by
    unfold ybB
    exact ⟨fun q=>by omega,fun _=>⟨fun q=>by omega,fun _=>h⟩⟩
  refine hv ⟨fun _=>?_,fun q=>absurd rfl q⟩
  · refine ⟨True,fun _=>?_,fun q=>by omega,fun _=>⟨fun q=>by omega,fun _=>trivial⟩⟩
    refine ⟨fun q c i=>∃ j:Nat,i=(j:Int)∧1≤j∧j≤N+1∧q=N+1-j∧c=cntQ k j,⟨N,1,rfl,by omega,by omega,by omega,?_⟩,?_⟩
    · have hk3:k=0∨k=1∨k=2∨k=3:=by omega
      rcases hk3 with rfl | rfl | rfl | rfl <;> decide
    rintro q c _ ⟨j,rfl,h1,hj,rfl,rfl⟩
    refine ⟨fun hlt=>?_,fun hge=>?_⟩
    · have hj4:j=1∨j=2∨j=3∨j=4:=by omega
      have hk3:k=0∨k=1∨k=2∨k=3:=by omega
      have key:(0≤cntQ k j∧cntQ k j≤100)∧(0≤cntQ k j*((k:Int)+j)∧cntQ k j*((k:Int)+j)≤10000)∧(cntQ k j*((k:Int)+j)).tdiv (j:Int)=cntQ k (j+1)∧(0≤cntQ k (j+1)∧cntQ k (j+1)≤100):=by
        rcases hj4 with rfl | rfl | rfl | rfl <;> rcases hk3 with rfl | rfl | rfl | rfl <;> decide
      obtain ⟨k1,k2,k3,k4⟩:=key
      rw [k3]
      exact ⟨i64 (by omega),i64 (by omega),by omega,i64 (by omega),fun q=>by omega,fun _=>⟨i64 (by omega),N+1-(j+1),by omega,j+1,rfl,by omega,by omega,rfl,rfl⟩⟩
    · have e1:(((N+1:Nat):Int)-1).toNat=N:=by omega
      rw [e1,Int.toNat_natCast,first_setQ]
      refine ⟨by omega,i64 (by omega),by simp;omega,?_⟩
      unfold yee ybc yaB
      have hlen:=list_few (n:=N) (k:=k) (by omega) (by omega)
      refine ⟨fun p=>p <+: ycC (N+1) k,fun p=>p=ycC (N+1) k,yiw hN (by omega),fun p s=>s=p,rfl,fun pre y s hs hp=>⟨?_,by rw [hs]⟩,fun ys s hs hys=>by rw [hs,hys];exact h⟩
      have:=hp.length_le
      rw [List.length_append,List.length_singleton] at this
      rw [hs];omega
theorem yfH{R:Bool→Prop}(h:R true):yaK R:=by
  unfold yaK
  have g0:yap ((3:Nat):Int) [(0,1,1),(0,2,1),(1,2,1)]=0:=by decide
  refine ⟨.inl (small_dec (by decide) (by decide) (by decide) (by decide)),by decide,fun q=>absurd (by decide) q,fun _ r s hr hrl hsl=>?_⟩
  obtain ⟨rfl,rfl⟩:=red_known (n:=3) (q:=0) (a:=[-1,0,1]) (t:=[0, -1, -1]) g0 (by decide) hr (by decide) (by decide) (by decide) (by decide) (by decide) (by decide)
  refine ygZ (small_dec (by decide) (by decide) (by decide) (by decide)) (by decide) (fun q=>absurd (by decide) q) (fun _ q=>absurd (by decide) q) (fun _ v' hv' _ k hk=>?_)
  have hk1:k=1:=by
    have e:v'=2:=by omega
    subst e
    rw [show ((3:Int).toNat)=3 from rfl] at hk
    have h1:k≤1:=(hk.iff 1 (by omega)).1 ⟨gi [0, -1,0],by decide⟩
    have h0:¬k≤0:=fun q=>by
      have hw:=(hk.iff 0 (by omega)).2 q
      exact absurd ((win_red (ycl g0).1 (by decide) hr.red hr.lp).1 (yh0 (n:=3) (fun v hv=>by
        match v,hv with
        | 0,_=>decide
        | 1,_=>decide
        | 2,_=>decide) hw)) (by decide)
    omega
  subst hk1
  have k1:=ex_dok (d:=[1,1,0]) tri_ok rfl (by decide) (by decide)
  have y1:sysF 3 [(0,1,1),(0,2,1),(1,2,1)] [1,1,0]=[[0,0,2],[1,1,0]]:=ys1
  refine ex_size (n:=3) k1 ?_
  rw [y1]
  exact ⟨i64 (by omega),i64 (by omega),fun _=>ycJ (by decide) ⟨fun _=>⟨fun _=>h,fun q=>absurd rfl q⟩,fun q=>absurd (by decide) q⟩,fun q=>absurd (by omega) q⟩
theorem red_one{n:Nat}{es:List E3}{a b:List Int}(hE:EOk n es)(hn:0<n)(ha:a.length=n)(hb:b.length=n)(hra:Red n es 0 a)(hrb:Red n es 0 b)(h:Eqv n es a b):a=b:=by
  obtain ⟨s,hs⟩:=h
  have h1:=ye5 hE hn hra (d':=b) hrb.pos hs
  have h2:=ye5 hE hn hrb (d':=a) hra.pos (f:=fun i=>(-1)*s i) fun v hv=>by rw [ygG];have:=hs v hv;omega
  refine yg9 ha hb fun v hv=>?_
  have h3:Lp n es s v=0:=by
    rw [yeC (b:=fun _=>s 0) (fun i hi=>by have:=h1 i hi;have:=h2 i hi;omega) hv,yeA]
  have:=hs v hv;omega
theorem list_max{α:Type}(f:α→Int):∀ {l:List α},l≠[]→∃ a∈l,∀ b∈l,f b≤f a
  | [],h=>absurd rfl h
  | [a],_=>⟨a,by simp,fun b hb=>by rw [List.mem_singleton] at hb;subst hb;exact Int.le_refl _⟩
  | a::b::t,_=>by
    obtain ⟨c,hc,hm⟩:=list_max f (l:=b::t) (by simp)
    by_cases e:f c≤f a
    · exact ⟨a,by simp,fun x hx=>by
        rcases List.mem_cons.1 hx with rfl | hx
        · exact Int.le_refl _
        · have:=hm x hx;omega⟩
    · exact ⟨c,by simp [hc],fun x hx=>by
        rcases List.mem_cons.1 hx with rfl | hx
        · omega
        · exact hm x hx⟩
theorem red_ex{n:Nat}{es:List E3}{x:List Int}(G:GOk n es)(hx:Pos n x):∃ r,Pos n r∧Eqv n es x r∧Red n es 0 r:=by
  have hn1:=G.n1
  have hE:=G.E
  have hg:∀ y,∃ s:Nat→Int,y∈sysF n es x→s 0=0∧∀ v,v<n→gi y v=gi x v-Lp n es s v:=fun y=>by
    by_cases hy:y∈sysF n es x
    · obtain ⟨_,s,hs⟩:=(ydQ hn1 hx.len).1 hy
      refine ⟨fun i=>s i+(- s 0),fun _=>⟨by show s 0 + - s 0=0;omega,fun v hv=>?_⟩⟩
      rw [ygc s (fun _ => - s 0),yeA,hs v hv];omega
    · exact ⟨fun _=>0,fun q=>absurd q hy⟩
  obtain ⟨g,hg⟩:=Classical.axiomOfChoice hg
  obtain ⟨r,hr,hmax⟩:=list_max (fun y=>sm n (g y)) (l:=sysF n es x) (fun q=>by
    have:=(ydQ hn1 hx.len).2 ⟨hx,Eqv.refl n es x⟩
    rw [q] at this;simp at this)
  obtain ⟨hrp,hre⟩:=(ydQ hn1 hx.len).1 hr
  refine ⟨r,hrp,hre,fun v hv _=>hrp.pos v hv,fun S hS ⟨w,hw,hSw⟩=>?_⟩
  apply Classical.byContradiction
  intro hno
  have hno:∀ v,v<n→S v=true→outS n es S v≤gi r v:=fun v hv hSv=>by
    apply Classical.byContradiction
    intro q
    exact hno ⟨v,hv,hSv,by unfold outS at q;omega⟩
  let y:=tab (fun v=>gi r v-Lp n es (fun u=>if S u=true then 1 else 0) v) n
  have hyl:y.length=n:=yeU _ _
  have hyv:∀ v,v<n→gi y v=gi r v-Lp n es (fun u=>if S u=true then 1 else 0) v:=fun v hv=>gi_tab _ hv
  have hyp:Pos n y:=⟨hyl,fun v hv=>by
    rw [hyv v hv]
    by_cases e:S v=true
    · rw [lp_in e];have:=hno v hv e;omega
    · have:=lp_out hE (n:=n) e;have:=hrp.pos v hv;omega⟩
  have hy:y∈sysF n es x:=(ydQ hn1 hx.len).2 ⟨hyp,hre.trans ⟨_,hyv⟩⟩
  obtain ⟨g0,g1⟩:=hg r hr
  obtain ⟨k0,k1⟩:=hg y hy
  have hd:=dirichlet (q:=0) hE (G.C 0 (by omega)) (by omega) (f:=fun i=>(g y i+(-1)*g r i)+(-1)*(if S i=true then 1 else 0)) (by show (g y 0+(-1)*g r 0)+(-1)*(if S 0=true then 1 else 0)=0;rw [k0,g0,hS];rfl) fun v hv _=>by
    rw [ygc (fun i=>g y i+(-1)*g r i) (fun i=>(-1)*(if S i=true then 1 else 0)),ygc (g y) (fun i=>(-1)*g r i),ygG,ygG]
    have:=g1 v hv
    have:=k1 v hv
    have:=hyv v hv
    omega
  have hs:sm n (g y)=sm n (g r)+sm n (fun i=>if S i=true then 1 else 0):=by
    rw [←yc5]
    refine yan fun i hi=>?_
    have:(g y i+(-1)*g r i)+(-1)*(if S i=true then 1 else 0)=0:=hd i hi
    omega
  have h1:1≤sm n (fun i=>if S i=true then (1:Int) else 0):=sm_pos (fun i _=>by split <;> omega) hw (by rw [if_pos hSw];omega)
  have:=hmax y hy
  omega
theorem ygV(f:Nat→Int):∀ m,sm (m+1) f=f 0+sm m (fun i=>f (i+1))
  | 0=>by simp [sm]
  | m+1=>by rw [sm,ygV f m];simp only [sm];omega
def nrm(k:Int)(n:Nat)(c:List Int):List Int:=c.set 0 (k-sm (n-1) (fun i=>gi c (i+1)))
theorem gi_drop1(c:List Int)(i:Nat):gi (c.drop 1) i=gi c (i+1):=by
  cases c with
  | nil=>rfl
  | cons a t=>rfl
theorem gi_nrm{k:Int}{n:Nat}{c:List Int}(hn:1≤n)(hc:c.length=n)(v:Nat):gi (nrm k n c) v=if v=0 then k-sm (n-1) (fun i=>gi c (i+1)) else gi c v:=ya7 (by omega)
theorem nrm_len(k:Int)(n:Nat)(c:List Int):(nrm k n c).length=c.length:=by simp [nrm]
theorem nrm_dg{k:Int}{n:Nat}{c:List Int}(hn:1≤n)(hc:c.length=n):dg (nrm k n c)=k:=by
  obtain ⟨N,rfl⟩:∃ N,n=N+1:=⟨n-1,by omega⟩
  have e:sm N (fun i=>gi (nrm k (N+1) c) (i+1))=sm N (fun i=>gi c (i+1)):=yan fun i _=>by rw [gi_nrm hn hc,if_neg (by omega)]
  unfold dg
  rw [nrm_len,hc,ygV,gi_nrm hn hc,if_pos rfl,e,Nat.add_sub_cancel];omega
theorem nrm_back{k:Int}{n:Nat}{c:List Int}(hn:1≤n)(hc:c.length=n)(h0:gi c 0=0):(nrm k n c).set 0 0=c:=by
  unfold nrm
  exact set_set0 (by omega) h0
structure NrmL(n:Nat)(es:List E3)(k:Int)(L:List (List Int)):Prop where
  nd:L.Nodup
  mem:∀ x,x∈L↔x.length=n∧Red n es 0 x∧dg x=k
  few:L.length≤6561
theorem nrm_list{n:Nat}{es:List E3}{k:Int}{l:List (List Int)}(G:GOk n es)(hl:Gd n es l)(hm:∀ x,x∈l↔SS n es x):NrmL n es k (l.map (nrm k n)):=by
  have hn1:=G.n1
  have hred:∀ c,c.length=n→(Red n es 0 (nrm k n c)↔Red n es 0 c):=fun c hc=>red_set hc (by omega) _
  refine ⟨?_,fun x=>?_,by rw [List.length_map];exact ss_few G hl.nd hl.ss⟩
  · have h1:=hl.nd
    unfold List.Nodup at h1 ⊢
    rw [List.pairwise_map]
    refine List.Pairwise.imp_of_mem (fun {a b} ha hb hne he=>hne ?_) h1
    have sa:=hl.ss a ha
    have sb:=hl.ss b hb
    rw [←nrm_back (k:=k) hn1 sa.l sa.z,he,nrm_back hn1 sb.l sb.z]
  · rw [List.mem_map]
    constructor
    · rintro ⟨c,hc,rfl⟩
      have hs:=hl.ss c hc
      exact ⟨by rw [nrm_len,hs.l],(hred c hs.l).2 hs.r,nrm_dg hn1 hs.l⟩
    · rintro ⟨h1,h2,h3⟩
      have hx0:0<x.length:=by omega
      have hsl:(x.set 0 0).length=n:=by simpa using h1
      have e:nrm k n (x.set 0 0)=x:=by
        obtain ⟨N,rfl⟩:∃ N,n=N+1:=⟨n-1,by omega⟩
        unfold nrm
        rw [List.set_set]
        have h4:dg x=gi x 0+sm N (fun i=>gi x (i+1)):=by unfold dg;rw [h1,ygV]
        have h5:sm (N+1-1) (fun i=>gi (x.set 0 0) (i+1))=sm N (fun i=>gi x (i+1)):=by
          rw [Nat.add_sub_cancel]
          exact yan fun i _=>by rw [ya7 hx0,if_neg (by omega)]
        rw [h5]
        refine yfv (by simp) fun j hj=>?_
        rw [ya7 hx0]
        split
        · rename_i e;rw [e];omega
        · rfl
      refine ⟨x.set 0 0,(hm _).2 ⟨hsl,by rw [ya7 hx0,if_pos rfl],(red_set h1 (by omega) 0).2 h2⟩,e⟩
theorem p_normal{n:Nat}{es:List E3}{k:Int}{l:List (List Int)}(G:GOk n es)(hk:0≤k∧k≤3)(hl:Gd n es l):ybo l k (fun p=>p <+: l.map (nrm k n)) (fun p=>p=l.map (nrm k n)):=by
  have hn1:=G.n1
  have hn5:=G.n5
  have hfew:=ss_few G hl.nd hl.ss
  unfold ybo
  refine ⟨fun m p v=>Cnt l.length (fun j=>p=(l.take j).map (nrm k n)) m v,Cnt.start (by simp),?_⟩
  rintro m p _ ⟨j,rfl,rfl,hj,rfl⟩
  rw [Int.toNat_natCast]
  refine ⟨fun hlt=>?_,fun hge=>?_⟩
  · have hjl:j<l.length:=by omega
    have hs:=hl.ss (gx l j) (List.mem_of_getElem? (ycu hjl))
    have htop:=hs.top G
    have hcl:=hs.l
    have htk:(l.take (j+1)).map (nrm k n)=(l.take j).map (nrm k n)++[nrm k n (gx l j)]:=by
      rw [List.take_add_one,ycu hjl,List.map_append];rfl
    generalize gx l j=c at hs htop hcl htk ⊢
    refine ⟨by omega,ybx (by omega) ⟨by omega,by omega,?_⟩⟩
    have e1:(1:Int).toNat=1:=rfl
    have e0:(0:Int).toNat=0:=rfl
    rw [e1,e0]
    have hb:∀ i,i≤n-1→0≤sm i (fun i=>gi c (i+1))∧sm i (fun i=>gi c (i+1))≤i*8:=fun i hi=>by
      refine ⟨yaX fun q hq=>(htop (q+1) (by omega)).1,(ygJ (B:=8) (by omega) fun q hq=>?_).2⟩
      have:=htop (q+1) (by omega);omega
    refine ⟨fun m q v d=>Cnt (n-1) (fun i=>q=(l.take j).map (nrm k n)∧d=c.set 0 (k-sm i (fun i=>gi c (i+1)))) m v,Cnt.start ⟨rfl,by simp [sm]⟩,?_⟩
    rintro m3 q _ d ⟨i,rfl,rfl,hi,rfl,rfl⟩
    simp only [Int.toNat_natCast,List.length_drop,List.length_set,gi_drop1]
    have hg0:gi (c.set 0 (k-sm i (fun i=>gi c (i+1)))) 0=k-sm i (fun i=>gi c (i+1)):=by rw [ya7 (by omega),if_pos rfl]
    have h2:=hb i hi
    refine ⟨fun hlt2=>⟨by omega,by omega,?_,?_⟩,fun hge2=>?_⟩
    · have:=htop (i+1) (by omega);rw [hg0];exact i64 (by omega)
    · refine Cnt.next (by omega) (by omega) ⟨trivial,?_⟩
      rw [List.set_set,hg0]
      simp only [sm]
      congr 1;omega
    · have e:i=n-1:=by omega
      subst e
      show ((l.take j).map (nrm k n)++[nrm k n c]) <+: l.map (nrm k n)∧_
      refine ⟨?_,?_,trivial⟩
      · rw [←htk]
        refine ⟨(l.drop (j+1)).map (nrm k n),?_⟩
        rw [←List.map_append,List.take_append_drop]
      · exact Cnt.next hjl (by omega) htk.symm
  · have e:j=l.length:=by omega
    subst e
    rw [List.take_length]
theorem p_Classes{n:Nat}{es:List E3}{k:Int}{R:List (List Int)→Int→Prop}(G:GOk n es)(hk:0≤k∧k≤3)(h:∀ L,NrmL n es k L→R L 0):ybv n es k R:=by
  have hn1:=G.n1
  have hn5:=G.n5
  have hel:=G.el
  unfold ybv
  refine yel (by omega) (by simp) G.g G.c (fun j hj=>absurd hj (by simp)) ⟨fun _=>⟨True,fun _=>?_,fun q=>absurd q (by omega),fun _=>⟨fun q=>absurd q (by omega),fun _=>trivial⟩⟩,fun q=>absurd rfl q⟩
  refine yg6 G fun l hl hm=>⟨fun _=>?_,fun q=>absurd rfl q⟩
  have hN:=nrm_list (k:=k) G hl hm
  unfold ycd
  refine ⟨_,_,p_normal G hk hl,fun p o=>o=p,rfl,fun p y o ho hp=>?_,fun ys o ho hy=>?_⟩
  · have ho:o=p:=ho
    subst ho
    have hp:(o++[y]) <+: l.map (nrm k n):=hp
    have hlen:=hp.length_le
    have hfew:=hN.few
    rw [List.length_append,List.length_singleton] at hlen
    have hmem:y∈l.map (nrm k n):=hp.subset (by simp)
    obtain ⟨c,hc,rfl⟩:=List.mem_map.1 hmem
    have hs:=hl.ss c hc
    have ht:=hs.top G
    have hb:0≤sm (n-1) (fun i=>gi c (i+1))∧sm (n-1) (fun i=>gi c (i+1))≤((n-1:Nat):Int)*8:=by
      refine ⟨yaX fun q hq=>(ht (q+1) (by omega)).1,(ygJ (B:=8) (by omega) fun q hq=>?_).2⟩
      have:=ht (q+1) (by omega);omega
    refine yei ⟨fun _=>⟨by omega,rfl⟩,fun q=>absurd (yex (by rw [nrm_len,hs.l]) hn1 (by omega) fun j hj=>?_) q⟩
    rw [gi_nrm hn1 hs.l]
    have:=ht j hj
    split <;> omega
  · have ho:o=ys:=ho
    have hy:ys=l.map (nrm k n):=hy
    subst ho
    subst hy
    have hfew:=hN.few
    refine ⟨by omega,fun x hx=>by rw [((hN.mem x).1 hx).1];omega,fun zs hp _=>h zs ⟨hp.nodup_iff.2 hN.nd,fun x=>by rw [hp.mem_iff,hN.mem],by rw [hp.length_eq];exact hfew⟩⟩
theorem nrm_dok{n:Nat}{es:List E3}{k:Int}{r:List Int}(G:GOk n es)(hk:0≤k∧k≤3)(h1:r.length=n)(h2:Red n es 0 r)(h3:dg r=k):DOk n es r∧yaV n es 0 r=0:=by
  have hn1:=G.n1
  have hf:=red_few G.E (by omega) h1 h2
  have ht:=G.tot
  have hb:∀ v,v<n → -150≤gi r v∧gi r v≤150:=fun v hv=>by
    have hs:SS n es (r.set 0 0):=⟨by simpa using h1,by rw [ya7 (by omega),if_pos rfl],(red_set h1 (by omega) 0).2 h2⟩
    have hz:=hs.top G v hv
    rw [ya7 (by omega)] at hz
    by_cases e:v=0
    · subst e
      obtain ⟨N,rfl⟩:∃ N,n=N+1:=⟨n-1,by omega⟩
      have h4:dg r=gi r 0+sm N (fun i=>gi r (i+1)):=by unfold dg;rw [h1,ygV]
      have h5:0≤sm N (fun i=>gi r (i+1)):=yaX fun q hq=>h2.pos (q+1) (by omega) (by omega)
      omega
    · rw [if_neg e] at hz;omega
  exact ex_dok G h1 hb (by omega)
theorem sizes_add{n:Nat}{es:List E3}{k:Nat}{L:List (List Int)}(G:GOk n es)(hL:NrmL n es k L):sm L.length (fun i=>(((sysF n es (gx L i)).length:Nat):Int))=(((ycC n k).length:Nat):Int):=by
  have hn1:=G.n1
  have hm:∀ r,r∈L→∀ x,x∈sysF n es r↔Pos n x∧Eqv n es r x:=fun r hr x=>ydQ hn1 ((hL.mem r).1 hr).1
  have hsum:∀ K:List (List Int),sm K.length (fun i=>(((sysF n es (gx K i)).length:Nat):Int))=(((K.flatMap (sysF n es)).length:Nat):Int):=fun K=>by
    induction K with
    | nil=>rfl
    | cons a t ih =>
      rw [List.length_cons,ygV,List.flatMap_cons,List.length_append]
      have e:(fun i=>(((sysF n es (gx (a::t) (i+1))).length:Nat):Int))=fun i=>(((sysF n es (gx t i)).length:Nat):Int):=rfl
      rw [e,ih]
      show (((sysF n es a).length:Nat):Int)+_=_
      omega
  rw [hsum]
  have hnd:(L.flatMap (sysF n es)).Nodup:=by
    unfold List.Nodup
    rw [List.pairwise_flatMap]
    refine ⟨fun r hr=>(sysF_asc n es r).nodup,List.Pairwise.imp_of_mem (fun {a b} ha hb hne x hx y hy he=>?_) hL.nd⟩
    subst he
    obtain ⟨a1,a2,_⟩:=(hL.mem a).1 ha
    obtain ⟨b1,b2,_⟩:=(hL.mem b).1 hb
    exact hne (red_one G.E (by omega) a1 b1 a2 b2 (((hm a ha x).1 hx).2.trans ((hm b hb x).1 hy).2.symm))
  obtain ⟨N,rfl⟩:∃ N,n=N+1:=⟨n-1,by omega⟩
  have hiff:∀ x,x∈L.flatMap (sysF (N+1) es)↔x∈ycC (N+1) k:=fun x=>by
    rw [List.mem_flatMap,yc7]
    constructor
    · rintro ⟨r,hr,hx⟩
      obtain ⟨hp,he⟩:=(hm r hr x).1 hx
      obtain ⟨r1,_,r3⟩:=(hL.mem r).1 hr
      exact ⟨hp.len,(yik hp.len).2 hp.pos,by rw [yhu,he.dg r1 hp.len,r3]⟩
    · rintro ⟨h1,h2,h3⟩
      have hp:Pos (N+1) x:=⟨h1,(yik h1).1 h2⟩
      obtain ⟨r,hrp,hre,hrr⟩:=red_ex G hp
      have hr:r∈L:=(hL.mem r).2 ⟨hrp.len,hrr,by rw [hre.dg h1 hrp.len,←yhu,h3]⟩
      exact ⟨r,hr,(hm r hr x).2 ⟨hp,hre.symm⟩⟩
  have h1:=yfj hnd fun x hx=>(hiff x).1 hx
  have h2:=yfj (yid (N+1) k).nodup fun x hx=>(hiff x).2 hx
  omega
theorem yiE{n:Int}{es:List E3}{R:Bool→Prop}(h:R (smallF n es 5 7)):ydq n es R:=p_r08_small h
theorem tmod_four{a:Int}(ha:0≤a):0≤a.tmod 4∧a.tmod 4<4:=⟨Int.tmod_nonneg _ ha,Int.tmod_lt_of_pos _ (by omega)⟩
theorem p_topcounts{n a:Int}{es:List E3}(ha:0≤a∧a<256):ya2 n es a (fun b=>b=true):=by
  unfold ya2
  have hk:=tmod_four ha.1
  obtain ⟨k,hke⟩:∃ k:Nat,a.tmod 4=(k:Int):=⟨(a.tmod 4).toNat,by omega⟩
  rw [hke] at hk ⊢
  refine ⟨by omega,i64 (by omega),∃ n':Nat,n=n'∧GOk n' es,?_,p_r25_Joined0 ⟨fun hj=>yiE ⟨fun hf=>?_,fun _=>yfH rfl⟩,fun _=>yfH rfl⟩⟩
  · rintro ⟨n,rfl,G⟩
    have hn1:=G.n1
    have hn5:=G.n5
    have hE:=G.E
    have hel:=G.el
    refine p_Classes G (by omega) fun L hL=>?_
    have hLf:=hL.few
    obtain ⟨N,rfl⟩:∃ N,n=N+1:=⟨n-1,by omega⟩
    have hlf:=list_few (n:=N) (k:=k) (by omega) (by omega)
    refine p_chips_AllQ (by omega) (by omega) ⟨True,fun _=>?_,fun _=>⟨fun _=>trivial,fun q=>absurd rfl q⟩,fun q=>absurd rfl q⟩
    have hszb:∀ i,i<L.length→0≤(((sysF (N+1) es (gx L i)).length:Nat):Int)∧(((sysF (N+1) es (gx L i)).length:Nat):Int)≤2401:=fun i hi=>by
      obtain ⟨q1,q2,q3⟩:=(hL.mem _).1 (List.mem_of_getElem? (ycu hi))
      have:=sysF_few (nrm_dok G (by omega) q1 q2 q3).1
      omega
    refine ⟨fun m s v=>Cnt L.length (fun j=>s=sm j (fun i=>(((sysF (N+1) es (gx L i)).length:Nat):Int))) m v,Cnt.start rfl,?_⟩
    rintro m _ _ ⟨j,rfl,rfl,hj,rfl⟩
    rw [Int.toNat_natCast]
    have hsj:∀ j,j≤L.length → -(j*2401)≤sm j (fun i=>(((sysF (N+1) es (gx L i)).length:Nat):Int))∧sm j (fun i=>(((sysF (N+1) es (gx L i)).length:Nat):Int))≤j*2401:=fun j hj=>ygJ (by omega) fun i hi=>by have:=hszb i (by omega);omega
    refine ⟨fun hlt=>⟨by omega,?_⟩,fun hge=>⟨fun _=>?_,fun q=>absurd ?_ q⟩⟩
    · obtain ⟨q1,q2,q3⟩:=(hL.mem _).1 (List.mem_of_getElem? (ycu (show j<L.length by omega)))
      refine ex_size (nrm_dok G (by omega) q1 q2 q3) ⟨fun _=>⟨?_,Cnt.next (by omega) (by omega) rfl⟩,fun q=>absurd rfl q⟩
      have h1:=hsj j hj
      have h2:=hszb j (by omega)
      exact i64 (by omega)
    · refine ⟨fun m v=>Cnt (ycC (N+1) k).length (fun _=>True) m v,Cnt.start trivial,?_⟩
      rintro m _ ⟨i,rfl,rfl,hi, -⟩
      rw [Int.toNat_natCast]
      refine ⟨fun hlt=>⟨by omega,?_⟩,fun _=>yfH rfl⟩
      have hx:=(yc7 N k _).1 (List.mem_of_getElem? (ycu (show i<(ycC (N+1) k).length by omega)))
      generalize gx (ycC (N+1) k) i=x at hx ⊢
      obtain ⟨hxl,hx0,hxs⟩:=hx
      have hxp:Pos (N+1) x:=⟨hxl,(yik hxl).1 hx0⟩
      have hxb:∀ v,v<N+1→0≤gi x v∧gi x v≤3:=fun v hv=>by
        have:=dg_entry hx0 (j:=v) (by omega);omega
      have hgx:yaV (N+1:Nat) es 0 x=0:=G.giv hxl fun v hv=>by have:=hxb v hv;omega
      unfold ycc
      refine yel (by omega) (by simp) G.g G.c (fun q hq=>?_) ⟨fun _=>?_,fun q=>absurd rfl q⟩
      · have e:q=0:=by simpa using hq
        subst e
        exact yex hxl (by omega) (by omega) fun j hj=>by have:=hxb j hj;show -1048576≤gi x j∧gi x j≤1048576;omega
      · refine ⟨.inl (G.small fun v hv=>by have:=hxb v hv;omega),by omega,fun q=>absurd hgx q,fun _ r s hr hrl hsl=>⟨fun _=>?_,fun q=>absurd rfl q⟩⟩
        have e0:(0:Int).toNat=0:=rfl
        simp only [Int.toNat_natCast,e0] at hr hrl hsl
        have hrL:r∈L:=(hL.mem r).2 ⟨hrl,hr.red,by rw [(show Eqv (N+1) es x r from ⟨gi s,hr.lp⟩).dg hxl hrl,←yhu,hxs]⟩
        refine yd0 (p:=fun d=>decide (d=r)) (by omega) (fun d R' hd hR'=>?_) (fun hall=>?_) (fun d hd hp=>⟨fun _=>Cnt.next (by omega) (by omega) trivial,fun q=>absurd rfl q⟩)
        · unfold yaW
          exact ycJ (by rw [((hL.mem d).1 hd).1];omega) hR'
        · have:=hall r hrL
          simp at this
    · have e:j=L.length:=by omega
      subst e
      exact sizes_add G hL
  · have hs:es.length≤40∧(yap n es=0→n≤5∧(es.map (·.2.2)).sum≤7):=of_decide_eq_true hf
    have hg:yap n es=0:=by
      unfold ycV at hj;split at hj
      · assumption
      · exact hj
    have hc:ydT n es=true:=by
      unfold ycV at hj;rw [if_pos hg] at hj;split at hj
      · assumption
      · cases hj
    have hn:1≤n∧n≤12:=by
      unfold yap at hg;split at hg
      · assumption
      · cases hg
    obtain ⟨n,rfl⟩:∃ n':Nat,n=(n':Int):=⟨n.toNat,by omega⟩
    have:=hs.2 hg
    exact ⟨n,rfl,⟨hg,hc,hs.1,by omega,by omega,by omega⟩⟩
end Go.Proofs.YtjepipbkiadcpaaGreat
