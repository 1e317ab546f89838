/- Texts laid together: Vi, Vj, Vk, Vl, PVd, Vm, Vo, Vp, Vr, Vw, Vx, Vq, Vy, Vz, Vza, Vzb. -/
import Derived.Test.YtencmgolklfmkaaGreatK5
set_option linter.unusedVariables false
set_option linter.unusedSimpArgs false
set_option linter.unusedSectionVars false
/- Bonds: program and reference give the same list. -/
namespace Go.Proofs.YtencmgolklfmkaaGreat
open Go Go.RowKit Go.Shelf Go.Proofs.Tryz
set_option maxRecDepth 100000
theorem yfe{n:Int}{es:List E3}{R:Int→Prop}(hl:es.length≤1000000000)(h:R (ybx n es)):ydb n es R:=by
  refine yhV hl ⟨fun c=>?_,fun c=>?_⟩
  · obtain ⟨k,rfl,G⟩:=gr_of c
    refine yde hl c ⟨fun q=>?_,fun q=>?_⟩
    · unfold ybx at h;rw [if_pos c,if_pos q] at h;exact h
    · unfold ybx at h;rw [if_pos c,if_neg q] at h;exact h
  · unfold ybx at h;rw [if_neg c] at h;exact h
theorem yfZ{n:Int}{es:List E3}(h:ybx n es=0):yat n es=0∧yd0 n es=true:=by
  unfold ybx at h
  by_cases q:yat n es=0
  · rw [if_pos q] at h
    by_cases c:yd0 n es=true
    · exact ⟨q,c⟩
    · rw [if_neg c] at h;omega
  · rw [if_neg q] at h;exact absurd h q
theorem ycZ{n:Int}{es:List E3}{R:List (Int×Int)→Int→Prop}(hl:es.length≤100)(h1:ybx n es≠0→R [] (ybx n es))(h2:ybx n es=0→R (ybd es) 0):yb5 n es R:=by
  refine ⟨by omega,fun c=>⟨fun q=>?_,fun q=>?_⟩,fun c=>?_⟩
  · have q:=of_decide_eq_true q
    have e:ybx n es=0:=by unfold ybx;rw [if_pos q.1,if_pos q.2]
    exact yhl hl (fun z=>absurd q.1 z) fun _=>h2 e
  · have e:ybx n es=13:=by unfold ybx;rw [if_pos c,if_neg (fun z=>q (decide_eq_true ⟨c,z⟩))]
    rw [e] at h1;exact h1 (by decide)
  · have e:ybx n es=yat n es:=by unfold ybx;rw [if_neg c]
    rw [e] at h1;exact h1 c
theorem yhp{l:List Int}(hl:l.length≤1000000000)(h:∀ k,k<l.length → -1048576≤gi l k∧gi l k≤1048576){R:Int→Prop}(hR:R 0):ybG l R:=by
  unfold ybG yaR ybs
  refine ⟨Cnt l.length (fun _=>True),Cnt.start trivial,?_⟩
  rintro m _ ⟨k,rfl,rfl,hk,_⟩
  refine ⟨fun hlt=>?_,fun hge=>?_⟩
  · have hkl:k<l.length:=by omega
    rw [Int.toNat_natCast]
    have h1:=h k hkl
    refine ⟨by omega,fun _=>?_,fun q=>absurd h1.1 q⟩
    rw [decide_eq_true h1.2]
    exact ⟨fun z=>by simp at z,fun _=>Cnt.next hkl (by omega) trivial⟩
  · exact ⟨fun z=>by simp at z,fun _=>hR⟩
theorem p_lat_mapped{E:List (Int×Int)}{F:Int→Int→(Int→Prop)→Prop}{f:Nat→Int}(hl:E.length≤1000000)(hF:∀ k,k<E.length→∀ R':Int→Prop,R' (f k)→F (gx E k).1 (gx E k).2 R'){R:List Int→Prop}(h:R (tab f E.length)):ybK E F R:=by
  refine ⟨by omega,fun m v out=>Cnt E.length (fun k=>out.length=E.length∧∀ j,j<k→gi out j=f j) m v,Cnt.start ⟨by simp,fun j hj=>by omega⟩,?_⟩
  rintro m v out ⟨k,rfl,rfl,hk,ho,hj⟩
  refine ⟨fun hlt=>?_,fun hge=>?_⟩
  · have hkl:k<E.length:=by omega
    rw [Int.toNat_natCast]
    refine ⟨by omega,hF k hkl _ ⟨by omega,Cnt.next hkl (by omega) ⟨by simpa using ho,fun j hj2=>?_⟩⟩⟩
    rw [ycM (by omega)]
    by_cases e:j=k
    · rw [if_pos e,e]
    · rw [if_neg e];exact hj j (by omega)
  · have:k=E.length:=by omega
    subst this
    rw [←yjN ho f hj] at h;exact h
def indI(U:Nat→Bool)(v:Nat):Int:=if U v=true then 1 else 0
theorem indI_range(U:Nat→Bool)(v:Nat):0≤indI U v∧indI U v≤1:=by unfold indI;split <;> omega
def yhB(E:List (Int×Int))(f:Nat→Int):List Int:=tab (fun i=>f (gx E i).2.toNat-f (gx E i).1.toNat) E.length
section
variable {E : List (Int × Int)} {es : List E3} {n : Nat}
theorem ykQ{f:Nat→Int}(hE:ya6 n E)(hm:E.length≤1000000)(hf:∀ v,v<n → -1000000≤f v∧f v≤1000000){R:List Int→Prop}(h:R (yhB E f)):ycY E (tab f n) R:=by
  refine p_lat_mapped (f:=fun i=>f (gx E i).2.toNat-f (gx E i).1.toNat) hm (fun k hk R' hR=>?_) h
  have he:=hE (gx E k) (by rw [yaM hk];exact List.getElem_mem hk)
  have h1:=hf (gx E k).1.toNat (by omega)
  have h2:=hf (gx E k).2.toNat (by omega)
  refine ⟨by decide,?_,by decide,?_,?_⟩
  · rw [yaI];omega
  · rw [yaI];omega
  · rw [ycc _ (by omega),ycc _ (by omega)]
    exact ⟨i64 (by omega),hR⟩
theorem yhu{f:Nat→Int}(G:GrOk n es E)(hl:es.length≤100)(hf:∀ v,v<n → -500000≤f v∧f v≤500000){R:List Int→Int→Prop}(h:R (yhB E f) 0):ybR (n:Int) es (tab f n) R:=by
  have hn:=G.few
  have hlen:=G.len
  refine yhl hl (fun z=>absurd G.g z) fun _=>?_
  rw [G.e]
  refine ⟨fun _=>⟨fun _=>yhp (by rw [yaI];omega) (fun k hk=>?_) ⟨fun _=>?_,fun q=>absurd rfl q⟩,fun q=>absurd (by rw [yaI]) q⟩,fun q=>absurd rfl q⟩
  · rw [yaI] at hk
    rw [ycc _ hk]
    have:=hf k hk;omega
  · refine ykQ G.ok (by omega) (fun v hv=>by have:=hf v hv;omega) ?_
    refine yhp (by unfold yhB;rw [yaI];omega) (fun k hk=>?_) ⟨fun _=>h,fun q=>absurd rfl q⟩
    unfold yhB at hk ⊢
    rw [yaI] at hk
    rw [ycc _ hk]
    have he:=G.ok (gx E k) (by rw [yaM hk];exact List.getElem_mem hk)
    have h1:=hf (gx E k).1.toNat (by omega)
    have h2:=hf (gx E k).2.toNat (by omega)
    omega
theorem yix{l:List Nat}{v:Nat} : (v:Int)∈ybQ l↔v∈l:=by
  unfold ybQ
  rw [List.mem_map]
  refine ⟨fun ⟨x,h1,h2⟩=>?_,fun h=>⟨v,h,rfl⟩⟩
  have h2:(x:Int)=v:=h2
  have:x=v:=by omega
  rwa [←this]
theorem yjR(P:Nat→Bool)(n:Nat):(chL P n).Pairwise (· < ·):=List.Pairwise.filter _ List.pairwise_lt_range
theorem ye2(P:Nat→Bool)(n:Nat):SetOk n (ybQ (chL P n)) where
  r:=fun k hk=>by
    rw [ybB] at hk
    rw [yfn hk]
    have:=(yiN hk).1;omega
  s:=fun j k hjk hk=>by
    rw [ybB] at hk
    rw [yfn hk,yfn (by omega)]
    have:=List.pairwise_iff_getElem.1 (yjR P n) j k (by omega) hk hjk
    omega
theorem yhL(P:Nat→Bool)(n:Nat):chL P (n+1)=chL P n++if P n=true then [n] else []:=by
  unfold chL
  rw [List.range_succ,List.filter_append,List.filter_cons,List.filter_nil]
theorem yjL{P:Nat→Bool}{n v:Nat} : v∈chL P n↔v<n∧P v=true:=by
  unfold chL;rw [List.mem_filter,List.mem_range]
theorem BondP.congr{U U':Nat→Bool}(hE:EOk n es)(h:∀ v,v<n→U v=U' v):BondP n es U↔BondP n es U':=by
  have hx:∀ x∈es,U x.1.toNat=U' x.1.toNat∧U x.2.1.toNat=U' x.2.1.toNat:=fun x hx=>by
    have:=hE x hx
    exact ⟨h _ (by omega),h _ (by omega)⟩
  have key:∀ V V':Nat→Bool,(∀ v,v<n→V v=V' v)→yhm n es V→yhm n es V':=fun V V' hv ⟨⟨v,h1,h2⟩,h3⟩=>by
    refine ⟨⟨v,h1,by rw [←hv v h1];exact h2⟩,fun g hg a b ha hb ha2 hb2=>h3 g (fun x hx q1 q2=>?_) a b ha hb (by rw [hv a ha];exact ha2) (by rw [hv b hb];exact hb2)⟩
    have:=hE x hx
    exact hg x hx (by rw [←hv _ (by omega)];exact q1) (by rw [←hv _ (by omega)];exact q2)
  have hn:∀ v,v<n→(!U v) = !U' v:=fun v hv=>by rw [h v hv]
  exact ⟨fun ⟨h1,h2,h3⟩=>⟨h1,key _ _ h h2,key _ _ hn h3⟩,fun ⟨h1,h2,h3⟩=>⟨h1,key _ _ (fun v hv=>(h v hv).symm) h2,key _ _ (fun v hv=>(hn v hv).symm) h3⟩⟩
noncomputable def isB (n:Nat) (es:List E3) (w:Nat):Bool:=@decide (BondP n es fun v=>w.testBit v) (Classical.propDecidable _)
theorem ykS{w:Nat} : isB n es w=true↔BondP n es fun v=>w.testBit v:=by unfold isB;exact @decide_eq_true_iff _ (Classical.propDecidable _)
noncomputable def bondW (n:Nat) (es:List E3) (k:Nat):List Nat:=(List.range k).filter fun w=>decide (1≤w)&&isB n es w
theorem bondW_succ(k:Nat):bondW n es (k+1)=bondW n es k++if 1≤k∧isB n es k=true then [k] else []:=by
  unfold bondW
  rw [List.range_succ,List.filter_append,List.filter_cons,List.filter_nil]
  simp only [Bool.and_eq_true,decide_eq_true_iff]
theorem bondW_len(k:Nat):(bondW n es k).length≤k:=by
  unfold bondW
  refine Nat.le_trans (List.length_filter_le _ _) ?_
  rw [List.length_range];exact Nat.le_refl _
def bitV(w:Nat)(v:Nat):Int:=indI (fun v=>w.testBit v) v
noncomputable def bondLst (n:Nat) (es:List E3) (E:List (Int×Int)) (k:Nat):List (List Int):=(bondW n es k).map fun w=>yhB E (bitV w)
theorem yel(k:Nat):bondLst n es E (k+1)=bondLst n es E k++if 1≤k∧isB n es k=true then [yhB E (bitV k)] else []:=by
  unfold bondLst
  rw [bondW_succ,List.map_append]
  split <;> rfl
theorem ye7(k:Nat):(bondLst n es E k).length≤k:=by unfold bondLst;rw [List.length_map];exact bondW_len k
theorem pow2{n:Nat}(hn:n≤12):2^n≤4096:=by
  have:=Nat.pow_le_pow_right (show 0<2 by decide) hn
  simpa using this
theorem yfK(hl:es.length≤100)(G:GrOk n es E)(hc:yd0 n es=true){R:List (List Int)→Int→Prop}(h:∀ zs:List (List Int),zs.Perm (bondLst n es E (2^n-1))→zs.Pairwise (fun a b=>¬lexC b a<0)→R zs 0):ybj (n:Int) es R:=by
  have hn:=G.few
  have h1n:=G.one
  have hE:=(ybr G.g).1
  have hp:=pow2 hn
  have hlen:=G.len
  have hp1:2≤2^n:=by
    have:=Nat.pow_le_pow_right (show 0<2 by decide) h1n
    simpa using this
  have hpw:(1:Int)*2^(n:Int).toNat=((2^n:Nat):Int):=by rw [Int.toNat_natCast,Int.one_mul];push_cast;rfl
  have hj:ybx (n:Int) es=0:=by unfold ybx;rw [if_pos G.g,if_pos hc]
  refine ycZ hl (fun q=>absurd hj q) fun _=>⟨fun _=>?_,fun q=>absurd rfl q⟩
  refine ⟨fun m v w=>∃ k:Nat,w=k∧1≤k∧k+m=2^n-1∧v=bondLst n es E k,⟨2^n-1-1,1,rfl,by omega,by omega,rfl⟩,?_⟩
  rintro m v w ⟨k,rfl,hk1,hkm,rfl⟩
  rw [hpw]
  refine ⟨by omega,i64 (by omega),i64 (by omega),fun hlt=>⟨by omega,?_⟩,fun hge=>?_⟩
  · have hkp:k<2^n-1:=by omega
    have hbl:(bondLst n es E k).length≤k:=ye7 k
    refine ⟨fun m' s i f=>Cnt n (fun t=>s=ybQ (chL (fun v=>k.testBit v) t)∧f.length=n∧(∀ j,j<t→gi f j=bitV k j)∧∀ j,t≤j→gi f j=0) m' i,Cnt.start ⟨rfl,by simp,fun j hj=>by omega,fun j _=>yjK _ _⟩,?_⟩
    rintro m' s i f ⟨t,rfl,rfl,ht,hs,hf,hf1,hf2⟩
    refine ⟨fun hlt2=>?_,fun hge2=>?_⟩
    · have htn:t<n:=by omega
      have hsl:s.length≤t:=by rw [hs,ybB];exact ygw t
      rw [bit_and k t,Int.toNat_natCast]
      refine ⟨by omega,⟨?_,?_,by decide,by decide⟩,fun q=>⟨by omega,by omega,Cnt.next htn (by omega) ⟨?_,by simpa using hf,fun j hj=>?_,fun j hj=>?_⟩⟩,fun q=>Cnt.next htn (by omega) ⟨?_,hf,fun j hj=>?_,fun j hj=>hf2 j (by omega)⟩⟩
      · have:((k:Int) / 2^t)=((k / 2^t:Nat):Int):=by push_cast;rfl
        rw [this];exact Int.natCast_nonneg _
      · have:((k:Int) / 2^t)=((k / 2^t:Nat):Int):=by push_cast;rfl
        rw [this]
        have:=Nat.div_le_self k (2^t);omega
      · have q:k.testBit t=true:=by
          by_cases z:k.testBit t=true
          · exact z
          · rw [if_neg z] at q;omega
        rw [hs,yhL,if_pos q,yfQ];rfl
      · have q:k.testBit t=true:=by
          by_cases z:k.testBit t=true
          · exact z
          · rw [if_neg z] at q;omega
        rw [ycM (by omega)]
        by_cases e:j=t
        · rw [if_pos e,e];unfold bitV indI;rw [if_pos q]
        · rw [if_neg e];exact hf1 j (by omega)
      · rw [ycM (by omega),if_neg (by omega)];exact hf2 j (by omega)
      · have q:¬k.testBit t=true:=fun z=>q (if_pos z)
        rw [hs,yhL,if_neg q,List.append_nil]
      · have q:¬k.testBit t=true:=fun z=>q (if_pos z)
        by_cases e:j=t
        · rw [e,hf2 t (by omega)];unfold bitV indI;rw [if_neg q]
        · exact hf1 j (by omega)
    · have:t=n:=by omega
      subst this
      have hft:f=tab (bitV k) t:=yjN hf _ hf1
      rw [hs,hft]
      refine p_connect_Bond (by omega) G.g (ye2 _ t) fun b hb=>⟨fun _=>⟨fun q=>?_,fun q=>?_⟩,fun q=>absurd rfl q⟩
      all_goals
        have hb2:b=true↔isB t es k=true:=by
          rw [hb,ykS]
          refine BondP.congr hE fun v hv=>?_
          rw [Bool.eq_iff_iff,decide_eq_true_iff,yix,yjL]
          exact ⟨fun z=>z.2,fun z=>⟨hv,z⟩⟩
      · refine yhu G hl (fun v _=>by have:=indI_range (fun v=>k.testBit v) v;unfold bitV;omega) ⟨fun _=>⟨by omega,i64 (by omega),m-1,by omega,k+1,by omega,by omega,by omega,?_⟩,fun z=>absurd rfl z⟩
        rw [yel,if_pos ⟨hk1,hb2.1 q⟩]
      · refine ⟨i64 (by omega),m-1,by omega,k+1,by omega,by omega,by omega,?_⟩
        rw [yel,if_neg (fun z=>q (hb2.2 z.2)),List.append_nil]
  · have:k=2^n-1:=by omega
    subst this
    have hbl:(bondLst n es E (2^n-1)).length≤2^n-1:=ye7 _
    refine ⟨by omega,fun x hx=>?_,fun zs hp hs=>h zs hp hs⟩
    unfold bondLst at hx
    obtain ⟨w,_,rfl⟩:=List.mem_map.1 hx
    unfold yhB;rw [yaI];omega
end
end Go.Proofs.YtencmgolklfmkaaGreat

/- The reference's bonds; lists that are sorted are equal if they hold the same. -/
namespace Go.Proofs.YtencmgolklfmkaaGreat
open Go Go.RowKit Go.Shelf Go.Proofs.Tryz
set_option maxRecDepth 100000
def LexLe(a b:List Int):Prop:=¬lexC b a<0
theorem lexLe_antisymm{a b:List Int}(h:LexLe a b)(k:LexLe b a):a=b:=by
  unfold LexLe at h k
  rw [yc1] at h
  exact yiK _ _ (by omega)
theorem yiQ:∀ {a b:List (List Int)},a.Perm b→a.Pairwise (fun a b=>¬lexC b a<0)→b.Pairwise (fun a b=>¬lexC b a<0)→a=b
  | [],b,hp,_,_=>by rw [List.nil_perm.1 hp]
  | x::s,[],hp,_,_=>by have:=hp.length_eq;simp at this
  | x::s,y::t,hp,ha,hb=>by
    have hxy:x=y:=by
      rcases List.mem_cons.1 (hp.mem_iff.1 (List.mem_cons_self)) with e | e
      · exact e
      · rcases List.mem_cons.1 (hp.mem_iff.2 (List.mem_cons_self)) with e2 | e2
        · exact e2.symm
        · exact lexLe_antisymm ((List.pairwise_cons.1 ha).1 y e2) ((List.pairwise_cons.1 hb).1 x e)
    subst hxy
    rw [yiQ ((List.perm_cons _).1 hp) (List.pairwise_cons.1 ha).2 (List.pairwise_cons.1 hb).2]
section
variable {E : List (Int × Int)} {es : List E3} {n : Nat}
theorem W_mem(hE:EOk n es){u v:Nat}(h:0<W es u v):∃ x∈es,(x.1=u∧x.2.1=v)∨(x.1=v∧x.2.1=u):=by
  refine Classical.byContradiction fun q=>?_
  have:∀ l:List E3,(∀ x∈l,x∈es)→W l u v=0:=fun l=>by
    induction l with
    | nil=>intro _;rfl
    | cons x l ih =>
      intro hl
      rw [ygV,ih fun y hy=>hl y (List.mem_cons_of_mem _ hy)]
      unfold w1
      rw [if_neg]
      · rfl
      · rintro ⟨_,h2⟩
        exact q ⟨x,hl x List.mem_cons_self,h2⟩
  rw [this es fun x hx=>hx] at h
  omega
end
end Go.Proofs.YtencmgolklfmkaaGreat

/- Products, differences, slicing: program and reference do alike. -/
namespace Go.Proofs.YtencmgolklfmkaaGreat
open Go Go.RowKit Go.Shelf Go.Proofs.Tryz
set_option maxRecDepth 100000
def dotL(x y:List Int):Int:=dot_ x.length (gi x) (gi y)
def ybi(x y:List Int):List Int:=tab (fun i=>gi x i-gi y i) x.length
def Bd(B:Nat)(x:List Int):Prop:=∀ i,i<x.length→(gi x i).natAbs≤B
theorem mul_bd{a b:Int}{B C:Nat}(ha:a.natAbs≤B)(hb:b.natAbs≤C):(a*b).natAbs≤B*C:=by
  rw [Int.natAbs_mul];exact Nat.mul_le_mul ha hb
theorem sm_bd{f:Nat→Int}{K:Nat} : ∀ {m:Nat},(∀ i,i<m→(f i).natAbs≤K)→(sm m f).natAbs≤m*K
  | 0,_=>by simp [sm]
  | m+1,h=>by
    have h1:=sm_bd (m:=m) fun i hi=>h i (by omega)
    have h2:=h m (by omega)
    rw [sm,Nat.succ_mul];omega
theorem dot_bd{x y:List Int}{B C:Nat}(hx:Bd B x)(hy:Bd C y)(hl:y.length=x.length){k:Nat}(hk:k≤x.length):(sm k fun i=>gi x i*gi y i).natAbs≤k*(B*C) :=
  sm_bd fun i hi=>mul_bd (hx i (by omega)) (hy i (by omega))
theorem yih{x y:List Int}{B C:Nat}(hx:Bd B x)(hy:Bd C y)(hl:y.length=x.length):(dotL x y).natAbs≤x.length*(B*C):=dot_bd hx hy hl (Nat.le_refl _)
theorem ybl(x y:List Int):(ybi x y).length=x.length:=by unfold ybi;rw [yaI]
theorem ybS{x y:List Int}{i:Nat}(hi:i<x.length):gi (ybi x y) i=gi x i-gi y i:=by unfold ybi;rw [ycc _ hi]
theorem yiA{x:List Int}{B:Nat}(h:dotL x x≤((B*B:Nat):Int)):Bd B x:=fun i hi=>by
  have h1:=sq_le_dot (m:=x.length) (x:=gi x) hi
  have h2:gi x i*gi x i≤((B*B:Nat):Int):=Int.le_trans h1 h
  refine Nat.le_of_not_lt fun q=>?_
  have h3:=Nat.mul_lt_mul_of_lt_of_le q (Nat.le_of_lt q) (by omega)
  have h4:((gi x i*gi x i).natAbs:Int)=gi x i*gi x i:=Int.natAbs_of_nonneg (sq_nn _)
  rw [Int.natAbs_mul] at h4
  omega
theorem ycD{x y:List Int}{R:Int→Prop}(hl:y.length=x.length)(hm:x.length≤1000)(hx:Bd 2000000 x)(hy:Bd 2000000 y)(h:R (dotL x y)):ya2 x y R:=by
  refine ⟨fun m s v=>Cnt x.length (fun k=>s=sm k fun i=>gi x i*gi y i) m v,Cnt.start rfl,?_⟩
  rintro m s v ⟨k,rfl,rfl,hk,hs⟩
  refine ⟨fun hlt=>?_,fun hge=>?_⟩
  · have hkl:k<x.length:=by omega
    have h1:=mul_bd (hx k hkl) (hy k (by omega))
    have h2:=dot_bd hx hy hl (Nat.le_of_lt hkl)
    have h3:=Nat.mul_le_mul_right (2000000*2000000) (show k≤1000 by omega)
    rw [Int.toNat_natCast,hs]
    exact ⟨by omega,by omega,i64 (by omega),i64 (by omega),Cnt.next hkl (by omega) rfl⟩
  · have:k=x.length:=by omega
    subst this
    rw [hs];exact h
theorem p_r16_Dot{x y:List Int}{R:Int→Prop}(hl:y.length=x.length)(hm:x.length≤1000)(hx:Bd 2000000 x)(hy:Bd 2000000 y)(h:R (dotL x y)):yi1 x y R:=by
  refine ⟨fun m s v=>Cnt x.length (fun k=>s=sm k fun i=>gi x i*gi y i) m v,Cnt.start rfl,?_⟩
  rintro m s v ⟨k,rfl,rfl,hk,hs⟩
  refine ⟨fun hlt=>?_,fun hge=>?_⟩
  · have hkl:k<x.length:=by omega
    have h1:=mul_bd (hx k hkl) (hy k (by omega))
    have h2:=dot_bd hx hy hl (Nat.le_of_lt hkl)
    have h3:=Nat.mul_le_mul_right (2000000*2000000) (show k≤1000 by omega)
    rw [Int.toNat_natCast,hs,(i64 (a:=gi x k*gi y k) (by omega)).wrap,(i64 (by omega)).wrap,(i64 (a:=(k:Int)+1) (by omega)).wrap]
    exact ⟨by omega,by omega,Cnt.next' hkl rfl⟩
  · have:k=x.length:=by omega
    subst this
    rw [hs];exact h
theorem ydE{x y:List Int}{R:List Int→Prop}(hl:y.length=x.length)(hm:x.length≤1000)(hx:Bd 4000000 x)(hy:Bd 4000000 y)(h:R (ybi x y)):ybg x y R:=by
  refine yiP (by omega) ⟨fun m v out=>Cnt y.length (fun k=>out.length=x.length∧(∀ j,j<k→gi out j=gi x j-gi y j)∧∀ j,k≤j→gi out j=gi x j) m v,Cnt.start ⟨rfl,fun j hj=>by omega,fun j _=>rfl⟩,?_⟩
  rintro m v out ⟨k,rfl,rfl,hk,ho,h1,h2⟩
  refine ⟨fun hlt=>?_,fun hge=>?_⟩
  · have hkl:k<y.length:=by omega
    have b1:=hx k (by omega)
    have b2:=hy k hkl
    rw [Int.toNat_natCast,h2 k (Nat.le_refl _)]
    refine ⟨by omega,by omega,i64 (by omega),Cnt.next hkl (by omega) ⟨by simpa using ho,fun j hj=>?_,fun j hj=>?_⟩⟩
    · rw [ycM (by omega)]
      by_cases e:j=k
      · rw [if_pos e,e]
      · rw [if_neg e];exact h1 j (by omega)
    · rw [ycM (by omega),if_neg (by omega)];exact h2 j (by omega)
  · have:k=y.length:=by omega
    subst this
    rw [show out=ybi x y from yjN ho _ fun i hi=>h1 i (by omega)];exact h
def ya8(x:List Int)(k:Int)(v:List Int):Bool:=decide (k*dotL v v<2*dotL x v)
def ydR(l:List (List Int))(x:List Int)(k:Int):Option (List Int):=l.find? (ya8 x k)
def Vs(m:Nat)(l:List (List Int)):Prop:=∀ v∈l,v.length=m∧Bd 1 v
theorem Bd.mono{B C:Nat}{x:List Int}(h:Bd B x)(k:B≤C):Bd C x:=fun i hi=>Nat.le_trans (h i hi) k
section
variable {l : List (List Int)} {x : List Int} {k : Int}
theorem behind_ok{v:List Int}(hv:v.length=x.length)(hb:Bd 1 v)(hm:x.length≤1000)(hx:Bd 2000000 x)(hk:k.natAbs≤2000000):In64 (2*dotL x v)∧In64 (k*dotL v v):=by
  have h1:=yih hx hb hv
  have h2:=yih hb hb rfl
  have h3:=Nat.mul_le_mul_right (2000000*1) hm
  have h4:=Nat.mul_le_mul_right (1*1) (show v.length≤1000 by omega)
  have h5:=mul_bd hk (show (dotL v v).natAbs≤1000 by omega)
  exact ⟨i64 (by omega),i64 (by omega)⟩
theorem yeo(hl:l.length≤1000000000)(hv:Vs x.length l)(hm:x.length≤1000)(hx:Bd 2000000 x)(hk:k.natAbs≤2000000):ybI l x k (fun p=>p <+: l.filter (ya8 x k)) (fun p=>p=l.filter (ya8 x k)):=by
  refine ⟨fun m pre v=>Cnt l.length (fun t=>pre=(l.take t).filter (ya8 x k)) m v,Cnt.start rfl,?_⟩
  rintro m pre v ⟨t,rfl,rfl,ht,hp⟩
  refine ⟨fun hlt=>?_,fun hge=>?_⟩
  · have htl:t<l.length:=by omega
    rw [Int.toNat_natCast]
    obtain ⟨v1,v2⟩:=hv (gx l t) (by rw [yaM htl];exact List.getElem_mem htl)
    obtain ⟨o1,o2⟩:=behind_ok v1 v2 hm hx hk
    have hsn:(l.take (t+1)).filter (ya8 x k)=pre++if ya8 x k (gx l t)=true then [gx l t] else []:=by
      rw [hp,List.take_add_one,List.getElem?_eq_getElem htl,←yaM htl]
      simp only [Option.toList_some]
      rw [List.filter_append,List.filter_cons,List.filter_nil]
    refine ⟨by omega,ycD v1 hm hx (v2.mono (by decide)) ⟨o1,ycD rfl (by omega) (v2.mono (by decide)) (v2.mono (by decide)) ⟨o2,fun q=>?_,fun q=>?_⟩⟩⟩
    · rw [if_pos (show ya8 x k (gx l t)=true from decide_eq_true q)] at hsn
      refine ⟨?_,Cnt.next htl (by omega) hsn.symm,trivial⟩
      rw [←hsn]
      exact (List.take_prefix _ _).filter _
    · rw [if_neg (show ¬ya8 x k (gx l t)=true from fun z=>q (of_decide_eq_true z)),List.append_nil] at hsn
      exact Cnt.next htl (by omega) hsn.symm
  · have:t=l.length:=by omega
    subst this
    rw [List.take_length] at hp
    exact hp
theorem step_none:ydR l x k=none↔l.filter (ya8 x k)=[]:=by
  unfold ydR
  rw [List.find?_eq_none,List.filter_eq_nil_iff]
theorem step_head{v:List Int}{t:List (List Int)}(h:[v] <+: l.filter (ya8 x k)):ydR l x k=some v:=by
  unfold ydR
  rw [←List.head?_filter]
  obtain ⟨t,ht⟩:=h
  rw [←ht];rfl
theorem yh6{v:List Int}(h:ydR l x k=some v):v∈l∧k*dotL v v<2*dotL x v:=by
  have h2:ya8 x k v=true:=List.find?_some (p:=ya8 x k) h
  exact ⟨List.mem_of_find?_eq_some h,of_decide_eq_true h2⟩
theorem dot_lessL(v:List Int):dotL (ybi x v) (ybi x v)=dotL x x-2*dotL x v+dot_ x.length (gi v) (gi v):=by
  unfold dotL
  rw [ybl,←ygA]
  exact ybA (fun i hi=>ybS hi) fun i hi=>ybS hi
theorem yiu{v:List Int}(hv:Vs x.length l)(h:ydR l x 1=some v):dotL (ybi x v) (ybi x v)<dotL x x:=by
  obtain ⟨h1,h2⟩:=yh6 h
  rw [dot_lessL,show dot_ x.length (gi v) (gi v)=dotL v v by unfold dotL;rw [(hv v h1).1]]
  omega
end
def slF(l:List (List Int)):Nat→List Int→Nat→Option (List Int×Nat)
  | 0,x,n=>match ydR l x 1 with
    | none=>some (x,n)
    | some _=>none
  | f+1,x,n=>match ydR l x 1 with
    | none=>some (x,n)
    | some v=>slF l f (ybi x v) (n+1)
section
variable {l : List (List Int)} {x : List Int}
theorem yej{f n:Nat}(h:ydR l x 1=none):slF l f x n=some (x,n):=by
  cases f <;> simp only [slF,h]
theorem ygd{f n:Nat}{v:List Int}(h:ydR l x 1=some v):slF l (f+1) x n=slF l f (ybi x v) (n+1):=by
  simp only [slF,h]
theorem yis{n:Nat}{v:List Int}(h:ydR l x 1=some v):slF l 0 x n=none:=by
  simp only [slF,h]
theorem slF_le:∀ {f:Nat} {x:List Int} {n:Nat} {y:List Int} {k:Nat},slF l f x n=some (y,k)→k≤n+f∧ydR l y 1=none
  | 0,x,n,y,k,h=>by
    cases hs:ydR l x 1 with
    | none=>rw [yej hs] at h;cases h;exact ⟨Nat.le_refl _,hs⟩
    | some v=>rw [yis hs] at h;cases h
  | f+1,x,n,y,k,h=>by
    cases hs:ydR l x 1 with
    | none=>rw [yej hs] at h;cases h;exact ⟨by omega,hs⟩
    | some v =>
      rw [ygd hs] at h
      obtain ⟨h1,h2⟩:=slF_le h
      exact ⟨by omega,h2⟩
structure SlOk(l:List (List Int))(x:List Int):Prop where
  len:l.length≤1000000000
  vs:Vs x.length l
  m:x.length≤1000
  sq:dotL x x≤4000000000000
theorem SlOk.bd(h:SlOk l x):Bd 2000000 x:=yiA (by have:=h.sq;omega)
theorem SlOk.next(h:SlOk l x){v:List Int}(hs:ydR l x 1=some v):SlOk l (ybi x v) where
  len:=h.len
  vs:=by rw [ybl];exact h.vs
  m:=by rw [ybl];exact h.m
  sq:=by have:=yiu h.vs hs;have:=h.sq;omega
theorem yfp(H:SlOk l x)(hne:∀ v∈l,v≠[]){R:List Int→Int→Bool→Prop}(h1:∀ y k,slF l 4096 x 0=some (y,k)→R y (k:Nat) true)(h2:slF l 4096 x 0=none→R [] 0 false):yb4 l x R:=by
  refine yiP (by have:=H.m;omega) ⟨fun m y n=>∃ k:Nat,n=k∧k+m=4096∧SlOk l y∧slF l m y k=slF l 4096 x 0,⟨4096,0,rfl,rfl,H,rfl⟩,?_⟩
  rintro m y n ⟨k,rfl,hkm,Hy,he⟩
  refine ⟨_,_,yeo Hy.len Hy.vs Hy.m Hy.bd (by decide),fun p v=>p=[v]∧ydR l y 1=some v,fun p=>p=[],rfl,?_,?_,?_⟩
  · rintro pre v rfl hp
    exact ⟨rfl,step_head (t:=[]) hp⟩
  · rintro ys rfl hr
    have hs:=step_none.2 hr.symm
    rw [yej hs] at he
    exact h1 y k he.symm
  · rintro ys first ⟨rfl,hs⟩ nil hnil
    have hm:=(yh6 hs).1
    refine ⟨fun q=>absurd (hnil q) (hne _ hm),fun _=>⟨fun q=>?_,fun q=>?_⟩⟩
    · have:m=0:=by omega
      subst this
      rw [yis hs] at he
      exact h2 he.symm
    · obtain ⟨m',rfl⟩:∃ m',m=m'+1:=⟨m-1,by omega⟩
      obtain ⟨v1,v2⟩:=Hy.vs _ hm
      refine ydE v1 Hy.m (Hy.bd.mono (by decide)) (v2.mono (by decide)) ⟨i64 (by omega),m',by omega,k+1,by omega,by omega,Hy.next hs,?_⟩
      rw [←he,ygd hs]
end
end Go.Proofs.YtencmgolklfmkaaGreat

/- Errors of graphs and vectors; Cycles, Slice and Inside, of program and reference. -/
namespace Go.Proofs.YtencmgolklfmkaaGreat
open Go Go.RowKit Go.Shelf Go.Proofs.Tryz
set_option maxRecDepth 100000
def smlE(n:Int)(es:List E3):Int:=if ybx n es≠0 then ybx n es else if 14<(ybd es).length then 12 else 0
def inR(a:Int):Bool:=decide (-1048576≤a∧a≤1048576)
def vecE(n:Int)(es:List E3)(x:List Int):Int:=if smlE n es≠0 then smlE n es else if x.length≠(ybd es).length then 8 else if x.all inR then 0 else 2
theorem yjh{n:Int}{es:List E3}(h:smlE n es=0):ybx n es=0∧(ybd es).length≤14:=by
  unfold smlE at h
  by_cases q:ybx n es=0
  · rw [if_neg (fun z=>z q)] at h
    by_cases c:14<(ybd es).length
    · rw [if_pos c] at h;omega
    · exact ⟨q,by omega⟩
  · rw [if_pos q] at h;exact absurd h q
theorem ye0{n:Int}{es:List E3}{x:List Int}(h:vecE n es x=0):smlE n es=0∧x.length=(ybd es).length∧x.all inR=true:=by
  unfold vecE at h
  by_cases q:smlE n es=0
  · rw [if_neg (fun z=>z q)] at h
    by_cases c:x.length=(ybd es).length
    · rw [if_neg (fun z=>z c)] at h
      by_cases d:x.all inR=true
      · exact ⟨q,c,d⟩
      · rw [if_neg d] at h;omega
    · rw [if_pos c] at h;omega
  · rw [if_pos q] at h;exact absurd h q
section
variable {n : Int} {es : List E3} {x : List Int}
theorem yfY{R:List (Int×Int)→Int→Prop}(hl:es.length≤100)(h1:smlE n es≠0→R [] (smlE n es))(h2:smlE n es=0→R (ybd es) 0):yco n es R:=by
  refine ycZ hl (fun q=>⟨fun z=>absurd z q,fun _=>?_⟩) fun q=>⟨fun _=>⟨fun c=>?_,fun c=>?_⟩,fun z=>absurd rfl z⟩
  · have e:smlE n es=ybx n es:=by unfold smlE;rw [if_pos q]
    rw [e] at h1;exact h1 q
  · have e:smlE n es=12:=by unfold smlE;rw [if_neg (fun z=>z q),if_pos (by omega)]
    rw [e] at h1;exact h1 (by decide)
  · exact h2 (by unfold smlE;rw [if_neg (fun z=>z q),if_neg (by omega)])
theorem yiC{R:List (List Int)→Int→Prop}(hl:es.length≤100)(h1:vecE n es x≠0→R [] (vecE n es x))(h2:vecE n es x=0→yba (ybd es) n (fun r=>R r 0)):yby n es x R:=by
  refine yfY hl (fun q=>⟨fun z=>absurd z q,fun _=>?_⟩) fun q=>⟨fun _=>⟨fun c=>?_,fun c=>?_⟩,fun z=>absurd rfl z⟩
  · have e:vecE n es x=smlE n es:=by unfold vecE;rw [if_pos q]
    rw [e] at h1;exact h1 q
  · have hlen:=(yjh q).2
    have hx:vecE n es x=if x.all inR then 0 else 2:=by unfold vecE;rw [if_neg (fun z=>z q),if_neg (fun z=>z (by omega))]
    refine ⟨Cnt x.length (fun k=>∀ j,j<k→inR (gi x j)=true),Cnt.start (fun j hj=>by omega),?_⟩
    rintro m _ ⟨k,rfl,rfl,hk,hj⟩
    have bad:k<x.length→inR (gi x k)=false→R [] 2:=fun hkl hb=>by
      have:x.all inR=false:=by
        rw [List.all_eq_false]
        exact ⟨gi x k,yjg hkl,by simp [hb]⟩
      rw [this] at hx
      rw [hx] at h1
      exact h1 (by decide)
    refine ⟨fun hlt=>?_,fun hge=>?_⟩
    · have hkl:k<x.length:=by omega
      rw [Int.toNat_natCast]
      refine ⟨by omega,fun q1=>bad hkl (decide_eq_false (by omega)),fun q1=>⟨fun q2=>bad hkl (decide_eq_false (by omega)),fun q2=>Cnt.next hkl (by omega) fun j hj2=>?_⟩⟩
      by_cases e:j=k
      · rw [e];exact decide_eq_true (by omega)
      · exact hj j (by omega)
    · have:k=x.length:=by omega
      subst this
      have:x.all inR=true:=by
        rw [List.all_eq_true]
        intro a ha
        obtain ⟨j,hj2,rfl⟩:=List.getElem_of_mem ha
        have:=hj j hj2
        rwa [ybe hj2] at this
      rw [this] at hx
      exact h2 hx
  · have e:vecE n es x=8:=by unfold vecE;rw [if_neg (fun z=>z q),if_pos (by omega)]
    rw [e] at h1;exact h1 (by decide)
structure FewP(n:Int)(es:List E3)(x:List Int):Prop where
  es40:es.length≤40
  x60:x.length≤60
  sm:yat n es=0→(ybd es).length≤14→n≤5∧(ybd es).length≤8
  rng:∀ i,i<x.length→inR (gi x i)=true→(gi x i).natAbs≤400
theorem size_eq(h:yat n es=0):(es.map (·.2.2)).sum=((ybd es).length:Int):=by
  obtain ⟨k,rfl,G⟩:=gr_of h
  rw [G.size]
theorem p_r08_FewTrees{R:Bool→Prop}(h:R (smallF n es 5 8)):ydh n es R:=p_r08_small h
theorem small_getV{a b:Int}(h:smallF n es a b=true):es.length≤40∧(yat n es=0→n≤a∧((ybd es).length:Int)≤b):=by
  obtain ⟨h1,h2⟩:=of_decide_eq_true h
  exact ⟨h1,fun q=>by rw [←size_eq q];exact h2 q⟩
end
end Go.Proofs.YtencmgolklfmkaaGreat

/- Pure forms of functions, made by program (pf.py), each with the proof that the code does so. -/
namespace Go.Proofs.YtencmgolklfmkaaGreat
open Go Go.RowKit Go.Shelf Go.Proofs.Tryz
set_option maxRecDepth 100000
set_option maxHeartbeats 8000000
def yc6(R:Int→(List E3)→Prop):Prop :=
R 3 ([(0,1,1),(0,2,1),(1,2,1)])
theorem yhz{O:Nat→Prop}{w:World}{R:Int→(List E3)→Prop}(h:yc6 R)(hO:∀ k,O k→k<w.heap.size) :
    Calls Tryz.prog 38 #[] w fun e w'=>∃ r r2 Ar lr cr,e = .returned (.agg #[(ii r),(.slice Ar lr cr)])∧Sep w no O w' (rl [Res.own c3 93 Ar lr cr r2])∧R r r2:=by
  unfold yc6 at h;have hS:Sep w no O w (rl []):=Sep.start w hO;refine yal (l:=[]) func38 rfl ntmps38 zY (zs (zn (yaS yak ?_)));intro g w2 hN;replace hS:Sep w no O w2 (stl _ 0 (Res.box 24 g [(ii 0),(.slice none 0 0)])):=hS.new 0 rfl hN;clear hN;refine zb (yaa (zs (zn (ycw (l:=[(0,(ii 0)),(1,(ii 1)),(2,(ii 1))]) (cells:=[(ii 0),(ii 1),(ii 1)]) (places:=[(0,1),(1,1),(2,1)]) (bp3 rfl rfl rfl) underlying93 yaT (by kernel_rfl) rfl ?_))));refine zb (zn (ycw (l:=[(0,(ii 0)),(1,(ii 2)),(2,(ii 1))]) (cells:=[(ii 0),(ii 2),(ii 1)]) (places:=[(0,1),(1,1),(2,1)]) (bp3 rfl rfl rfl) underlying93 yaT (by kernel_rfl) rfl ?_));refine zb (zn (ycw (l:=[(0,(ii 1)),(1,(ii 2)),(2,(ii 1))]) (cells:=[(ii 1),(ii 2),(ii 1)]) (places:=[(0,1),(1,1),(2,1)]) (bp3 rfl rfl rfl) underlying93 yaT (by kernel_rfl) rfl ?_));refine zb (zn (yaK (l:=[(0,(.agg #[(ii 0),(ii 1),(ii 1)])),(1,(.agg #[(ii 0),(ii 2),(ii 1)])),(2,(.agg #[(ii 1),(ii 2),(ii 1)]))]) (cells:=[(ii 0),(ii 1),(ii 1),(ii 0),(ii 2),(ii 1),(ii 1),(ii 2),(ii 1)]) (bp3 rfl rfl rfl) underlying22 yaT rfl rfl ?_));intro g2 w3 hN;replace hS:=hS.litf (n:=3) 1 rfl (fP (fI .i64) (fP (fI .i64) (fI .i64))) hN ([(0,1,1),(0,2,1),(1,2,1)]:List E3) rfl (by decide) rfl;clear hN;refine zb (zn (ycw (l:=[(0,(ii 3)),(1,(.slice (some ⟨g2,0,none⟩) 3 3))]) (cells:=[(ii 3),(.slice (some ⟨g2,0,none⟩) 3 3)]) (places:=[(0,1),(1,1)]) (bp2 rfl rfl) underlying24 yak (by kernel_rfl) rfl ?_));refine zb (zo (yaQ (b:=g) (o:=0) (cells:=#[(ii 3),(.slice (some ⟨g2,0,none⟩) 3 3)]) rfl rfl yak rfl rfl (yaL (hS.bx 0 rfl) zY) ?_));intro w4 e1;replace hS:=hS.bstn 0 rfl 0 [(ii 3),(.slice (some ⟨g2,0,none⟩) 3 3)] e1;clear e1;exact zb (yaa (ygc rfl (rv_n (vs:=[(ii 3),(.slice (some ⟨g2,0,none⟩) 3 3)]) rfl underlying24 rfl yak ⟨Row.cell (hS.bx 0 rfl) (i:=0) rfl,Row.cell (hS.bx 0 rfl) (i:=1) rfl,trivial⟩) ⟨_,_,_,_,_,rfl,(hS.sel [1]),h⟩))
def yb9(R:Bool→Prop):Prop :=
yc6 (fun r r2 =>
yb7 r r2 (fun r3 r4 =>
ybj r r2 (fun r5 r6 =>
yc3 r r2 ([2, -1,1]) (fun r7 r8 r9 =>
yct r r2 ([3,0,0]) (fun r10 r11 r12 =>
yb6 r r2 ([3,0,0]) 2 (fun r13 r14 =>
yb6 r r2 ([4,0,0]) 2 (fun r15 r16 =>
(In64 (r4+r6) ∧
(In64 ((r4+r6)+r9) ∧
(In64 (((r4+r6)+r9)+r12) ∧
(In64 ((((r4+r6)+r9)+r12)+r14) ∧
(In64 (((((r4+r6)+r9)+r12)+r14)+r16) ∧
(((((((r4+r6)+r9)+r12)+r14)+r16)=0 →
ya0 r3 ([[-1,1, -1],[1, -1,1]]) (fun r17 =>
((r17=true →
ya0 r5 ([[-1, -1,0],[-1,0,1],[0, -1, -1],[0,1,1],[1,0, -1],[1,1,0]]) (fun r18 =>
((r18=true →
yaO r7 ([1,0,0]) (fun r19 =>
((r19=true →
((r8=1 →
ya0 r10 ([[1, -1,1]]) (fun r20 =>
((r20=true →
((r11=6 →
((r13=true →
R (!(r15))) ∧
(¬(r13=true) →
R false))) ∧
(¬(r11=6) →
R false))) ∧
(¬(r20=true) →
R false)))) ∧
(¬(r8=1) →
R false))) ∧
(¬(r19=true) →
R false)))) ∧
(¬(r18=true) →
R false)))) ∧
(¬(r17=true) →
R false)))) ∧
(¬((((((r4+r6)+r9)+r12)+r14)+r16)=0) →
R false))))))))))))))
theorem ygE{O:Nat→Prop}{w:World}{R:Bool→Prop}(h:yb9 R)(hO:∀ k,O k→k<w.heap.size) :
    Calls Tryz.prog 9 #[] w fun e w'=>∃ r21,e = .returned (.bool (r21))∧Sep w no O w' (rl [])∧R r21:=by
  unfold yb9 at h;have hS:Sep w no O w (rl []):=Sep.start w hO;refine yal (l:=[]) func9 rfl ntmps9 zY (zs (zQ (.bool (false)) (yaa (zs (zn (yai rfl (am0) enter_38 ((yhz h (yaz _)).mono ?_)))))));rintro _ w2 ⟨r,r2,Ar,lr,cr,rfl,hC,h⟩;replace hS:=hS.call1 (hC.widen (ycv (yaP (fP (fI .i64) (fP (fI .i64) (fI .i64))) _ _ _ _ _) ycH) hS.blt) 0 0 rfl;clear hC;refine ⟨_,rfl,?_⟩;refine zb (zn (yaS yak ?_));intro g w3 hN;replace hS:Sep w no O w3 (stl _ 1 (Res.box 24 g [(ii 0),(.slice none 0 0)])):=hS.new 1 rfl hN;clear hN;refine zb (zo (yaQ (b:=g) (o:=0) (cells:=#[(ii r),(.slice Ar lr cr)]) rfl rfl yak rfl rfl (yaL (hS.bx 1 rfl) zY) ?_));intro w4 e1;replace hS:=hS.bstn 1 rfl 0 [(ii r),(.slice Ar lr cr)] e1;clear e1;refine zb (yaa (zs (zq (yao (vs:=[(ii r),(.slice Ar lr cr)]) rfl underlying24 rfl yak ⟨Row.cell (hS.bx 1 rfl) (i:=0) rfl,Row.cell (hS.bx 1 rfl) (i:=1) rfl,trivial⟩) ?_)));replace hS:=hS.frz 0 rfl;refine zn (yai rfl (am1 rfl) enter_10 ((yem h hS.blt (hS.ro 0 rfl)).mono ?_));rintro _ w5 ⟨r3,r4,Ar2,lr2,cr2,rfl,hC,h⟩;replace hS:=hS.call1 hC 2 0 rfl;clear hC;refine ⟨_,rfl,?_⟩;refine zb (zM (.tuple #[(.slice Ar2 lr2 cr2),(ii r4)]) (zq (zx (.slice Ar2 lr2 cr2)) (zq (zx (ii r4)) (zQ (.slice Ar2 lr2 cr2) (zQ (ii r4) (yaa (zs (zq (yao (vs:=[(ii r),(.slice Ar lr cr)]) rfl underlying24 rfl yak ⟨Row.cell (hS.bx 1 rfl) (i:=0) rfl,Row.cell (hS.bx 1 rfl) (i:=1) rfl,trivial⟩) (zn (yai rfl (am1 rfl) enter_12 ((yeU h hS.blt (hS.ro 0 rfl)).mono ?_)))))))))));rintro _ w6 ⟨r5,r6,Ar3,lr3,cr3,rfl,hC,h⟩;replace hS:=hS.call1 hC 3 0 rfl;clear hC;refine ⟨_,rfl,?_⟩;refine zb (zM (.tuple #[(.slice Ar3 lr3 cr3),(ii r6)]) (zq (zx (.slice Ar3 lr3 cr3)) (zq (zx (ii r6)) (zQ (.slice Ar3 lr3 cr3) (zQ (ii r6) (yaa (zs (zq (yao (vs:=[(ii r),(.slice Ar lr cr)]) rfl underlying24 rfl yak ⟨Row.cell (hS.bx 1 rfl) (i:=0) rfl,Row.cell (hS.bx 1 rfl) (i:=1) rfl,trivial⟩) (zn (yaK (l:=[(0,(ii 2)),(1,(ii (-1))),(2,(ii 1))]) (cells:=[(ii 2),(ii (-1)),(ii 1)]) (bp3 rfl rfl rfl) underlying35 yag rfl rfl ?_))))))))));intro g2 w7 hN;replace hS:=hS.litf (n:=3) 4 rfl (fI .i64) hN ([2, -1,1]:List Int) rfl (by decide) rfl;clear hN;refine zb ?_;replace hS:=hS.frz 4 rfl;refine zn (yai rfl (am2 rfl rfl) enter_15 ((yg8 h hS.blt (hS.ro 0 rfl) (hS.ro 4 rfl)).mono ?_));rintro _ w8 ⟨r7,r8,r9,Ar4,lr4,cr4,rfl,hC,h⟩;replace hS:=hS.call1 hC 5 0 rfl;clear hC;refine ⟨_,rfl,?_⟩;refine zb (zM (.tuple #[(.slice Ar4 lr4 cr4),(ii r8),(ii r9)]) (zq (zx (.slice Ar4 lr4 cr4)) (zq (zx (ii r8)) (zq (zx (ii r9)) (zQ (.slice Ar4 lr4 cr4) (zQ (ii r8) (zQ (ii r9) (yaa (zs (zq (yao (vs:=[(ii r),(.slice Ar lr cr)]) rfl underlying24 rfl yak ⟨Row.cell (hS.bx 1 rfl) (i:=0) rfl,Row.cell (hS.bx 1 rfl) (i:=1) rfl,trivial⟩) (zn (yaK (l:=[(0,(ii 3)),(1,(ii 0)),(2,(ii 0))]) (cells:=[(ii 3),(ii 0),(ii 0)]) (bp3 rfl rfl rfl) underlying35 yag rfl rfl ?_))))))))))));intro g3 w9 hN;replace hS:=hS.litf (n:=3) 6 rfl (fI .i64) hN ([3,0,0]:List Int) rfl (by decide) rfl;clear hN;refine zb ?_;replace hS:=hS.frz 6 rfl;refine zn (yai rfl (am2 rfl rfl) enter_21 ((ygq h hS.blt (hS.ro 0 rfl) (hS.ro 6 rfl)).mono ?_));rintro _ w10 ⟨r10,r11,r12,Ar5,lr5,cr5,rfl,hC,h⟩;replace hS:=hS.call1 hC 7 0 rfl;clear hC;refine ⟨_,rfl,?_⟩;refine zb (zM (.tuple #[(.slice Ar5 lr5 cr5),(ii r11),(ii r12)]) (zq (zx (.slice Ar5 lr5 cr5)) (zq (zx (ii r11)) (zq (zx (ii r12)) (zQ (.slice Ar5 lr5 cr5) (zQ (ii r11) (zQ (ii r12) (yaa (zs (zq (yao (vs:=[(ii r),(.slice Ar lr cr)]) rfl underlying24 rfl yak ⟨Row.cell (hS.bx 1 rfl) (i:=0) rfl,Row.cell (hS.bx 1 rfl) (i:=1) rfl,trivial⟩) (zn (yaK (l:=[(0,(ii 3)),(1,(ii 0)),(2,(ii 0))]) (cells:=[(ii 3),(ii 0),(ii 0)]) (bp3 rfl rfl rfl) underlying35 yag rfl rfl ?_))))))))))));intro g4 w11 hN;replace hS:=hS.litf (n:=3) 8 rfl (fI .i64) hN ([3,0,0]:List Int) rfl (by decide) rfl;clear hN;refine zb (zn (yai rfl (am3 rfl rfl rfl) ykP ((yen h (yaz _) (hS.rdr 0 rfl) (hS.rdo 8 rfl)).mono ?_)));rintro _ w12 ⟨r13,r14,rfl,hC,h⟩;replace hS:=hS.pur hC.pure;clear hC;refine ⟨_,rfl,?_⟩;refine zb (zM (.tuple #[(.bool (r13)),(ii r14)]) (zq (zx (.bool (r13))) (zq (zx (ii r14)) (zQ (.bool (r13)) (zQ (ii r14) (yaa (zs (zq (yao (vs:=[(ii r),(.slice Ar lr cr)]) rfl underlying24 rfl yak ⟨Row.cell (hS.bx 1 rfl) (i:=0) rfl,Row.cell (hS.bx 1 rfl) (i:=1) rfl,trivial⟩) (zn (yaK (l:=[(0,(ii 4)),(1,(ii 0)),(2,(ii 0))]) (cells:=[(ii 4),(ii 0),(ii 0)]) (bp3 rfl rfl rfl) underlying35 yag rfl rfl ?_))))))))));intro g5 w13 hN;replace hS:=hS.litf (n:=3) 9 rfl (fI .i64) hN ([4,0,0]:List Int) rfl (by decide) rfl;clear hN;refine zb (zn (yai rfl (am3 rfl rfl rfl) ykP ((yen h (yaz _) (hS.rdr 0 rfl) (hS.rdo 9 rfl)).mono ?_)));rintro _ w14 ⟨r15,r16,rfl,hC,h⟩;replace hS:=hS.pur hC.pure;clear hC;refine ⟨_,rfl,?_⟩;refine zb (zM (.tuple #[(.bool (r15)),(ii r16)]) (zq (zx (.bool (r15))) (zq (zx (ii r16)) (zQ (.bool (r15)) (zQ (ii r16) (yaa (zs (zM (ii r4) (zM (ii r6) ?_)))))))));obtain ⟨hi,h⟩:=h;refine zq (zA hi) (zM (ii r9) ?_);obtain ⟨hi2,h⟩:=h;refine zq (zA hi2) (zM (ii r12) ?_);obtain ⟨hi3,h⟩:=h;refine zq (zA hi3) ?_
  refine zM (ii r14) ?_;obtain ⟨hi4,h⟩:=h;refine zq (zA hi4) (zM (ii r16) ?_);obtain ⟨hi5,h⟩:=h;refine zq (zA hi5) (zq zE (zM (.bool (decide ((((((r4+r6)+r9)+r12)+r14)+r16)=0))) ?_));by_cases hp:(((((r4+r6)+r9)+r12)+r14)+r16)=0
  · replace h:=h.1 hp;refine zW rfl rfl (zT hp) (zm (.slice Ar2 lr2 cr2)) (rl_n (yaA rfl (ybc rfl (zT hp))) rfl rfl rfl (yaK (l:=[(0,(ii (-1))),(1,(ii 1)),(2,(ii (-1)))]) (cells:=[(ii (-1)),(ii 1),(ii (-1))]) (bp3 rfl rfl rfl) underlying35 yag rfl rfl ?_));intro g6 w15 hN;replace hS:=hS.litf (n:=3) 10 rfl (fI .i64) hN ([-1,1, -1]:List Int) rfl (by decide) rfl;clear hN;refine zb (rl_n (yaA rfl (ybc rfl (zT hp))) rfl rfl rfl (yaK (l:=[(0,(ii 1)),(1,(ii (-1))),(2,(ii 1))]) (cells:=[(ii 1),(ii (-1)),(ii 1)]) (bp3 rfl rfl rfl) underlying35 yag rfl rfl ?_));intro g7 w16 hN;replace hS:=hS.litf (n:=3) 11 rfl (fI .i64) hN ([1, -1,1]:List Int) rfl (by decide) rfl;clear hN;refine zb ?_;replace hS:=hS.frz 10 rfl;replace hS:=hS.frz 11 rfl;refine rl_n (yaA rfl (ybc rfl (zT hp))) rfl rfl rfl (yaK (l:=[(0,(.slice (some ⟨g6,0,none⟩) 3 3)),(1,(.slice (some ⟨g7,0,none⟩) 3 3))]) (cells:=[(.slice (some ⟨g6,0,none⟩) 3 3),(.slice (some ⟨g7,0,none⟩) 3 3)]) (bp2 rfl rfl) underlying27 yaJ rfl rfl ?_);intro g8 w17 hN;replace hS:=hS.lit (n:=2) (c:=(cL cI)) 12 rfl hN ([[-1,1, -1],[1, -1,1]]:List (List Int)) rfl (by decide) ⟨[(.slice (some ⟨g6,0,none⟩) 3 3)],_,rfl,(ro_R (hS.ro 10 rfl)),⟨[(.slice (some ⟨g7,0,none⟩) 3 3)],_,rfl,(ro_R (hS.ro 11 rfl)),rfl⟩⟩;clear hN;refine zb (rl_n (yaA rfl (ybc rfl (zT hp))) rfl rfl rfl (yai rfl (am2 rfl rfl) ygP ((yb2 h (yaz _) (hS.rdr 2 rfl) (hS.rdo 12 rfl)).mono ?_)));rintro _ w18 ⟨r17,rfl,hC,h⟩;replace hS:=hS.pur hC.pure;clear hC;refine ⟨_,rfl,?_⟩;refine zb (zq (yan (v:=(.bool (r17))) (zT hp) rfl) (zM (.bool (r17)) ?_));by_cases hp2:r17=true
    · replace h:=h.1 hp2;refine zW rfl rfl (zC hp2) (zm (.slice Ar3 lr3 cr3)) (rl_n (yaA rfl (ybc rfl (zC hp2))) rfl rfl rfl (yaK (l:=[(0,(ii (-1))),(1,(ii (-1))),(2,(ii 0))]) (cells:=[(ii (-1)),(ii (-1)),(ii 0)]) (bp3 rfl rfl rfl) underlying35 yag rfl rfl ?_));intro g9 w19 hN;replace hS:=hS.litf (n:=3) 13 rfl (fI .i64) hN ([-1, -1,0]:List Int) rfl (by decide) rfl;clear hN;refine zb (rl_n (yaA rfl (ybc rfl (zC hp2))) rfl rfl rfl (yaK (l:=[(0,(ii (-1))),(1,(ii 0)),(2,(ii 1))]) (cells:=[(ii (-1)),(ii 0),(ii 1)]) (bp3 rfl rfl rfl) underlying35 yag rfl rfl ?_));intro g10 w20 hN;replace hS:=hS.litf (n:=3) 14 rfl (fI .i64) hN ([-1,0,1]:List Int) rfl (by decide) rfl;clear hN;refine zb (rl_n (yaA rfl (ybc rfl (zC hp2))) rfl rfl rfl (yaK (l:=[(0,(ii 0)),(1,(ii (-1))),(2,(ii (-1)))]) (cells:=[(ii 0),(ii (-1)),(ii (-1))]) (bp3 rfl rfl rfl) underlying35 yag rfl rfl ?_));intro g11 w21 hN;replace hS:=hS.litf (n:=3) 15 rfl (fI .i64) hN ([0, -1, -1]:List Int) rfl (by decide) rfl;clear hN;refine zb (rl_n (yaA rfl (ybc rfl (zC hp2))) rfl rfl rfl (yaK (l:=[(0,(ii 0)),(1,(ii 1)),(2,(ii 1))]) (cells:=[(ii 0),(ii 1),(ii 1)]) (bp3 rfl rfl rfl) underlying35 yag rfl rfl ?_));intro g12 w22 hN;replace hS:=hS.litf (n:=3) 16 rfl (fI .i64) hN ([0,1,1]:List Int) rfl (by decide) rfl;clear hN;refine zb (rl_n (yaA rfl (ybc rfl (zC hp2))) rfl rfl rfl (yaK (l:=[(0,(ii 1)),(1,(ii 0)),(2,(ii (-1)))]) (cells:=[(ii 1),(ii 0),(ii (-1))]) (bp3 rfl rfl rfl) underlying35 yag rfl rfl ?_));intro g13 w23 hN;replace hS:=hS.litf (n:=3) 17 rfl (fI .i64) hN ([1,0, -1]:List Int) rfl (by decide) rfl;clear hN;refine zb (rl_n (yaA rfl (ybc rfl (zC hp2))) rfl rfl rfl (yaK (l:=[(0,(ii 1)),(1,(ii 1)),(2,(ii 0))]) (cells:=[(ii 1),(ii 1),(ii 0)]) (bp3 rfl rfl rfl) underlying35 yag rfl rfl ?_));intro g14 w24 hN;replace hS:=hS.litf (n:=3) 18 rfl (fI .i64) hN ([1,1,0]:List Int) rfl (by decide) rfl;clear hN;refine zb ?_;replace hS:=hS.frz 13 rfl;replace hS:=hS.frz 14 rfl;replace hS:=hS.frz 15 rfl;replace hS:=hS.frz 16 rfl;replace hS:=hS.frz 17 rfl;replace hS:=hS.frz 18 rfl;refine rl_n (yaA rfl (ybc rfl (zC hp2))) rfl rfl rfl (yaK (l:=[(0,(.slice (some ⟨g9,0,none⟩) 3 3)),(1,(.slice (some ⟨g10,0,none⟩) 3 3)),(2,(.slice (some ⟨g11,0,none⟩) 3 3)),(3,(.slice (some ⟨g12,0,none⟩) 3 3)),(4,(.slice (some ⟨g13,0,none⟩) 3 3)),(5,(.slice (some ⟨g14,0,none⟩) 3 3))]) (cells:=[(.slice (some ⟨g9,0,none⟩) 3 3),(.slice (some ⟨g10,0,none⟩) 3 3),(.slice (some ⟨g11,0,none⟩) 3 3),(.slice (some ⟨g12,0,none⟩) 3 3),(.slice (some ⟨g13,0,none⟩) 3 3),(.slice (some ⟨g14,0,none⟩) 3 3)]) (bp6 rfl rfl rfl rfl rfl rfl) underlying27 yaJ rfl rfl ?_);intro g15 w25 hN;replace hS:=hS.lit (n:=6) (c:=(cL cI)) 19 rfl hN ([[-1, -1,0],[-1,0,1],[0, -1, -1],[0,1,1],[1,0, -1],[1,1,0]]:List (List Int)) rfl (by decide) ⟨[(.slice (some ⟨g9,0,none⟩) 3 3)],_,rfl,(ro_R (hS.ro 13 rfl)),⟨[(.slice (some ⟨g10,0,none⟩) 3 3)],_,rfl,(ro_R (hS.ro 14 rfl)),⟨[(.slice (some ⟨g11,0,none⟩) 3 3)],_,rfl,(ro_R (hS.ro 15 rfl)),⟨[(.slice (some ⟨g12,0,none⟩) 3 3)],_,rfl,(ro_R (hS.ro 16 rfl)),⟨[(.slice (some ⟨g13,0,none⟩) 3 3)],_,rfl,(ro_R (hS.ro 17 rfl)),⟨[(.slice (some ⟨g14,0,none⟩) 3 3)],_,rfl,(ro_R (hS.ro 18 rfl)),rfl⟩⟩⟩⟩⟩⟩;clear hN;refine zb (rl_n (yaA rfl (ybc rfl (zC hp2))) rfl rfl rfl (yai rfl (am2 rfl rfl) ygP ((yb2 h (yaz _) (hS.rdo 3 rfl) (hS.rdo 19 rfl)).mono ?_)));rintro _ w26 ⟨r18,rfl,hC,h⟩;replace hS:=hS.pur hC.pure;clear hC;refine ⟨_,rfl,?_⟩;refine zb (zq (yan (v:=(.bool (r18))) (zC hp2) rfl) (zM (.bool (r18)) ?_));by_cases hp3:r18=true
      · replace h:=h.1 hp3;refine zW rfl rfl (zC hp3) (zm (.slice Ar4 lr4 cr4)) (rl_n (yaA rfl (ybc rfl (zC hp3))) rfl rfl rfl (yaK (l:=[(0,(ii 1)),(1,(ii 0)),(2,(ii 0))]) (cells:=[(ii 1),(ii 0),(ii 0)]) (bp3 rfl rfl rfl) underlying35 yag rfl rfl ?_));intro g16 w27 hN;replace hS:=hS.litf (n:=3) 20 rfl (fI .i64) hN ([1,0,0]:List Int) rfl (by decide) rfl;clear hN;refine zb (rl_n (yaA rfl (ybc rfl (zC hp3))) rfl rfl rfl (yai rfl (am2 rfl rfl) ykc ((yb8 h (yaz _) (hS.rdr 5 rfl) (hS.rdo 20 rfl)).mono ?_)));rintro _ w28 ⟨r19,rfl,hC,h⟩;replace hS:=hS.pur hC.pure;clear hC;refine ⟨_,rfl,?_⟩;refine zb (zq (yan (v:=(.bool (r19))) (zC hp3) rfl) (zM (.bool (r19)) ?_));by_cases hp4:r19=true
        · replace h:=h.1 hp4;refine zW rfl rfl (zC hp4) (zm (ii r8)) (zW rfl rfl (zC hp4) zE (zq (yan (v:=(.bool (decide (r8=1)))) (zC hp4) rfl) (zM (.bool (decide (r8=1))) ?_)));by_cases hp5:r8=1
          · replace h:=h.1 hp5;refine zW rfl rfl (zT hp5) (zm (.slice Ar5 lr5 cr5)) (rl_n (yaA rfl (ybc rfl (zT hp5))) rfl rfl rfl (yaK (l:=[(0,(ii 1)),(1,(ii (-1))),(2,(ii 1))]) (cells:=[(ii 1),(ii (-1)),(ii 1)]) (bp3 rfl rfl rfl) underlying35 yag rfl rfl ?_));intro g17 w29 hN;replace hS:=hS.litf (n:=3) 21 rfl (fI .i64) hN ([1, -1,1]:List Int) rfl (by decide) rfl;clear hN;refine zb ?_;replace hS:=hS.frz 21 rfl;refine rl_n (yaA rfl (ybc rfl (zT hp5))) rfl rfl rfl (yaK (l:=[(0,(.slice (some ⟨g17,0,none⟩) 3 3))]) (cells:=[(.slice (some ⟨g17,0,none⟩) 3 3)]) (bp1 rfl) underlying27 yaJ rfl rfl ?_);intro g18 w30 hN;replace hS:=hS.lit (n:=1) (c:=(cL cI)) 22 rfl hN ([[1, -1,1]]:List (List Int)) rfl (by decide) ⟨[(.slice (some ⟨g17,0,none⟩) 3 3)],_,rfl,(ro_R (hS.ro 21 rfl)),rfl⟩;clear hN;refine zb (rl_n (yaA rfl (ybc rfl (zT hp5))) rfl rfl rfl (yai rfl (am2 rfl rfl) ygP ((yb2 h (yaz _) (hS.rdo 7 rfl) (hS.rdo 22 rfl)).mono ?_)));rintro _ w31 ⟨r20,rfl,hC,h⟩;replace hS:=hS.pur hC.pure;clear hC;refine ⟨_,rfl,?_⟩;refine zb (zq (yan (v:=(.bool (r20))) (zT hp5) rfl) (zM (.bool (r20)) ?_));by_cases hp6:r20=true
            · replace h:=h.1 hp6;refine zW rfl rfl (zC hp6) (zm (ii r11)) (zW rfl rfl (zC hp6) zE (zq (yan (v:=(.bool (decide (r11=6)))) (zC hp6) rfl) (zM (.bool (decide (r11=6))) ?_)));by_cases hp7:r11=6
              · replace h:=h.1 hp7;refine zW rfl rfl (zT hp7) (zm (.bool (r13))) (zq (yan (v:=(.bool (r13))) (zT hp7) rfl) (zM (.bool (r13)) ?_));by_cases hp8:r13=true
                · replace h:=h.1 hp8;exact zW rfl rfl (zC hp8) (zm (.bool (r15))) (zW rfl rfl (zC hp8) (yds rfl) (zq (yan (v:=(.bool (!(r15)))) (zC hp8) rfl) (zQ (.bool (!(r15))) (yaa (yah rfl rfl ⟨_,rfl,(hS.sel []),h⟩)))))
                · replace h:=h.2 hp8;exact zV rfl rfl (zC (zI hp8)) (zV rfl rfl (zC (zI hp8)) (zq (yaj (v:=(.bool (false))) (zC (zI hp8)) rfl) (zQ (.bool (false)) (yaa (yah rfl rfl ⟨_,rfl,(hS.sel []),h⟩)))))
              · replace h:=h.2 hp7;exact zV rfl rfl (zF hp7) (zq (yaj (v:=(.bool (false))) (zF hp7) rfl) (zM (.bool (false)) (zU (zU (zq (yaj (v:=(.bool (false))) rfl rfl) (zQ (.bool (false)) (yaa (yah rfl rfl ⟨_,rfl,(hS.sel []),h⟩))))))))
            · replace h:=h.2 hp6;exact zV rfl rfl (zC (zI hp6)) (zV rfl rfl (zC (zI hp6)) (zq (yaj (v:=(.bool (false))) (zC (zI hp6)) rfl) (zM (.bool (false)) (zU (zq (yaj (v:=(.bool (false))) rfl rfl) (zM (.bool (false)) (zU (zU (zq (yaj (v:=(.bool (false))) rfl rfl) (zQ (.bool (false)) (yaa (yah rfl rfl ⟨_,rfl,(hS.sel []),h⟩))))))))))))
          · replace h:=h.2 hp5;exact zV rfl rfl (zF hp5) (zV rfl rfl (zF hp5) (zV rfl rfl (zF hp5) (zV rfl rfl (zF hp5) (zq (yaj (v:=(.bool (false))) (zF hp5) rfl) (zM (.bool (false)) (zU (zU (zq (yaj (v:=(.bool (false))) rfl rfl) (zM (.bool (false)) (zU (zq (yaj (v:=(.bool (false))) rfl rfl) (zM (.bool (false)) (zU (zU (zq (yaj (v:=(.bool (false))) rfl rfl) (zQ (.bool (false)) (yaa (yah rfl rfl ⟨_,rfl,(hS.sel []),h⟩))))))))))))))))))
        · replace h:=h.2 hp4;exact zV rfl rfl (zC (zI hp4)) (zV rfl rfl (zC (zI hp4)) (zq (yaj (v:=(.bool (false))) (zC (zI hp4)) rfl) (zM (.bool (false)) (zU (zU (zU (zU (zq (yaj (v:=(.bool (false))) rfl rfl) (zM (.bool (false)) (zU (zU (zq (yaj (v:=(.bool (false))) rfl rfl) (zM (.bool (false)) (zU (zq (yaj (v:=(.bool (false))) rfl rfl) (zM (.bool (false)) (zU (zU (zq (yaj (v:=(.bool (false))) rfl rfl) (zQ (.bool (false)) (yaa (yah rfl rfl ⟨_,rfl,(hS.sel []),h⟩))))))))))))))))))))))
      · replace h:=h.2 hp3;exact zV rfl rfl (zC (zI hp3)) (zV rfl rfl (zC (zI hp3)) (zV rfl rfl (zC (zI hp3)) (zq (yaj (v:=(.bool (false))) (zC (zI hp3)) rfl) (zM (.bool (false)) (zU (zU (zq (yaj (v:=(.bool (false))) rfl rfl) (zM (.bool (false)) (zU (zU (zU (zU (zq (yaj (v:=(.bool (false))) rfl rfl) (zM (.bool (false)) (zU (zU (zq (yaj (v:=(.bool (false))) rfl rfl) (zM (.bool (false)) (zU (zq (yaj (v:=(.bool (false))) rfl rfl) (zM (.bool (false)) (zU (zU (zq (yaj (v:=(.bool (false))) rfl rfl) (zQ (.bool (false)) (yaa (yah rfl rfl ⟨_,rfl,(hS.sel []),h⟩)))))))))))))))))))))))))))
    · replace h:=h.2 hp2;exact zV rfl rfl (zC (zI hp2)) (zV rfl rfl (zC (zI hp2)) (zV rfl rfl (zC (zI hp2)) (zV rfl rfl (zC (zI hp2)) (zV rfl rfl (zC (zI hp2)) (zV rfl rfl (zC (zI hp2)) (zV rfl rfl (zC (zI hp2)) (zV rfl rfl (zC (zI hp2)) (zV rfl rfl (zC (zI hp2)) (zq (yaj (v:=(.bool (false))) (zC (zI hp2)) rfl) (zM (.bool (false)) (zU (zU (zU (zq (yaj (v:=(.bool (false))) rfl rfl) (zM (.bool (false)) (zU (zU (zq (yaj (v:=(.bool (false))) rfl rfl) (zM (.bool (false)) (zU (zU (zU (zU (zq (yaj (v:=(.bool (false))) rfl rfl) (zM (.bool (false)) (zU (zU (zq (yaj (v:=(.bool (false))) rfl rfl) (zM (.bool (false)) (zU (zq (yaj (v:=(.bool (false))) rfl rfl) (zM (.bool (false)) (zU (zU (zq (yaj (v:=(.bool (false))) rfl rfl) (zQ (.bool (false)) (yaa (yah rfl rfl ⟨_,rfl,(hS.sel []),h⟩))))))))))))))))))))))))))))))))))))))
  · replace h:=h.2 hp;exact zV rfl rfl (zF hp) (zV rfl rfl (zF hp) (zV rfl rfl (zF hp) (zV rfl rfl (zF hp) (zV rfl rfl (zF hp) (zq (yaj (v:=(.bool (false))) (zF hp) rfl) (zM (.bool (false)) (zU (zU (zU (zU (zU (zU (zU (zU (zU (zq (yaj (v:=(.bool (false))) rfl rfl) (zM (.bool (false)) (zU (zU (zU (zq (yaj (v:=(.bool (false))) rfl rfl) (zM (.bool (false)) (zU (zU (zq (yaj (v:=(.bool (false))) rfl rfl) (zM (.bool (false)) (zU (zU (zU (zU (zq (yaj (v:=(.bool (false))) rfl rfl) (zM (.bool (false)) (zU (zU (zq (yaj (v:=(.bool (false))) rfl rfl) (zM (.bool (false)) (zU (zq (yaj (v:=(.bool (false))) rfl rfl) (zM (.bool (false)) (zU (zU (zq (yaj (v:=(.bool (false))) rfl rfl) (zQ (.bool (false)) (yaa (yah rfl rfl ⟨_,rfl,(hS.sel []),h⟩)))))))))))))))))))))))))))))))))))))))))))))
def ykn(d:Int)(d2:List E3)(i:Int)(R:Bool→Prop):Prop :=
(∃ J2:Prop,(J2→yb7 d d2 (fun r r2 =>
ybj d d2 (fun r3 r4 =>
(∃ J3:Prop,(J3→(∃ I2:Nat→Int→Prop,(∃ m0,I2 m0 0)∧∀ m2 v,I2 m2 v → 
((v<(r.length:Int) →
((0≤v∧v<(r.length:Int)) ∧
ykl d d2 (gx r v.toNat) (fun r5 r6 r7 =>
((r7=0 →
((r5=true →
(In64 ((r.length:Int)-1) ∧
(In64 (((r.length:Int)-1)-v) ∧
((0≤(((r.length:Int)-1)-v)∧(((r.length:Int)-1)-v)<(r.length:Int)) ∧
yd4 (gx r v.toNat) (fun r8 =>
yaO r8 (gx r (((r.length:Int)-1)-v).toNat) (fun r9 =>
((r9=true →
(In64 (v+1) ∧
∃ m3,m3<m2∧I2 m3 (v+1))) ∧
(¬(r9=true) →
R false)))))))) ∧
(¬(r5=true) →
R false))) ∧
(¬(r7=0) →
R false))))) ∧
(¬(v<(r.length:Int)) →
(∃ I3:Nat→Int→Prop,(∃ m0,I3 m0 0)∧∀ m4 v2,I3 m4 v2 → 
((v2<(r3.length:Int) →
((0≤v2∧v2<(r3.length:Int)) ∧
ykl d d2 (gx r3 v2.toNat) (fun r10 r11 r12 =>
((r12=0 →
((r11=true →
(In64 ((r3.length:Int)-1) ∧
(In64 (((r3.length:Int)-1)-v2) ∧
((0≤(((r3.length:Int)-1)-v2)∧(((r3.length:Int)-1)-v2)<(r3.length:Int)) ∧
yd4 (gx r3 v2.toNat) (fun r13 =>
yaO r13 (gx r3 (((r3.length:Int)-1)-v2).toNat) (fun r14 =>
((r14=true →
(In64 (v2+1) ∧
∃ m5,m5<m4∧I3 m5 (v2+1))) ∧
(¬(r14=true) →
R false)))))))) ∧
(¬(r11=true) →
R false))) ∧
(¬(r12=0) →
R false))))) ∧
(¬(v2<(r3.length:Int)) →
(((r.length:Int)=0 →
yb9 (fun r15 =>
R r15)) ∧
(¬((r.length:Int)=0) →
(In64 i ∧
((r.length:Int)≠0 ∧
((0≤(i.tmod (r.length:Int))∧(i.tmod (r.length:Int))<(r.length:Int)) ∧
yb6 d d2 (gx r (i.tmod (r.length:Int)).toNat) 2 (fun r16 r17 =>
(∃ I4:Nat→(List Int)→Int→Prop,(∃ m0,I4 m0 ([]) 0)∧∀ m6 v3 v4,I4 m6 v3 v4 → 
((v4<(((gx r (i.tmod (r.length:Int)).toNat).length:Nat):Int) →
((0≤v4∧v4<(((gx r (i.tmod (r.length:Int)).toNat).length:Nat):Int)) ∧
(In64 (3*(gi (gx r (i.tmod (r.length:Int)).toNat) v4.toNat)) ∧
(v3.length+1≤1000000000 ∧
(In64 (v4+1) ∧
∃ m7,m7<m6∧I4 m7 (v3++[3*(gi (gx r (i.tmod (r.length:Int)).toNat) v4.toNat)]) (v4+1)))))) ∧
(¬(v4<(((gx r (i.tmod (r.length:Int)).toNat).length:Nat):Int)) →
yb6 d d2 v3 5 (fun r18 r19 =>
(∃ J4:Prop,(J4→(∃ I5:Nat→Int→Prop,(∃ m0,I5 m0 0)∧∀ m8 v5,I5 m8 v5 → 
((v5<(r.length:Int) →
((0≤v5∧v5<(r.length:Int)) ∧
yaO (gx r (i.tmod (r.length:Int)).toNat) (gx r v5.toNat) (fun r20 =>
((r20=true →
(In64 (v5+1) ∧
∃ m9,m9<m8∧I5 m9 (v5+1))) ∧
(¬(r20=true) →
yi1 (gx r (i.tmod (r.length:Int)).toNat) (gx r v5.toNat) (fun r21 =>
yi1 (gx r v5.toNat) (gx r v5.toNat) (fun r22 =>
((r22≤r21 →
R false) ∧
(¬(r22≤r21) →
(In64 (v5+1) ∧
∃ m10,m10<m8∧I5 m10 (v5+1))))))))))) ∧
(¬(v5<(r.length:Int)) →
yb9 (fun r23 =>
R r23))))) ∧
((r17=0 →
((r19=0 →
((r16=true →
((r18=true →
R false) ∧
(¬(r18=true) →
J4))) ∧
(¬(r16=true) →
R false))) ∧
(¬(r19=0) →
R false))) ∧
(¬(r17=0) →
R false)))))))))))))))))))) ∧
((r2=0 →
((r4=0 →
((2:Int)≠0 ∧
((((r.length:Int).tmod 2)=0 →
((((r3.length:Int).tmod 2)=0 →
J3) ∧
(¬(((r3.length:Int).tmod 2)=0) →
R false))) ∧
(¬(((r.length:Int).tmod 2)=0) →
R false)))) ∧
(¬(r4=0) →
R false))) ∧
(¬(r2=0) →
R false)))))) ∧
ydh d d2 (fun r24 =>
((r24=true →
ydb d d2 (fun r25 =>
((r25=0 →
J2) ∧
(¬(r25=0) →
yb9 (fun r26 =>
R r26))))) ∧
(¬(r24=true) →
yb9 (fun r27 =>
R r27)))))
theorem pok_l49_VoronoiHalves{O:Nat→Prop}{w:World}{d d2 i Ad ld cd}{R:Bool→Prop}(h:ykn d d2 i R)(hO:∀ k,O k→k<w.heap.size)(hA0:(FP.sl c3 Ad ld cd d2).P O w) :
    Calls Tryz.prog 7 #[(.agg #[(ii d),(.slice Ad ld cd)]),(.int .u8 i)] w fun e w'=>∃ r28,e = .returned (.bool (r28))∧Sep w no O w' (rl [])∧R r28:=by
  unfold ykn at h;have hS:Sep w no O w (rl [Res.ro (FP.sl c3 Ad ld cd d2)]):=Sep.startl hO [(FP.sl c3 Ad ld cd d2)] ⟨hA0,trivial⟩;refine yal (l:=[(.agg #[(ii d),(.slice Ad ld cd)]),(.int .u8 i)]) func7 rfl ntmps7 zY (zs (zn (ybm (v:=(.agg #[(ii d),(.slice Ad ld cd)])) rfl ?_)));intro g w2 hN;replace hS:Sep w no O w2 (stl _ 1 (Res.box 24 g [(ii d),(.slice Ad ld cd)])):=hS.new 1 rfl hN;clear hN;refine zb (zQ (.bool (false)) (yaa (yac (yac ?_))));obtain ⟨J2,hJ,h⟩:=h;refine ycA (fun E ds w'=>J2∧ds=[]∧E 1=(Value.int .u8 i)∧E 2=(Value.pointer (some ⟨g,0,none⟩))∧Sep w no O w' (rl [Res.box 24 g [(ii d),(.slice Ad ld cd)],Res.ro (FP.sl c3 Ad ld cd d2)])) ?_ ?_
  · clear h hS;rintro E ds w3 ⟨h,rfl,H1,H2,hS⟩;replace h:=hJ h;refine zs (zq (yao (vs:=[(ii d),(.slice Ad ld cd)]) H2 underlying24 rfl yak ⟨Row.cell (hS.bx 0 rfl) (i:=0) rfl,Row.cell (hS.bx 0 rfl) (i:=1) rfl,trivial⟩) (zn (yai rfl (am1 rfl) enter_10 ((yem h hS.blt (hS.ro 1 rfl)).mono ?_))));rintro _ w4 ⟨r,r2,Ar,lr,cr,rfl,hC,h⟩;replace hS:=hS.call1 hC 2 0 rfl;clear hC;refine ⟨_,rfl,?_⟩;refine zb (zM (.tuple #[(.slice Ar lr cr),(ii r2)]) (zq (zx (.slice Ar lr cr)) (zq (zx (ii r2)) (zQ (.slice Ar lr cr) (zQ (ii r2) (yaa (zs (zq (yao (vs:=[(ii d),(.slice Ad ld cd)]) H2 underlying24 rfl yak ⟨Row.cell (hS.bx 0 rfl) (i:=0) rfl,Row.cell (hS.bx 0 rfl) (i:=1) rfl,trivial⟩) (zn (yai rfl (am1 rfl) enter_12 ((yeU h hS.blt (hS.ro 1 rfl)).mono ?_)))))))))));rintro _ w5 ⟨r3,r4,Ar2,lr2,cr2,rfl,hC,h⟩;replace hS:=hS.call1 hC 3 0 rfl;clear hC;refine ⟨_,rfl,?_⟩;refine zb (zM (.tuple #[(.slice Ar2 lr2 cr2),(ii r4)]) (zq (zx (.slice Ar2 lr2 cr2)) (zq (zx (ii r4)) (zQ (.slice Ar2 lr2 cr2) (zQ (ii r4) (yaa (yac (yac ?_))))))));obtain ⟨J3,hJ,h⟩:=h;refine ycA (fun E ds w'=>J3∧ds=[]∧E 1=(Value.int .u8 i)∧E 2=(Value.pointer (some ⟨g,0,none⟩))∧E 5=(Value.slice Ar lr cr)∧E 7=(Value.slice Ar2 lr2 cr2)∧Sep w no O w' (rl [Res.box 24 g [(ii d),(.slice Ad ld cd)],Res.ro (FP.sl c3 Ad ld cd d2),Res.ro (FP.sl (cL cI) Ar lr cr r),Res.own (cL cI) 35 Ar2 lr2 cr2 r3])) ?_ ?_
    · clear h hS;rintro E ds w6 ⟨h,rfl,H1,H2,H5,H7,hS⟩;replace h:=hJ h;refine yac (zs (zq (yab H5) (zq (yaG (n:=r.length) rfl underlying27 (yaD (hS.rdr 2 rfl))) (zM (ii 0) (yaa (yad ?_))))));obtain ⟨I2,⟨m0,h0⟩,hr⟩:=h;refine yax (fun m E ds w'=>∃ v,I2 m v∧ds=[]∧E 1=(Value.int .u8 i)∧E 2=(Value.pointer (some ⟨g,0,none⟩))∧E 5=(Value.slice Ar lr cr)∧E 7=(Value.slice Ar2 lr2 cr2)∧E 64=(Value.slice Ar lr cr)∧E 65=(ii (r.length:Int))∧E 66=(ii v)∧Sep w no O w' (rl [Res.box 24 g [(ii d),(.slice Ad ld cd)],Res.ro (FP.sl c3 Ad ld cd d2),Res.ro (FP.sl (cL cI) Ar lr cr r),Res.own (cL cI) 35 Ar2 lr2 cr2 r3])) m0 ⟨_,h0,rfl,H1,H2,H5,H7,rfl,rfl,rfl,(hS.sel [0,1,2,3])⟩ ?_;clear h0 hS;rintro m2 E ds w7 ⟨v,h,rfl,H1,H2,H5,H7,H64,H65,H66,hS⟩ ag;replace h:=hr m2 v h;clear hr;refine zs (zq (ydm H66 H65) (yaa (yac ?_)));by_cases hp:v<(r.length:Int)
      · replace h:=h.1 hp;refine zc hp (yaf (yac (yad (zs (zq (yab H66) ?_)))));obtain ⟨hx,h⟩:=h;refine zq (ydA H64 H66 underlying27 yaJ (yaB (hS.rdr 2 rfl) hx)) ?_;obtain ⟨A,l,c,hc,hq⟩:=hS.el 2 rfl hx 4 5 rfl rfl (by decide);replace hS:=hq;clear hq;refine zq (yar (v:=(.slice A l c)) rfl underlying35 rfl (hS.clr 5 rfl)) (zQ (ii v) (zQ (.slice A l c) (yaa (zs (zq (yao (vs:=[(ii d),(.slice Ad ld cd)]) H2 underlying24 rfl yak ⟨Row.cell (hS.bx 0 rfl) (i:=0) rfl,Row.cell (hS.bx 0 rfl) (i:=1) rfl,trivial⟩) (zM (.slice A l c) (zn (yai rfl (am2 rfl rfl) enter_34 ((ykz h (yaz _) (hS.rdr 1 rfl) (hS.rdr 4 rfl)).mono ?_)))))))));rintro _ w8 ⟨r5,r6,r7,rfl,hC,h⟩;replace hS:=hS.pur hC.pure;clear hC;refine ⟨_,rfl,?_⟩;refine zb (zM (.tuple #[(.bool (r5)),(.bool (r6)),(ii r7)]) (zq (zx (.bool (r5))) (zq (zx (.bool (r6))) (zq (zx (ii r7)) (zQ (.bool (r5)) (zQ (.bool (r6)) (zQ (ii r7) (yaa (yac (ybq [0,1,2,3,4,5,6,7,9,10,11,12,13,14,15,16,8,17,18,19] (fun i=>match i with | 8=>[9,10,11,12,13,14,15,16] | _=>[]) yaC (by kernel_rfl) (by kernel_rfl) ?_))))))))));replace hS:=hS.drew;refine zp (zm (ii r7)) (zp zN (zp (zm (.bool (!(decide (r7=0))))) ?_));by_cases hp2:r7=0
        · replace h:=h.1 hp2;refine rp_q (yaA rfl (ybc rfl (zC (zB (decide_eq_true hp2))))) rfl rfl (zm (.bool (r5))) (rp_q (yaA rfl (ybc rfl (zC (zB (decide_eq_true hp2))))) rfl rfl (yds rfl) (zp (yaj (v:=(.bool (!(r5)))) (zC (zB (decide_eq_true hp2))) rfl) (zp (zm (.bool (!(r5)))) ?_)));by_cases hp3:r5=true
          · replace h:=h.1 hp3;refine rp_q (yaA rfl (ybc rfl (zC (zB hp3)))) rfl rfl (zm (.slice A l c)) (rp_q (yaA rfl (ybc rfl (zC (zB hp3)))) rfl rfl (yab H5) (rp_q (yaA rfl (ybc rfl (zC (zB hp3)))) rfl rfl (yab H5) (rp_q (yaA rfl (ybc rfl (zC (zB hp3)))) rfl rfl (yaG (n:=r.length) rfl underlying27 (yaD (hS.rdr 2 rfl))) ?_)));obtain ⟨hi,h⟩:=h;refine rp_q (yaA rfl (ybc rfl (zC (zB hp3)))) rfl rfl (zS hi) (rp_q (yaA rfl (ybc rfl (zC (zB hp3)))) rfl rfl (zm (ii v)) ?_);obtain ⟨hi2,h⟩:=h;refine rp_q (yaA rfl (ybc rfl (zC (zB hp3)))) rfl rfl (zS hi2) ?_;obtain ⟨hx2,h⟩:=h;refine rp_q (yaA rfl (ybc rfl (zC (zB hp3)))) rfl rfl (zi underlying27 yaJ (yaB (hS.rdr 2 rfl) hx2)) ?_;obtain ⟨A2,l2,c4,hc2,hq⟩:=hS.el 2 rfl hx2 6 7 rfl rfl (by decide);replace hS:=hq;clear hq;refine rp_q (yaA rfl (ybc rfl (zC (zB hp3)))) rfl rfl (yar (v:=(.slice A2 l2 c4)) rfl underlying35 rfl (hS.clr 7 rfl)) (rp_n (yaA rfl (ybc rfl (zC (zB hp3)))) rfl rfl rfl (yai rfl (am1 rfl) enter_35 ((ykE h (yaz _) (hS.rdr 4 rfl)).mono ?_)));rintro _ w9 ⟨r8,Ar3,lr3,cr3,rfl,hC,h⟩;replace hS:=hS.call1 (hC.widen (ycv (yaP (fI .i64) _ _ _ _ _) ycH) hS.blt) 8 0 rfl;clear hC;refine ⟨_,rfl,?_⟩;refine ⟨⟨fun _=>(yar (v:=(Value.slice A2 l2 c4)) rfl underlying35 rfl (hS.clr 7 rfl)),⟨fun _=>(zi underlying27 yaJ (yaB (hS.rdr 2 rfl) hx2)),⟨fun _=>(zS hi2),⟨fun _=>(zm (ii v)),⟨fun _=>(zS hi),⟨fun _=>(yaG (n:=r.length) rfl underlying27 (yaD (hS.rdr 2 rfl))),⟨fun _=>(yab H5),⟨fun _=>(yab H5),⟨fun hh=>zZ hh,⟨fun hh=>zZ hh,⟨fun hh=>zZ hh,⟨fun hh=>zZ hh,⟨fun hh=>zZ hh,⟨fun hh=>zZ hh,⟨fun hh=>zZ hh,⟨fun hh=>zZ hh,trivial⟩⟩⟩⟩⟩⟩⟩⟩⟩⟩⟩⟩⟩⟩⟩⟩,?_⟩;refine rp_n (yaA rfl (ybc rfl (zC (zB hp3)))) rfl rfl rfl (yai rfl (am2 rfl rfl) ykc ((yb8 h (yaz _) (hS.rdo 8 rfl) (hS.rdr 6 rfl)).mono ?_));rintro _ w10 ⟨r9,rfl,hC,h⟩;replace hS:=hS.pur hC.pure;clear hC;refine ⟨_,rfl,?_⟩;refine zb (rp_q (yaA rfl (ybc rfl (zC (zB hp3)))) rfl rfl (yds rfl) (zp (yaj (v:=(.bool (!(r9)))) (zC (zB hp3)) rfl) (ybH ?_)));by_cases hp4:r9=true
            · replace h:=h.1 hp4;refine yav (zC (zB hp4)) (yaf (yae (zr ?_)));obtain ⟨hi3,h⟩:=h;refine zq (yb3 H66 rfl hi3) (zM (ii (v+1)) (yaa ?_));obtain ⟨mq,hlt,h⟩:=h;exact ag mq _ _ _ ⟨_,h,rfl,H1,H2,H5,H7,H64,H65,rfl,(hS.sel [0,1,2,3])⟩ hlt
            · replace h:=h.2 hp4;exact yaq (zC (zB (zI hp4))) (zs (zQ (.bool (false)) (yaa (yah rfl rfl ⟨_,rfl,(hS.sel []),h⟩))))
          · replace h:=h.2 hp3;exact rp_p (ycq rfl (ybc rfl (zC (zB (zI hp3)))) rfl) rfl (rp_p (ycq rfl (ybc rfl (zC (zB (zI hp3)))) rfl) rfl (rp_p (ycq rfl (ybc rfl (zC (zB (zI hp3)))) rfl) rfl (rp_p (ycq rfl (ybc rfl (zC (zB (zI hp3)))) rfl) rfl (rp_p (ycq rfl (ybc rfl (zC (zB (zI hp3)))) rfl) rfl (rp_p (ycq rfl (ybc rfl (zC (zB (zI hp3)))) rfl) rfl (rp_p (ycq rfl (ybc rfl (zC (zB (zI hp3)))) rfl) rfl (rp_p (ycq rfl (ybc rfl (zC (zB (zI hp3)))) rfl) rfl (rp_p (ycq rfl (ybc rfl (zC (zB (zI hp3)))) rfl) rfl (rp_p (ycq rfl (ybc rfl (zC (zB (zI hp3)))) rfl) rfl (rp_p (ycq rfl (ybc rfl (zC (zB (zI hp3)))) rfl) rfl (rp_p (ycq rfl (ybc rfl (zC (zB (zI hp3)))) rfl) rfl (zp (yan (v:=(.bool (true))) (zC (zB (zI hp3))) rfl) (ybH (yaq rfl (zs (zQ (.bool (false)) (yaa (yah rfl rfl ⟨_,rfl,(hS.sel []),h⟩))))))))))))))))))
        · replace h:=h.2 hp2;exact rp_p (ycq rfl (ybc rfl (zC (zB (decide_eq_false hp2)))) rfl) rfl (rp_p (ycq rfl (ybc rfl (zC (zB (decide_eq_false hp2)))) rfl) rfl (zp (yan (v:=(.bool (true))) (zC (zB (decide_eq_false hp2))) rfl) (zp (zm (.bool (true))) (rp_p (ycq rfl (ybc rfl rfl) rfl) rfl (rp_p (ycq rfl (ybc rfl rfl) rfl) rfl (rp_p (ycq rfl (ybc rfl rfl) rfl) rfl (rp_p (ycq rfl (ybc rfl rfl) rfl) rfl (rp_p (ycq rfl (ybc rfl rfl) rfl) rfl (rp_p (ycq rfl (ybc rfl rfl) rfl) rfl (rp_p (ycq rfl (ybc rfl rfl) rfl) rfl (rp_p (ycq rfl (ybc rfl rfl) rfl) rfl (rp_p (ycq rfl (ybc rfl rfl) rfl) rfl (rp_p (ycq rfl (ybc rfl rfl) rfl) rfl (rp_p (ycq rfl (ybc rfl rfl) rfl) rfl (rp_p (ycq rfl (ybc rfl rfl) rfl) rfl (zp (yan (v:=(.bool (true))) rfl rfl) (ybH (yaq rfl (zs (zQ (.bool (false)) (yaa (yah rfl rfl ⟨_,rfl,(hS.sel []),h⟩))))))))))))))))))))))
      · replace h:=h.2 hp;refine zd hp (yas rfl (yac (zs (zq (yab H7) (zq (yaG (n:=r3.length) rfl underlying27 (yaD (hS.rdo 3 rfl))) (zM (ii 0) (yaa (yad ?_))))))));replace hS:=hS.frz 3 rfl;obtain ⟨I3,⟨m0,h0⟩,hr⟩:=h;refine yax (fun m E ds w'=>∃ v2,I3 m v2∧ds=[]∧E 1=(Value.int .u8 i)∧E 2=(Value.pointer (some ⟨g,0,none⟩))∧E 5=(Value.slice Ar lr cr)∧E 7=(Value.slice Ar2 lr2 cr2)∧E 99=(Value.slice Ar2 lr2 cr2)∧E 100=(ii (r3.length:Int))∧E 101=(ii v2)∧Sep w no O w' (rl [Res.box 24 g [(ii d),(.slice Ad ld cd)],Res.ro (FP.sl c3 Ad ld cd d2),Res.ro (FP.sl (cL cI) Ar lr cr r),Res.ro (FP.sl (cL cI) Ar2 lr2 cr2 r3)])) m0 ⟨_,h0,rfl,H1,H2,H5,H7,rfl,rfl,rfl,(hS.sel [0,1,2,3])⟩ ?_;clear h0 hS;rintro m4 E ds w11 ⟨v2,h,rfl,H1,H2,H5,H7,H99,H100,H101,hS⟩ again2;replace h:=hr m4 v2 h;clear hr;refine zs (zq (ydm H101 H100) (yaa (yac ?_)));by_cases hp5:v2<(r3.length:Int)
        · replace h:=h.1 hp5;refine zc hp5 (yaf (yac (yad (zs (zq (yab H101) ?_)))));obtain ⟨hx3,h⟩:=h;refine zq (ydA H99 H101 underlying27 yaJ (yaB (hS.rdr 3 rfl) hx3)) ?_;obtain ⟨A3,l3,c5,hc3,hq⟩:=hS.el 3 rfl hx3 4 5 rfl rfl (by decide);replace hS:=hq;clear hq;refine zq (yar (v:=(.slice A3 l3 c5)) rfl underlying35 rfl (hS.clr 5 rfl)) (zQ (ii v2) (zQ (.slice A3 l3 c5) (yaa (zs (zq (yao (vs:=[(ii d),(.slice Ad ld cd)]) H2 underlying24 rfl yak ⟨Row.cell (hS.bx 0 rfl) (i:=0) rfl,Row.cell (hS.bx 0 rfl) (i:=1) rfl,trivial⟩) (zM (.slice A3 l3 c5) (zn (yai rfl (am2 rfl rfl) enter_34 ((ykz h (yaz _) (hS.rdr 1 rfl) (hS.rdr 4 rfl)).mono ?_)))))))));rintro _ w12 ⟨r10,r11,r12,rfl,hC,h⟩;replace hS:=hS.pur hC.pure;clear hC;refine ⟨_,rfl,?_⟩;refine zb (zM (.tuple #[(.bool (r10)),(.bool (r11)),(ii r12)]) (zq (zx (.bool (r10))) (zq (zx (.bool (r11))) (zq (zx (ii r12)) (zQ (.bool (r10)) (zQ (.bool (r11)) (zQ (ii r12) (yaa (yac (ybq [0,1,2,3,4,5,6,7,9,10,11,12,13,14,15,16,8,17,18,19] (fun i=>match i with | 8=>[9,10,11,12,13,14,15,16] | _=>[]) yaC (by kernel_rfl) (by kernel_rfl) ?_))))))))));replace hS:=hS.drew;refine zp (zm (ii r12)) (zp zN (zp (zm (.bool (!(decide (r12=0))))) ?_));by_cases hp6:r12=0
          · replace h:=h.1 hp6;refine rp_q (yaA rfl (ybc rfl (zC (zB (decide_eq_true hp6))))) rfl rfl (zm (.bool (r11))) (rp_q (yaA rfl (ybc rfl (zC (zB (decide_eq_true hp6))))) rfl rfl (yds rfl) (zp (yaj (v:=(.bool (!(r11)))) (zC (zB (decide_eq_true hp6))) rfl) (zp (zm (.bool (!(r11)))) ?_)));by_cases hp7:r11=true
            · replace h:=h.1 hp7;refine rp_q (yaA rfl (ybc rfl (zC (zB hp7)))) rfl rfl (zm (.slice A3 l3 c5)) (rp_q (yaA rfl (ybc rfl (zC (zB hp7)))) rfl rfl (yab H7) (rp_q (yaA rfl (ybc rfl (zC (zB hp7)))) rfl rfl (yab H7) (rp_q (yaA rfl (ybc rfl (zC (zB hp7)))) rfl rfl (yaG (n:=r3.length) rfl underlying27 (yaD (hS.rdr 3 rfl))) ?_)));obtain ⟨hi4,h⟩:=h;refine rp_q (yaA rfl (ybc rfl (zC (zB hp7)))) rfl rfl (zS hi4) (rp_q (yaA rfl (ybc rfl (zC (zB hp7)))) rfl rfl (zm (ii v2)) ?_);obtain ⟨hi5,h⟩:=h;refine rp_q (yaA rfl (ybc rfl (zC (zB hp7)))) rfl rfl (zS hi5) ?_;obtain ⟨hx4,h⟩:=h;refine rp_q (yaA rfl (ybc rfl (zC (zB hp7)))) rfl rfl (zi underlying27 yaJ (yaB (hS.rdr 3 rfl) hx4)) ?_;obtain ⟨A4,l4,c6,hc4,hq⟩:=hS.el 3 rfl hx4 6 7 rfl rfl (by decide);replace hS:=hq;clear hq;refine rp_q (yaA rfl (ybc rfl (zC (zB hp7)))) rfl rfl (yar (v:=(.slice A4 l4 c6)) rfl underlying35 rfl (hS.clr 7 rfl)) (rp_n (yaA rfl (ybc rfl (zC (zB hp7)))) rfl rfl rfl (yai rfl (am1 rfl) enter_35 ((ykE h (yaz _) (hS.rdr 4 rfl)).mono ?_)));rintro _ w13 ⟨r13,Ar4,lr4,cr4,rfl,hC,h⟩;replace hS:=hS.call1 (hC.widen (ycv (yaP (fI .i64) _ _ _ _ _) ycH) hS.blt) 8 0 rfl;clear hC;refine ⟨_,rfl,?_⟩;refine ⟨⟨fun _=>(yar (v:=(Value.slice A4 l4 c6)) rfl underlying35 rfl (hS.clr 7 rfl)),⟨fun _=>(zi underlying27 yaJ (yaB (hS.rdr 3 rfl) hx4)),⟨fun _=>(zS hi5),⟨fun _=>(zm (ii v2)),⟨fun _=>(zS hi4),⟨fun _=>(yaG (n:=r3.length) rfl underlying27 (yaD (hS.rdr 3 rfl))),⟨fun _=>(yab H7),⟨fun _=>(yab H7),⟨fun hh=>zZ hh,⟨fun hh=>zZ hh,⟨fun hh=>zZ hh,⟨fun hh=>zZ hh,⟨fun hh=>zZ hh,⟨fun hh=>zZ hh,⟨fun hh=>zZ hh,⟨fun hh=>zZ hh,trivial⟩⟩⟩⟩⟩⟩⟩⟩⟩⟩⟩⟩⟩⟩⟩⟩,?_⟩;refine rp_n (yaA rfl (ybc rfl (zC (zB hp7)))) rfl rfl rfl (yai rfl (am2 rfl rfl) ykc ((yb8 h (yaz _) (hS.rdo 8 rfl) (hS.rdr 6 rfl)).mono ?_));rintro _ w14 ⟨r14,rfl,hC,h⟩;replace hS:=hS.pur hC.pure;clear hC;refine ⟨_,rfl,?_⟩;refine zb (rp_q (yaA rfl (ybc rfl (zC (zB hp7)))) rfl rfl (yds rfl) (zp (yaj (v:=(.bool (!(r14)))) (zC (zB hp7)) rfl) (ybH ?_)));by_cases hp8:r14=true
              · replace h:=h.1 hp8;refine yav (zC (zB hp8)) (yaf (yae (zr ?_)));obtain ⟨hi6,h⟩:=h;refine zq (yb3 H101 rfl hi6) (zM (ii (v2+1)) (yaa ?_));obtain ⟨mq,hlt,h⟩:=h;exact again2 mq _ _ _ ⟨_,h,rfl,H1,H2,H5,H7,H99,H100,rfl,(hS.sel [0,1,2,3])⟩ hlt
              · replace h:=h.2 hp8;exact yaq (zC (zB (zI hp8))) (zs (zQ (.bool (false)) (yaa (yah rfl rfl ⟨_,rfl,(hS.sel []),h⟩))))
            · replace h:=h.2 hp7;exact rp_p (ycq rfl (ybc rfl (zC (zB (zI hp7)))) rfl) rfl (rp_p (ycq rfl (ybc rfl (zC (zB (zI hp7)))) rfl) rfl (rp_p (ycq rfl (ybc rfl (zC (zB (zI hp7)))) rfl) rfl (rp_p (ycq rfl (ybc rfl (zC (zB (zI hp7)))) rfl) rfl (rp_p (ycq rfl (ybc rfl (zC (zB (zI hp7)))) rfl) rfl (rp_p (ycq rfl (ybc rfl (zC (zB (zI hp7)))) rfl) rfl (rp_p (ycq rfl (ybc rfl (zC (zB (zI hp7)))) rfl) rfl (rp_p (ycq rfl (ybc rfl (zC (zB (zI hp7)))) rfl) rfl (rp_p (ycq rfl (ybc rfl (zC (zB (zI hp7)))) rfl) rfl (rp_p (ycq rfl (ybc rfl (zC (zB (zI hp7)))) rfl) rfl (rp_p (ycq rfl (ybc rfl (zC (zB (zI hp7)))) rfl) rfl (rp_p (ycq rfl (ybc rfl (zC (zB (zI hp7)))) rfl) rfl (zp (yan (v:=(.bool (true))) (zC (zB (zI hp7))) rfl) (ybH (yaq rfl (zs (zQ (.bool (false)) (yaa (yah rfl rfl ⟨_,rfl,(hS.sel []),h⟩))))))))))))))))))
          · replace h:=h.2 hp6;exact rp_p (ycq rfl (ybc rfl (zC (zB (decide_eq_false hp6)))) rfl) rfl (rp_p (ycq rfl (ybc rfl (zC (zB (decide_eq_false hp6)))) rfl) rfl (zp (yan (v:=(.bool (true))) (zC (zB (decide_eq_false hp6))) rfl) (zp (zm (.bool (true))) (rp_p (ycq rfl (ybc rfl rfl) rfl) rfl (rp_p (ycq rfl (ybc rfl rfl) rfl) rfl (rp_p (ycq rfl (ybc rfl rfl) rfl) rfl (rp_p (ycq rfl (ybc rfl rfl) rfl) rfl (rp_p (ycq rfl (ybc rfl rfl) rfl) rfl (rp_p (ycq rfl (ybc rfl rfl) rfl) rfl (rp_p (ycq rfl (ybc rfl rfl) rfl) rfl (rp_p (ycq rfl (ybc rfl rfl) rfl) rfl (rp_p (ycq rfl (ybc rfl rfl) rfl) rfl (rp_p (ycq rfl (ybc rfl rfl) rfl) rfl (rp_p (ycq rfl (ybc rfl rfl) rfl) rfl (rp_p (ycq rfl (ybc rfl rfl) rfl) rfl (zp (yan (v:=(.bool (true))) rfl rfl) (ybH (yaq rfl (zs (zQ (.bool (false)) (yaa (yah rfl rfl ⟨_,rfl,(hS.sel []),h⟩))))))))))))))))))))))
        · replace h:=h.2 hp5;refine zd hp5 (yas rfl (yac (zs (zq (yab H5) (zq (yaG (n:=r.length) rfl underlying27 (yaD (hS.rdr 2 rfl))) (zq zE (yaa ?_)))))));by_cases hp9:(r.length:Int)=0
          · replace h:=h.1 hp9;refine zc hp9 (zs (zn (yai rfl (am0) ykg ((ygE h (yaz _)).mono ?_))));rintro _ w15 ⟨r15,rfl,hC,h⟩;replace hS:=hS.pur hC.pure;clear hC;refine ⟨_,rfl,?_⟩;exact zb (zQ (.bool (r15)) (yaa (yah rfl rfl ⟨_,rfl,(hS.sel []),h⟩)))
          · replace h:=h.2 hp9;refine zd hp9 (yaf (zs (zq (yab H5) (zq (yab H1) ?_))));obtain ⟨hi7,h⟩:=h;refine zq (v_conv rfl underlying5 underlying3 hi7) (zq (yab H5) (zq (yaG (n:=r.length) rfl underlying27 (yaD (hS.rdr 2 rfl))) ?_));obtain ⟨hz,h⟩:=h;refine zq (v_rem rfl rfl hz) ?_;obtain ⟨hx5,h⟩:=h;refine zq (zi underlying27 yaJ (yaB (hS.rdr 2 rfl) hx5)) ?_;obtain ⟨A5,l5,c7,hc5,hq⟩:=hS.el 2 rfl hx5 4 5 rfl rfl (by decide);replace hS:=hq;clear hq;refine zq (yar (v:=(.slice A5 l5 c7)) rfl underlying35 rfl (hS.clr 5 rfl)) (zQ (.slice A5 l5 c7) (yaa (zs (zq (yao (vs:=[(ii d),(.slice Ad ld cd)]) H2 underlying24 rfl yak ⟨Row.cell (hS.bx 0 rfl) (i:=0) rfl,Row.cell (hS.bx 0 rfl) (i:=1) rfl,trivial⟩) (zM (.slice A5 l5 c7) (zn (yai rfl (am3 rfl rfl rfl) ykP ((yen h (yaz _) (hS.rdr 1 rfl) (hS.rdr 4 rfl)).mono ?_))))))));rintro _ w16 ⟨r16,r17,rfl,hC,h⟩;replace hS:=hS.pur hC.pure;clear hC;refine ⟨_,rfl,?_⟩;refine zb (zM (.tuple #[(.bool (r16)),(ii r17)]) (zq (zx (.bool (r16))) (zq (zx (ii r17)) (zQ (.bool (r16)) (zQ (ii r17) (yaa (zs (zQ (.slice none 0 0) (yaa (yac (zs (zM (.slice A5 l5 c7) (zq (yaG (n:=(gx r (i.tmod (r.length:Int)).toNat).length) rfl underlying35 (yaD (hS.rdr 4 rfl))) (zM (ii 0) (yaa (yad ?_))))))))))))))));replace hS:=hS.nil 6 rfl cI 3;obtain ⟨I4,⟨m0,h0⟩,hr⟩:=h;refine yax (fun m E ds w'=>∃ v3 v4 Av lv cv,I4 m v3 v4∧ds=[]∧E 2=(Value.pointer (some ⟨g,0,none⟩))∧E 5=(Value.slice Ar lr cr)∧E 6=(ii r17)∧E 19=(Value.slice A5 l5 c7)∧E 20=(Value.bool (r16))∧E 21=(Value.slice Av lv cv)∧E 152=(Value.slice A5 l5 c7)∧E 153=(ii (((gx r (i.tmod (r.length:Int)).toNat).length:Nat):Int))∧E 154=(ii v4)∧Sep w no O w' (rl [Res.own cI 3 Av lv cv v3,Res.box 24 g [(ii d),(.slice Ad ld cd)],Res.ro (FP.sl c3 Ad ld cd d2),Res.ro (FP.sl (cL cI) Ar lr cr r),Res.ro (FP.sl cI A5 l5 c7 (gx r (i.tmod (r.length:Int)).toNat))])) m0 ⟨_,_,_,_,_,h0,rfl,H2,H5,rfl,rfl,rfl,rfl,rfl,rfl,rfl,(hS.sel [6,0,1,2,4])⟩ ?_;clear h0 hS;rintro m6 E ds w17 ⟨v3,v4,Av,lv,cv,h,rfl,H2,H5,H6,H19,H20,H21,H152,H153,H154,hS⟩ again3;replace h:=hr m6 v3 v4 h;clear hr;refine zs (zq (ydm H154 H153) (yaa (yac ?_)));by_cases hp10:v4<(((gx r (i.tmod (r.length:Int)).toNat).length:Nat):Int)
            · replace h:=h.1 hp10;refine zc hp10 (yaf (yac (yad (zs ?_))));obtain ⟨hx6,h⟩:=h;refine zq (ydA H152 H154 underlying35 yag (yaB (hS.rdr 4 rfl) hx6)) (zq (yar (v:=(ii (gi (gx r (i.tmod (r.length:Int)).toNat) v4.toNat))) rfl underlying3 rfl (rd_1 (hS.rdr 4 rfl) hx6 (fun q=>yaF q) rfl)) ?_);refine zQ (ii (gi (gx r (i.tmod (r.length:Int)).toNat) v4.toNat)) (yaa (zr (zq (yab H21) (zM (ii (gi (gx r (i.tmod (r.length:Int)).toNat) v4.toNat)) ?_))));obtain ⟨hi8,h⟩:=h;refine zq (v_mul rfl rfl hi8) (zn (yaK (l:=[(0,(ii (3*(gi (gx r (i.tmod (r.length:Int)).toNat) v4.toNat))))]) (cells:=[(ii (3*(gi (gx r (i.tmod (r.length:Int)).toNat) v4.toNat)))]) (bp1 rfl) underlying35 yag rfl rfl ?_));intro g2 w18 hN;replace hS:=hS.litf (n:=1) 5 rfl (fI .i64) hN ([3*(gi (gx r (i.tmod (r.length:Int)).toNat) v4.toNat)]:List Int) rfl (by decide) rfl;clear hN;refine zb ?_;obtain ⟨hx7,h⟩:=h;refine zn (yfv (c:=cI) rfl rfl underlying35 underlying35 yag rfl rfl (by decide) hS 0 rfl (hS.yo 5 rfl) hx7 ?_);clear hS;intro A6 c8 w19 hS;refine zb (zQ (.slice A6 (lv+1) c8) (yaa (yae (zr ?_))));obtain ⟨hi9,h⟩:=h;refine zq (yb3 H154 rfl hi9) (zM (ii (v4+1)) (yaa ?_));obtain ⟨mq,hlt,h⟩:=h;exact again3 mq _ _ _ ⟨_,_,_,_,_,h,rfl,H2,H5,H6,H19,H20,rfl,H152,H153,rfl,(hS.sel [0,1,2,3,4])⟩ hlt
            · replace h:=h.2 hp10;refine zd hp10 (yas rfl (zs (zq (yao (vs:=[(ii d),(.slice Ad ld cd)]) H2 underlying24 rfl yak ⟨Row.cell (hS.bx 1 rfl) (i:=0) rfl,Row.cell (hS.bx 1 rfl) (i:=1) rfl,trivial⟩) (zq (yab H21) (zn (yai rfl (am3 rfl rfl rfl) ykP ((yen h (yaz _) (hS.rdr 2 rfl) (hS.rdo 0 rfl)).mono ?_)))))));rintro _ w20 ⟨r18,r19,rfl,hC,h⟩;replace hS:=hS.pur hC.pure;clear hC;refine ⟨_,rfl,?_⟩;refine zb (zM (.tuple #[(.bool (r18)),(ii r19)]) (zq (zx (.bool (r18))) (zq (zx (ii r19)) (zQ (.bool (r18)) (zQ (ii r19) (yaa (yac (yac ?_))))))));obtain ⟨J4,hJ,h⟩:=h;refine ycA (fun E ds w'=>J4∧ds=[]∧E 5=(Value.slice Ar lr cr)∧E 19=(Value.slice A5 l5 c7)∧Sep w no O w' (rl [Res.ro (FP.sl (cL cI) Ar lr cr r),Res.ro (FP.sl cI A5 l5 c7 (gx r (i.tmod (r.length:Int)).toNat))])) ?_ ?_
              · clear h hS;rintro E ds w21 ⟨h,rfl,H5,H19,hS⟩;replace h:=hJ h;refine yac (zs (zq (yab H5) (zq (yaG (n:=r.length) rfl underlying27 (yaD (hS.rdr 0 rfl))) (zM (ii 0) (yaa (yad ?_))))));obtain ⟨I5,⟨m0,h0⟩,hr⟩:=h;refine yax (fun m E ds w'=>∃ v5,I5 m v5∧ds=[]∧E 19=(Value.slice A5 l5 c7)∧E 183=(Value.slice Ar lr cr)∧E 184=(ii (r.length:Int))∧E 185=(ii v5)∧Sep w no O w' (rl [Res.ro (FP.sl cI A5 l5 c7 (gx r (i.tmod (r.length:Int)).toNat)),Res.ro (FP.sl (cL cI) Ar lr cr r)])) m0 ⟨_,h0,rfl,H19,rfl,rfl,rfl,(hS.sel [1,0])⟩ ?_;clear h0 hS;rintro m8 E ds w22 ⟨v5,h,rfl,H19,H183,H184,H185,hS⟩ again4;replace h:=hr m8 v5 h;clear hr;refine zs (zq (ydm H185 H184) (yaa (yac ?_)));by_cases hp11:v5<(r.length:Int)
                · replace h:=h.1 hp11;refine zc hp11 (yaf (yac (yad (zs ?_))));obtain ⟨hx8,h⟩:=h;refine zq (ydA H183 H185 underlying27 yaJ (yaB (hS.rdr 1 rfl) hx8)) ?_;obtain ⟨A7,l6,c9,hc6,hq⟩:=hS.el 1 rfl hx8 2 3 rfl rfl (by decide);replace hS:=hq;clear hq;refine zq (yar (v:=(.slice A7 l6 c9)) rfl underlying35 rfl (hS.clr 3 rfl)) (zQ (.slice A7 l6 c9) (yaa (zs (zq (yab H19) (zM (.slice A7 l6 c9) (zn (yai rfl (am2 rfl rfl) ykc ((yb8 h (yaz _) (hS.rdr 0 rfl) (hS.rdr 2 rfl)).mono ?_))))))));rintro _ w23 ⟨r20,rfl,hC,h⟩;replace hS:=hS.pur hC.pure;clear hC;refine ⟨_,rfl,?_⟩;refine zb (zq (yds rfl) (zM (.bool (!(r20))) ?_));by_cases hp12:r20=true
                  · replace h:=h.1 hp12;refine zV rfl rfl (zC (zB hp12)) (zV rfl rfl (zC (zB hp12)) (zV rfl rfl (zC (zB hp12)) (zV rfl rfl (zC (zB hp12)) (zV rfl rfl (zC (zB hp12)) (zV rfl rfl (zC (zB hp12)) (zV rfl rfl (zC (zB hp12)) (zq (yaj (v:=(.bool (false))) (zC (zB hp12)) rfl) (yaa (yav rfl (yaf (yae (zr ?_))))))))))));obtain ⟨hi10,h⟩:=h;refine zq (yb3 H185 rfl hi10) (zM (ii (v5+1)) (yaa ?_));obtain ⟨mq,hlt,h⟩:=h;exact again4 mq _ _ _ ⟨_,h,rfl,H19,H183,H184,rfl,(hS.sel [0,1])⟩ hlt
                  · replace h:=h.2 hp12;refine zW rfl rfl (zC (zB (zI hp12))) (yab H19) (zW rfl rfl (zC (zB (zI hp12))) (zm (.slice A7 l6 c9)) (rl_n (yaA rfl (ybc rfl (zC (zB (zI hp12))))) rfl rfl rfl (yai rfl (am2 rfl rfl) enter_27 ((yjk h (yaz _) (hS.rdr 0 rfl) (hS.rdr 2 rfl)).mono ?_))));rintro _ w24 ⟨r21,rfl,hC,h⟩;replace hS:=hS.pur hC.pure;clear hC;refine ⟨_,rfl,?_⟩;refine zb (zW rfl rfl (zC (zB (zI hp12))) (zm (.slice A7 l6 c9)) (zW rfl rfl (zC (zB (zI hp12))) (zm (.slice A7 l6 c9)) (rl_n (yaA rfl (ybc rfl (zC (zB (zI hp12))))) rfl rfl rfl (yai rfl (am2 rfl rfl) enter_27 ((yjk h (yaz _) (hS.rdr 2 rfl) (hS.rdr 2 rfl)).mono ?_)))));rintro _ w25 ⟨r22,rfl,hC,h⟩;replace hS:=hS.pur hC.pure;clear hC;refine ⟨_,rfl,?_⟩;refine zb (zW rfl rfl (zC (zB (zI hp12))) (yiq rfl rfl) (zq (yan (v:=(.bool (decide (r22≤r21)))) (zC (zB (zI hp12))) rfl) (yaa ?_)));by_cases hp13:r22≤r21
                    · replace h:=h.1 hp13;exact zc hp13 (zs (zQ (.bool (false)) (yaa (yah rfl rfl ⟨_,rfl,(hS.sel []),h⟩))))
                    · replace h:=h.2 hp13;refine zd hp13 (yaf (yae (zr ?_)));obtain ⟨hi11,h⟩:=h;refine zq (yb3 H185 rfl hi11) (zM (ii (v5+1)) (yaa ?_));obtain ⟨mq,hlt,h⟩:=h;exact again4 mq _ _ _ ⟨_,h,rfl,H19,H183,H184,rfl,(hS.sel [0,1])⟩ hlt
                · replace h:=h.2 hp11;refine zd hp11 (yas rfl (zs (zn (yai rfl (am0) ykg ((ygE h (yaz _)).mono ?_)))));rintro _ w26 ⟨r23,rfl,hC,h⟩;replace hS:=hS.pur hC.pure;clear hC;refine ⟨_,rfl,?_⟩;exact zb (zQ (.bool (r23)) (yaa (yah rfl rfl ⟨_,rfl,(hS.sel []),h⟩)))
              clear hJ;intro j3;refine zr (zq (yab H6) (zq zN (zM (.bool (!(decide (r17=0)))) ?_)));by_cases hp14:r17=0
              · replace h:=h.1 hp14;refine zW rfl rfl (zC (zB (decide_eq_true hp14))) (zm (ii r19)) (zW rfl rfl (zC (zB (decide_eq_true hp14))) zN (zq (yaj (v:=(.bool (!(decide (r19=0))))) (zC (zB (decide_eq_true hp14))) rfl) (zM (.bool (!(decide (r19=0)))) ?_)));by_cases hp15:r19=0
                · replace h:=h.1 hp15;refine zW rfl rfl (zC (zB (decide_eq_true hp15))) (yab H20) (zW rfl rfl (zC (zB (decide_eq_true hp15))) (yds rfl) (zq (yaj (v:=(.bool (!(r16)))) (zC (zB (decide_eq_true hp15))) rfl) (zM (.bool (!(r16))) ?_)));by_cases hp16:r16=true
                  · replace h:=h.1 hp16;refine zW rfl rfl (zC (zB hp16)) (zm (.bool (r18))) (zq (yaj (v:=(.bool (r18))) (zC (zB hp16)) rfl) (yaa ?_));by_cases hp17:r18=true
                    · replace h:=h.1 hp17;exact yaq (zC hp17) (zs (zQ (.bool (false)) (yaa (yah rfl rfl ⟨_,rfl,(hS.sel []),h⟩))))
                    · replace h:=h.2 hp17;exact yav (zC (zI hp17)) (yaf (j3 _ _ _ ⟨h,rfl,H5,H19,(hS.sel [3,4])⟩))
                  · replace h:=h.2 hp16;exact zV rfl rfl (zC (zB (zI hp16))) (zq (yan (v:=(.bool (true))) (zC (zB (zI hp16))) rfl) (yaa (yaq rfl (zs (zQ (.bool (false)) (yaa (yah rfl rfl ⟨_,rfl,(hS.sel []),h⟩)))))))
                · replace h:=h.2 hp15;exact zV rfl rfl (zC (zB (decide_eq_false hp15))) (zV rfl rfl (zC (zB (decide_eq_false hp15))) (zq (yan (v:=(.bool (true))) (zC (zB (decide_eq_false hp15))) rfl) (zM (.bool (true)) (zU (zq (yan (v:=(.bool (true))) rfl rfl) (yaa (yaq rfl (zs (zQ (.bool (false)) (yaa (yah rfl rfl ⟨_,rfl,(hS.sel []),h⟩)))))))))))
              · replace h:=h.2 hp14;exact zV rfl rfl (zC (zB (decide_eq_false hp14))) (zV rfl rfl (zC (zB (decide_eq_false hp14))) (zq (yan (v:=(.bool (true))) (zC (zB (decide_eq_false hp14))) rfl) (zM (.bool (true)) (zU (zU (zq (yan (v:=(.bool (true))) rfl rfl) (zM (.bool (true)) (zU (zq (yan (v:=(.bool (true))) rfl rfl) (yaa (yaq rfl (zs (zQ (.bool (false)) (yaa (yah rfl rfl ⟨_,rfl,(hS.sel []),h⟩)))))))))))))))
    clear hJ;intro j2;refine zr (zM (ii r2) (zq zN (zM (.bool (!(decide (r2=0)))) ?_)));by_cases hp18:r2=0
    · replace h:=h.1 hp18;refine zW rfl rfl (zC (zB (decide_eq_true hp18))) (zm (ii r4)) (zW rfl rfl (zC (zB (decide_eq_true hp18))) zN (zq (yaj (v:=(.bool (!(decide (r4=0))))) (zC (zB (decide_eq_true hp18))) rfl) (zM (.bool (!(decide (r4=0)))) ?_)));by_cases hp19:r4=0
      · replace h:=h.1 hp19;refine zW rfl rfl (zC (zB (decide_eq_true hp19))) (zm (.slice Ar lr cr)) (zW rfl rfl (zC (zB (decide_eq_true hp19))) (yaG (n:=r.length) rfl underlying27 (yaD (hS.rdr 2 rfl))) ?_);obtain ⟨hz2,h⟩:=h;refine zW rfl rfl (zC (zB (decide_eq_true hp19))) (v_rem rfl rfl hz2) (zW rfl rfl (zC (zB (decide_eq_true hp19))) zN (zq (yaj (v:=(.bool (!(decide (((r.length:Int).tmod 2)=0))))) (zC (zB (decide_eq_true hp19))) rfl) (zM (.bool (!(decide (((r.length:Int).tmod 2)=0)))) ?_)));by_cases hp20:((r.length:Int).tmod 2)=0
        · replace h:=h.1 hp20;refine zW rfl rfl (zC (zB (decide_eq_true hp20))) (zm (.slice Ar2 lr2 cr2)) (zW rfl rfl (zC (zB (decide_eq_true hp20))) (yaG (n:=r3.length) rfl underlying27 (yaD (hS.rdo 3 rfl))) (zW rfl rfl (zC (zB (decide_eq_true hp20))) (v_rem rfl rfl hz2) (zW rfl rfl (zC (zB (decide_eq_true hp20))) zN (zq (yaj (v:=(.bool (!(decide (((r3.length:Int).tmod 2)=0))))) (zC (zB (decide_eq_true hp20))) rfl) (yaa ?_)))));by_cases hp21:((r3.length:Int).tmod 2)=0
          · replace h:=h.1 hp21;exact ze hp21 (yaf (j2 _ _ _ ⟨h,rfl,H1,H2,rfl,rfl,(hS.sel [0,1,2,3])⟩))
          · replace h:=h.2 hp21;exact zf hp21 (zs (zQ (.bool (false)) (yaa (yah rfl rfl ⟨_,rfl,(hS.sel []),h⟩))))
        · replace h:=h.2 hp20;exact zV rfl rfl (zC (zB (decide_eq_false hp20))) (zV rfl rfl (zC (zB (decide_eq_false hp20))) (zV rfl rfl (zC (zB (decide_eq_false hp20))) (zV rfl rfl (zC (zB (decide_eq_false hp20))) (zq (yan (v:=(.bool (true))) (zC (zB (decide_eq_false hp20))) rfl) (yaa (yaq rfl (zs (zQ (.bool (false)) (yaa (yah rfl rfl ⟨_,rfl,(hS.sel []),h⟩))))))))))
      · replace h:=h.2 hp19;exact zV rfl rfl (zC (zB (decide_eq_false hp19))) (zV rfl rfl (zC (zB (decide_eq_false hp19))) (zV rfl rfl (zC (zB (decide_eq_false hp19))) (zV rfl rfl (zC (zB (decide_eq_false hp19))) (zq (yan (v:=(.bool (true))) (zC (zB (decide_eq_false hp19))) rfl) (zM (.bool (true)) (zU (zU (zU (zU (zq (yan (v:=(.bool (true))) rfl rfl) (yaa (yaq rfl (zs (zQ (.bool (false)) (yaa (yah rfl rfl ⟨_,rfl,(hS.sel []),h⟩))))))))))))))))
    · replace h:=h.2 hp18;exact zV rfl rfl (zC (zB (decide_eq_false hp18))) (zV rfl rfl (zC (zB (decide_eq_false hp18))) (zq (yan (v:=(.bool (true))) (zC (zB (decide_eq_false hp18))) rfl) (zM (.bool (true)) (zU (zU (zU (zU (zq (yan (v:=(.bool (true))) rfl rfl) (zM (.bool (true)) (zU (zU (zU (zU (zq (yan (v:=(.bool (true))) rfl rfl) (yaa (yaq rfl (zs (zQ (.bool (false)) (yaa (yah rfl rfl ⟨_,rfl,(hS.sel []),h⟩))))))))))))))))))))
  clear hJ;intro j;refine zr (zq (yao (vs:=[(ii d),(.slice Ad ld cd)]) rfl underlying24 rfl yak ⟨Row.cell (hS.bx 1 rfl) (i:=0) rfl,Row.cell (hS.bx 1 rfl) (i:=1) rfl,trivial⟩) (zn (yai rfl (am1 rfl) enter_32 ((yht h (yaz _) (hS.rdr 0 rfl)).mono ?_))));rintro _ w27 ⟨r24,rfl,hC,h⟩;replace hS:=hS.pur hC.pure;clear hC;refine ⟨_,rfl,?_⟩;refine zb (zq (yds rfl) (zM (.bool (!(r24))) ?_));by_cases hp22:r24=true
  · replace h:=h.1 hp22;refine zW rfl rfl (zC (zB hp22)) (yao (vs:=[(ii d),(.slice Ad ld cd)]) rfl underlying24 rfl yak ⟨Row.cell (hS.bx 1 rfl) (i:=0) rfl,Row.cell (hS.bx 1 rfl) (i:=1) rfl,trivial⟩) (rl_n (yaA rfl (ybc rfl (zC (zB hp22)))) rfl rfl rfl (yai rfl (am1 rfl) enter_33 ((ygn h (yaz _) (hS.rdr 0 rfl)).mono ?_)));rintro _ w28 ⟨r25,rfl,hC,h⟩;replace hS:=hS.pur hC.pure;clear hC;refine ⟨_,rfl,?_⟩;refine zb (zW rfl rfl (zC (zB hp22)) zN (zq (yaj (v:=(.bool (!(decide (r25=0))))) (zC (zB hp22)) rfl) (yaa ?_)));by_cases hp23:r25=0
    · replace h:=h.1 hp23;exact ze hp23 (yaf (j _ _ _ ⟨h,rfl,rfl,rfl,(hS.sel [1,0])⟩))
    · replace h:=h.2 hp23;refine zf hp23 (zs (zn (yai rfl (am0) ykg ((ygE h (yaz _)).mono ?_))));rintro _ w29 ⟨r26,rfl,hC,h⟩;replace hS:=hS.pur hC.pure;clear hC;refine ⟨_,rfl,?_⟩;exact zb (zQ (.bool (r26)) (yaa (yah rfl rfl ⟨_,rfl,(hS.sel []),h⟩)))
  · replace h:=h.2 hp22;refine zV rfl rfl (zC (zB (zI hp22))) (zV rfl rfl (zC (zB (zI hp22))) (zV rfl rfl (zC (zB (zI hp22))) (zq (yan (v:=(.bool (true))) (zC (zB (zI hp22))) rfl) (yaa (yaq rfl (zs (zn (yai rfl (am0) ykg ((ygE h (yaz _)).mono ?_)))))))));rintro _ w30 ⟨r27,rfl,hC,h⟩;replace hS:=hS.pur hC.pure;clear hC;refine ⟨_,rfl,?_⟩;exact zb (zQ (.bool (r27)) (yaa (yah rfl rfl ⟨_,rfl,(hS.sel []),h⟩)))
end Go.Proofs.YtencmgolklfmkaaGreat

/- Cycles, Bonds, Slice and Inside: program and reference; the laws but for the chapter's examples. -/
namespace Go.Proofs.YtencmgolklfmkaaGreat
open Go Go.RowKit Go.Shelf Go.Proofs.Tryz
set_option maxRecDepth 100000
structure CycL(E:List (Int×Int))(zs:List (List Int)):Prop where
  asc:Asc zs
  mem:∀ y,y∈zs↔IsDC E y
section
variable {E : List (Int × Int)} {zs ws : List (List Int)} {n : Nat}
theorem CycL.uniq(h:CycL E zs)(k:CycL E ws):zs=ws:=Asc.eq h.asc k.asc fun y=>(h.mem y).trans (k.mem y).symm
theorem vec_abs{p:List Dart}(hn:(p.map Prod.fst).Nodup)(i:Nat):(vec p i).natAbs≤1:=by
  rcases ygL hn i with e | e | e <;> rw [e] <;> decide
theorem IsDC.bd{y:List Int}(h:IsDC E y):Bd 1 y:=by
  obtain ⟨s,p,hp,rfl⟩:=h
  intro i hi
  rw [yaI] at hi
  rw [ycc _ hi]
  exact vec_abs hp.ed i
theorem IsDC.pos{y:List Int}(h:IsDC E y):0<E.length:=by
  obtain ⟨s,p,hp,rfl⟩:=h
  obtain ⟨d,hd⟩:=List.exists_mem_of_ne_nil _ hp.ne
  have:=hp.lt d hd;omega
theorem IsDC.nn{y:List Int}(h:IsDC E y):y≠[]:=by
  have h1:=h.pos
  have h2:=h.len
  rintro rfl
  simp at h2;omega
theorem CycL.vs(h:CycL E zs):Vs E.length zs:=fun v hv=>⟨((h.mem v).1 hv).len,((h.mem v).1 hv).bd⟩
theorem CycL.len(hE:ya6 n E)(h:CycL E zs):zs.length≤n*(2*E.length+1)^n:=by
  have hp:zs.Perm (dirL E n):=(List.perm_ext_iff_of_nodup h.asc.nodup (dirL_nodup hE)).2 fun y=>by rw [h.mem,yhK hE]
  rw [hp.length_eq]
  exact dirL_len
theorem few_pow(hn:n≤5)(hm:E.length≤8):(n+1)*(2*E.length+1)^n≤1000000000:=by
  have h1:(2*E.length+1)^n≤17^n:=Nat.pow_le_pow_left (by omega) n
  have h2:17^n≤17^5:=Nat.pow_le_pow_right (by omega) hn
  have h3:(17:Nat)^5=1419857:=by decide
  have h4:=Nat.mul_le_mul (show n+1≤6 by omega) (Nat.le_trans h1 h2)
  omega
end
section
variable {n : Int} {es : List E3} {x : List Int} {k : Int}
structure SmP(n:Int)(es:List E3):Prop where
  es40:es.length≤40
  sm:yat n es=0→(ybd es).length≤14→n≤5∧(ybd es).length≤8
theorem SmP.get(h:SmP n es)(q:smlE n es=0):∃ k:Nat,n=k∧GrOk k es (ybd es)∧yd0 n es=true∧k≤5∧(ybd es).length≤8:=by
  obtain ⟨q1,q2⟩:=yjh q
  obtain ⟨g,c⟩:=yfZ q1
  obtain ⟨k,rfl,G⟩:=gr_of g
  obtain ⟨h1,h2⟩:=h.sm g q2
  exact ⟨k,rfl,G,c,by omega,h2⟩
theorem cycles_any(H:SmP n es)(q:smlE n es=0){R:List (List Int)→Prop}(h:∀ zs,CycL (ybd es) zs→R zs):yba (ybd es) n R:=by
  obtain ⟨k,rfl,G,_,h5,h8⟩:=H.get q
  exact yhA G.ok G.few (by omega) (few_pow h5 h8) fun zs h1 h2=>h zs ⟨h1,h2⟩
theorem yfr(H:SmP n es){R:List (List Int)→Int→Prop}(h1:smlE n es≠0→R [] (smlE n es))(h2:smlE n es=0→∀ zs,CycL (ybd es) zs→R zs 0):yb7 n es R :=
  yfY (by have:=H.es40;omega) (fun q=>⟨fun z=>absurd z q,fun _=>h1 q⟩) fun q=>⟨fun _=>cycles_any H q fun zs hz=>h2 q zs hz,fun z=>absurd rfl z⟩
theorem ydP(H:SmP n es){R:List (List Int)→Int→Prop}(h1:vecE n es x≠0→R [] (vecE n es x))(h2:vecE n es x=0→∀ zs,CycL (ybd es) zs→R zs 0):yby n es x R :=
  yiC (by have:=H.es40;omega) h1 fun q=>cycles_any H (ye0 q).1 fun zs hz=>h2 q zs hz
theorem yjj(H:SmP n es)(q:vecE n es x=0)(hx:Bd 400 x){zs:List (List Int)}(hz:CycL (ybd es) zs):SlOk zs x:=by
  obtain ⟨q1,q2,q3⟩:=ye0 q
  obtain ⟨k,rfl,G,_,h5,h8⟩:=H.get q1
  have hlen:=hz.len G.ok
  have hp:=few_pow h5 h8
  refine ⟨?_,by rw [q2];exact hz.vs,by omega,?_⟩
  · have:=Nat.mul_le_mul_right ((2*(ybd es).length+1)^k) (show k≤k+1 by omega)
    omega
  · have h1:=yih hx hx rfl
    have h2:=Nat.mul_le_mul_right (400*400) (show x.length≤8 by omega)
    omega
theorem FewP.bd(H:FewP n es x)(q:vecE n es x=0):Bd 400 x:=fun i hi=>H.rng i hi (List.all_eq_true.1 (ye0 q).2.2 _ (yjg hi))
def SlR(zs:List (List Int))(x:List Int)(R:List Int→Int→Int→Prop):Prop:=(∀ y k,slF zs 4096 x 0=some (y,k)→R y (k:Nat) 0)∧(slF zs 4096 x 0=none→R [] 0 12)
theorem yh3(H:SmP n es){R:List Int→Int→Int→Prop}(h1:vecE n es x≠0→R [] 0 (vecE n es x))(hx:vecE n es x=0→Bd 400 x)(h2:vecE n es x=0→∀ zs,CycL (ybd es) zs→SlR zs x R):yc3 n es x R :=
  ydP H (fun q=>⟨fun z=>absurd z q,fun _=>h1 q⟩) fun q zs hz=>⟨fun _=>yfp (yjj H q (hx q) hz) (fun v hv=>((hz.mem v).1 hv).nn) (fun y k hk=>⟨fun _=>(h2 q zs hz).1 y k hk,fun z=>absurd rfl z⟩) fun hn=>⟨fun z=>(by cases z),fun _=>(h2 q zs hz).2 hn⟩,fun z=>absurd rfl z⟩
theorem yft(H:SmP n es){R:Bool→Int→Prop}(h1:vecE n es x≠0→R false (vecE n es x))(hx:vecE n es x=0→Bd 400 x)(hk:vecE n es x=0→(k<1∨1048576<k)→R false 2)(h2:vecE n es x=0→1≤k→k≤1048576→∀ zs,CycL (ybd es) zs→R (ydR zs x k).isNone 0):yb6 n es x k R:=by
  refine ydP H (fun q=>⟨fun z=>absurd z q,fun _=>h1 q⟩) fun q zs hz=>⟨fun _=>?_,fun z=>absurd rfl z⟩
  refine ⟨1≤k∧k≤1048576,fun ⟨k1,k2⟩=>?_,fun c=>hk q (.inl c),fun c=>⟨fun c2=>hk q (.inr c2),fun c2=>⟨by omega,by omega⟩⟩⟩
  have S:=yjj H q (hx q) hz
  have h2:=h2 q k1 k2 zs hz
  refine ⟨_,_,yeo S.len S.vs S.m S.bd (by omega),fun p=>p=[],rfl,?_,?_⟩
  · rintro pre v rfl hp
    rw [step_head (t:=[]) hp] at h2
    exact h2
  · rintro ys rfl hr
    rw [step_none.2 hr.symm] at h2
    exact h2
theorem slF_len{zs:List (List Int)} : ∀ {f:Nat} {x:List Int} {n:Nat} {y:List Int} {k:Nat},slF zs f x n=some (y,k)→y.length=x.length:=by
  intro f
  induction f with
  | zero =>
    intro x n y k h
    cases hs:ydR zs x 1 with
    | none=>rw [yej hs] at h;cases h;rfl
    | some v=>rw [yis hs] at h;cases h
  | succ f ih =>
    intro x n y k h
    cases hs:ydR zs x 1 with
    | none=>rw [yej hs] at h;cases h;rfl
    | some v=>rw [ygd hs] at h;rw [ih h,ybl]
theorem yiI{a b:List Int}{R:Bool→Prop}(hl:a.length≤1000000000)(h:R (decide (a=b))):ydk a b R:=by
  refine ⟨fun e=>⟨fun m i=>∃ k:Nat,i=k∧k+m=a.length∧∀ j,j<k→gi a j=gi b j,⟨a.length,0,rfl,by omega,fun j hj=>by omega⟩,?_⟩,fun e=>?_⟩
  · rintro m i ⟨k,rfl,hm,hk⟩
    refine ⟨fun hlt=>⟨⟨by omega,hlt⟩,⟨by omega,by omega⟩,fun c=>⟨⟨by omega,by omega⟩,m-1,by omega,k+1,by omega,by omega,fun j hj=>?_⟩,fun c=>?_⟩,fun hge=>?_⟩
    · rw [Int.toNat_natCast] at c
      by_cases q:j=k
      · rw [q];exact c
      · exact hk j (by omega)
    · rw [decide_eq_false (by rintro rfl;exact c rfl)] at h;exact h
    · rw [decide_eq_true (ygj (by omega) fun j hj=>hk j (by omega))] at h;exact h
  · rw [decide_eq_false (by rintro rfl;exact e rfl)] at h;exact h
theorem p_same{a:List Int}{R:Bool→Prop}(hl:a.length≤1000000000)(h:R true):ye6 a a R:=yiI hl (by rw [decide_eq_true rfl];exact h)
theorem yd8{a:List (List Int)}{R:Bool→Prop}(hl:a.length≤1000000000)(he:∀ v∈a,v.length≤1000000000)(h:R true):ya0 a a R:=by
  refine ⟨fun _=>⟨Cnt a.length (fun _=>True),Cnt.start trivial,?_⟩,fun c=>absurd rfl c⟩
  rintro m _ ⟨k,rfl,rfl,hk,_⟩
  refine ⟨fun hlt=>?_,fun _=>h⟩
  have hka:k<a.length:=by omega
  rw [Int.toNat_natCast]
  exact ⟨by omega,by omega,p_same (he _ (by rw [yaM hka];exact List.getElem_mem hka)) ⟨fun _=>Cnt.next hka (by omega) trivial,fun c=>absurd rfl c⟩⟩
end
section
variable {n : Int} {es : List E3} {x : List Int} {k : Int} (ha : ∀ R : Bool → Prop, R true → yb9 R)
include ha
end
end Go.Proofs.YtencmgolklfmkaaGreat

/- The nearest vectors: what voronoi.Closest finds. -/
namespace Go.Proofs.YtencmgolklfmkaaGreat
open Go Go.RowKit Go.Shelf Go.Proofs.Tryz
set_option maxRecDepth 100000
section
variable {E : List (Int × Int)} {n : Nat}
theorem part_of2(hE:ya6 n E){z:Nat→Int}(hz:Circ E.length E z)(h0:∃ i,i<E.length∧z i≠0) :
    ∃ s p,DCyc E.length E s p∧Circ E.length E (fun i=>z i-vec p i)∧siz E.length (fun i=>z i-vec p i)<siz E.length z∧∀ i,i<E.length→0≤vec p i*(z i-vec p i):=by
  obtain ⟨s,p,hp,ha⟩:=yiM hE hz h0
  have key:∀ i,i<E.length→(z i-vec p i).natAbs≤(z i).natAbs∧0≤vec p i*(z i-vec p i)∧(vec p i≠0→(z i-vec p i).natAbs<(z i).natAbs):=by
    intro i hi
    by_cases q:vec p i=0
    · rw [q];simp
    · obtain ⟨d,hd,rfl,e⟩:=yip hp.ed q
      have h2:=(ha d hd).2
      rw [e]
      rcases ycJ d.2 with e1 | e1 <;> rw [e1] at h2 ⊢ <;> refine ⟨by omega,by omega,fun _=>by omega⟩
  obtain ⟨d,hd⟩:=List.exists_mem_of_ne_nil _ hp.ne
  refine ⟨s,p,hp,hz.sub hp.circ,siz_lt (fun i hi=>(key i hi).1) (hp.lt d hd) ((key d.1 (hp.lt d hd)).2.2 ?_),fun i hi=>(key i hi).2.1⟩
  rw [yho hp.ed hd]
  rcases ycJ d.2 with e1 | e1 <;> rw [e1] <;> decide
theorem near_pm(hE:ya6 n E){y:Nat→Int}(hy:yfz E.length E y):∀ (k:Nat) (z:Nat→Int),siz E.length z≤k→Circ E.length E z→2*dot_ E.length y z=dot_ E.length z z→pm1 E.length z:=by
  intro k
  induction k with
  | zero =>
    intro z hk hz _
    rcases yhd E.length z with h0 | h0
    · exact fun i hi => .inl (h0 i hi)
    · obtain ⟨s,p,_,_,h3,_⟩:=part_of2 hE hz h0
      omega
  | succ k ih =>
    intro z hk hz he
    rcases yhd E.length z with h0 | h0
    · exact fun i hi => .inl (h0 i hi)
    · obtain ⟨s,p,hp,hz',h3,h4⟩:=part_of2 hE hz h0
      have h5:=hy _ hz'
      have h6:=hy _ hp.circ
      have h7:0≤dot_ E.length (vec p) (fun i=>z i-vec p i):=dot_nn h4
      have e:dot_ E.length z z=dot_ E.length (vec p) (vec p)+2*dot_ E.length (vec p) (fun i=>z i-vec p i)+dot_ E.length (fun i=>z i-vec p i) (fun i=>z i-vec p i):=by
        rw [←dot_sum];exact ybA (fun i _=>by omega) (fun i _=>by omega)
      have e2:dot_ E.length y z=dot_ E.length y (vec p)+dot_ E.length y (fun i=>z i-vec p i):=by
        rw [←ygv];exact ybA (fun i _=>rfl) (fun i _=>by omega)
      have h8:dot_ E.length (vec p) (fun i=>z i-vec p i)=0:=by omega
      have h9:=ih _ (by omega) hz' (by omega)
      intro i hi
      have h10:=ygu (n:=E.length) (f:=fun i=>vec p i*(z i-vec p i)) h4 i hi
      have h11:vec p i*(z i-vec p i)=0:=Int.le_antisymm (by unfold dot_ at h8;rw [h8] at h10;exact h10) (h4 i hi)
      have h12:=ygL hp.ed i
      have h13:z i-vec p i=0∨z i-vec p i=1∨z i-vec p i = -1:=h9 i hi
      rcases Int.mul_eq_zero.1 h11 with q | q
      · omega
      · have:z i=vec p i:=by omega
        rw [this];exact h12
def enc3:List Int→Int
  | []=>0
  | a::t=>(a+1)+3*enc3 t
theorem enc3_range:∀ {l:List Int},(∀ a∈l, -1≤a∧a≤1)→0≤enc3 l∧enc3 l<((3^l.length:Nat):Int)
  | [],_=>by simp [enc3]
  | a::t,h=>by
    have h1:=enc3_range (l:=t) fun b hb=>h b (by simp [hb])
    have h2:=h a (by simp)
    rw [enc3,List.length_cons,Nat.pow_succ]
    omega
theorem enc3_inj:∀ {l m:List Int},l.length=m.length→(∀ a∈l, -1≤a∧a≤1)→(∀ a∈m, -1≤a∧a≤1)→enc3 l=enc3 m→l=m
  | [],[],_,_,_,_=>rfl
  | a::t,b::u,hl,h,k,e=>by
    have h2:=h a (by simp)
    have k2:=k b (by simp)
    rw [enc3,enc3] at e
    have h3:a=b:=by omega
    have h4:=enc3_inj (l:=t) (m:=u) (by simpa using hl) (fun c hc=>h c (by simp [hc])) (fun c hc=>k c (by simp [hc])) (by omega)
    rw [h3,h4]
theorem yfC{α β:Type}{f:α→β} : ∀ {l:List α},l.Nodup→(∀ a∈l,∀ b∈l,f a=f b→a=b)→(l.map f).Nodup
  | [],_,_=>List.nodup_nil
  | a::t,h,k=>by
    rw [List.map_cons,List.nodup_cons]
    rw [List.nodup_cons] at h
    refine ⟨fun z=>?_,yfC h.2 fun b hb c hc=>k b (by simp [hb]) c (by simp [hc])⟩
    obtain ⟨b,hb,e⟩:=List.mem_map.1 z
    have:=k b (by simp [hb]) a (by simp) e
    subst this
    exact h.1 hb
theorem pm_count{m:Nat}{l:List (List Int)}(hn:l.Nodup)(h:∀ w∈l,w.length=m∧∀ a∈w, -1≤a∧a≤1):l.length≤3^m:=by
  rw [←List.length_map (f:=enc3)]
  refine yhY (yfC hn fun a ha b hb e=>enc3_inj (by rw [(h a ha).1,(h b hb).1]) (h a ha).2 (h b hb).2 e) fun v hv=>?_
  obtain ⟨w,hw,rfl⟩:=List.mem_map.1 hv
  have:=enc3_range (h w hw).2
  rw [(h w hw).1] at this
  exact this
theorem IsDC.circ{y:List Int}(h:IsDC E y):Circ E.length E (gi y):=by
  obtain ⟨s,p,hp,rfl⟩:=h
  exact hp.circ.congr fun i hi=>(ycc _ hi).symm
theorem circ_zero:Circ E.length E fun _=>0:=fun v=>by
  unfold bdy
  rw [yaw (g:=fun _=>0) fun i _=>Int.zero_mul _,ybY]
theorem Circ.add{m:Nat}{x y:Nat→Int}(hx:Circ m E x)(hy:Circ m E y):Circ m E (fun i=>x i+y i):=fun v=>by rw [bdy_add,hx v,hy v];rfl
theorem IsDC.neg(hE:ya6 n E){y:List Int}(h:IsDC E y):IsDC E (tab (fun i => -gi y i) E.length):=by
  obtain ⟨s,p,hp,rfl⟩:=h
  have hset:=hp.set (n:=n)
  have hb:∀ i,i<E.length→gi (tab (vec p) E.length) i=vec p i:=fun i hi=>ycc _ hi
  rw [show tab (fun i => -gi (tab (vec p) E.length) i) E.length=tab (fun i => -vec p i) E.length from ygB fun i hi=>by rw [hb i hi]]
  obtain ⟨d,hd⟩:=List.exists_mem_of_ne_nil _ hp.ne
  refine (hset.dc hE hp.circ.neg (fun i hi z=>(yio hp.ed i).1 (by have z : -vec p i≠0:=z;omega)) ⟨d.1,hp.lt d hd,?_⟩ fun i hi=>?_).1
  · show -vec p d.1≠0
    rw [yho hp.ed hd]
    rcases ycJ d.2 with e | e <;> rw [e] <;> decide
  · show -vec p i=0 ∨ -vec p i=1 ∨ -vec p i = -1
    have:=ygL hp.ed i
    omega
variable {zs : List (List Int)}
theorem slF_circ(hz:CycL E zs):∀ {f:Nat} {x:List Int} {k:Nat} {y:List Int} {j:Nat},x.length=E.length→slF zs f x k=some (y,j)→Circ E.length E fun i=>gi x i-gi y i
  | f,x,k,y,j,hx,h=>by
    cases hs:ydR zs x 1 with
    | none =>
      rw [yej hs] at h;cases h
      exact circ_zero.congr fun i _=>by omega
    | some v =>
      match f with
      | 0=>rw [yis hs] at h;cases h
      | f+1 =>
        rw [ygd hs] at h
        have h1:=slF_circ hz (f:=f) (by rw [ybl];exact hx) h
        have h2:=((hz.mem v).1 (yh6 hs).1).circ
        refine (h1.add h2).congr fun i hi=>?_
        rw [ybS (by omega)];omega
theorem slF_down:∀ {f:Nat} {x:List Int} {k:Nat} {y:List Int} {j:Nat},Vs x.length zs→slF zs f x k=some (y,j)→dotL y y≤dotL x x
  | f,x,k,y,j,hx,h=>by
    cases hs:ydR zs x 1 with
    | none=>rw [yej hs] at h;cases h;exact Int.le_refl _
    | some v =>
      match f with
      | 0=>rw [yis hs] at h;cases h
      | f+1 =>
        rw [ygd hs] at h
        have h1:=slF_down (f:=f) (by rw [ybl];exact hx) h
        have h2:=yiu hx hs
        omega
theorem ykd:∀ {f:Nat} {x:List Int} {k:Nat},Vs x.length zs→dotL x x≤(f:Int)→∃ y j,slF zs f x k=some (y,j)
  | f,x,k,hx,h=>by
    cases hs:ydR zs x 1 with
    | none=>exact ⟨x,k,yej hs⟩
    | some v =>
      have h2:=yiu hx hs
      have h3:=yjD (m:=(ybi x v).length) (gi (ybi x v))
      have h3:0≤dotL (ybi x v) (ybi x v):=h3
      match f,h with
      | 0,h=>omega
      | f+1,h =>
        obtain ⟨y,j,e⟩:=ykd (f:=f) (x:=ybi x v) (k:=k+1) (by rw [ybl];exact hx) (by omega)
        exact ⟨y,j,by rw [ygd hs];exact e⟩
theorem least_step(hE:ya6 n E)(hz:CycL E zs){y:List Int}(hy:y.length=E.length)(hs:ydR zs y 1=none):yfz E.length E (gi y):=by
  refine least_of hE fun s p hp=>?_
  have hmem:tab (vec p) E.length∈zs:=(hz.mem _).2 ⟨s,p,hp,rfl⟩
  have h1:=List.find?_eq_none.1 hs _ hmem
  have h1:¬(1*dotL (tab (vec p) E.length) (tab (vec p) E.length)<2*dotL y (tab (vec p) E.length)):=fun z=>h1 (decide_eq_true z)
  unfold dotL at h1
  rw [yaI,hy,ybA (x:=gi (tab (vec p) E.length)) (x':=vec p) (y:=gi (tab (vec p) E.length)) (y':=vec p) (fun i hi=>ycc _ hi) fun i hi=>ycc _ hi,ybA (x:=gi y) (x':=gi y) (y:=gi (tab (vec p) E.length)) (y':=vec p) (fun i hi=>rfl) fun i hi=>ycc _ hi] at h1
  omega
structure NearC(E:List (Int×Int))(x:List Int)(d:Int)(z:List Int):Prop where
  len:z.length=E.length
  circ:Circ E.length E (gi z)
  dist:dotL (ybi x z) (ybi x z)=d
theorem yie{x z:List Int}(hx:x.length=E.length):dotL (ybi x z) (ybi x z)=dot_ E.length (fun i=>gi x i-gi z i) (fun i=>gi x i-gi z i):=by
  unfold dotL
  rw [ybl,hx]
  exact ybA (fun i hi=>ybS (by omega)) fun i hi=>ybS (by omega)
structure NInv(E:List (Int×Int))(zs:List (List Int))(x:List Int)(d:Int)(z0:List Int)(v:List (List Int)):Prop where
  nd:v.Nodup
  near:∀ z∈v,NearC E x d z
  first:z0∈v
section
variable {x y : List Int} {d : Int}
structure ClOk(n:Nat)(E:List (Int×Int))(zs:List (List Int))(x y:List Int):Prop where
  hE:ya6 n E
  zs:CycL E zs
  m8:E.length≤8
  xl:x.length=E.length
  x9:Bd 9 x
  yl:y.length=E.length
  yc:Circ E.length E fun i=>gi x i-gi y i
  le:yfz E.length E (gi y)
  dn:dotL y y≤dotL x x
variable (H : ClOk n E zs x y)
include H
theorem ClOk.z0:NearC E x (dotL y y) (ybi x y):=by
  refine ⟨by rw [ybl,H.xl],H.yc.congr fun i hi=>(ybS (by rw [H.xl];exact hi)).symm,?_⟩
  rw [yie H.xl]
  unfold dotL
  rw [H.yl]
  exact ybA (fun i hi=>by rw [ybS (by rw [H.xl];exact hi)];omega) fun i hi=>by rw [ybS (by rw [H.xl];exact hi)];omega
theorem ClOk.least_at{z:List Int}(hz:NearC E x (dotL y y) z):yfz E.length E (fun i=>gi x i-gi z i):=by
  have h1:=H.le.move (z:=fun i=>gi z i-(gi x i-gi y i)) (hz.circ.sub H.yc) ?_
  · refine fun u hu=>?_
    have:=h1 u hu
    rw [ybA (x:=fun i=>gi x i-gi z i) (x':=fun i=>gi y i-(gi z i-(gi x i-gi y i))) (y:=u) (y':=u) (fun i _=>by omega) fun i _=>rfl]
    exact this
  · have h2:=hz.dist
    rw [yie H.xl] at h2
    unfold dotL at h2
    rw [H.yl] at h2
    rw [←h2]
    exact ybA (fun i _=>by omega) fun i _=>by omega
theorem ClOk.bdx:dotL x x≤729:=by
  have h1:=yih H.x9 H.x9 rfl
  have h2:=Nat.mul_le_mul_right (9*9) (show x.length≤8 by rw [H.xl];exact H.m8)
  omega
theorem NearC.bd{z:List Int}(hz:NearC E x (dotL y y) z):Bd 27 (ybi x z)∧Bd 36 z:=by
  have h1:=H.bdx
  have h2:=H.dn
  have h3:Bd 27 (ybi x z):=yiA (by rw [hz.dist];omega)
  refine ⟨h3,fun i hi=>?_⟩
  have hi':i<x.length:=by rw [H.xl,←hz.len];exact hi
  have h4:=h3 i (by rw [ybl];exact hi')
  rw [ybS hi'] at h4
  have h5:=H.x9 i hi'
  omega
theorem ClOk.count{v:List (List Int)}(hv:NInv E zs x (dotL y y) (ybi x y) v):v.length≤6561:=by
  have h1:(v.map fun z=>ybi z (ybi x y)).length≤3^E.length:=by
    refine pm_count (yfC hv.nd fun a ha b hb e=>?_) fun w hw=>?_
    · have la:=(hv.near a ha).len
      have lb:=(hv.near b hb).len
      refine ygj (by omega) fun i hi=>?_
      have e2:gi (ybi a (ybi x y)) i=gi (ybi b (ybi x y)) i:=by rw [e]
      rw [ybS hi,ybS (x:=b) (by omega)] at e2
      omega
    · obtain ⟨z,hz,rfl⟩:=List.mem_map.1 hw
      have hn:=hv.near z hz
      refine ⟨by rw [ybl,hn.len],fun a ha=>?_⟩
      obtain ⟨i,hi,rfl⟩:=List.getElem_of_mem ha
      rw [ybl] at hi
      rw [←ybe (by rw [ybl];exact hi),ybS hi,ybS (by rw [H.xl,←hn.len];exact hi)]
      have hc:Circ E.length E (fun i=>gi z i-(gi x i-gi y i)):=hn.circ.sub H.yc
      have:=near_pm H.hE H.le _ _ (Nat.le_refl _) hc ?_ i (by rw [←hn.len];exact hi)
      · rcases this with q | q | q <;> rw [q] <;> decide
      · have h2:=hn.dist
        rw [yie H.xl] at h2
        unfold dotL at h2
        rw [H.yl] at h2
        rw [ybA (x:=fun i=>gi x i-gi z i) (x':=fun i=>gi y i-(gi z i-(gi x i-gi y i))) (y:=fun i=>gi x i-gi z i) (y':=fun i=>gi y i-(gi z i-(gi x i-gi y i))) (fun i _=>by omega) fun i _=>by omega,ygA] at h2
        omega
  rw [List.length_map] at h1
  have h2:(3:Nat)^E.length≤3^8:=Nat.pow_le_pow_right (by omega) H.m8
  have h3:(3:Nat)^8=6561:=by decide
  omega
theorem ClOk.all{v:List (List Int)}(hv:NInv E zs x (dotL y y) (ybi x y) v)(hcl:∀ z∈v,∀ c∈zs,NearC E x (dotL y y) (ybi z c)→ybi z c∈v):∀ (k:Nat) (z u:List Int),NearC E x (dotL y y) z→u∈v→siz E.length (fun i=>gi z i-gi u i)≤k→z∈v:=by
  intro k
  have base:∀ z u:List Int,NearC E x (dotL y y) z→u∈v→(∀ i,i<E.length→gi z i-gi u i=0)→z∈v:=fun z u hz hu h0=>by
    have:=hv.near u hu
    rw [show z=u from ygj (by rw [hz.len,this.len]) fun i hi=>by have:=h0 i (by rw [←hz.len];exact hi);omega]
    exact hu
  induction k with
  | zero =>
    intro z u hz hu hk
    have hc:=hz.circ.sub (hv.near u hu).circ
    rcases yhd E.length (fun i=>gi z i-gi u i) with h0 | h0
    · exact base z u hz hu h0
    · obtain ⟨s,p,_,_,h3,_⟩:=part_of2 H.hE hc h0
      omega
  | succ k ih =>
    intro z u hz hu hk
    have hnu:=hv.near u hu
    have hc:=hz.circ.sub hnu.circ
    rcases yhd E.length (fun i=>gi z i-gi u i) with h0 | h0
    · exact base z u hz hu h0
    · have hl:=H.least_at hnu
      have d1:=hz.dist
      have d2:=hnu.dist
      rw [yie H.xl] at d1 d2
      obtain ⟨s,p,hp,h1,h2,h3⟩:=near_step H.hE hl hc (by rw [d2,←d1];exact ybA (fun i _=>by omega) fun i _=>by omega) h0
      obtain ⟨c,hcdef⟩:∃ c,c=tab (fun i => -gi (tab (vec p) E.length) i) E.length:=⟨_,rfl⟩
      have hcz:c∈zs:=by rw [hcdef];exact (H.zs.mem _).2 (IsDC.neg H.hE ⟨s,p,hp,rfl⟩)
      have hgc:∀ i,i<E.length→gi c i = -vec p i:=fun i hi=>by rw [hcdef,ycc _ hi,ycc _ hi]
      have hul:u.length=E.length:=hnu.len
      have hgu:∀ i,i<E.length→gi (ybi u c) i=gi u i+vec p i:=fun i hi=>by rw [ybS (by omega),hgc i hi];omega
      have hnew:NearC E x (dotL y y) (ybi u c):=by
        refine ⟨by rw [ybl,hul],(hnu.circ.add hp.circ).congr fun i hi=>(hgu i hi).symm,?_⟩
        rw [yie H.xl,←d2,←h3]
        exact ybA (fun i hi=>by rw [hgu i hi];omega) fun i hi=>by rw [hgu i hi];omega
      refine ih z (ybi u c) hz (hcl u hu c hcz hnew) ?_
      have:siz E.length (fun i=>gi z i-gi (ybi u c) i)=siz E.length (fun i=>gi z i-gi u i-vec p i):=by
        unfold siz
        refine congrArg Int.toNat (yaw fun i hi=>?_)
        show ((gi z i-gi (ybi u c) i).natAbs:Int)=((gi z i-gi u i-vec p i).natAbs:Int)
        rw [hgu i hi,show gi z i-(gi u i+vec p i)=gi z i-gi u i-vec p i by omega]
      omega
end
end
end Go.Proofs.YtencmgolklfmkaaGreat

/- voronoi.Closest returns the nearest vectors. -/
namespace Go.Proofs.YtencmgolklfmkaaGreat
open Go Go.RowKit Go.Shelf Go.Proofs.Tryz
set_option maxRecDepth 100000
theorem yka{s:List (List Int)}{F:List Int→(Bool→Prop)→Prop}{p:List Int→Bool}{R:Bool→Prop}(hl:s.length≤1000000000)(hF:∀ v∈s,∀ R':Bool→Prop,R' (p v)→F v R')(h:R (s.any p)):yaX s F R:=by
  refine ⟨fun m i=>Cnt s.length (fun k=>s.any p=(s.drop k).any p) m i,Cnt.start rfl,?_⟩
  rintro m _ ⟨k,rfl,rfl,hk,he⟩
  refine ⟨fun hlt=>?_,fun hge=>?_⟩
  · have hks:k<s.length:=by omega
    rw [Int.toNat_natCast]
    rw [List.drop_eq_getElem_cons hks,List.any_cons,←yaM hks] at he
    refine ⟨by omega,hF _ (by rw [yaM hks];exact List.getElem_mem hks) _ ⟨fun c=>?_,fun c=>?_⟩⟩
    · rw [he,c,Bool.true_or] at h
      show R (decide (0≤(k:Int)))
      rw [decide_eq_true (by omega)];exact h
    · have c:p (gx s k)=false:=by simpa using c
      rw [c,Bool.false_or] at he
      exact Cnt.next hks (by omega) he
  · have:k=s.length:=by omega
    rw [he,this,List.drop_length] at h;exact h
theorem yj8{s:List Int}{F:Int→(Bool→Prop)→Prop}{p:Int→Bool}{R:Bool→Prop}(hl:s.length≤1000000000)(hF:∀ v∈s,∀ R':Bool→Prop,R' (p v)→F v R')(h:R (s.any p)):yaR s F R:=by
  refine ⟨fun m i=>Cnt s.length (fun k=>s.any p=(s.drop k).any p) m i,Cnt.start rfl,?_⟩
  rintro m _ ⟨k,rfl,rfl,hk,he⟩
  refine ⟨fun hlt=>?_,fun hge=>?_⟩
  · have hks:k<s.length:=by omega
    rw [Int.toNat_natCast]
    rw [List.drop_eq_getElem_cons hks,List.any_cons,←ybe hks] at he
    refine ⟨by omega,hF _ (yjg hks) _ ⟨fun c=>?_,fun c=>?_⟩⟩
    · rw [he,c,Bool.true_or] at h
      show R (decide (0≤(k:Int)))
      rw [decide_eq_true (by omega)];exact h
    · have c:p (gi s k)=false:=by simpa using c
      rw [c,Bool.false_or] at he
      exact Cnt.next hks (by omega) he
  · have:k=s.length:=by omega
    rw [he,this,List.drop_length] at h;exact h
def out9(a:Int):Bool:=!decide (-9≤a∧a≤9)
theorem p_out9{a:Int}{R:Bool→Prop}(h:R (out9 a)):((a<(-9)→R true)∧(¬(a<(-9))→R (decide (9<a)))):=by
  unfold out9 at h
  refine ⟨fun c=>?_,fun c=>?_⟩
  · rw [decide_eq_false (by omega)] at h;exact h
  · by_cases q:9<a
    · rw [decide_eq_false (by omega)] at h;rw [decide_eq_true q];exact h
    · rw [decide_eq_true (by omega)] at h;rw [decide_eq_false q];exact h
theorem any9{x:List Int} : x.any out9=false↔Bd 9 x:=by
  rw [List.any_eq_false]
  constructor
  · intro h i hi
    have:=h _ (yjg hi)
    unfold out9 at this
    have : -9≤gi x i∧gi x i≤9:=by simpa using this
    omega
  · intro h a ha
    obtain ⟨i,hi,rfl⟩:=List.getElem_of_mem ha
    have:=h i hi
    rw [ybe hi] at this
    unfold out9
    simp only [Bool.not_eq_true',decide_eq_false_iff_not,Classical.not_not]
    omega
def genE(n:Int)(es:List E3):Int:=((ybd es).length:Int)+1-n
section
variable {n : Int} {es : List E3} {x : List Int}
theorem p_genus(H:SmP n es)(q:smlE n es=0){R:Int→Int→Prop}(h:R (genE n es) 0):ycp n es R:=by
  obtain ⟨k,rfl,G,hc,h5,h8⟩:=H.get q
  obtain ⟨hE,h1,h12⟩:=ybr G.g
  refine p_graph_Genus (by have:=H.es40;omega) G.g (fun v hv=>(yhM hE h1 h12 hv).1 hc) ?_
  rw [G.size];exact h
theorem p_near_list{m:Nat}{E:List (Int×Int)}{zs:List (List Int)}{y:List Int}(H:ClOk m E zs x y)(hzl:zs.length≤1000000000){R:List (List Int)→Prop}(hR:∀ L,Asc L→(∀ z,z∈L↔NearC E x (dotL y y) z)→R L) :
    (∃ I2:Nat→(List (List Int))→Int→Prop,(∃ m0,I2 m0 ([ybi x y]) 0)∧∀ (m2:Nat) (v:List (List Int)) (v2:Int),I2 m2 v v2 →
      ((v2<((v.length:Nat):Int) →
        (∃ I3:Nat→(List (List Int))→Int→Prop,(∃ m0,I3 m0 v 0)∧∀ (m3:Nat) (v3:List (List Int)) (v4:Int),I3 m3 v3 v4 →
          ((v4<((zs.length:Nat):Int) →
            ((0≤v4∧v4<((zs.length:Nat):Int))∧((0≤v2∧v2<((v3.length:Nat):Int)) ∧
              ybg (gx v3 v2.toNat) (gx zs v4.toNat) (fun (r10:List Int)=>ybg x r10 (fun (r11:List Int)=>ya2 r11 r11 (fun (r12:Int) =>
                ((r12=dotL y y→yaX v3 (fun x R=>ybX x r10 R) (fun (r13:Bool) =>
                    ((r13=true→(In64 (v4+1)∧∃ m4,m4<m3∧I3 m4 v3 (v4+1)))∧(¬(r13=true)→(v3.length+1≤1000000000∧(In64 (v4+1)∧∃ m5,m5<m3∧I3 m5 (v3++[r10]) (v4+1))))))) ∧
                  (¬(r12=dotL y y)→(In64 (v4+1)∧∃ m6,m6<m3∧I3 m6 v3 (v4+1)))))))))) ∧
          (¬(v4<((zs.length:Nat):Int))→(In64 (v2+1)∧∃ m7,m7<m2∧I2 m7 v3 (v2+1)))))) ∧
      (¬(v2<((v.length:Nat):Int))→ydr v (fun (y:List (List Int))=>R y)))):=by
  obtain ⟨d,hd⟩:∃ d,d=dotL y y:=⟨_,rfl⟩
  obtain ⟨z0,hz0⟩:∃ z0,z0=ybi x y:=⟨_,rfl⟩
  have hcount:∀ v,NInv E zs x d z0 v→v.length≤6561:=fun v hv=>by rw [hd,hz0] at hv;exact H.count hv
  have hbd:∀ z,NearC E x d z→Bd 27 (ybi x z)∧Bd 36 z:=fun z hz=>by rw [hd] at hz;exact NearC.bd H hz
  have hvs:=H.zs.vs
  have hst:NInv E zs x d z0 [z0]:=⟨by simp,fun z hz=>by rw [List.mem_singleton.1 hz,hd,hz0];exact H.z0,by simp⟩
  have hxl:=H.xl
  have hm8:=H.m8
  refine ⟨fun m2 v v2=>∃ j:Nat,v2=j∧j≤v.length∧j+m2=6562∧NInv E zs x d z0 v∧∀ i,i<j→∀ c∈zs,NearC E x d (ybi (gx v i) c)→ybi (gx v i) c∈v,⟨6562,0,rfl,by omega,rfl,by rw [←hz0];exact hst,fun i hi=>by omega⟩,?_⟩
  rintro m2 v v2 ⟨j,rfl,hjv,hjm,hN,hcl⟩
  have hvl:=hcount v hN
  refine ⟨fun hlt=>?_,fun hge=>?_⟩
  · have hjl:j<v.length:=by omega
    refine ⟨fun m3 v3 v4=>Cnt zs.length (fun t=>NInv E zs x d z0 v3∧v <+: v3∧∀ i,i<t→NearC E x d (ybi (gx v j) (gx zs i))→ybi (gx v j) (gx zs i)∈v3) m3 v4,Cnt.start ⟨hN,List.prefix_refl _,fun i hi=>by omega⟩,?_⟩
    rintro m3 v3 v4 ⟨t,rfl,rfl,ht,hN3,hpre,hin⟩
    have hv3l:=hcount v3 hN3
    have hple:=hpre.length_le
    refine ⟨fun hlt2=>?_,fun hge2=>?_⟩
    · have htz:t<zs.length:=by omega
      have hgx3:gx v3 j=gx v j:=by
        rw [yaM (by omega),yaM hjl]
        exact (hpre.getElem hjl).symm
      have hu:=hN.near (gx v j) (by rw [yaM hjl];exact List.getElem_mem hjl)
      obtain ⟨c1,c2⟩:=hvs (gx zs t) (by rw [yaM htz];exact List.getElem_mem htz)
      have hcz:gx zs t∈zs:=by rw [yaM htz];exact List.getElem_mem htz
      obtain ⟨u1,u2⟩:=hbd _ hu
      rw [Int.toNat_natCast,Int.toNat_natCast,hgx3]
      have ul:=hu.len
      have b1:Bd 37 (ybi (gx v j) (gx zs t)):=fun i hi=>by
        rw [ybl] at hi
        rw [ybS hi]
        have h1:=u2 i hi
        have h2:=c2 i (by omega)
        omega
      have l1:(ybi (gx v j) (gx zs t)).length=E.length:=by rw [ybl,ul]
      have b2:Bd 46 (ybi x (ybi (gx v j) (gx zs t))):=fun i hi=>by
        rw [ybl] at hi
        rw [ybS hi]
        have h1:=H.x9 i hi
        have h2:=b1 i (by omega)
        omega
      refine ⟨by omega,by omega,ydE (by omega) (by omega) (u2.mono (by decide)) (c2.mono (by decide)) ?_⟩
      refine ydE (by omega) (by omega) (H.x9.mono (by decide)) (b1.mono (by decide)) ?_
      refine ycD rfl (by rw [ybl];omega) (b2.mono (by decide)) (b2.mono (by decide)) ?_
      obtain ⟨w,hw⟩:∃ w,w=ybi (gx v j) (gx zs t):=⟨_,rfl⟩
      have hcirc:Circ E.length E (gi w):=by
        rw [hw]
        exact (hu.circ.sub ((H.zs.mem _).1 hcz).circ).congr fun i hi=>(ybS (by omega)).symm
      have hnw:dotL (ybi x w) (ybi x w)=d→NearC E x d w:=fun q=>⟨by rw [hw];exact l1,hcirc,q⟩
      rw [←hw,←hd]
      rw [←hw] at l1 b1
      have nx:∀ v3':List (List Int),NInv E zs x d z0 v3'→v3 <+: v3'→(NearC E x d w→w∈v3')→In64 ((t:Int)+1)∧∃ m',m'<zs.length-t∧Cnt zs.length (fun t=>NInv E zs x d z0 v3'∧v <+: v3'∧∀ i,i<t→NearC E x d (ybi (gx v j) (gx zs i))→ybi (gx v j) (gx zs i)∈v3') m' ((t:Int)+1):=fun v3' g1 g2 g3=>Cnt.next htz (by omega) ⟨g1,hpre.trans g2,fun i hi hz=>by
        by_cases e:i=t
        · subst e;rw [←hw] at hz ⊢;exact g3 hz
        · exact g2.subset (hin i (by omega) hz)⟩
      refine ⟨fun q=>yka (p:=fun z=>decide (w=z)) (by omega) (fun z hz R' hR'=>yh7 (by omega) hR') ⟨fun c=>?_,fun c=>?_⟩,fun q=>nx v3 hN3 (List.prefix_refl _) fun z=>absurd z.dist q⟩
      · obtain ⟨z,hz,hp⟩:=List.any_eq_true.1 c
        have:=of_decide_eq_true hp
        subst this
        exact nx v3 hN3 (List.prefix_refl _) fun _=>hz
      · have hnot:w∉v3:=fun z=>c (List.any_eq_true.2 ⟨w,z,decide_eq_true rfl⟩)
        have hN3':NInv E zs x d z0 (v3++[w]):=by
          refine ⟨?_,fun z hz=>?_,List.mem_append_left _ hN3.first⟩
          · rw [List.nodup_append]
            refine ⟨hN3.nd,by simp,fun a ha b hb e=>?_⟩
            rw [List.mem_singleton.1 hb] at e
            subst e;exact hnot ha
          · rcases List.mem_append.1 hz with h | h
            · exact hN3.near z h
            · rw [List.mem_singleton.1 h];exact hnw q
        exact ⟨by omega,nx _ hN3' (List.prefix_append _ _) fun _=>by simp⟩
    · have:t=zs.length:=by omega
      subst this
      refine ⟨i64 (by omega),m2-1,by omega,j+1,by omega,by omega,by omega,hN3,fun i hi c hc hz=>?_⟩
      have hgx3:gx v3 i=gx v i:=by
        rw [yaM (by omega),yaM (by omega)]
        exact (hpre.getElem (by omega)).symm
      rw [hgx3] at hz ⊢
      by_cases e:i=j
      · subst e
        obtain ⟨t,ht2,rfl⟩:=List.getElem_of_mem hc
        rw [←yaM ht2] at hz ⊢
        exact hin t ht2 hz
      · exact hpre.subset (hcl i (by omega) c hc hz)
  · have:j=v.length:=by omega
    subst this
    refine ⟨by omega,fun z hz=>?_,fun L hp hs=>hR L (asc_of hp hs hN.nd) fun z=>⟨fun hz=>?_,fun hz=>?_⟩⟩
    · have:=(hN.near z hz).len;omega
    · rw [←hd];exact hN.near z (hp.mem_iff.1 hz)
    · refine hp.mem_iff.2 ?_
      rw [hd,hz0] at hN
      rw [hd] at hcl
      refine H.all hN (fun u hu c hc hn=>?_) _ z _ hz hN.first (Nat.le_refl _)
      obtain ⟨i,hi,rfl⟩:=List.getElem_of_mem hu
      rw [←yaM hi] at hn ⊢
      exact hcl i hi c hc hn
theorem yg3(H:SmP n es){R:List (List Int)→Int→Int→Prop}(h1:vecE n es x≠0→R [] 0 (vecE n es x))(h2:vecE n es x=0→(4<genE n es∨¬Bd 9 x)→R [] 0 12)
    (h3:vecE n es x=0→genE n es≤4→Bd 9 x→∀ zs y k (m:Nat),n=m→CycL (ybd es) zs→slF zs 4096 x 0=some (y,k)→ClOk m (ybd es) zs x y→∀ L,Asc L→(∀ z,z∈L↔NearC (ybd es) x (dotL y y) z)→R L (dotL y y) 0):yct n es x R:=by
  refine ydP H (fun q=>⟨fun z=>absurd z q,fun _=>h1 q⟩) fun q zs hz=>⟨fun _=>p_genus H (ye0 q).1 ⟨fun _=>?_,fun z=>absurd rfl z⟩,fun z=>absurd rfl z⟩
  have q1:=(ye0 q).1
  have q2:=(ye0 q).2.1
  obtain ⟨m,rfl,G,hc,h5,h8⟩:=H.get q1
  refine ⟨genE m es≤4∧Bd 9 x,fun ⟨g4,b9⟩=>?_,fun c=>h2 q (.inl c),fun c=>?_⟩
  · have S:=yjj H q (b9.mono (by decide)) hz
    have hd0:=yih b9 b9 rfl
    have hd1:=Nat.mul_le_mul_right (9*9) (show x.length≤8 by omega)
    obtain ⟨y,k,hy⟩:=ykd (f:=4096) (k:=0) S.vs (by omega)
    have hyl:=slF_len hy
    have hdn:=slF_down S.vs hy
    have C:ClOk m (ybd es) zs x y:=⟨G.ok,hz,h8,q2,b9,by omega,slF_circ hz q2 hy,least_step G.ok hz (by omega) (slF_le hy).2,hdn⟩
    have by2:Bd 2000000 y:=yiA (by have:=S.sq;omega)
    refine yfp S (fun v hv=>((hz.mem v).1 hv).nn) (fun y' k' hy'=>?_) fun hn=>by rw [hn] at hy;cases hy
    rw [hy] at hy'
    cases hy'
    refine ⟨fun _=>ycD rfl (by omega) by2 by2 (ydE (by omega) (by omega) (b9.mono (by decide)) (by2.mono (by decide)) ?_),fun z=>absurd rfl z⟩
    exact p_near_list C S.len fun L hL hm=>h3 q g4 b9 zs y k m rfl hz hy C L hL hm
  · refine yj8 (p:=out9) (by omega) (fun v _ R' hR'=>p_out9 hR') ⟨fun d=>h2 q (.inr fun z=>?_),fun d=>⟨by omega,any9.1 (by simpa using d)⟩⟩
    rw [any9.2 z] at d;cases d
end
end Go.Proofs.YtencmgolklfmkaaGreat

/- The first spanning tree, plainly. -/
namespace Go.Proofs.YtencmgolklfmkaaGreat
open Go Go.RowKit Go.Shelf Go.Proofs.Tryz
set_option maxRecDepth 100000
def eA(E:List (Int×Int))(i:Nat):Nat:=(gx E i).1.toNat
def eB(E:List (Int×Int))(i:Nat):Nat:=(gx E i).2.toNat
def pt(E:List (Int×Int)):Nat→Nat→Nat
  | 0,v=>v
  | k+1,v=>if pt E k v=pt E k (eB E k) then pt E k (eA E k) else pt E k v
def inT(E:List (Int×Int))(i:Nat):Bool:=decide (pt E i (eA E i)≠pt E i (eB E i))
section
variable {E : List (Int × Int)}
theorem pt_same(k:Nat){u v:Nat}(h:pt E k u=pt E k v):pt E (k+1) u=pt E (k+1) v:=by
  rw [pt,pt,h]
theorem ykW:∀ {k i:Nat},i<k→pt E k (eA E i)=pt E k (eB E i)
  | k+1,i,h=>by
    by_cases e:i=k
    · subst e
      rw [pt,pt,if_pos rfl]
      split <;> rfl
    · exact pt_same k (ykW (by omega))
theorem pt_span{α:Type}{h:Nat→α} : ∀ {k:Nat},(∀ i,i<k→inT E i=true→h (eA E i)=h (eB E i))→∀ {u v:Nat},pt E k u=pt E k v→h u=h v
  | 0,_,u,v,e=>by
    have e:u=v:=e
    rw [e]
  | k+1,hh,u,v,e=>by
    have ih:∀ {u v:Nat},pt E k u=pt E k v→h u=h v:=fun e=>pt_span (k:=k) (h:=h) (fun i hi=>hh i (by omega)) e
    by_cases q:pt E k (eA E k)=pt E k (eB E k)
    · have nk:∀ w,pt E (k+1) w=pt E k w:=fun w=>by
        rw [pt];split
        · rename_i z;rw [z,q]
        · rfl
      rw [nk,nk] at e
      exact ih e
    · have hk:=hh k (by omega) (decide_eq_true q)
      rw [pt,pt] at e
      by_cases q1:pt E k u=pt E k (eB E k) <;> by_cases q2:pt E k v=pt E k (eB E k)
      · exact ih (q1.trans q2.symm)
      · rw [if_pos q1,if_neg q2] at e
        rw [ih q1,←hk];exact ih e
      · rw [if_neg q1,if_pos q2] at e
        rw [ih q2,←hk];exact ih e
      · rw [if_neg q1,if_neg q2] at e
        exact ih e
theorem pt_side:∀ {k t:Nat},t<k→inT E t=true→∃ S:Nat→Bool,S (eB E t)=true∧S (eA E t)=false∧∀ j,j<k→j≠t→inT E j=true→S (eA E j)=S (eB E j)
  | k+1,t,h,ht=>by
    have ht':=of_decide_eq_true ht
    by_cases e:t=k
    · subst e
      refine ⟨fun v=>decide (pt E t v=pt E t (eB E t)),by simp,by simpa using ht',fun j hj hne _=>?_⟩
      have:=ykW (E:=E) (k:=t) (i:=j) (by omega)
      simp only [this]
    · obtain ⟨S,s1,s2,s3⟩:=pt_side (k:=k) (t:=t) (by omega) ht
      by_cases q:inT E k=true∧S (eA E k)≠S (eB E k)
      · obtain ⟨q1,q2⟩:=q
        have q1':=of_decide_eq_true q1
        have htk:pt E k (eA E t)=pt E k (eB E t):=ykW (by omega)
        obtain ⟨P,hP,hp⟩:∃ P:Nat→Bool,(∀ u v,pt E k u=pt E k v→P u=P v)∧P (eA E t)=false∧P (eA E k)≠P (eB E k):=by
          by_cases c:pt E k (eA E t)=pt E k (eB E k)
          · refine ⟨fun v=>decide (pt E k v=pt E k (eA E k)),fun u v huv=>by simp only [huv],decide_eq_false fun z=>q1' (by rw [←z,c]),?_⟩
            simp only [decide_true]
            rw [decide_eq_false fun z=>q1' z.symm];decide
          · refine ⟨fun v=>decide (pt E k v=pt E k (eB E k)),fun u v huv=>by simp only [huv],decide_eq_false c,?_⟩
            simp only [decide_true]
            rw [decide_eq_false q1'];decide
        refine ⟨fun v=>xor (P v) (S v),?_,?_,fun j hj hne hjt=>?_⟩
        · show xor (P (eB E t)) (S (eB E t))=true
          rw [←hP _ _ htk,hp.1,s1];rfl
        · show xor (P (eA E t)) (S (eA E t))=false
          rw [hp.1,s2];rfl
        · show xor (P (eA E j)) (S (eA E j))=xor (P (eB E j)) (S (eB E j))
          by_cases ej:j=k
          · subst ej
            have h1:=hp.2
            revert h1 q2
            cases P (eA E j) <;> cases P (eB E j) <;> cases S (eA E j) <;> cases S (eB E j) <;> simp
          · rw [hP _ _ (ykW (show j<k by omega)),s3 j (by omega) hne hjt]
      · refine ⟨S,s1,s2,fun j hj hne hjt=>?_⟩
        by_cases ej:j=k
        · subst ej
          exact Classical.byContradiction fun z=>q ⟨hjt,z⟩
        · exact s3 j (by omega) hne hjt
variable {n : Nat} (hE : ya6 n E)
include hE
theorem eA_lt{i:Nat}(hi:i<E.length):(gx E i).1=(eA E i:Nat)∧eA E i<n:=by
  have:=hE (gx E i) (by rw [yaM hi];exact List.getElem_mem hi)
  unfold eA;omega
theorem eB_lt{i:Nat}(hi:i<E.length):(gx E i).2=(eB E i:Nat)∧eB E i<n:=by
  have:=hE (gx E i) (by rw [yaM hi];exact List.getElem_mem hi)
  unfold eB;omega
end
section
variable {E : List (Int × Int)} {n : Nat} {es : List E3}
theorem conn_const(G:GrOk n es E)(hc:yd0 n es=true){h:Nat→Nat}(hh:∀ i,i<E.length→h (eA E i)=h (eB E i)){u v:Nat}(hu:u<n)(hv:v<n):h u=h v:=by
  obtain ⟨hE,h1,h12⟩:=ybr G.g
  refine Classical.byContradiction fun hne=>?_
  obtain ⟨a,b,ha,hb,h3,h4,h5⟩:=(yhM hE h1 h12 hv).1 hc (fun w=>decide (h w≠h v)) (by simp) ⟨u,hu,by simpa using hne⟩
  have h3:=of_decide_eq_true h3
  have h4:h b=h v:=by simpa using h4
  obtain ⟨x,hx,q⟩:=W_mem hE h5
  have hmem:(x.1,x.2.1)∈E:=by
    rw [←G.e];unfold ybd
    refine List.mem_flatMap.2 ⟨x,hx,List.mem_replicate.2 ⟨?_,rfl⟩⟩
    have:=hE x hx;omega
  obtain ⟨i,hi,e⟩:=List.getElem_of_mem hmem
  have hgx:gx E i=(x.1,x.2.1):=by rw [yaM hi,e]
  have h6:=hh i hi
  unfold eA eB at h6
  rw [hgx] at h6
  rcases q with ⟨q1,q2⟩ | ⟨q1,q2⟩
  · rw [q1,q2] at h6
    simp only [Int.toNat_natCast] at h6
    exact h3 (h6.trans h4)
  · rw [q1,q2] at h6
    simp only [Int.toNat_natCast] at h6
    exact h3 (h6.symm.trans h4)
theorem tree_const(G:GrOk n es E)(hc:yd0 n es=true){α:Type}{h:Nat→α}(hh:∀ i,i<E.length→inT E i=true→h (eA E i)=h (eB E i)){u v:Nat}(hu:u<n)(hv:v<n):h u=h v :=
  pt_span hh (conn_const G hc (h:=pt E E.length) (fun i hi=>ykW hi) hu hv)
end
end Go.Proofs.YtencmgolklfmkaaGreat

/- The reference's first tree, paths in it, and the basis of the cycle lattice. -/
namespace Go.Proofs.YtencmgolklfmkaaGreat
open Go Go.RowKit Go.Shelf Go.Proofs.Tryz
set_option maxRecDepth 100000
section
variable {E : List (Int × Int)} {es : List E3} {n : Nat}
def ptL(E:List (Int×Int))(n k:Nat):List Int:=tab (fun v=>(pt E k v:Int)) n
def asg(out:List Int)(v:Nat):Bool:=decide (gi out v ≠ -2)
def cntA(n:Nat)(out:List Int):Int:=sm n fun v=>if asg out v=true then 1 else 0
structure ParI(E:List (Int×Int))(n root:Nat)(out:List Int)(dp:Nat→Int):Prop where
  len:out.length=n
  rl:root<n
  ra:asg out root=true
  dn:∀ v,0≤dp v
  dc:∀ v,v<n→asg out v=true→dp v<cntA n out
  pr:∀ v,v<n→asg out v=true→v≠root→∃ e u:Nat,gi out v=e∧e<E.length∧inT E e=true∧u<n∧((eA E e=v∧eB E e=u)∨(eB E e=v∧eA E e=u))∧asg out u=true∧dp u<dp v
structure PathT(E:List (Int×Int))(a b:Int)(p:List Dart):Prop where
  ch:Ch E a p b
  nd:(p.map Prod.fst).Nodup
  tr:∀ d∈p,d.1<E.length∧inT E d.1=true
structure LoopV(E:List (Int×Int))(e:Nat)(y:List Int):Prop where
  len:y.length=E.length
  circ:Circ E.length E (gi y)
  one:gi y e=1
  free:∀ f,f<E.length→inT E f=false→f≠e→gi y f=0
  bd:Bd 1 y
def yjl(E:List (Int×Int))(k:Nat):List Nat:=chL (fun i=>!inT E i) k
end
end Go.Proofs.YtencmgolklfmkaaGreat

/- The reference's Around: all circulations that are near enough outside of the tree. -/
namespace Go.Proofs.YtencmgolklfmkaaGreat
open Go Go.RowKit Go.Shelf Go.Proofs.Tryz
set_option maxRecDepth 100000
section
variable {E : List (Int × Int)} {n : Nat} {es : List E3}
structure BasOk(n:Nat)(E:List (Int×Int))(l:List (List Int)):Prop where
  hE:ya6 n E
  len:l.length=(yjl E E.length).length
  lv:∀ i,∀ hi:i<(yjl E E.length).length,LoopV E (yjl E E.length)[i] (gx l i)
structure ArI(E:List (Int×Int))(x:List Int)(a:Nat)(i:Nat)(A:List (List Int)):Prop where
  nd:A.Nodup
  len:A.length=(2*a+1)^i
  mem:∀ z,z∈A↔z.length=E.length∧Circ E.length E (gi z)∧∀ j,∀ hj:j<(yjl E E.length).length,if j<i then (gi x (yjl E E.length)[j]-gi z (yjl E E.length)[j]).natAbs≤a else gi z (yjl E E.length)[j]=0
  bd:∀ z∈A,Bd (i*(9+a)) z
end
end Go.Proofs.YtencmgolklfmkaaGreat

/- The chapter's examples: the triangle. -/
namespace Go.Proofs.YtencmgolklfmkaaGreat
open Go Go.RowKit Go.Shelf Go.Proofs.Tryz
set_option maxRecDepth 100000
def es0:List E3:=[(0,1,1),(0,2,1),(1,2,1)]
def E0:List (Int×Int):=[(0,1),(0,2),(1,2)]
def cyc0:List (List Int):=[[-1,1, -1],[1, -1,1]]
def bnd0:List (List Int):=[[-1, -1,0],[-1,0,1],[0, -1, -1],[0,1,1],[1,0, -1],[1,1,0]]
theorem ends0:ybd es0=E0:=by decide +kernel
theorem sml0:smlE 3 es0=0:=by decide +kernel
theorem smp0:SmP 3 es0:=⟨by decide,fun _ _=>by rw [ends0];decide⟩
theorem gr0:GrOk 3 es0 E0:=by
  obtain ⟨k,hk,G⟩:=gr_of (n:=3) (es:=es0) (by decide +kernel)
  have:k=3:=by omega
  subst this
  rw [ends0] at G;exact G
theorem yit:CycL E0 cyc0:=by
  refine ⟨by unfold Asc cyc0;decide +kernel,fun y=>?_⟩
  rw [←yhK gr0.ok,show dirL E0 3=[[1, -1,1],[-1,1, -1]] by decide +kernel]
  unfold cyc0
  simp only [List.mem_cons,List.not_mem_nil,or_false]
  exact Or.comm
theorem yfL{zs:List (List Int)}(h:CycL (ybd es0) zs):zs=cyc0:=by rw [ends0] at h;exact h.uniq yit
def wholeC(n:Nat)(es:List E3)(U:Nat→Bool):Bool:=(List.range n).any U&&(List.range n).all fun u=>(List.range n).all fun v=>!U u || !U v || decide (root (yap (es.filter (inE U))) u=root (yap (es.filter (inE U))) v)
theorem whole_of{n:Nat}{es:List E3}{U:Nat→Bool}(hE:ycL es)(hn:n≤12)(h:wholeC n es U=true):yhm n es U:=by
  unfold wholeC at h
  rw [Bool.and_eq_true,List.any_eq_true,List.all_eq_true] at h
  obtain ⟨⟨v,hv,huv⟩,h2⟩:=h
  refine (whole_iff hE hn).2 ⟨⟨v,List.mem_range.1 hv,huv⟩,fun u v hu hv huu huv=>?_⟩
  have:=List.all_eq_true.1 (h2 u (List.mem_range.2 hu)) v (List.mem_range.2 hv)
  rw [huu,huv] at this
  simpa using this
theorem isB0{w:Nat}(h1:1≤w)(h2:w<7):isB 3 es0 w=true:=by
  have hall:((List.range 7).all fun w=>decide (w=0) || (wholeC 3 es0 (fun v=>w.testBit v)&&wholeC 3 es0 fun v=>!w.testBit v))=true:=by decide +kernel
  have h:=List.all_eq_true.1 hall w (List.mem_range.2 h2)
  rw [decide_eq_false (show ¬w=0 by omega),Bool.false_or,Bool.and_eq_true] at h
  have hE12:ycL es0:=yfX (ybr gr0.g).1 (by decide)
  exact ykS.2 ⟨by decide +kernel,whole_of hE12 (by decide) h.1,whole_of hE12 (by decide) h.2⟩
theorem bondLst0:bondLst 3 es0 E0 7=[1,2,3,4,5,6].map fun w=>yhB E0 (bitV w):=by
  unfold bondLst bondW
  rw [List.filter_congr (q:=fun w=>decide (1≤w)) fun w hw=>?_]
  · rfl
  · by_cases h:1≤w
    · rw [isB0 h (List.mem_range.1 hw),Bool.and_true]
    · rw [decide_eq_false h,Bool.false_and]
theorem bnd_uniq0{zs:List (List Int)}(hp:zs.Perm (bondLst 3 es0 E0 (2^3-1)))(hs:zs.Pairwise fun a b=>¬lexC b a<0):zs=bnd0:=by
  refine yiQ (hp.trans ?_) hs (by unfold bnd0;decide +kernel)
  rw [show (2^3-1:Nat)=7 by rfl,bondLst0]
  have:([1,2,3,4,5,6].map fun w=>yhB E0 (bitV w)).isPerm bnd0=true:=by decide +kernel
  exact List.isPerm_iff.1 this
theorem near0{L:List (List Int)}(hL:Asc L)(hm:∀ z,z∈L↔NearC E0 [3,0,0] 6 z):L=[[1, -1,1]]:=by
  refine Asc.eq hL (by unfold Asc;simp) fun z=>?_
  rw [hm]
  have hc:Circ E0.length E0 (gi [1, -1,1]):=IsDC.circ ((yit.mem _).1 (by decide))
  constructor
  · rintro ⟨h1,h2,h3⟩
    match z,h1 with
    | [a,b,c],_ =>
      have e0:=h2 0
      have e1:=h2 1
      have g0:bdy E0.length E0 (gi [a,b,c]) 0 = -a-b:=by
        show 0+a*(0-1)+b*(0-1)+c*(0-0) = -a-b
        omega
      have g1:bdy E0.length E0 (gi [a,b,c]) 1=a-c:=by
        show 0+a*(1-0)+b*(0-0)+c*(0-1)=a-c
        omega
      have g3:dotL (ybi [3,0,0] [a,b,c]) (ybi [3,0,0] [a,b,c])=(3-a)*(3-a)+(0-b)*(0-b)+(0-c)*(0-c):=by
        show 0+(3-a)*(3-a)+(0-b)*(0-b)+(0-c)*(0-c)=_
        omega
      rw [g0] at e0;rw [g1] at e1;rw [g3] at h3
      have hb:b = -a:=by omega
      have hcc:c=a:=by omega
      subst hb;subst hcc
      have h4:(c-1)*(c-1)=0:=by
        have e1:(3-c)*(3-c)=9-6*c+c*c:=by
          rw [Int.sub_mul,Int.mul_sub,Int.mul_sub];omega
        have e2:(0 - -c)*(0 - -c)=c*c:=by rw [show 0 - -c=c by omega]
        have e3:(0-c)*(0-c)=c*c:=by rw [show 0-c = -c by omega,Int.neg_mul_neg]
        have e4:(c-1)*(c-1)=c*c-2*c+1:=by rw [Int.sub_mul,Int.mul_sub,Int.mul_sub];omega
        rw [e1,e2,e3] at h3
        rw [e4];omega
      have h5:c=1:=by
        rcases Int.mul_eq_zero.1 h4 with q | q <;> omega
      subst h5
      simp
  · intro h
    rw [List.mem_singleton.1 h]
    exact ⟨rfl,hc,by decide +kernel⟩
theorem yj6{R:Bool→Prop}(h:R true):yb9 R:=by
  have hv1:vecE 3 es0 [2, -1,1]=0:=by decide +kernel
  have hv2:vecE 3 es0 [3,0,0]=0:=by decide +kernel
  have hv3:vecE 3 es0 [4,0,0]=0:=by decide +kernel
  unfold yb9 yc6
  refine yfr smp0 (fun q=>absurd sml0 q) fun _ zs hz=>?_
  rw [yfL hz]
  refine yfK (by decide) gr0 (by decide +kernel) fun bs hp hs=>?_
  rw [bnd_uniq0 hp hs]
  refine yh3 smp0 (fun q=>absurd hv1 q) (fun _=>by unfold Bd;decide) fun _ zs hz=>?_
  rw [yfL hz]
  have hsl:slF cyc0 4096 [2, -1,1] 0=some ([1,0,0],1):=by decide +kernel
  refine ⟨fun y k hy=>?_,fun hn=>by rw [hsl] at hn;cases hn⟩
  rw [hsl] at hy;cases hy
  refine yg3 smp0 (fun q=>absurd hv2 q) (fun _ c=>absurd c ?_) fun _ _ _ zs y k m hm hz hy C L hL hmem=>?_
  · rintro (c | c)
    · exact absurd c (by decide +kernel)
    · exact c (by unfold Bd;decide)
  have hm3:m=3:=by omega
  subst hm3
  rw [yfL hz] at hy
  have hsl2:slF cyc0 4096 [3,0,0] 0=some ([2,1, -1],1):=by decide +kernel
  rw [hsl2] at hy;cases hy
  have hd:dotL [2,1, -1] [2,1, -1]=6:=by decide
  rw [hd,ends0] at hmem
  rw [near0 hL hmem,hd]
  refine yft smp0 (fun q=>absurd hv2 q) (fun _=>by unfold Bd;decide) (fun _ c=>absurd c (by decide)) fun _ _ _ zs hz=>?_
  rw [yfL hz,show (ydR cyc0 [3,0,0] 2).isNone=true by decide +kernel]
  refine yft smp0 (fun q=>absurd hv3 q) (fun _=>by unfold Bd;decide) (fun _ c=>absurd c (by decide)) fun _ _ _ zs hz=>?_
  rw [yfL hz,show (ydR cyc0 [4,0,0] 2).isNone=false by decide +kernel]
  refine ⟨i64 (by decide),i64 (by decide),i64 (by decide),i64 (by decide),i64 (by decide),fun _=>?_,fun c=>absurd (by decide) c⟩
  refine yd8 (a:=cyc0) (by decide) (fun v hv=>by rw [(yit.vs v hv).1];decide) ⟨fun _=>?_,fun c=>absurd rfl c⟩
  have hb:∀ v∈bnd0,v.length≤1000000000:=by unfold bnd0;decide
  refine yd8 (a:=bnd0) (by decide) hb ⟨fun _=>?_,fun c=>absurd rfl c⟩
  refine yh7 (by decide) ⟨fun _=>⟨fun _=>?_,fun c=>absurd rfl c⟩,fun c=>absurd (by decide) c⟩
  refine yd8 (a:=[[1, -1,1]]) (by decide) (by decide) ⟨fun _=>⟨fun _=>⟨fun _=>h,fun c=>absurd rfl c⟩,fun c=>absurd rfl c⟩,fun c=>absurd rfl c⟩
end Go.Proofs.YtencmgolklfmkaaGreat

/- The reference's nearest vectors; the laws VoronoiNearest and VoronoiLeast. -/
namespace Go.Proofs.YtencmgolklfmkaaGreat
open Go Go.RowKit Go.Shelf Go.Proofs.Tryz
set_option maxRecDepth 100000
section
variable {n : Int} {es : List E3} {x : List Int}
end
end Go.Proofs.YtencmgolklfmkaaGreat

/- The program's lattices: what Kind tells. -/
namespace Go.Proofs.YtencmgolklfmkaaGreat
open Go Go.RowKit Go.Shelf Go.Proofs.Tryz
set_option maxRecDepth 100000
section
variable {E : List (Int × Int)} {es : List E3} {n : Nat}
theorem ykH{k:Int}{R:List (Int×Int)→Int→Prop}(hl:es.length≤100)(h1:ybx k es≠0→R [] (ybx k es))(h2:ybx k es=0→R (ybd es) 0):yko k es R:=ycZ hl h1 h2
theorem p_lat_flow(G:GrOk n es E)(hl:es.length≤100){x:List Int}(hx:x.length=E.length)(hb:Bd 1 x){R:List Int→Prop}(h:R (tab (fun v=>bdy E.length E (gi x) v) n)):ykq (n:Int) E x R:=by
  have hn:=G.few
  have hlen:=G.len
  have bd:∀ k,k≤E.length→∀ v:Int,(bdy k E (gi x) v).natAbs≤k*2:=fun k hk v=>by
    unfold bdy
    refine sm_bd fun i hi=>?_
    have h1:=hb i (by omega)
    rw [show (2:Nat)=1*2 by rfl]
    refine mul_bd h1 ?_
    split <;> split <;> decide
  refine ⟨by omega,fun m v out=>Cnt E.length (fun k=>out=tab (fun v=>bdy k E (gi x) v) n) m v,Cnt.start ?_,?_⟩
  · refine yjN (by simp) _ fun i hi=>by rw [yjK];rfl
  · rintro m v out ⟨k,rfl,rfl,hk,ho⟩
    refine ⟨fun hlt=>?_,fun hge=>?_⟩
    · have hkl:k<E.length:=by omega
      obtain ⟨a1,a2⟩:=eA_lt G.ok hkl
      obtain ⟨b1,b2⟩:=eB_lt G.ok hkl
      have hol:out.length=n:=by rw [ho,yaI]
      have hog:∀ w,w<n→gi out w=bdy k E (gi x) (w:Int):=fun w hw=>by rw [ho];exact ycc (fun v:Nat=>bdy k E (gi x) (v:Int)) hw
      have h1:=hb k (by omega)
      have h2:=bd k (by omega) (eB E k:Int)
      have h3:=bd k (by omega) (eA E k:Int)
      rw [Int.toNat_natCast,b1,a1,Int.toNat_natCast,Int.toNat_natCast,hog _ b2]
      have hg2:gi (out.set (eB E k) (bdy k E (gi x) (eB E k:Int)+gi x k)) (eA E k)=bdy k E (gi x) (eA E k:Int)+if eA E k=eB E k then gi x k else 0:=by
        rw [ycM (by omega)]
        by_cases q:eA E k=eB E k
        · rw [if_pos q,if_pos q,q]
        · rw [if_neg q,if_neg q,hog _ a2];omega
      rw [hg2]
      refine ⟨by omega,by decide,by omega,by omega,i64 (by omega),by decide,by rw [List.length_set];omega,i64 (by split <;> omega),Cnt.next hkl (by omega) ?_⟩
      refine yjN (by simpa using hol) _ fun w hw=>?_
      show _=bdy k E (gi x) (w:Int)+gi x k*((if (gx E k).2=(w:Int) then 1 else 0)-if (gx E k).1=(w:Int) then 1 else 0)
      rw [b1,a1,ycM (by rw [List.length_set];omega),ycM (by omega)]
      by_cases q1:w=eA E k <;> by_cases q2:w=eB E k
      · rw [if_pos q1,if_pos (by omega),if_pos (by omega),if_pos (by omega),q1];simp
      · rw [if_pos q1,if_neg (by omega),if_neg (by omega),if_pos (by omega),q1];omega
      · rw [if_neg q1,if_pos q2,if_pos (by omega),if_neg (by omega),q2];omega
      · rw [if_neg q1,if_neg q2,if_neg (by omega),if_neg (by omega),hog _ hw];omega
    · have:k=E.length:=by omega
      subst this
      rw [ho];exact h
theorem ykU(G:GrOk n es E)(hl:es.length≤100){R:List Bool→Prop}(h:∀ l:List Bool,l.length=E.length→(∀ i,i<E.length→gb l i=inT E i)→R l):ykp (n:Int) E R:=by
  have hn:=G.few
  have hlen:=G.len
  refine ⟨by omega,fun m v p=>Cnt n (fun k=>p.length=n∧∀ w:Nat,w<k→gi p w=w) m v,Cnt.start ⟨by simp,fun w hw=>by omega⟩,?_⟩
  rintro m v p ⟨k,rfl,rfl,hk,hp,hw⟩
  rw [List.length_replicate,Int.toNat_natCast]
  refine ⟨fun hlt=>?_,fun hge=>?_⟩
  · have hkn:k<n:=by omega
    rw [Int.toNat_natCast]
    refine ⟨by omega,Cnt.next hkn (by omega) ⟨by simpa using hp,fun w hw2=>?_⟩⟩
    rw [ycM (by omega)]
    by_cases q:w=k
    · rw [if_pos q,q]
    · rw [if_neg q];exact hw w (by omega)
  · have:k=n:=by omega
    subst this
    refine ⟨by omega,fun m v f o=>Cnt E.length (fun j=>f=ptL E k j∧o.length=E.length∧∀ i,i<j→gb o i=inT E i) m v,Cnt.start ⟨yjN hp _ hw,by simp,fun i hi=>by omega⟩,?_⟩
    rintro m v f o ⟨j,rfl,rfl,hj,hf,ho,hoi⟩
    refine ⟨fun hlt=>?_,fun hge=>?_⟩
    · have hjl:j<E.length:=by omega
      obtain ⟨a1,a2⟩:=eA_lt G.ok hjl
      obtain ⟨b1,b2⟩:=eB_lt G.ok hjl
      have pl:f.length=k:=by rw [hf];exact yaI _ _
      have pg:∀ w,w<k→gi f w=(pt E j w:Int):=fun w hw=>by rw [hf];exact ycc _ hw
      have fin:∀ b:Bool,b=inT E j→∀ f':List Int,f'=ptL E k (j+1)→(In64 ((j:Int)+1)∧∃ m3,m3<E.length-j∧Cnt E.length (fun j'=>f'=ptL E k j'∧(o.set j b).length=E.length∧∀ i,i<j'→gb (o.set j b) i=inT E i) m3 ((j:Int)+1)):=fun b hb f' hf'=>Cnt.next hjl (by omega) ⟨hf',by simpa using ho,fun i hi=>by
          rw [ycX (by omega)]
          by_cases q:i=j
          · rw [if_pos q,hb,q]
          · rw [if_neg q];exact hoi i (by omega)⟩
      rw [Int.toNat_natCast,a1,b1]
      refine ⟨by omega,?_⟩
      unfold ykj
      rw [Int.toNat_natCast,Int.toNat_natCast,pg _ a2,pg _ b2]
      refine ⟨by decide,by omega,by decide,by omega,fun c=>⟨by omega,fin false ?_ f ?_⟩,fun c=>?_⟩
      · symm;exact decide_eq_false fun z=>z (by omega)
      · rw [hf]
        refine ygB fun w hw=>?_
        rw [pt]
        split
        · rename_i z;rw [z];omega
        · rfl
      · refine ⟨fun m' w g=>Cnt k (fun i=>g.length=k∧(∀ u,u<i→gi g u=(pt E (j+1) u:Int))∧∀ u,i≤u→gi g u=gi f u) m' w,Cnt.start ⟨pl,fun u hu=>by omega,fun u _=>rfl⟩,?_⟩
        rintro m' w g ⟨i,rfl,rfl,hi,hg,g1,g2⟩
        rw [pl]
        refine ⟨fun hlt2=>?_,fun hge2=>?_⟩
        · have hik:i<k:=by omega
          rw [Int.toNat_natCast,g2 i (Nat.le_refl _),pg i hik]
          refine ⟨by omega,fun c2=>Cnt.next hik (by omega) ⟨by simpa using hg,fun u hu=>?_,fun u hu=>?_⟩,fun c2=>Cnt.next hik (by omega) ⟨hg,fun u hu=>?_,fun u hu=>g2 u (by omega)⟩⟩
          · rw [ycM (by omega)]
            by_cases e:u=i
            · rw [if_pos e,e,pt,if_pos (by omega)]
            · rw [if_neg e];exact g1 u (by omega)
          · rw [ycM (by omega),if_neg (by omega)];exact g2 u (by omega)
          · by_cases e:u=i
            · rw [e,g2 i (Nat.le_refl _),pg i hik,pt,if_neg (by omega)]
            · exact g1 u (by omega)
        · have:i=k:=by omega
          subst this
          exact ⟨by omega,fin true (by symm;exact decide_eq_true fun z=>c (by omega)) g (yjN hg _ g1)⟩
    · have:j=E.length:=by omega
      subst this
      exact h o ho hoi
structure SideP(E:List (Int×Int))(t:Nat)(f:Nat→Int):Prop where
  b:f (eB E t)=1
  a:f (eA E t)=0
  same:∀ j,j<E.length→j≠t→inT E j=true→f (eA E j)=f (eB E j)
  r:∀ v,0≤f v∧f v≤1
theorem p_lattice_side(G:GrOk n es E)(hl:es.length≤100){l:List Bool}(hll:l.length=E.length)(hgb:∀ i,i<E.length→gb l i=inT E i){t:Nat}(ht:t<E.length)(htt:inT E t=true){R:List Int→Prop}(h:∀ f,SideP E t f→R (tab f n)):yki (n:Int) E l (t:Int) R:=by
  have hn:=G.few
  have hlen:=G.len
  obtain ⟨ta1,ta2⟩:=eA_lt G.ok ht
  obtain ⟨tb1,tb2⟩:=eB_lt G.ok ht
  obtain ⟨S,S1,S2,S3⟩:=pt_side ht htt
  rw [show yki (n:Int) E l (t:Int) R=yki (n:Int) E l (t:Int) R from rfl]
  unfold yki
  rw [Int.toNat_natCast,tb1,Int.toNat_natCast,Int.toNat_natCast]
  refine ⟨by omega,by omega,by decide,by rw [List.length_replicate];omega,?_⟩
  -- numbers of 0 and 1 within the side
  obtain ⟨Q,hQ⟩:∃ Q:List Int→Prop,Q=fun f=>f.length=n∧(∀ v,gi f v=0∨gi f v=1)∧gi f (eB E t)=1∧∀ v,gi f v=1→S v=true:=⟨_,rfl⟩
  obtain ⟨clo,hclo⟩:∃ clo:List Int→Nat→Prop,clo=fun f k=>∀ i,i<k→i≠t→inT E i=true→gi f (eA E i)=gi f (eB E i):=⟨_,rfl⟩
  have hQ0:Q ((List.replicate n (0:Int)).set (eB E t) 1):=by
    rw [hQ]
    have hg:∀ v,gi ((List.replicate n (0:Int)).set (eB E t) 1) v=if v=eB E t then 1 else 0:=fun v=>by rw [ycM (by rw [List.length_replicate];omega),yjK]
    refine ⟨by simp,fun v=>?_,by rw [hg,if_pos rfl],fun v hv=>?_⟩
    · rw [hg];split
      · exact .inr rfl
      · exact .inl rfl
    · rw [hg] at hv
      by_cases q:v=eB E t
      · rw [q];exact S1
      · rw [if_neg q] at hv;cases hv
  have cnt_le:∀ f,Q f→sm n (gi f)≤n:=fun f hf=>by
    have h1:sm n (gi f)≤sm n fun _=>1:=yiB fun v _=>by rw [hQ] at hf;have:=hf.2.1 v;omega
    have h2:∀ n:Nat,sm n (fun _=>1)=(n:Int):=fun n=>by
      induction n with
      | zero=>rfl
      | succ n ih=>rw [sm,ih];omega
    rw [h2] at h1;exact h1
  have cnt0:1≤sm n (gi ((List.replicate n (0:Int)).set (eB E t) 1)):=by
    rw [hQ] at hQ0
    have:=ygu (n:=n) (f:=gi ((List.replicate n (0:Int)).set (eB E t) 1)) (fun v _=>by have:=hQ0.2.1 v;omega) (eB E t) tb2
    rw [hQ0.2.2.1] at this;exact this
  refine ⟨fun m v f=>Cnt n (fun r=>Q f∧((r:Int)+1≤sm n (gi f)∨clo f E.length)) m v,Cnt.start ⟨hQ0, .inl (by omega)⟩,?_⟩
  rintro m v f ⟨r,rfl,rfl,hr,hf,hp⟩
  refine ⟨fun hlt=>?_,fun hge=>?_⟩
  · have hrn:r<n:=by omega
    refine ⟨fun m' v2 g=>Cnt E.length (fun k=>Q g∧((sm n (gi f)<sm n (gi g)∧¬clo f E.length)∨(g=f∧clo f k))) m' v2,Cnt.start ⟨hf, .inr ⟨rfl,by rw [hclo];exact fun i hi=>absurd hi (Nat.not_lt_zero i)⟩⟩,?_⟩
    rintro m' v2 g ⟨k,rfl,rfl,hk,hg,hpg⟩
    refine ⟨fun hlt2=>?_,fun hge2=>?_⟩
    · have hkl:k<E.length:=by omega
      obtain ⟨a1,a2⟩:=eA_lt G.ok hkl
      obtain ⟨b1,b2⟩:=eB_lt G.ok hkl
      have hg':=hg
      rw [hQ] at hg'
      obtain ⟨gl,g01,gb1,gS⟩:=hg'
      rw [Int.toNat_natCast,a1,b1,Int.toNat_natCast,Int.toNat_natCast,hgb k hkl]
      have same:(k≠t→inT E k=true→gi g (eA E k)=gi g (eB E k))→(In64 ((k:Int)+1)∧∃ m3,m3<E.length-k∧Cnt E.length (fun k=>Q g∧((sm n (gi f)<sm n (gi g)∧¬clo f E.length)∨(g=f∧clo f k))) m3 ((k:Int)+1)):=fun hs=>Cnt.next hkl (by omega) ⟨hg,by
        rcases hpg with p | ⟨p1,p2⟩
        · exact .inl p
        · refine .inr ⟨p1,?_⟩
          rw [hclo] at p2 ⊢
          intro i hi hit hin
          by_cases q:i=k
          · subst q;rw [←p1];exact hs hit hin
          · exact p2 i (by omega) hit hin⟩
      refine ⟨by omega,k≠t∧inT E k=true∧gi g (eA E k)≠gi g (eB E k),fun ⟨j1,j2,j3⟩=>?_,by omega,fun c1=>⟨fun c2=>same fun z=>absurd (by omega) z,fun c2=>⟨by decide,by omega,by omega,fun c3=>same fun _ _=>c3,fun c3=>⟨fun z=>c2 (by omega),c1,c3⟩⟩⟩,fun c1=>same fun _ z=>absurd z c1⟩
      refine ⟨by decide,by omega,by rw [List.length_set];omega,?_⟩
      obtain ⟨g',hg'⟩:∃ g',g'=(g.set (eA E k) 1).set (eB E k) 1:=⟨_,rfl⟩
      rw [←hg']
      have hgg:∀ v,gi g' v=if v=eB E k then 1 else if v=eA E k then 1 else gi g v:=fun v=>by
        rw [hg',ycM (by rw [List.length_set];omega),ycM (by omega)]
      have hSS:S (eA E k)=true∧S (eB E k)=true:=by
        have h1:=S3 k hkl j1 j2
        rcases g01 (eA E k) with q | q
        · rcases g01 (eB E k) with q2 | q2
          · exact absurd (q.trans q2.symm) j3
          · have:=gS _ q2
            exact ⟨h1.trans this,this⟩
        · have:=gS _ q
          exact ⟨this,h1.symm.trans this⟩
      have hge1:∀ v,v<n→gi g v≤gi g' v:=fun v _=>by
        rw [hgg]
        have:=g01 v
        split
        · omega
        · split <;> omega
      refine Cnt.next hkl (by omega) ⟨?_, .inl ?_⟩
      · rw [hQ]
        refine ⟨by rw [hg'];simpa using gl,fun v=>?_,?_,fun v hv=>?_⟩
        · rw [hgg];split
          · exact .inr rfl
          · split
            · exact .inr rfl
            · exact g01 v
        · rw [hgg];split
          · rfl
          · split
            · rfl
            · exact gb1
        · rw [hgg] at hv
          by_cases q1:v=eB E k
          · rw [q1];exact hSS.2
          · by_cases q2:v=eA E k
            · rw [q2];exact hSS.1
            · rw [if_neg q1,if_neg q2] at hv;exact gS v hv
      · have hle:sm n (gi f)≤sm n (gi g):=by
          rcases hpg with p | ⟨p1,_⟩
          · have:=p.1;omega
          · rw [p1];exact Int.le_refl _
        have hncl:¬clo f E.length:=fun z=>by
          rcases hpg with p | ⟨p1,_⟩
          · exact p.2 z
          · rw [hclo] at z
            rw [p1] at j3
            exact j3 (z k hkl j1 j2)
        have hlt3:sm n (gi g)<sm n (gi g'):=by
          obtain ⟨w,hw,hw1,hw2⟩:∃ w,w<n∧gi g w=0∧gi g' w=1:=by
            rcases g01 (eA E k) with q | q
            · refine ⟨_,a2,q,?_⟩
              rw [hgg];split
              · rfl
              · rw [if_pos rfl]
            · rcases g01 (eB E k) with q2 | q2
              · exact ⟨_,b2,q2,by rw [hgg,if_pos rfl]⟩
              · exact absurd (q.trans q2.symm) j3
          have h1:sm n (gi g)≤sm n fun v=>gi g' v-if v=w then 1 else 0:=yiB fun v hv=>by
            by_cases q:v=w
            · rw [if_pos q,q,hw1,hw2];decide
            · rw [if_neg q];have:=hge1 v hv;omega
          rw [ygl,ygg _ hw] at h1
          omega
        exact ⟨by omega,hncl⟩
    · have:k=E.length:=by omega
      subst this
      refine Cnt.next hrn (by omega) ⟨hg,?_⟩
      rcases hpg with p | ⟨p1,p2⟩
      · rcases hp with q | q
        · exact .inl (by omega)
        · exact absurd q p.2
      · exact .inr (by rw [p1];exact p2)
  · have:r=n:=by omega
    subst this
    have hcl:clo f E.length:=by
      rcases hp with q | q
      · have:=cnt_le f hf;omega
      · exact q
    rw [hQ] at hf
    obtain ⟨fl,f01,fb,fS⟩:=hf
    have hft:f=tab (gi f) r:=by rw [←fl];exact tab_self.symm
    rw [hft]
    refine h _ ⟨fb,?_,fun j hj hjt hin=>?_,fun v=>by have:=f01 v;omega⟩
    · rcases f01 (eA E t) with q | q
      · exact q
      · have:=fS _ q;rw [S2] at this;cases this
    · rw [hclo] at hcl;exact hcl j hj hjt hin
end
end Go.Proofs.YtencmgolklfmkaaGreat

/- What lattice.Kind tells of directed cycles and bonds. -/
namespace Go.Proofs.YtencmgolklfmkaaGreat
open Go Go.RowKit Go.Shelf Go.Proofs.Tryz
set_option maxRecDepth 100000
section
variable {E : List (Int × Int)} {es : List E3} {n : Nat}
structure BasV(E:List (Int×Int))(e:Nat)(y:List Int):Prop where
  len:y.length=E.length
  one:gi y e=1
  fr:∀ i,i<E.length→inT E i=false→i≠e→gi y i=0
  tr:∀ t,t<E.length→inT E t=true→∃ f,SideP E t f∧gi y t = -(f (eB E e)-f (eA E e))
theorem p_lat_Cycles_1(G:GrOk n es E)(hl:es.length≤100){l:List Bool}(hll:l.length=E.length)(hgb:∀ i,i<E.length→gb l i=inT E i){e:Nat}(he:e<E.length)(hf:inT E e=false){R:List Int→Prop}(h:∀ y,BasV E e y→R y):ykk E l (e:Int) (n:Int) es R:=by
  have hn:=G.few
  have hlen:=G.len
  refine ⟨by omega,by rw [List.length_replicate];omega,?_⟩
  rw [Int.toNat_natCast,Int.toNat_natCast]
  have hg0:∀ i,gi ((List.replicate E.length (0:Int)).set e 1) i=if i=e then 1 else 0:=fun i=>by rw [ycM (by rw [List.length_replicate];omega),yjK]
  refine ⟨fun m v y=>Cnt E.length (fun k=>y.length=E.length∧(∀ i,k≤i∨inT E i=false→gi y i=if i=e then 1 else 0)∧∀ t,t<k→inT E t=true→∃ f,SideP E t f∧gi y t = -(f (eB E e)-f (eA E e))) m v,Cnt.start ⟨by simp,fun i _=>hg0 i,fun t ht=>by omega⟩,?_⟩
  rintro m v y ⟨k,rfl,rfl,hk,hyl,hy1,hy2⟩
  refine ⟨fun hlt=>?_,fun hge=>?_⟩
  · have hkl:k<E.length:=by omega
    rw [Int.toNat_natCast,hgb k hkl]
    refine ⟨by omega,fun c=>?_,fun c=>Cnt.next hkl (by omega) ⟨hyl,fun i hi=>hy1 i (hi.elim (fun z => .inl (by omega)) .inr),fun t ht hin=>?_⟩⟩
    · refine p_lattice_side G hl hll hgb hkl c fun f hS=>ykQ G.ok (by omega) (fun v _=>by have:=hS.r v;omega) ?_
      have hdl:(yhB E f).length=E.length:=yaI _ _
      have hdg:gi (yhB E f) e=f (eB E e)-f (eA E e):=by unfold yhB;rw [ycc _ he];rfl
      have r1:=hS.r (eB E e)
      have r2:=hS.r (eA E e)
      rw [hdg]
      refine ⟨by omega,i64 (by omega),by omega,Cnt.next hkl (by omega) ⟨by simpa using hyl,fun i hi=>?_,fun t ht hin=>?_⟩⟩
      · have hik:i≠k:=by
          rintro rfl
          rcases hi with q | q
          · omega
          · rw [c] at q;cases q
        rw [ycM (by omega),if_neg hik]
        exact hy1 i (hi.elim (fun z => .inl (by omega)) .inr)
      · rw [ycM (by omega)]
        by_cases q:t=k
        · subst q;rw [if_pos rfl];exact ⟨f,hS,rfl⟩
        · rw [if_neg q];exact hy2 t (by omega) hin
    · by_cases q:t=k
      · subst q;exact absurd hin c
      · exact hy2 t (by omega) hin
  · have:k=E.length:=by omega
    subst this
    exact h y ⟨hyl,by rw [hy1 e (.inr hf),if_pos rfl],fun i hi hin hne=>by rw [hy1 i (.inr hin),if_neg hne],hy2⟩
theorem BasV.bd(hE:ya6 n E){e:Nat}{y:List Int}(H:BasV E e y):Bd 1 y:=fun i hi=>by
  rw [H.len] at hi
  by_cases c:inT E i=true
  · obtain ⟨f,hS,he⟩:=H.tr i hi c
    have r1:=hS.r (eB E e)
    have r2:=hS.r (eA E e)
    rw [he];omega
  · by_cases q:i=e
    · rw [q,H.one];decide
    · rw [H.fr i hi (by simpa using c) q];decide
theorem BasV.perp(G:GrOk n es E)(hc:yd0 n es=true){e:Nat}(he:e<E.length)(hfe:inT E e=false){y:List Int}(H:BasV E e y)(f:Nat→Int):dot_ E.length (gi y) (fun i=>f (eB E i)-f (eA E i))=0:=by
  -- a side for each single edge of the tree
  obtain ⟨sd,hsd⟩:∃ sd:Nat→Nat→Int,∀ t,t<E.length→inT E t=true→SideP E t (sd t)∧gi y t = -(sd t (eB E e)-sd t (eA E e)):=by
    have hch:∀ t,∃ g:Nat→Int,t<E.length→inT E t=true→SideP E t g∧gi y t = -(g (eB E e)-g (eA E e)):=fun t=>by
      by_cases c:t<E.length∧inT E t=true
      · obtain ⟨g,hg⟩:=H.tr t c.1 c.2
        exact ⟨g,fun _ _=>hg⟩
      · exact ⟨fun _=>0,fun h1 h2=>absurd ⟨h1,h2⟩ c⟩
    exact ⟨fun t=>Classical.choose (hch t),fun t=>Classical.choose_spec (hch t)⟩
  -- the drops yiM the tree
  obtain ⟨c,hcd⟩:∃ c:Nat→Int,c=fun t=>if inT E t=true then f (eB E t)-f (eA E t) else 0:=⟨_,rfl⟩
  have hconst:∀ u v,u<n→v<n→f u-sm E.length (fun t=>c t*sd t u)=f v-sm E.length fun t=>c t*sd t v:=fun u v hu hv =>
    tree_const G hc (h:=fun u=>f u-sm E.length fun t=>c t*sd t u) (fun i hi hin=>by
      have h1:sm E.length (fun t=>c t*sd t (eB E i))-sm E.length (fun t=>c t*sd t (eA E i))=f (eB E i)-f (eA E i):=by
        rw [←ygl,yaw (g:=fun t=>if t=i then f (eB E i)-f (eA E i) else 0) fun t ht=>?_,ygg _ hi]
        by_cases q:t=i
        · subst q
          have hS:=(hsd t hi hin).1
          rw [if_pos rfl,hS.b,hS.a,hcd]
          simp only [if_pos hin];omega
        · rw [if_neg q]
          by_cases w:inT E t=true
          · have hS:=(hsd t ht w).1
            rw [hS.same i hi (fun z=>q z.symm) hin];omega
          · rw [hcd];simp only [if_neg w,Int.zero_mul];omega
      show f (eA E i)-_=f (eB E i)-_
      omega) hu hv
  have hdrop:∀ i,i<E.length→f (eB E i)-f (eA E i)=sm E.length fun t=>c t*(sd t (eB E i)-sd t (eA E i)):=fun i hi=>by
    have h1:=hconst (eB E i) (eA E i) (eB_lt G.ok hi).2 (eA_lt G.ok hi).2
    have h2:sm E.length (fun t=>c t*(sd t (eB E i)-sd t (eA E i)))=sm E.length (fun t=>c t*sd t (eB E i))-sm E.length fun t=>c t*sd t (eA E i):=by
      rw [←ygl];exact yaw fun t _=>Int.mul_sub _ _ _
    rw [h2];omega
  have hst:∀ t,t<E.length→inT E t=true→sm E.length (fun i=>gi y i*(sd t (eB E i)-sd t (eA E i)))=0:=fun t ht hin=>by
    obtain ⟨hS,hyt⟩:=hsd t ht hin
    have hte:t≠e:=by rintro rfl;rw [hfe] at hin;cases hin
    rw [yaw (g:=fun i=>(if i=e then sd t (eB E e)-sd t (eA E e) else 0)+if i=t then gi y t else 0) fun i hi=>?_,ydu,ygg _ he,ygg _ ht,hyt]
    · omega
    · by_cases q:i=e
      · rw [if_pos q,if_neg (by omega),q,H.one];omega
      · by_cases q2:i=t
        · rw [if_neg q,if_pos q2,q2,hS.b,hS.a];omega
        · rw [if_neg q,if_neg q2]
          by_cases w:inT E i=true
          · rw [hS.same i hi q2 w,Int.sub_self,Int.mul_zero];rfl
          · rw [H.fr i hi (by simpa using w) q,Int.zero_mul];rfl
  unfold dot_
  rw [yaw (g:=fun i=>sm E.length fun t=>c t*(gi y i*(sd t (eB E i)-sd t (eA E i)))) fun i hi=>?_,sm_swap,yaw (g:=fun _=>0) fun t ht=>?_,ybY]
  · rw [yjF]
    by_cases w:inT E t=true
    · rw [hst t ht w,Int.mul_zero]
    · rw [hcd];simp only [if_neg w,Int.zero_mul]
  · show gi y i*(f (eB E i)-f (eA E i))=_
    rw [hdrop i hi,←yjF]
    exact yaw fun t _=>Int.mul_left_comm _ _ _
theorem ykO(G:GrOk n es E)(hl:es.length≤100)(hc:yd0 n es=true){R:List (List Int)→Int→Prop}(h:∀ l:List (List Int),l.length≤E.length→(∀ y∈l,y.length=E.length∧Bd 1 y∧∀ f:Nat→Int,dot_ E.length (gi y) (fun i=>f (eB E i)-f (eA E i))=0)→R l 0):ykm (n:Int) es R:=by
  have hn:=G.few
  have hlen:=G.len
  have hj:ybx (n:Int) es=0:=by unfold ybx;rw [if_pos G.g,if_pos hc]
  refine ykH hl (fun q=>absurd hj q) fun _=>⟨fun _=>?_,fun z=>absurd rfl z⟩
  rw [G.e]
  refine ykU G hl fun l hll hgb=>⟨fun m out v=>Cnt E.length (fun k=>out.length≤k∧∀ y∈out,y.length=E.length∧Bd 1 y∧∀ f:Nat→Int,dot_ E.length (gi y) (fun i=>f (eB E i)-f (eA E i))=0) m v,Cnt.start ⟨by simp,fun y hy=>by cases hy⟩,?_⟩
  rintro m out v ⟨k,rfl,rfl,hk,hol,ho⟩
  refine ⟨fun hlt=>?_,fun hge=>?_⟩
  · have hkl:k<E.length:=by omega
    rw [Int.toNat_natCast,hgb k hkl]
    refine ⟨by omega,fun c=>?_,fun c=>Cnt.next hkl (by omega) ⟨by omega,ho⟩⟩
    have hf:inT E k=false:=by simpa using c
    refine p_lat_Cycles_1 G hl hll hgb hkl hf fun y hy=>⟨by omega,Cnt.next hkl (by omega) ⟨by rw [List.length_append,List.length_singleton];omega,fun w hw=>?_⟩⟩
    rcases List.mem_append.1 hw with q | q
    · exact ho w q
    · rw [List.mem_singleton.1 q]
      exact ⟨hy.len,hy.bd G.ok,hy.perp G hc hkl hf⟩
  · have:k=E.length:=by omega
    subst this
    exact h out hol ho
theorem p_lattice_dot{x y:List Int}{R:Int→Prop}(hl:y.length=x.length)(hm:x.length≤1000)(hx:Bd 2000000 x)(hy:Bd 2000000 y)(h:R (dotL x y)):yku x y R:=ycD hl hm hx hy h
theorem ykD(G:GrOk n es E)(hl:es.length≤20)(hc:yd0 n es=true){x:List Int}(hx:x.length=E.length)(hb:Bd 1 x){R:Bool→Bool→Int→Prop}(h:∀ b1 b2:Bool,(Circ E.length E (gi x)→b1=true)→((∃ f:Nat→Int,∀ i,i<E.length→gi x i=f (eB E i)-f (eA E i))→b2=true)→R b1 b2 0):ykl (n:Int) es x R:=by
  have hn:=G.few
  have hlen:=G.len
  have hj:ybx (n:Int) es=0:=by unfold ybx;rw [if_pos G.g,if_pos hc]
  refine ykH (by omega) (fun q=>absurd hj q) fun _=>?_
  rw [G.e]
  refine ⟨fun _=>⟨fun _=>yhp (by omega) (fun k hk=>by have:=hb k hk;omega) ⟨fun _=>⟨fun _=>?_,fun z=>absurd rfl z⟩,fun z=>absurd rfl z⟩,fun z=>absurd (by omega) z⟩,fun z=>absurd rfl z⟩
  refine p_lat_flow G (by omega) hx hb ?_
  refine yj8 (p:=fun a=>!decide (a=0)) (by rw [yaI];omega) (fun v _ R' hR'=>hR') ?_
  refine ykO G (by omega) hc fun l hll hL=>⟨fun _=>?_,fun z=>absurd rfl z⟩
  refine yka (p:=fun c=>!decide (dotL c x=0)) (by omega) (fun v hv R' hR'=>p_lattice_dot (by rw [(hL v hv).1,hx]) (by rw [(hL v hv).1];omega) ((hL v hv).2.1.mono (by decide)) (hb.mono (by decide)) hR') ?_
  refine h _ _ (fun hcirc=>?_) fun ⟨f,hf⟩=>?_
  · rw [Bool.not_eq_true',List.any_eq_false]
    intro a ha
    obtain ⟨i,hi,rfl⟩:=List.getElem_of_mem ha
    rw [yaI] at hi
    have e:(tab (fun v:Nat=>bdy E.length E (gi x) (v:Int)) n)[i]'(by rw [yaI];exact hi)=0:=by
      rw [←ybe (by rw [yaI];exact hi),ycc (fun v:Nat=>bdy E.length E (gi x) (v:Int)) hi]
      exact hcirc i
    rw [e];decide
  · rw [Bool.not_eq_true',List.any_eq_false]
    intro c hcm
    have h1:=hL c hcm
    have e:dotL c x=0:=by
      unfold dotL
      rw [h1.1,←h1.2.2 f]
      exact ybA (fun i _=>rfl) fun i hi=>hf i hi
    rw [e];decide
end
end Go.Proofs.YtencmgolklfmkaaGreat

/- The law VoronoiHalves. -/
namespace Go.Proofs.YtencmgolklfmkaaGreat
open Go Go.RowKit Go.Shelf Go.Proofs.Tryz
set_option maxRecDepth 100000
def negL(x:List Int):List Int:=tab (fun i => -gi x i) x.length
theorem ykx(x:List Int):(negL x).length=x.length:=yaI _ _
theorem ykR{x:List Int}{i:Nat}(h:i<x.length):gi (negL x) i = -gi x i:=ycc (fun i => -gi x i) h
theorem negL_map(x:List Int):negL x=x.map fun a => -a:=by
  refine ygj (by rw [ykx,List.length_map]) fun i hi=>?_
  rw [ykx] at hi
  rw [ykR hi,ybe (l:=x.map fun a => -a) (by rw [List.length_map];exact hi),List.getElem_map,ybe hi]
theorem ykV(x:List Int):negL (negL x)=x:=by
  refine ygj (by rw [ykx,ykx]) fun i hi=>?_
  rw [ykx,ykx] at hi
  rw [ykR (by rw [ykx];exact hi),ykR hi];omega
theorem lexC_negs:∀ {a b:List Int},a.length=b.length→lexC (a.map fun x => -x) (b.map fun x => -x)=lexC b a
  | [],[],_=>rfl
  | a::s,b::t,h=>by
    rw [List.map_cons,List.map_cons,lexC,lexC]
    have ih:=lexC_negs (a:=s) (b:=t) (by simpa using h)
    by_cases h1:b<a
    · rw [if_pos (by omega),if_pos h1]
    · rw [if_neg (by omega),if_neg h1]
      by_cases h2:a<b
      · rw [if_pos (by omega),if_pos h2]
      · rw [if_neg (by omega),if_neg h2,ih]
theorem neg_rev{m:Nat}{zs:List (List Int)}(hs:zs.Pairwise fun a b=>¬lexC b a<0)(hl:∀ v∈zs,v.length=m)(hp:(zs.map negL).Perm zs){i:Nat}(hi:i<zs.length):negL (gx zs i)=gx zs (zs.length-1-i):=by
  have h1:(zs.map negL).reverse.Pairwise fun a b=>¬lexC b a<0:=by
    rw [List.pairwise_reverse,List.pairwise_map]
    refine hs.imp_of_mem fun {a b} ha hb h=>?_
    rw [negL_map,negL_map,lexC_negs (by rw [hl a ha,hl b hb])]
    exact h
  have h2:(zs.map negL).reverse=zs:=yiQ ((List.reverse_perm _).trans hp) h1 hs
  have h3:gx zs (zs.length-1-i)=gx (zs.map negL).reverse (zs.length-1-i):=by rw [h2]
  rw [h3,yaM (l:=(zs.map negL).reverse) (by rw [List.length_reverse,List.length_map];omega),List.getElem_reverse,List.getElem_map]
  simp only [List.length_map]
  rw [yaM hi]
  congr 2
  omega
theorem even_len{zs:List (List Int)}{m:Nat}(hl:∀ v∈zs,v.length=m)(hrev:∀ i,i<zs.length→negL (gx zs i)=gx zs (zs.length-1-i))(hnz:∀ v∈zs,∃ i,i<m∧gi v i≠0):zs.length % 2=0:=by
  refine Classical.byContradiction fun q=>?_
  have hi:(zs.length-1) / 2<zs.length:=by omega
  have h1:=hrev _ hi
  rw [show zs.length-1-(zs.length-1) / 2=(zs.length-1) / 2 by omega] at h1
  obtain ⟨v,hv⟩:∃ v,v=gx zs ((zs.length-1) / 2):=⟨_,rfl⟩
  have hvm:v∈zs:=by rw [hv,yaM hi];exact List.getElem_mem hi
  rw [←hv] at h1
  obtain ⟨j,hj,hne⟩:=hnz v hvm
  have h2:gi (negL v) j=gi v j:=by rw [h1]
  rw [ykR (by rw [hl v hvm];exact hj)] at h2
  omega
section
variable {E : List (Int × Int)} {es : List E3} {n : Nat} {zs : List (List Int)}
theorem IsDC.nz{y:List Int}(h:IsDC E y):∃ i,i<E.length∧gi y i≠0:=by
  obtain ⟨s,p,hp,rfl⟩:=h
  obtain ⟨d,hd⟩:=List.exists_mem_of_ne_nil _ hp.ne
  refine ⟨d.1,hp.lt d hd,?_⟩
  rw [ycc _ (hp.lt d hd),yho hp.ed hd]
  rcases ycJ d.2 with e | e <;> rw [e] <;> decide
theorem IsDC.negL(hE:ya6 n E){y:List Int}(h:IsDC E y):IsDC E (negL y):=by
  have h1:=h.neg hE
  unfold Go.Proofs.YtencmgolklfmkaaGreat.negL
  rw [h.len];exact h1
theorem CycL.negs(hE:ya6 n E)(hz:CycL E zs):(zs.map negL).Perm zs:=by
  refine (List.perm_ext_iff_of_nodup (yfC hz.asc.nodup fun a _ b _ e=>?_) hz.asc.nodup).2 fun y=>?_
  · rw [←ykV a,←ykV b,e]
  · rw [List.mem_map,hz.mem]
    constructor
    · rintro ⟨v,hv,rfl⟩
      exact ((hz.mem v).1 hv).negL hE
    · intro hy
      exact ⟨negL y,(hz.mem _).2 (hy.negL hE),ykV y⟩
theorem asc_le(h:Asc zs):zs.Pairwise fun a b=>¬lexC b a<0:=h.imp fun {a b} q=>by
  rw [yc1 a b];omega
theorem bond_flip{w:Nat}(h1:1≤w)(h2:w<2^n-1){v:Nat}(hv:v<n):(2^n-1-w).testBit v = !w.testBit v:=by
  rw [show 2^n-1-w=2^n-(w+1) by omega,Nat.testBit_two_pow_sub_succ (by omega)]
  simp [hv]
theorem isB_flip(G:GrOk n es E){w:Nat}(h1:1≤w)(h2:w<2^n-1)(h:isB n es w=true):isB n es (2^n-1-w)=true:=by
  obtain ⟨b1,b2,b3⟩:=ykS.1 h
  have hE:=(ybr G.g).1
  refine ykS.2 ((BondP.congr hE (U':=fun v=>!w.testBit v) fun v hv=>bond_flip h1 h2 hv).2 ⟨b1,b3,?_⟩)
  simpa using b2
theorem yky{k w:Nat} : w∈bondW n es k↔w<k∧1≤w∧isB n es w=true:=by
  unfold bondW
  rw [List.mem_filter,List.mem_range,Bool.and_eq_true,decide_eq_true_iff]
theorem bond_negs(G:GrOk n es E):((bondLst n es E (2^n-1)).map negL).Perm (bondLst n es E (2^n-1)):=by
  unfold bondLst
  rw [List.map_map]
  have h1:(bondW n es (2^n-1)).map (negL ∘ fun w=>yhB E (bitV w))=((bondW n es (2^n-1)).map fun w=>2^n-1-w).map fun w=>yhB E (bitV w):=by
    rw [List.map_map]
    refine List.map_congr_left fun w hw=>?_
    obtain ⟨w1,w2,w3⟩:=yky.1 hw
    show negL (yhB E (bitV w))=yhB E (bitV (2^n-1-w))
    unfold yhB
    refine ygj (by rw [ykx,yaI,yaI]) fun i hi=>?_
    rw [ykx,yaI] at hi
    rw [ykR (by rw [yaI];exact hi),ycc _ hi,ycc _ hi]
    have ha:=(eA_lt G.ok hi).2
    have hb:=(eB_lt G.ok hi).2
    have key:∀ v,v<n→bitV (2^n-1-w) v=1-bitV w v:=fun v hv=>by
      show (if (2^n-1-w).testBit v=true then (1:Int) else 0)=1-if w.testBit v=true then 1 else 0
      rw [bond_flip w2 w1 hv]
      cases w.testBit v <;> rfl
    have ea:(gx E i).1.toNat=eA E i:=rfl
    have eb:(gx E i).2.toNat=eB E i:=rfl
    rw [ea,eb,key _ ha,key _ hb];omega
  rw [h1]
  refine List.Perm.map _ ((List.perm_ext_iff_of_nodup ?_ ?_).2 fun w=>?_)
  · refine yfC (List.nodup_range.filter _) fun a ha b hb e=>?_
    have:=(yky.1 ha).1
    have:=(yky.1 hb).1
    omega
  · exact List.nodup_range.filter _
  · rw [List.mem_map,yky]
    constructor
    · rintro ⟨v,hv,rfl⟩
      obtain ⟨w1,w2,w3⟩:=yky.1 hv
      exact ⟨by omega,by omega,isB_flip G w2 w1 w3⟩
    · rintro ⟨w1,w2,w3⟩
      exact ⟨2^n-1-w,yky.2 ⟨by omega,by omega,isB_flip G w2 w1 w3⟩,by omega⟩
structure IsBd(n:Nat)(es:List E3)(E:List (Int×Int))(y:List Int):Prop where
  len:y.length=E.length
  bd:Bd 1 y
  drop:∃ f:Nat→Int,∀ i,i<E.length→gi y i=f (eB E i)-f (eA E i)
  nz:∃ i,i<E.length∧gi y i≠0
theorem bond_is(G:GrOk n es E)(hc:yd0 n es=true){k:Nat} : ∀ y∈bondLst n es E k,IsBd n es E y:=fun y hy=>by
  unfold bondLst at hy
  obtain ⟨w,hw,rfl⟩:=List.mem_map.1 hy
  obtain ⟨_,_,h3⟩:=yky.1 hw
  obtain ⟨b1,⟨⟨u,hu,huw⟩,_⟩,⟨v,hv,hvw⟩,_⟩:=ykS.1 h3
  have hg:∀ i,i<E.length→gi (yhB E (bitV w)) i=bitV w (eB E i)-bitV w (eA E i):=fun i hi=>by unfold yhB;rw [ycc _ hi];rfl
  have hbv:∀ v,0≤bitV w v∧bitV w v≤1:=fun v=>indI_range _ v
  refine ⟨by unfold yhB;exact yaI _ _,fun i hi=>?_,⟨bitV w,hg⟩,?_⟩
  · unfold yhB at hi;rw [yaI] at hi
    rw [hg i hi]
    have:=hbv (eB E i);have:=hbv (eA E i);omega
  · refine Classical.byContradiction fun q=>?_
    have h0:∀ i,i<E.length→(bitV w (eA E i)).toNat=(bitV w (eB E i)).toNat:=fun i hi=>by
      have:gi (yhB E (bitV w)) i=0:=Classical.byContradiction fun z=>q ⟨i,hi,z⟩
      rw [hg i hi] at this;omega
    have h1:=conn_const G hc (h:=fun v=>(bitV w v).toNat) h0 hu hv
    have hu1:bitV w u=1:=by unfold bitV indI;rw [if_pos huw]
    have hv0:bitV w v=0:=by
      have:w.testBit v=false:=by simpa using hvw
      exact if_neg (by show ¬w.testBit v=true;rw [this];decide)
    rw [hu1,hv0] at h1
    cases h1
theorem dc_dot{v w:List Int}(hv:IsDC E v)(hw:IsDC E w):dotL v w≤dotL w w:=by
  unfold dotL
  rw [hv.len,hw.len]
  refine yiB fun i hi=>?_
  have h1:=hv.bd i (by rw [hv.len];exact hi)
  have h2:=hw.bd i (by rw [hw.len];exact hi)
  have c1:gi v i=0∨gi v i=1∨gi v i = -1:=by omega
  have c2:gi w i=0∨gi w i=1∨gi w i = -1:=by omega
  rcases c1 with q | q | q <;> rcases c2 with r | r | r <;> rw [q,r] <;> decide
theorem dc_pos{v:List Int}(hv:IsDC E v):0<dotL v v:=by
  obtain ⟨i,hi,hne⟩:=hv.nz
  have h1:=sq_le_dot (m:=E.length) (x:=gi v) hi
  have h2:=hv.bd i (by rw [hv.len];exact hi)
  unfold dotL
  rw [hv.len]
  have c1:gi v i=1∨gi v i = -1:=by omega
  rcases c1 with q | q <;> rw [q] at h1 <;> omega
theorem dc_eq(hE:ya6 n E){v w:List Int}(hv:IsDC E v)(hw:IsDC E w)(h:dotL w w≤dotL v w):v=w:=by
  have hle:=dc_dot hv hw
  have cas:∀ {u:List Int},IsDC E u→∀ i,i<E.length→gi u i=0∨gi u i=1∨gi u i = -1:=fun {u} hu i hi=>by
    have:=hu.bd i (by rw [hu.len];exact hi);omega
  -- they agree where w is not 0
  have hag:∀ i,i<E.length→gi w i≠0→gi v i=gi w i:=fun i hi hne=>by
    have h1:0≤sm E.length fun i=>gi w i*gi w i-gi v i*gi w i:=by
      rw [ygl]
      unfold dotL dot_ at hle h
      rw [hv.len,hw.len] at hle h
      omega
    have h2:∀ j,j<E.length→0≤gi w j*gi w j-gi v j*gi w j:=fun j hj=>by
      rcases cas hv j hj with q | q | q <;> rcases cas hw j hj with r | r | r <;> rw [q,r] <;> decide
    have h3:=ygu h2 i hi
    have h4:(sm E.length fun i=>gi w i*gi w i-gi v i*gi w i)=0:=by
      refine Int.le_antisymm ?_ h1
      rw [ygl]
      unfold dotL dot_ at hle h
      rw [hv.len,hw.len] at hle h
      omega
    rw [h4] at h3
    rcases cas hv i hi with q | q | q <;> rcases cas hw i hi with r | r | r <;> rw [q,r] at h3 <;> first | omega | exact absurd r hne
  have hcz:Circ E.length E (fun i=>gi v i-gi w i):=hv.circ.sub hw.circ
  rcases yhd E.length (fun i=>gi v i-gi w i) with h0 | h0
  · exact ygj (by rw [hv.len,hw.len]) fun i hi=>by have:=h0 i (by rw [←hv.len];exact hi);omega
  · exfalso
    obtain ⟨s,p,hp,rfl⟩:=hv
    have hset:=hp.set (n:=n)
    have hgv:∀ i,i<E.length→gi (tab (vec p) E.length) i=vec p i:=fun i hi=>ycc _ hi
    have hsup:∀ i,i<E.length→gi (tab (vec p) E.length) i-gi w i≠0→inP p i=true:=fun i hi hne=>by
      refine (yio hp.ed i).1 ?_
      rw [←hgv i hi]
      intro z
      by_cases q:gi w i=0
      · rw [z,q] at hne;exact hne rfl
      · have:=hag i hi q;rw [this] at hne;omega
    have hwall:∃ j,j<E.length∧gi w j≠0:=hw.nz
    obtain ⟨s',p',hp',hpos,hfull⟩:=hset.full hE hcz hsup h0
    obtain ⟨j,hj,hwj⟩:=hwall
    have hvj:gi (tab (vec p) E.length) j≠0:=by rw [hag j hj hwj];exact hwj
    have hin:inP p j=true:=(yio hp.ed j).1 (by rw [←hgv j hj];exact hvj)
    obtain ⟨d,hd,rfl⟩:=yfg.1 (hfull j hj hin)
    have h5:0<(gi (tab (vec p) E.length) d.1-gi w d.1)*sg d.2:=(hpos d hd).2
    have h6:=hag d.1 hj hwj
    rw [h6,Int.sub_self,Int.zero_mul] at h5
    omega
end
theorem p_halves{n:Int}{es:List E3}{i:Int}(hi:0≤i∧i≤255):ykn n es i (fun r=>r=true):=by
  refine ⟨SmP n es∧smlE n es=0∧es.length≤20,fun ⟨H,hsm,h20⟩=>?_,p_r08_FewTrees ⟨fun q=>?_,fun _=>yj6 rfl⟩⟩
  · obtain ⟨m,rfl,G,hc,h5,h8⟩:=H.get hsm
    obtain ⟨E,hE⟩:∃ E,E=ybd es:=⟨_,rfl⟩
    refine yfr H (fun q=>absurd hsm q) fun _ zs hz=>?_
    rw [←hE] at G h8 hz
    refine yfK (by omega) G hc fun bs hp hs=>?_
    have hzl:=hz.len G.ok
    have hpw:=few_pow (E:=E) h5 h8
    have hmul:=Nat.mul_le_mul_right ((2*E.length+1)^m) (show m≤m+1 by omega)
    have hbl:=hp.length_eq
    have hbl2:=ye7 (n:=m) (es:=es) (E:=E) (2^m-1)
    have hp2:=pow2 G.few
    have hzlen:∀ v∈zs,v.length=E.length:=fun v hv=>((hz.mem v).1 hv).len
    have hzrev:∀ i,i<zs.length→negL (gx zs i)=gx zs (zs.length-1-i):=fun i hi=>neg_rev (asc_le hz.asc) hzlen (hz.negs G.ok) hi
    have hbis:∀ v∈bs,IsBd m es E v:=fun v hv=>bond_is G hc v (hp.mem_iff.1 hv)
    have hblen:∀ v∈bs,v.length=E.length:=fun v hv=>(hbis v hv).len
    have hbrev:∀ i,i<bs.length→negL (gx bs i)=gx bs (bs.length-1-i):=fun i hi=>neg_rev hs hblen (((hp.map negL).trans (bond_negs G)).trans hp.symm) hi
    have hzev:=even_len hzlen hzrev fun v hv=>((hz.mem v).1 hv).nz
    have hbev:=even_len hblen hbrev fun v hv=>(hbis v hv).nz
    have tm2:∀ k:Nat,k % 2=0→((k:Int).tmod 2)=0:=fun k hk=>by rw [Int.tmod_eq_emod_of_nonneg (by omega)];omega
    have hgz:∀ i,i<zs.length→gx zs i∈zs:=fun i hi=>by rw [yaM hi];exact List.getElem_mem hi
    have hgb:∀ i,i<bs.length→gx bs i∈bs:=fun i hi=>by rw [yaM hi];exact List.getElem_mem hi
    -- a vector in order with its negative
    have turn:∀ (l:List (List Int)) (k:Nat),k<l.length→l.length≤1000000000→(gx l k).length=E.length→Bd 1 (gx l k)→negL (gx l k)=gx l (l.length-1-k)→∀ Q:Prop,Q→(In64 (((l.length:Nat):Int)-1)∧(In64 ((((l.length:Nat):Int)-1)-k)∧((0≤((((l.length:Nat):Int)-1)-k)∧((((l.length:Nat):Int)-1)-k)<((l.length:Nat):Int))∧yd4 (gx l k) (fun (r8:List Int)=>yaO r8 (gx l ((((l.length:Nat):Int)-1)-k).toNat) (fun (r9:Bool)=>((r9=true→Q)∧(¬(r9=true)→false=true))))))):=fun l k hk hl hlen hbd hrev Q hQ=>by
      refine ⟨i64 (by omega),i64 (by omega),by omega,?_⟩
      have e1:((((l.length:Nat):Int)-1)-k).toNat=l.length-1-k:=by omega
      rw [e1,←hrev]
      have e2:gx l k=tab (gi (gx l k)) E.length:=by rw [←hlen];exact tab_self.symm
      have e3:negL (gx l k)=tab (fun i => -gi (gx l k) i) E.length:=by unfold negL;rw [hlen]
      rw [e3]
      obtain ⟨y,hy⟩:∃ y,y=gx l k:=⟨_,rfl⟩
      rw [←hy] at e2 hbd hlen ⊢
      have key:yd4 (tab (gi y) E.length) (fun (r8:List Int)=>yaO r8 (tab (fun i => -gi y i) E.length) (fun (r9:Bool)=>((r9=true→Q)∧(¬(r9=true)→false=true)))):=by
        refine p_r49_Turned (by omega) (fun i hi=>by have:=hbd i (by omega);omega) ?_
        refine yh7 (by rw [yaI];omega) ⟨fun _=>hQ,fun c=>absurd (decide_eq_true rfl) c⟩
      rw [←e2] at key
      exact key
    refine ⟨True,fun _=>?_,fun _=>⟨fun _=>⟨by decide,fun _=>⟨fun _=>trivial,fun c=>absurd (tm2 _ hbev) c⟩,fun c=>absurd (tm2 _ hzev) c⟩,fun c=>absurd rfl c⟩,fun c=>absurd rfl c⟩
    refine ⟨Cnt zs.length (fun _=>True),Cnt.start trivial,?_⟩
    rintro m1 _ ⟨k,rfl,rfl,hk,_⟩
    refine ⟨fun hlt=>?_,fun _=>?_⟩
    · have hkz:k<zs.length:=by omega
      have hdc:=(hz.mem _).1 (hgz k hkz)
      rw [Int.toNat_natCast]
      refine ⟨by omega,ykD G h20 hc hdc.len hdc.bd fun b1 b2 hb1 hb2=>⟨fun _=>⟨fun _=>?_,fun c=>absurd (hb1 hdc.circ) c⟩,fun c=>absurd rfl c⟩⟩
      exact turn zs k hkz (by omega) hdc.len hdc.bd (hzrev k hkz) _ (Cnt.next hkz (by omega) trivial)
    refine ⟨Cnt bs.length (fun _=>True),Cnt.start trivial,?_⟩
    rintro m2 _ ⟨k,rfl,rfl,hk,_⟩
    refine ⟨fun hlt=>?_,fun _=>⟨fun _=>yj6 rfl,fun hne=>?_⟩⟩
    · have hkb:k<bs.length:=by omega
      have hbd:=hbis _ (hgb k hkb)
      rw [Int.toNat_natCast]
      refine ⟨by omega,ykD G h20 hc hbd.len hbd.bd fun b1 b2 hb1 hb2=>⟨fun _=>⟨fun _=>?_,fun c=>absurd (hb2 hbd.drop) c⟩,fun c=>absurd rfl c⟩⟩
      exact turn bs k hkb (by omega) hbd.len hbd.bd (hbrev k hkb) _ (Cnt.next hkb (by omega) trivial)
    -- one of them
    have hpos:0<zs.length:=by omega
    obtain ⟨w,hw⟩:∃ w:Nat,i.tmod ((zs.length:Nat):Int)=w:=⟨(i.tmod ((zs.length:Nat):Int)).toNat,by rw [Int.tmod_eq_emod_of_nonneg hi.1];have:=Int.emod_nonneg i (show ((zs.length:Nat):Int)≠0 by omega);omega⟩
    have hwl:w<zs.length:=by
      have:=Int.emod_lt_of_pos i (show (0:Int)<((zs.length:Nat):Int) by omega)
      rw [Int.tmod_eq_emod_of_nonneg hi.1] at hw;omega
    rw [hw,Int.toNat_natCast]
    obtain ⟨v,hv⟩:∃ v,v=gx zs w:=⟨_,rfl⟩
    rw [←hv]
    have hvz:v∈zs:=by rw [hv];exact hgz w hwl
    have hdc:=(hz.mem v).1 hvz
    have hvl:=hdc.len
    have vec0:∀ y:List Int,y.length=E.length→Bd 400 y→vecE (m:Int) es y=0:=fun y hyl hyb=>by
      unfold vecE
      rw [if_neg (fun z=>z hsm),if_neg (fun z=>z (by rw [←hE];exact hyl)),if_pos]
      rw [List.all_eq_true]
      intro a ha
      obtain ⟨j,hj,rfl⟩:=List.getElem_of_mem ha
      have:=hyb j hj
      rw [ybe hj] at this
      exact decide_eq_true (by omega)
    have hv0:=vec0 v hvl (hdc.bd.mono (by decide))
    refine ⟨i64 (by omega),by omega,by omega,?_⟩
    refine yft H (fun q=>absurd hv0 q) (fun _=>hdc.bd.mono (by decide)) (fun _ c=>absurd c (by decide)) fun _ _ _ zs' hz'=>?_
    rw [←hE] at hz'
    rw [hz'.uniq hz]
    have hin:(ydR zs v 2).isNone=true:=by
      have:ydR zs v 2=none:=by
        unfold ydR
        rw [List.find?_eq_none]
        intro u hu hb
        have h1:=of_decide_eq_true hb
        have h2:=dc_dot hdc ((hz.mem u).1 hu)
        omega
      rw [this];rfl
    rw [hin]
    refine ⟨fun m' y e=>Cnt E.length (fun k=>y=tab (fun i=>3*gi v i) k) m' e,Cnt.start rfl,?_⟩
    rintro m' y e ⟨k,rfl,rfl,hk,hy⟩
    rw [hvl]
    refine ⟨fun hlt=>?_,fun hge=>?_⟩
    · have hkl:k<E.length:=by omega
      have:=hdc.bd k (by omega)
      rw [Int.toNat_natCast]
      refine ⟨by omega,i64 (by omega),by rw [hy,yaI];omega,Cnt.next hkl (by omega) ?_⟩
      rw [hy];unfold tab;rw [List.range_succ,List.map_append];rfl
    have:k=E.length:=by omega
    subst this
    have hyl:y.length=E.length:=by rw [hy,yaI]
    have hyg:∀ i,i<E.length→gi y i=3*gi v i:=fun i hi=>by rw [hy];exact ycc (fun i=>3*gi v i) hi
    have hyb:Bd 400 y:=fun i hi=>by
      rw [hyg i (by omega)]
      have:=hdc.bd i (by omega);omega
    have hy0:=vec0 y hyl hyb
    refine yft H (fun q=>absurd hy0 q) (fun _=>hyb) (fun _ c=>absurd c (by decide)) fun _ _ _ zs' hz'=>?_
    rw [←hE] at hz'
    rw [hz'.uniq hz]
    have hout:(ydR zs y 5).isNone=false:=by
      have hd:dotL y v=3*dotL v v:=by
        unfold dotL
        rw [hyl,hvl]
        unfold dot_
        rw [←yjF]
        exact yaw fun i hi=>by rw [hyg i hi,Int.mul_assoc]
      have hpv:=dc_pos hdc
      rcases hs2:ydR zs y 5 with _ | u
      · have:=List.find?_eq_none.1 hs2 v hvz
        exact absurd (show ya8 y 5 v=true from decide_eq_true (by rw [hd];omega)) this
      · rfl
    rw [hout]
    refine ⟨True,fun _=>?_,fun _=>⟨fun _=>⟨fun _=>⟨fun c=>(by cases c),fun _=>trivial⟩,fun c=>absurd rfl c⟩,fun c=>absurd rfl c⟩,fun c=>absurd rfl c⟩
    refine ⟨Cnt zs.length (fun _=>True),Cnt.start trivial,?_⟩
    rintro m3 _ ⟨k,rfl,rfl,hk,_⟩
    refine ⟨fun hlt=>?_,fun _=>yj6 rfl⟩
    have hkz:k<zs.length:=by omega
    obtain ⟨u,hu⟩:∃ u,u=gx zs k:=⟨_,rfl⟩
    have hdu:=(hz.mem u).1 (by rw [hu];exact hgz k hkz)
    have hul:=hdu.len
    rw [Int.toNat_natCast,←hu]
    refine ⟨by omega,yh7 (by omega) ⟨fun _=>Cnt.next hkz (by omega) trivial,fun c=>?_⟩⟩
    refine p_r16_Dot (by omega) (by omega) (hdc.bd.mono (by decide)) (hdu.bd.mono (by decide)) (p_r16_Dot rfl (by omega) (hdu.bd.mono (by decide)) (hdu.bd.mono (by decide)) ⟨fun c2=>?_,fun _=>Cnt.next hkz (by omega) trivial⟩)
    exact absurd (decide_eq_true (dc_eq G.ok hdc hdu c2)) c
  · obtain ⟨s1,s2⟩:=small_getV q
    have H:SmP n es:=⟨s1,fun g _=>⟨(s2 g).1,by have:=(s2 g).2;omega⟩⟩
    refine yfe (by omega) ⟨fun qj=>?_,fun _=>yj6 rfl⟩
    obtain ⟨g,hc⟩:=yfZ qj
    have h8:=(s2 g).2
    refine ⟨H,by unfold smlE;rw [if_neg (fun z=>z qj),if_neg (by omega)],?_⟩
    -- there are not more edges than single edges
    have hE:=(ybr (n:=n.toNat) (es:=es) (by
      obtain ⟨k,rfl,G⟩:=gr_of g
      rw [Int.toNat_natCast];exact G.g)).1
    have hlen:∀ l:List E3,(∀ x∈l,x∈es)→(l.length:Int)≤(l.map (·.2.2)).sum:=fun l=>by
      induction l with
      | nil=>intro _;simp
      | cons x l ih =>
        intro hl
        have h1:=hE x (hl x List.mem_cons_self)
        have h2:=ih fun y hy=>hl y (List.mem_cons_of_mem _ hy)
        rw [List.map_cons,List.sum_cons,List.length_cons]
        push_cast
        omega
    have h9:=hlen es fun x hx=>hx
    rw [size_eq g] at h9
    omega
end Go.Proofs.YtencmgolklfmkaaGreat
