/- Texts laid together: Ind, Go, Hit, Lea, Ggn, PGd, Lg, Lh. -/
import Derived.Test.YtadpnlimiblniaaGreatK7
set_option linter.unusedVariables false
set_option linter.unusedSimpArgs false
set_option linter.unusedSectionVars false
/- Sets of vertices and the graphs on them: the program and the reference. -/
namespace Go.Proofs.YtadpnlimiblniaaGreat
open Go Go.RowKit Go.Shelf Go.Proofs.Tryz
def ydU(n:Int)(l:List Int)(i:Nat):Int:=if 0≤gi l i∧gi l i<n then (if 0<i∧gi l i≤gi l (i-1) then 9 else 0) else 2
def subR(n:Int)(l:List Int):Nat→Nat→Int
  | 0,_=>0
  | k+1,i=>if ydU n l i=0 then subR n l k (i+1) else ydU n l i
def subF(n:Int)(l:List Int):Int:=subR n l l.length 0
theorem subR_zero{n:Int}{l:List Int} : ∀ (k i:Nat),subR n l k i=0↔∀ j,i≤j→j<i+k→ydU n l j=0
  | 0,i=>by simp [subR];intro j h1 h2;omega
  | k+1,i=>by
    rw [subR]
    by_cases c:ydU n l i=0
    · rw [if_pos c,subR_zero k (i+1)]
      refine ⟨fun h j h1 h2=>?_,fun h j h1 h2=>h j (by omega) (by omega)⟩
      by_cases e:j=i
      · rw [e];exact c
      · exact h j (by omega) (by omega)
    · rw [if_neg c]
      exact ⟨fun h=>absurd h c,fun h=>absurd (h i (Nat.le_refl _) (by omega)) c⟩
theorem subF_zero{n:Int}{l:List Int} : subF n l=0↔(∀ k,k<l.length→0≤gi l k∧gi l k<n)∧∀ k,k+1<l.length→gi l k<gi l (k+1):=by
  unfold subF
  rw [subR_zero]
  constructor
  · intro h
    refine ⟨fun k hk=>?_,fun k hk=>?_⟩
    · have:=h k (by omega) (by omega)
      unfold ydU at this
      split at this
      · assumption
      · cases this
    · have:=h (k+1) (by omega) (by omega)
      unfold ydU at this
      split at this
      · split at this
        · cases this
        · rename_i c
          exact Int.not_le.1 fun q=>c ⟨by omega,by simpa using q⟩
      · cases this
  · rintro ⟨h1,h2⟩ j _ hj
    unfold ydU
    rw [if_pos (h1 j (by omega)),if_neg]
    rintro ⟨q1,q2⟩
    obtain ⟨i,rfl⟩:∃ i,j=i+1:=⟨j-1,by omega⟩
    have:=h2 i (by omega)
    rw [Nat.add_sub_cancel] at q2;omega
theorem sub_pre{n:Int}{l:List Int}{j:Nat}(h:∀ i,i<j→ydU n l i=0):∀ i,i<j→(i:Int)≤gi l i∧gi l i<n:=by
  intro i
  induction i with
  | zero =>
    intro hi
    have:=h 0 hi
    unfold ydU at this
    split at this
    · rename_i c;exact ⟨c.1,c.2⟩
    · cases this
  | succ i ih =>
    intro hi
    have h1:=ih (by omega)
    have:=h (i+1) hi
    unfold ydU at this
    split at this
    · rename_i c
      split at this
      · cases this
      · rename_i c2
        have:¬gi l (i+1)≤gi l i:=fun q=>c2 ⟨by omega,by simpa using q⟩
        exact ⟨by omega,c.2⟩
    · cases this
theorem p_r08_Subset{n:Int}{es:List E3}{l:List Int}{R:Int→Prop}(hn:n≤1000)(h:R (subF n l)):yeQ n es l R:=by
  refine ⟨fun m v=>∃ j:Nat,v=j∧j+m=l.length∧subF n l=subR n l m j∧∀ i,i<j→ydU n l i=0,⟨l.length,0,rfl,by omega,rfl,fun i hi=>by omega⟩,?_⟩
  rintro m v ⟨j,rfl,hj,he,hpre⟩
  have hjn:j≤1001:=by
    by_cases e:j=0
    · omega
    · have:=sub_pre hpre (j-1) (by omega);omega
  rw [he] at h
  refine ⟨fun hlt=>⟨⟨by omega,hlt⟩,ygK ⟨fun q=>?_,fun q=>?_⟩⟩,fun q=>?_⟩
  · have q:=of_decide_eq_true q
    obtain ⟨m,rfl⟩:∃ i,m=i+1:=⟨m-1,by omega⟩
    rw [Int.toNat_natCast] at q ⊢
    rw [subR] at h he
    have e1:((j:Int)-1).toNat=j-1:=by omega
    rw [e1]
    have nx:ydU n l j=0→In64 ((j:Int)+1)∧∃ m3,m3<m+1∧∃ j_1:Nat,(j:Int)+1=j_1∧j_1+m3=l.length∧subF n l=subR n l m3 j_1∧∀ i,i<j_1→ydU n l i=0:=fun z=>by
      rw [if_pos z] at he
      exact ⟨⟨by omega,by omega⟩,m,by omega,j+1,by omega,by omega,he,fun i hi=>by
        by_cases e:i=j
        · rw [e];exact z
        · exact hpre i (by omega)⟩
    refine ⟨fun h0=>⟨⟨by omega,by omega⟩,⟨by omega,by omega⟩,fun h9=>?_,fun h9=>nx ?_⟩,fun h0=>nx ?_⟩
    · have:ydU n l j=9:=by unfold ydU;rw [if_pos q,if_pos ⟨by omega,h9⟩]
      rw [this] at h;exact h
    · unfold ydU;rw [if_pos q,if_neg (fun z=>h9 z.2)]
    · unfold ydU;rw [if_pos q,if_neg (fun z=>h0 (by omega))]
  · have q:¬(0≤gi l j∧gi l j<n):=fun z=>q (decide_eq_true (by rw [Int.toNat_natCast];exact z))
    obtain ⟨m,rfl⟩:∃ i,m=i+1:=⟨m-1,by omega⟩
    have:ydU n l j=2:=by unfold ydU;rw [if_neg q]
    rw [subR,this] at h;exact h
  · have:m=0:=by omega
    subst this;exact h
theorem yjj{n v:Int}{R:Bool→Prop}(h:R (decide (0≤v∧v<n))):ybx n v R:=by
  refine ⟨fun q=>?_,fun q=>?_⟩
  · rw [show decide (0≤v∧v<n)=decide (v<n) from by simp [q]] at h;exact h
  · rw [show decide (0≤v∧v<n)=false from by simp [q]] at h;exact h
theorem p_graph_Subset' {n:Int}{es:List E3}{l:List Int}{R:Int→Prop}(hel:es.length≤1000000000)(hn:n≤1000)(hg:yav n es=0)(h:R (subF n l)):ybz n es l R:=by
  refine ydK hel ⟨fun _=>?_,fun q=>absurd hg q⟩
  refine ⟨fun m v=>∃ j:Nat,v=j∧j+m=l.length∧subF n l=subR n l m j∧∀ i,i<j→ydU n l i=0,⟨l.length,0,rfl,by omega,rfl,fun i hi=>by omega⟩,?_⟩
  rintro m v ⟨j,rfl,hj,he,hpre⟩
  have hjn:j≤1001:=by
    by_cases e:j=0
    · omega
    · have:=sub_pre hpre (j-1) (by omega);omega
  rw [he] at h
  refine ⟨fun hlt=>⟨⟨by omega,hlt⟩,yjj ⟨fun q=>?_,fun q=>?_⟩⟩,fun q=>?_⟩
  · have q:=of_decide_eq_true q
    obtain ⟨m,rfl⟩:∃ i,m=i+1:=⟨m-1,by omega⟩
    rw [Int.toNat_natCast] at q ⊢
    rw [subR] at h he
    have e1:((j:Int)-1).toNat=j-1:=by omega
    rw [e1]
    have nx:ydU n l j=0→In64 ((j:Int)+1)∧∃ m3,m3<m+1∧∃ j_1:Nat,(j:Int)+1=j_1∧j_1+m3=l.length∧subF n l=subR n l m3 j_1∧∀ i,i<j_1→ydU n l i=0:=fun z=>by
      rw [if_pos z] at he
      exact ⟨⟨by omega,by omega⟩,m,by omega,j+1,by omega,by omega,he,fun i hi=>by
        by_cases e:i=j
        · rw [e];exact z
        · exact hpre i (by omega)⟩
    refine ⟨fun h0=>⟨⟨by omega,by omega⟩,⟨by omega,by omega⟩,fun h9=>?_,fun h9=>nx ?_⟩,fun h0=>nx ?_⟩
    · have:ydU n l j=9:=by unfold ydU;rw [if_pos q,if_pos ⟨by omega,h9⟩]
      rw [this] at h;exact h
    · unfold ydU;rw [if_pos q,if_neg (fun z=>h9 z.2)]
    · unfold ydU;rw [if_pos q,if_neg (fun z=>h0 (by omega))]
  · have q:¬(0≤gi l j∧gi l j<n):=fun z=>q (decide_eq_true (by rw [Int.toNat_natCast];exact z))
    obtain ⟨m,rfl⟩:∃ i,m=i+1:=⟨m-1,by omega⟩
    have:ydU n l j=2:=by unfold ydU;rw [if_neg q]
    rw [subR,this] at h;exact h
  · have:m=0:=by omega
    subst this;exact h
def btwF(es:List E3)(a b:Int):Int:=((es.find? fun x=>decide (x.1=a∧x.2.1=b)).map (·.2.2)).getD 0
theorem gchk_pairI{n:Int} : ∀ (es:List E3) (a b:Int),gchk n a b es=0→(∀ x∈es,a<x.1∨a=x.1∧b<x.2.1)∧es.Pairwise ltE
  | [],_,_,_=>⟨fun x hx=>by simp at hx,List.Pairwise.nil⟩
  | y::t,a,b,h=>by
    rw [gchk] at h
    split at h
    case isFalse=>cases h
    split at h
    case isFalse=>cases h
    rename_i h2
    obtain ⟨i1,i2⟩:=gchk_pairI t _ _ h
    have hp:=(yh6 _ _ _ _).1 h2.2
    refine ⟨fun x hx=>?_,List.pairwise_cons.2 ⟨fun x hx=>?_,i2⟩⟩
    · rcases List.mem_cons.1 hx with rfl | hx
      · exact hp
      · have:=i1 x hx;omega
    · exact i1 x hx
structure NrmE(n:Nat)(es:List E3):Prop where
  g:yav n es=0
  p:es.Pairwise ltE
  le:∀ x∈es,x.1≤x.2.1
  ok:EOk n es
theorem nrm_of{n:Nat}{es:List E3}(hg:yav n es=0):NrmE n es :=
  ⟨hg,(gchk_pairI es _ _ (ydZ hg)).2,fun x hx=>(gchk_lt es _ _ (ydZ hg) x hx).2,(ybW hg).1⟩
theorem yjk(x:E3)(es:List E3)(a b:Int):btwF (x::es) a b=if x.1=a∧x.2.1=b then x.2.2 else btwF es a b:=by
  unfold btwF
  rw [List.find?_cons]
  by_cases h:x.1=a∧x.2.1=b
  · rw [if_pos h,decide_eq_true h];rfl
  · rw [if_neg h,decide_eq_false h]
theorem btwF_none{es:List E3}{a b:Int}(h:∀ x∈es,¬(x.1=a∧x.2.1=b)):btwF es a b=0:=by
  induction es with
  | nil=>rfl
  | cons x t ih=>rw [yjk,if_neg (h x (by simp)),ih fun y hy=>h y (by simp [hy])]
theorem btwF_le{n:Nat}{es:List E3}(h:EOk n es)(a b:Int):0≤btwF es a b∧btwF es a b≤50:=by
  induction es with
  | nil=>exact ⟨Int.le_refl _,by show (0:Int)≤50;omega⟩
  | cons x t ih =>
    rw [yjk]
    have:=h x (by simp)
    split
    · omega
    · exact ih fun y hy=>h y (by simp [hy])
theorem btwF_W{n:Nat}{es:List E3}(h:NrmE n es){u v:Nat}(huv:u<v):btwF es u v=W es u v:=by
  have:=yjy u v (by omega) es (-1) (-1) (ydZ h.g)
  rw [show mnF (u:Int) v=u by unfold mnF;rw [if_neg (by omega)],show mxF (u:Int) v=v by unfold mxF;rw [if_pos (by omega)]] at this
  exact this
structure SetOk(n:Nat)(l:List Int):Prop where
  r:∀ k,k<l.length→0≤gi l k∧gi l k<n
  s:∀ j k,j<k→k<l.length→gi l j<gi l k
theorem yiY{n:Nat}{l:List Int}(h:subF n l=0):SetOk n l:=by
  obtain ⟨h1,h2⟩:=subF_zero.1 h
  refine ⟨h1,fun j k hjk hk=>?_⟩
  induction k with
  | zero=>omega
  | succ k ih =>
    by_cases e:j=k
    · subst e;exact h2 j hk
    · have:=ih (by omega) (by omega);have:=h2 k hk;omega
theorem setOk_sub{n:Nat}{l:List Int}(h:SetOk n l):subF n l=0:=subF_zero.2 ⟨h.r,fun k hk=>h.s k (k+1) (by omega) hk⟩
section
variable {n : Nat} {l : List Int} (h : SetOk n l)
include h
theorem SetOk.ge{k:Nat}(hk:k<l.length):(k:Int)≤gi l k:=by
  induction k with
  | zero=>exact (h.r 0 hk).1
  | succ k ih=>have:=ih (by omega);have:=h.s k (k+1) (by omega) hk;omega
theorem SetOk.len:l.length≤n:=by
  by_cases e:l.length=0
  · omega
  · have h1:=h.ge (k:=l.length-1) (by omega);have h2:=h.r (l.length-1) (by omega);omega
theorem SetOk.inj{j k:Nat}(hj:j<l.length)(hk:k<l.length)(e:gi l j=gi l k):j=k:=by
  rcases Nat.lt_trichotomy j k with q | q | q
  · have:=h.s j k q hk;omega
  · exact q
  · have:=h.s k j q hj;omega
theorem SetOk.idx{k:Nat}(hk:k<l.length):l.idxOf (gi l k)=k:=by
  have hm:gi l k∈l:=by rw [yaN hk];exact List.getElem_mem hk
  have hi:=List.idxOf_lt_length_of_mem hm
  refine h.inj hi hk ?_
  rw [yaN hi,List.getElem_idxOf]
omit h in
theorem yjb{v:Int}(hm:v∈l):l.idxOf v<l.length∧gi l (l.idxOf v)=v:=by
  have hi:=List.idxOf_lt_length_of_mem hm
  exact ⟨hi,by rw [yaN hi,List.getElem_idxOf]⟩
omit h in
theorem yjo{k:Nat}(hk:k<l.length):gi l k∈l:=by rw [yaN hk];exact List.getElem_mem hk
theorem SetOk.mono{a b:Int}(ha:a∈l)(hb:b∈l)(hab:a≤b):l.idxOf a≤l.idxOf b:=by
  obtain ⟨h1,h2⟩:=yjb ha;obtain ⟨h3,h4⟩:=yjb hb
  refine Nat.not_lt.1 fun q=>?_
  have:=h.s _ _ q h1;omega
end
def indX(l:List Int)(x:E3):List (Int×Int):=if x.1∈l∧x.2.1∈l then List.replicate x.2.2.toNat ((l.idxOf x.1:Int),(l.idxOf x.2.1:Int)) else []
def indL(es:List E3)(l:List Int):List (Int×Int):=es.flatMap (indX l)
theorem yiM(l l':List (Int×Int))(a b:Int):cntE (l++l') a b=cntE l a b+cntE l' a b:=by
  unfold cntE;rw [List.countP_append];omega
theorem yi0(e:Int×Int)(m:Nat)(a b:Int):cntE (List.replicate m e) a b=if mnF e.1 e.2=a∧mxF e.1 e.2=b then (m:Int) else 0:=by
  unfold cntE isE
  rw [List.countP_replicate]
  by_cases c:mnF e.1 e.2=a∧mxF e.1 e.2=b
  · rw [if_pos (decide_eq_true c),if_pos c]
  · rw [if_neg (by simpa using c),if_neg c];rfl
theorem cntE_lt(L:List (Int×Int)){a b:Int}(h:b<a):cntE L a b=0:=by
  unfold cntE
  have:L.countP (isE a b)=0:=by
    rw [List.countP_eq_zero]
    intro e _ he
    have he:=of_decide_eq_true he
    have:mnF e.1 e.2≤mxF e.1 e.2:=by unfold mnF mxF;split <;> split <;> omega
    omega
  omega
theorem mn_nn{a b:Nat}(h:a≤b):mnF (a:Int) b=a∧mxF (a:Int) b=b:=by
  unfold mnF mxF
  by_cases e:a=b
  · subst e;simp
  · rw [if_neg (by omega),if_pos (by omega)];exact ⟨rfl,rfl⟩
section
variable {n : Nat} {l : List Int} (h : SetOk n l)
include h
theorem cnt_indX{x:E3}(hx:x.1≤x.2.1∧0≤x.2.2){a b:Nat}(ha:a<l.length)(hb:b<l.length):cntE (indX l x) a b=if x.1=gi l a∧x.2.1=gi l b then x.2.2 else 0:=by
  unfold indX
  by_cases c:x.1∈l∧x.2.1∈l
  · obtain ⟨m1,m2⟩:=mn_nn (h.mono c.1 c.2 hx.1)
    rw [if_pos c,yi0,m1,m2]
    obtain ⟨a1,a2⟩:=yjb c.1;obtain ⟨b1,b2⟩:=yjb c.2
    by_cases q:x.1=gi l a∧x.2.1=gi l b
    · rw [if_pos q,if_pos ⟨by rw [q.1,h.idx ha],by rw [q.2,h.idx hb]⟩];omega
    · rw [if_neg q,if_neg]
      rintro ⟨z1,z2⟩
      refine q ⟨?_,?_⟩
      · rw [←a2,show l.idxOf x.1=a by omega]
      · rw [←b2,show l.idxOf x.2.1=b by omega]
  · rw [if_neg c,if_neg]
    · rfl
    · rintro ⟨z1,z2⟩
      exact c ⟨by rw [z1];exact yjo ha,by rw [z2];exact yjo hb⟩
theorem ykL{es:List E3}(hp:es.Pairwise ltE)(hx:∀ x∈es,x.1≤x.2.1∧0≤x.2.2){a b:Nat}(ha:a<l.length)(hb:b<l.length):cntE (indL es l) a b=btwF es (gi l a) (gi l b):=by
  induction es with
  | nil=>rfl
  | cons x t ih =>
    have hp:=List.pairwise_cons.1 hp
    show cntE (indX l x++indL t l) a b=_
    rw [yiM,cnt_indX h (hx x (by simp)) ha hb,yjk,ih hp.2 fun y hy=>hx y (by simp [hy])]
    split
    · rename_i q
      rw [btwF_none fun y hy z=>by have:=hp.1 y hy;unfold ltE at this;omega];omega
    · omega
omit h in
theorem ind_ends{es:List E3} : EndsOk l.length (indL es l):=fun e he=>by
  obtain ⟨x,hx,he⟩:=List.mem_flatMap.1 he
  unfold indX at he
  split at he
  · rename_i c
    rw [(List.mem_replicate.1 he).2]
    have:=List.idxOf_lt_length_of_mem c.1;have:=List.idxOf_lt_length_of_mem c.2
    simp only;omega
  · simp at he
theorem ind_le50{es:List E3}(hN:NrmE n es)(a b:Int):cntE (indL es l) a b≤50:=by
  by_cases q:0<cntE (indL es l) a b
  · have q2:=q
    unfold cntE at q2
    obtain ⟨e,he,hp⟩:=List.countP_pos_iff.1 (show 0<(indL es l).countP (isE a b) by omega)
    obtain ⟨z1,z2⟩:=of_decide_eq_true hp
    obtain ⟨a',b',h1,h2,h3,h4⟩:=mn_nat (ind_ends e he)
    rw [←z1,←z2,h1,h2,ykL h hN.p (fun x hx=>⟨hN.le x hx,by have:=hN.ok x hx;omega⟩) (by omega) h4]
    exact (btwF_le hN.ok _ _).2
  · omega
omit h in
theorem ind_len{es:List E3}(hE:EOk n es):(indL es l).length≤50*es.length:=by
  induction es with
  | nil=>simp [indL]
  | cons x t ih =>
    show (indX l x++indL t l).length≤_
    have:=ih fun y hy=>hE y (by simp [hy])
    have hx:=hE x (by simp)
    rw [List.length_append,List.length_cons]
    have:(indX l x).length≤50:=by
      unfold indX;split
      · rw [List.length_replicate];omega
      · simp
    omega
theorem ind_ok{es:List E3}(hN:NrmE n es)(hn:n≤12)(hne:l≠[]):yav l.length (made l.length (indL es l))=0 :=
  made_ok (by cases l with | nil=>exact absurd rfl hne | cons=>simp) (by have:=h.len;omega) (ind_le50 h hN)
theorem W_ind{es:List E3}(hN:NrmE n es)(hn:n≤12){i j:Nat}(hi:i<l.length)(hj:j<l.length)(hne:i≠j):W (made l.length (indL es l)) i j=W es (gi l i).toNat (gi l j).toNat:=by
  have key:∀ {i j:Nat},i<j→j<l.length→W (made l.length (indL es l)) i j=W es (gi l i).toNat (gi l j).toNat:=fun {i j} hij hj=>by
    have hlen:=h.len
    rw [W_made (by omega) (by omega) (ind_le50 h hN) (by omega) hj (by omega),(mn_nn (Nat.le_of_lt hij)).1,(mn_nn (Nat.le_of_lt hij)).2,ykL h hN.p (fun x hx=>⟨hN.le x hx,by have:=hN.ok x hx;omega⟩) (by omega) hj]
    have h1:=h.r i (by omega);have h2:=h.r j hj;have h3:=h.s i j hij hj
    rw [←btwF_W hN (u:=(gi l i).toNat) (v:=(gi l j).toNat) (by omega),Int.toNat_of_nonneg h1.1,Int.toNat_of_nonneg h2.1]
  rcases Nat.lt_or_gt_of_ne hne with q | q
  · exact key q hj
  · rw [ye0,key q hi,ye0]
end
theorem egg_of{n:Nat}{es:List E3}{l:List Int}(hN:NrmE n es)(hn:n≤12)(hs:SetOk n l)(hne:l≠[])(hc:ydD l.length (made l.length (indL es l))=true):EggP n es (fun v=>decide ((v:Int)∈l)):=by
  have hok:=ind_ok hs hN hn hne
  obtain ⟨hE,h1,h12⟩:=ybW hok
  refine ⟨⟨(gi l 0).toNat,?_,?_⟩,?_⟩
  · have:=hs.r 0 (by omega);omega
  · have:=hs.r 0 (by omega)
    refine decide_eq_true ?_
    rw [Int.toNat_of_nonneg this.1];exact yjo (by omega)
  · rintro S ⟨a,ha,haE,haS⟩ ⟨b,hb,hbE,hbS⟩
    have haE:=of_decide_eq_true haE;have hbE:=of_decide_eq_true hbE
    obtain ⟨a1,a2⟩:=yjb haE;obtain ⟨b1,b2⟩:=yjb hbE
    obtain ⟨i,j,hi,hj,h3,h4,h5⟩:=(yi7 hE h1 h12 b1).1 hc (fun k=>S (gi l k).toNat) (by show S (gi l (l.idxOf (b:Int))).toNat=false;rw [b2];exact hbS) ⟨l.idxOf (a:Int),a1,by show S (gi l (l.idxOf (a:Int))).toNat=true;rw [a2];exact haS⟩
    have hij:i≠j:=by rintro rfl;have h3:S (gi l i).toNat=true:=h3;have h4:S (gi l i).toNat=false:=h4;rw [h3] at h4;cases h4
    rw [W_ind hs hN hn hi hj hij] at h5
    have r1:=hs.r i hi;have r2:=hs.r j hj
    refine ⟨(gi l i).toNat,(gi l j).toNat,by omega,by omega,decide_eq_true (by rw [Int.toNat_of_nonneg r1.1];exact yjo hi),h3,decide_eq_true (by rw [Int.toNat_of_nonneg r2.1];exact yjo hj),h4,h5⟩
theorem BagOk.putm{d:Nat}{L:List (Int×Int)}{M:List (List Int×Int)}(h:BagOk d L M)(hd:d≤12){e:Int×Int}{a b m:Nat}(h1:a≤b)(h2:b<d)(ha:mnF e.1 e.2=a)(hb:mxF e.1 e.2=b)(hm:1≤m)(h0:cntE L a b=0):BagOk d (L++List.replicate m e) (mput M [(a:Int),(b:Int)] m):=by
  have hk:=h.key.put (keyOk2 hd h1 h2) (m:Int)
  refine ⟨hk,fun p hp=>?_,fun x y=>?_,by have:=h.len;rw [yjB,List.length_append,List.length_replicate];split <;> omega⟩
  · obtain ⟨j,hj⟩:=List.getElem?_of_mem hp
    have hg:=mget_at hk.1 (k:=p.1) (v:=p.2) hj
    rw [yh0] at hg
    by_cases q:[(a:Int),(b:Int)]=p.1
    · rw [if_pos q] at hg
      refine ⟨a,b,h1,h2,q.symm,?_,?_⟩
      · rw [yiM,yi0,if_pos ⟨ha,hb⟩,h0,Int.zero_add];exact (Option.some.inj hg).symm
      · rw [←Option.some.inj hg];omega
    · rw [if_neg q] at hg
      obtain ⟨x,y,h3,h4,h5,h6,h7⟩:=h.at_ _ (yiR hg)
      refine ⟨x,y,h3,h4,h5,?_,h7⟩
      rw [yiM,yi0,if_neg,Int.add_zero]
      · exact h6
      · rintro ⟨q1,q2⟩
        rw [ha] at q1;rw [hb] at q2
        have h5:p.1=[(x:Int),(y:Int)]:=h5
        exact q (by rw [h5,q1,q2])
  · rw [yh0,yiM,yi0,ha,hb,←h.get x y]
    by_cases q:(a:Int)=x∧(b:Int)=y
    · rw [if_pos (by rw [q.1,q.2]),if_pos q,h.get x y,←q.1,←q.2,h0];simp
    · rw [if_neg (fun z=>q (by simpa using z)),if_neg q,Int.add_zero]
theorem indL_take{es:List E3}{l:List Int}{k:Nat}(hk:k<es.length):indL (es.take (k+1)) l=indL (es.take k) l++indX l (ge es k):=by
  unfold indL
  rw [List.take_add_one,List.getElem?_eq_getElem hk,yc4 hk,List.flatMap_append]
  simp
theorem yht{l:List Int}(hl:l.length≤1000){v:Int}{R:Int→Prop}(h1:v∈l→R (l.idxOf v))(h2:v∉l→R (-1))(hs:∀ k,k<l.length→l.idxOf (gi l k)=k):ybY v l R:=by
  refine yhd (by omega) (fun k hk e=>?_) (fun h=>?_)
  · have:=h1 (by rw [←e];exact yjo hk)
    rw [←e,hs k hk] at this;exact this
  · refine h2 fun hm=>?_
    obtain ⟨h3,h4⟩:=yjb hm
    exact h _ h3 h4
theorem p_graph_moved{n:Nat}{es:List E3}{l:List Int}(hN:NrmE n es)(hn:n≤12)(hs:SetOk n l)(hne:l≠[])(hl:es.length≤40){m:Int}{R:Int→List E3→Prop}(h:R (l.length:Nat) (made l.length (indL es l))) :
    yd7 m es ((l.length:Nat):Int) (fun x R=>ybY x l R) R:=by
  have hlen:=hs.len
  refine ⟨fun m v M=>∃ k:Nat,v=k∧k+m=es.length∧BagOk l.length (indL (es.take k) l) M,⟨es.length,0,rfl,by omega,BagOk.nil _⟩,?_⟩
  rintro m' v M ⟨k,rfl,hm',hB⟩
  refine ⟨fun hlt=>⟨⟨by omega,hlt⟩,?_⟩,fun hge=>?_⟩
  · have hk:k<es.length:=by omega
    rw [Int.toNat_natCast]
    have hx:ge es k∈es:=by rw [yc4 hk];exact List.getElem_mem hk
    have hox:=hN.ok _ hx
    have hT:=indL_take (l:=l) hk
    have nx:indX l (ge es k)=[]→In64 ((k:Int)+1)∧∃ m5,m5<m'∧∃ k2:Nat,(k:Int)+1=k2∧k2+m5=es.length∧BagOk l.length (indL (es.take k2) l) M:=fun e=>by
      refine ⟨⟨by omega,by omega⟩,m'-1,by omega,k+1,by omega,by omega,?_⟩
      show BagOk l.length (indL (es.take (k+1)) l) M
      rw [hT,e,List.append_nil];exact hB
    refine yht (by omega) (fun c1=>?_) (fun c1=>?_) fun _=>hs.idx
    · refine yht (by omega) (fun c2=>?_) (fun c2=>?_) fun _=>hs.idx
      · refine ⟨True,fun _=>?_,fun _=>⟨fun _=>trivial,fun q=>by omega⟩,fun q=>by omega⟩
        obtain ⟨e1,e2⟩:=mn_nn (hs.mono c1 c2 (hN.le _ hx))
        obtain ⟨a1,a2⟩:=yjb c1;obtain ⟨b1,b2⟩:=yjb c2
        unfold ydP
        rw [e1,e2]
        refine ⟨hB.key,keyOk2 (by omega) (hs.mono c1 c2 (hN.le _ hx)) b1,⟨by omega,by omega⟩,m'-1,by omega,k+1,by omega,by omega,?_⟩
        have e3:indX l (ge es k)=List.replicate (ge es k).2.2.toNat ((l.idxOf (ge es k).1:Int),(l.idxOf (ge es k).2.1:Int)):=by unfold indX;rw [if_pos ⟨c1,c2⟩]
        show BagOk l.length (indL (es.take (k+1)) l) _
        rw [hT,e3]
        have:=hB.putm (by omega) (e:=((l.idxOf (ge es k).1:Int),(l.idxOf (ge es k).2.1:Int))) (hs.mono c1 c2 (hN.le _ hx)) b1 e1 e2 (m:=(ge es k).2.2.toNat) (by omega) (by
          rw [ykL hs (hN.p.sublist (List.take_sublist k es)) (fun x hx=>by have hx:=List.mem_of_mem_take hx;exact ⟨hN.le x hx,by have:=hN.ok x hx;omega⟩) a1 b1,a2,b2]
          refine btwF_none fun y hy z=>?_
          obtain ⟨j,hj,ej⟩:=List.mem_iff_getElem.1 hy
          rw [List.length_take] at hj
          have hlt:=(List.pairwise_iff_getElem.1 hN.p) j k (by omega) hk (by omega)
          rw [List.getElem_take] at ej
          rw [ej,←yc4 hk] at hlt
          unfold ltE at hlt;omega)
        rw [Int.toNat_of_nonneg (by omega)] at this
        exact this
      · have e:indX l (ge es k)=[]:=by unfold indX;rw [if_neg (fun z=>c2 z.2)]
        exact ⟨False,fun q=>q.elim,fun _=>⟨fun q=>by omega,fun _=>nx e⟩,fun q=>by omega⟩
    · have e:indX l (ge es k)=[]:=by unfold indX;rw [if_neg (fun z=>c1 z.1)]
      refine yht (R:=fun r2=>_) (by omega) (fun c2=>?_) (fun c2=>?_) fun _=>hs.idx
      · exact ⟨False,fun q=>q.elim,fun q=>by omega,fun _=>nx e⟩
      · exact ⟨False,fun q=>q.elim,fun q=>by omega,fun _=>nx e⟩
  · have hk2:k=es.length:=by omega
    rw [hk2,List.take_length] at hB
    exact p_bag_graph hB (by have:=ind_len (l:=l) hN.ok;omega) h
theorem yjE{n:Nat}{es:List E3}{l:List Int}(hN:NrmE n es)(hn:n≤12)(hl:es.length≤40){R:Int→List E3→Int→Prop}(h1:subF n l≠0→R 0 [] (subF n l))(h2:subF n l=0→l=[]→R 0 [] 14)
    (h3:subF n l=0→l≠[]→R (l.length:Nat) (made l.length (indL es l)) 0):ydp (n:Int) es l R:=by
  refine p_graph_Subset' (by omega) (by omega) hN.g ⟨fun c=>⟨fun q=>h2 c (List.length_eq_zero_iff.1 (by omega)),fun q=>?_⟩,fun c=>h1 c⟩
  have hne:l≠[]:=by rintro rfl;exact q rfl
  exact p_graph_moved hN hn (yiY c) hne hl (h3 c hne)
def tabG(d:Nat)(f:Nat→Nat→Int):List (List Int):=(List.range d).map fun a=>(List.range d).map (f a)
theorem tabG_len(d:Nat)(f:Nat→Nat→Int):(tabG d f).length=d:=by simp [tabG]
theorem gx_tabG{d:Nat}{f:Nat→Nat→Int}{a:Nat}(ha:a<d):gx (tabG d f) a=(List.range d).map (f a):=by
  rw [yc3 (by rw [tabG_len];exact ha)];simp [tabG]
theorem ygW{d:Nat}{f g:Nat→Nat→Int}(h:∀ a b,a<d→b<d→f a b=g a b):tabG d f=tabG d g:=by
  unfold tabG
  refine List.map_congr_left fun a ha=>List.map_congr_left fun b hb=>h a b (List.mem_range.1 ha) (List.mem_range.1 hb)
theorem tabG_set{d:Nat}{f:Nat→Nat→Int}{a b:Nat}(ha:a<d)(hb:b<d)(v:Int):(tabG d f).set a ((gx (tabG d f) a).set b v)=tabG d (fun x y=>if x=a∧y=b then v else f x y):=by
  rw [gx_tabG ha]
  apply List.ext_getElem?
  intro k
  rw [List.getElem?_set,tabG_len]
  by_cases hk:a=k
  · subst hk
    rw [if_pos rfl,if_pos ha]
    simp only [tabG,List.getElem?_map,List.getElem?_range ha,Option.map_some]
    congr 1
    apply List.ext_getElem?
    intro j
    rw [List.getElem?_set,List.length_map,List.length_range]
    by_cases hj:b=j
    · subst hj
      rw [if_pos rfl,if_pos hb]
      simp [hb]
    · rw [if_neg hj]
      by_cases hjd:j<d
      · simp [hjd,Ne.symm hj]
      · simp [hjd]
  · rw [if_neg hk]
    by_cases hkd:k<d
    · simp only [tabG,List.getElem?_map,List.getElem?_range hkd,Option.map_some]
      congr 1
      refine List.map_congr_left fun j _=>?_
      rw [if_neg (fun z=>hk z.1.symm)]
    · simp [tabG,hkd]
theorem tabG_zero(d:Nat):List.replicate d (List.replicate d (0:Int))=tabG d fun _ _=>0:=by
  unfold tabG
  rw [List.map_const',List.map_const',List.length_range]
theorem tabG_E{es:List E3}{n:Nat}{l:List Int}(hN:NrmE n es)(hs:SetOk n l):tabG l.length (fun a b=>if a<l.length∧a≤b then btwF es (gi l a) (gi l b) else 0)=tabE l.length (indL es l):=by
  unfold tabG tabE rowT
  refine List.map_congr_left fun a ha=>List.map_congr_left fun b hb=>?_
  have ha:=List.mem_range.1 ha;have hb:=List.mem_range.1 hb
  show (if a<l.length∧a≤b then btwF es (gi l a) (gi l b) else 0)=cntE (indL es l) a b
  by_cases c:a≤b
  · rw [if_pos ⟨ha,c⟩,ykL hs hN.p (fun x hx=>⟨hN.le x hx,by have:=hN.ok x hx;omega⟩) ha hb]
  · rw [if_neg (fun z=>c z.2),cntE_lt];omega
theorem p_r08_Induced{n:Nat}{es:List E3}{l:List Int}(hN:NrmE n es)(hn:n≤12)(hs:SetOk n l)(hl:es.length≤40){R:Int→List E3→Prop}(h:R (l.length:Nat) (made l.length (indL es l))):yd9 (n:Int) es l R:=by
  have hlen:=hs.len
  refine ⟨⟨by omega,by omega⟩,fun m v T=>∃ i:Nat,v=i∧i+m=l.length∧T=tabG l.length (fun a b=>if a<i∧a≤b then btwF es (gi l a) (gi l b) else 0),⟨l.length,0,rfl,by omega,?_⟩,?_⟩
  · rw [Int.toNat_natCast,tabG_zero]
    exact ygW fun a b _ _=>by rw [if_neg (fun z=>by omega)]
  rintro m v T ⟨i,rfl,hm,rfl⟩
  refine ⟨fun hlt=>?_,fun hge=>?_⟩
  · have hi:i<l.length:=by omega
    refine ⟨fun m v T=>∃ k:Nat,v=k∧k+m=l.length∧i≤k∧T=tabG l.length (fun a b=>if (a<i∨a=i∧b<k)∧a≤b then btwF es (gi l a) (gi l b) else 0),⟨l.length-i,i,rfl,by omega,Nat.le_refl _,?_⟩,?_⟩
    · refine ygW fun a b _ _=>?_
      by_cases c:a<i∧a≤b
      · rw [if_pos c,if_pos ⟨.inl c.1,c.2⟩]
      · rw [if_neg c,if_neg (fun z=>by omega)]
    rintro m' v T ⟨k,rfl,hm',hik,rfl⟩
    refine ⟨fun hlt2=>?_,fun hge2=>?_⟩
    · have hk:k<l.length:=by omega
      rw [Int.toNat_natCast,Int.toNat_natCast,tabG_len,gx_tabG hi,List.length_map,List.length_range]
      refine ⟨⟨by omega,by omega⟩,⟨by omega,by omega⟩,⟨by omega,by omega⟩,p_r08_Between' (by omega) ⟨⟨by omega,by omega⟩,⟨by omega,by omega⟩,m'-1,by omega,k+1,by omega,by omega,by omega,?_⟩⟩
      have hle:gi l i≤gi l k:=by
        by_cases e:i=k
        · rw [e];exact Int.le_refl _
        · exact Int.le_of_lt (hs.s i k (by omega) hk)
      have e1:mnF (gi l i) (gi l k)=gi l i:=by unfold mnF;rw [if_neg (by omega)]
      have e2:mxF (gi l i) (gi l k)=gi l k:=by unfold mxF;split <;> omega
      rw [e1,e2,←gx_tabG (f:=fun a b=>if (a<i∨a=i∧b<k)∧a≤b then btwF es (gi l a) (gi l b) else 0) hi,tabG_set hi hk]
      refine ygW fun a b ha hb=>?_
      by_cases c:a=i∧b=k
      · rw [if_pos c,if_pos ⟨.inr ⟨c.1,by omega⟩,by omega⟩,c.1,c.2];rfl
      · rw [if_neg c]
        by_cases c2:(a<i∨a=i∧b<k)∧a≤b
        · rw [if_pos c2,if_pos ⟨by omega,c2.2⟩]
        · rw [if_neg c2,if_neg (fun z=>by omega)]
    · refine ⟨⟨by omega,by omega⟩,m-1,by omega,i+1,by omega,by omega,?_⟩
      refine ygW fun a b ha hb=>?_
      by_cases c2:(a<i∨a=i∧b<k)∧a≤b
      · rw [if_pos c2,if_pos ⟨by omega,c2.2⟩]
      · rw [if_neg c2,if_neg (fun z=>by omega)]
  · have e:i=l.length:=by omega
    subst e
    rw [tabG_E hN hs]
    exact p_r08_Joined (by omega) (tabE_len _ _) (fun a ha=>by rw [gx_tabE ha,rowT_len]) h
end Go.Proofs.YtadpnlimiblniaaGreat

/- Gonality: all sets of vertices in order; the least value. -/
namespace Go.Proofs.YtadpnlimiblniaaGreat
open Go Go.RowKit Go.Shelf Go.Proofs.Tryz
theorem p_sets_from{n:Nat}{L:List (List Int)}(hn:n≤1000):∀ (k:Nat) (s:List Int) (pre:List (List Int)) {R:List (List Int)→Bool→List Int→Prop},k≤n→s.length+k≤1000→(pre++s::subG n k s) <+: L→R (pre++s::subG n k s) true s →
    ∀ fu,k<fu→ybs (· <+: L) fu ((n-k:Nat):Int) s n pre R:=by
  intro k
  induction k using Nat.strongRecOn with
  | _ k ih =>
    intro s pre R hk hs hp hR fu hfu
    obtain ⟨fu,rfl⟩:∃ f,fu=f+1:=⟨fu-1,by omega⟩
    rw [show ybs (· <+: L) (fu+1)=fun v cap cap2 pre R=>yb4 (· <+: L) (ybs (· <+: L) fu) v cap cap2 pre R from rfl]
    have hp0:(pre++[s]) <+: L:=by
      refine List.IsPrefix.trans ?_ hp
      exact ⟨subG n k s,by simp⟩
    refine ⟨hp0,?_,trivial⟩
    refine ⟨fun m pre2 v2 v3=>∃ j,m=j∧j≤k∧v2=((n-j:Nat):Int)∧v3=s∧pre2++subG n j s=pre++s::subG n k s,⟨k,k,rfl,Nat.le_refl _,rfl,rfl,by simp⟩,?_⟩
    rintro m2 pre2 _ _ ⟨j,rfl,hj,rfl,rfl,he⟩
    refine ⟨fun hlt=>?_,fun hge=>?_⟩
    · obtain ⟨j,rfl⟩:∃ i,m2=i+1:=⟨m2-1,by omega⟩
      refine ⟨by omega,⟨by omega,by omega⟩,?_⟩
      have e1:((n-(j+1):Nat):Int)+1=((n-j:Nat):Int):=by omega
      rw [e1]
      refine ih j (by omega) _ _ (by omega) (by simp;omega) ?_ ?_ fu (by omega)
      · refine List.IsPrefix.trans ?_ hp
        rw [←he,subG]
        exact ⟨_,List.append_assoc _ _ _⟩
      · refine ⟨fun _=>⟨⟨by rw [List.length_append,List.length_singleton];omega,by rw [List.length_append,List.length_singleton];omega⟩,⟨by rw [List.length_append,List.length_singleton];omega,by omega⟩,j,by omega,j,rfl,by omega,rfl,?_,?_⟩,fun q=>absurd rfl q⟩
        · simp
        · rw [←he,subG];simp
    · have:m2=0:=by omega
      subst this
      rw [subG,List.append_nil] at he
      rw [he];exact hR
theorem p_sets_1{n:Nat}(hn:n≤500):yb0 (n:Int) (· <+: yeV n) (· = yeV n):=by
  refine ⟨n+1,?_⟩
  have h:=p_sets_from (n:=n) (L:=yeV n) (by omega) n [] [] (R:=fun pre _ _=>pre=yeV n) (Nat.le_refl _) (by simp;omega) (by rw [List.nil_append];exact List.prefix_refl _) rfl (n+1) (by omega)
  rw [Nat.sub_self] at h
  exact h
theorem yhZ{s:List Int}{R:List Int→Prop}(hl:s.length≤1000000000)(h:R s):ybc s R:=by
  intro nil hnil
  refine ⟨fun q=>?_,fun q=>⟨by omega,by simpa using h⟩⟩
  rw [hnil q] at h;exact h
theorem p_least{n:Nat}(hn:n≤500){F:List Int→(Int→Bool→Prop)→Prop}{val:List Int→Int×Bool}(hF:∀ y∈yeV n,y.length≤1000000000∧∀ R':Int→Bool→Prop,R' (val y).1 (val y).2→F y R'){R:Int→List Int→Prop}
    (h:R (lstF val (yeV n) (-1,[])).1 (lstF val (yeV n) (-1,[])).2):yc2 (n:Int) F R:=by
  show ∃ Pr Rr:List (List Int)→Prop,_
  refine ⟨_,_,p_sets_1 hn,fun pre best first=>(best,first)=lstF val pre (-1,[]),rfl,?_,?_⟩
  · intro pre y best first hI hPr
    have hy:y∈yeV n:=hPr.subset (by simp)
    obtain ⟨hl,hf⟩:=hF y hy
    have hs:=yhX val pre y (-1,[])
    have hI:(best,first)=lstF val pre (-1,[]):=hI
    rw [←hI] at hs
    refine hf _ ⟨fun q=>⟨fun q2=>yhZ hl ?_,fun q2=>⟨fun q3=>yhZ hl ?_,fun q3=>?_⟩⟩,fun q=>?_⟩
    · exact (hs.trans (if_pos ⟨q, .inl q2⟩)).symm
    · exact (hs.trans (if_pos ⟨q, .inr q3⟩)).symm
    · exact (hs.trans (if_neg (fun z=>z.2.elim q2 q3))).symm
    · exact (hs.trans (if_neg (fun z=>q z.1))).symm
  · intro ys best first hI hR
    have hR:ys=yeV n:=hR
    subst hR
    have hI:(best,first)=lstF val (yeV n) (-1,[]):=hI
    rw [←hI] at h
    exact h
end Go.Proofs.YtadpnlimiblniaaGreat

/- Hitting sets, separating sets and cuts: the program and the reference. -/
namespace Go.Proofs.YtadpnlimiblniaaGreat
open Go Go.RowKit Go.Shelf Go.Proofs.Tryz
theorem p_anyS{s:List Int}{F:Int→(Bool→Prop)→Prop}{p:Int→Bool}{R:Bool→Prop}(hl:s.length≤1000000000)(hF:∀ x∈s,∀ R':Bool→Prop,R' (p x)→F x R')(h:R (s.any p)):yba s F R:=by
  refine ⟨fun m v=>∃ k:Nat,v=k∧k+m=s.length∧s.any p=(s.drop k).any p,⟨s.length,0,rfl,by omega,rfl⟩,?_⟩
  rintro m v ⟨k,rfl,hm,he⟩
  refine ⟨fun hlt=>?_,fun hge=>?_⟩
  · have hk:k<s.length:=by omega
    rw [Int.toNat_natCast]
    rw [List.drop_eq_getElem_cons hk,List.any_cons,←yaN hk] at he
    refine ⟨⟨by omega,hlt⟩,hF _ (yjo hk) _ ⟨fun c=>?_,fun c=>?_⟩⟩
    · rw [he,c,Bool.true_or] at h
      show R (decide (0≤(k:Int)))
      rw [decide_eq_true (by omega)];exact h
    · have c:p (gi s k)=false:=by simpa using c
      rw [c,Bool.false_or] at he
      exact ⟨⟨by omega,by omega⟩,m-1,by omega,k+1,by omega,by omega,he⟩
  · have:k=s.length:=by omega
    rw [he,this,List.drop_length] at h;exact h
theorem ygu{s:List (List Int)}{k:Nat}(hk:k<s.length):gx s k∈s:=by rw [yc3 hk];exact List.getElem_mem hk
theorem p_anySS{s:List (List Int)}{F:List Int→(Bool→Prop)→Prop}{p:List Int→Bool}{R:Bool→Prop}(hl:s.length≤1000000000)(hF:∀ x∈s,∀ R':Bool→Prop,R' (p x)→F x R')(h:R (s.any p)):yaU s F R:=by
  refine ⟨fun m v=>∃ k:Nat,v=k∧k+m=s.length∧s.any p=(s.drop k).any p,⟨s.length,0,rfl,by omega,rfl⟩,?_⟩
  rintro m v ⟨k,rfl,hm,he⟩
  refine ⟨fun hlt=>?_,fun hge=>?_⟩
  · have hk:k<s.length:=by omega
    rw [Int.toNat_natCast]
    rw [List.drop_eq_getElem_cons hk,List.any_cons,←yc3 hk] at he
    refine ⟨⟨by omega,hlt⟩,hF _ (ygu hk) _ ⟨fun c=>?_,fun c=>?_⟩⟩
    · rw [he,c,Bool.true_or] at h
      show R (decide (0≤(k:Int)))
      rw [decide_eq_true (by omega)];exact h
    · have c:p (gx s k)=false:=by simpa using c
      rw [c,Bool.false_or] at he
      exact ⟨⟨by omega,by omega⟩,m-1,by omega,k+1,by omega,by omega,he⟩
  · have:k=s.length:=by omega
    rw [he,this,List.drop_length] at h;exact h
def ygL(egg set:List Int):Bool:=egg.any fun v=>decide (v∈set)
def covB(set egg:List Int):Bool:=!(egg.any fun v=>!decide (v∈set))
def hitB(s:List (List Int))(set:List Int):Bool:=!(s.any fun egg=>!ygL egg set)
def parB(s:List (List Int))(set:List Int):Bool:=(s.any fun egg=>covB set egg)&&s.any fun egg=>!ygL egg set
theorem ygf{set egg:List Int}{R:Bool→Prop}(hs:set.length≤1000000000)(he:egg.length≤1000000000)(h:R (ygL egg set)):ycf set egg R :=
  p_anyS he (fun x _ R' h'=>yc8 hs h') h
theorem yib{set egg:List Int}{R:Bool→Prop}(hs:set.length≤1000000000)(he:egg.length≤1000000000)(h:R (covB set egg)):ycM set egg R :=
  p_anyS (p:=fun v=>!decide (v∈set)) he (fun x _ R' h'=>yc8 hs h') h
theorem p_Hitting_1{set:List Int}{s:List (List Int)}{R:Int→Bool→Prop}(hs:set.length≤1000000000)(hl:s.length≤1000000000)(he:∀ e∈s,e.length≤1000000000)(h:R (set.length:Nat) (hitB s set)):yb1 set s R :=
  p_anySS (p:=fun egg=>!ygL egg set) hl (fun x hx R' h'=>ygf hs (he x hx) h') h
def cutN(es:List E3)(set:List Int):Nat:=(yeK es).countP fun p=>decide (p.1∈set) != decide (p.2∈set)
theorem sF_endsI:∀ es:List E3,(sF es).map (fun x=>(x.1,x.2.1))=yeK es
  | []=>rfl
  | x::t=>by
    have e:yeK (x::t)=List.replicate x.2.2.toNat (x.1,x.2.1)++yeK t:=by unfold yeK;rw [List.flatMap_cons]
    rw [sF,e,List.map_append,List.map_replicate,sF_endsI t]
theorem p_graph_Cut{n:Nat}{es:List E3}{set:List Int}{R:List Int→Int→Prop}(hN:NrmE n es)(hn:n≤12)(hl:es.length≤40)(hs:SetOk n set)(h:∀ out:List Int,out.length=cutN es set→R out 0):yfi (n:Int) es set R:=by
  have hlen:=hs.len
  refine p_graph_Subset' (by omega) (by omega) hN.g ⟨fun _=>?_,fun q=>absurd (setOk_sub hs) q⟩
  show ∃ Pr Rr:List (Int×Int×Int)→Prop,_
  refine ⟨_,_,yd3 hN.ok (by omega),fun pre out=>out.length=pre.countP fun y=>decide (y.2.1∈set) != decide (y.2.2∈set),rfl,?_,?_⟩
  · rintro pre e a b out hI hPr
    have hI:out.length=pre.countP fun y=>decide (y.2.1∈set) != decide (y.2.2∈set):=hI
    have hPr:(pre++[(e,a,b)]).map gmap <+: sF es:=hPr
    have h2:=hPr.length_le
    have h3:=sF_few hN.ok
    have h4:pre.countP (fun y=>decide (y.2.1∈set) != decide (y.2.2∈set))≤pre.length:=List.countP_le_length
    rw [List.length_map,List.length_append] at h2
    simp only [List.length_singleton] at h2
    refine yc8 (by omega) (yc8 (by omega) ⟨fun q=>?_,fun q=>⟨by omega,?_⟩⟩)
    · show out.length=List.countP _ (pre++[(e,a,b)])
      rw [List.countP_append,List.countP_singleton,if_neg (by simpa using q),hI];rfl
    · show (out++[e]).length=List.countP _ (pre++[(e,a,b)])
      rw [List.countP_append,List.countP_singleton,if_pos (by simpa using q),List.length_append,hI];rfl
  · rintro ys out hI hR
    have hI:out.length=ys.countP fun y=>decide (y.2.1∈set) != decide (y.2.2∈set):=hI
    have hR:ys.map gmap=sF es:=hR
    refine h out ?_
    unfold cutN
    rw [hI,←sF_endsI,←hR,List.map_map,List.countP_map];rfl
end Go.Proofs.YtadpnlimiblniaaGreat

/- Check, Hitting, Cut and Order of scrambles: the program and the reference. -/
namespace Go.Proofs.YtadpnlimiblniaaGreat
open Go Go.RowKit Go.Shelf Go.Proofs.Tryz
def eggE(n:Int)(es:List E3)(l:List Int):Int :=
  if subF n l=0 then (if l=[] then 14 else if ydD (l.length:Nat) (made l.length (indL es l))=true then 0 else 13) else subF n l
def yjn(n:Int)(es:List E3):List (List Int)→Int
  | []=>0
  | l::t=>if eggE n es l=0 then yjn n es t else eggE n es l
def eggsF(n:Int)(es:List E3)(s:List (List Int)):Int:=if 256<s.length then 5 else yjn n es s
def chkE(n:Int)(es:List E3)(s:List (List Int)):Int:=if yaS n es=0 then eggsF n es s else yaS n es
theorem yid{n:Int}{es:List E3} : ∀ {s:List (List Int)},yjn n es s=0↔∀ l∈s,eggE n es l=0
  | []=>by simp [yjn]
  | l::t=>by
    rw [yjn]
    by_cases c:eggE n es l=0
    · rw [if_pos c,yid];simp [c]
    · rw [if_neg c];simp [c]
theorem ybn{n:Int}{es:List E3}(h:yaS n es=0):yav n es=0∧ydD n es=true:=by
  unfold yaS at h
  split at h
  · rename_i c
    split at h
    · rename_i c2;exact ⟨c,c2⟩
    · cases h
  · rename_i c;exact absurd h c
theorem ycH{n:Int}{es:List E3}(h:yav n es=0):∃ k:Nat,n=k∧1≤k∧k≤12:=by
  have hn:(1:Int)≤n∧n≤12:=by
    unfold yav at h;split at h
    · assumption
    · cases h
  exact ⟨n.toNat,by omega,by omega,by omega⟩
theorem ycg{n:Int}{es:List E3}{R:Int→Prop}(hl:es.length≤1000000000)(h:R (yaS n es)):ybd n es R:=by
  refine ⟨hl,fun c=>⟨fun q=>?_,fun q=>?_⟩,fun c=>?_⟩
  · have q:=of_decide_eq_true q
    unfold yaS at h;rw [if_pos q.1,if_pos q.2] at h;exact h
  · unfold yaS at h;rw [if_pos c,if_neg (fun z=>q (decide_eq_true ⟨c,z⟩))] at h;exact h
  · unfold yaS at h;rw [if_neg c] at h;exact h
theorem yj7{n:Int}{es:List E3}{R:Int→Prop}(hl:es.length≤1000000000)(h:R (yaS n es)):yeH n es R:=by
  refine yjC hl ⟨fun c=>?_,fun c=>?_⟩
  · obtain ⟨k,rfl,_,_⟩:=ycH c
    refine ygT hl c ⟨fun q=>?_,fun q=>?_⟩
    · unfold yaS at h;rw [if_pos c,if_pos q] at h;exact h
    · unfold yaS at h;rw [if_pos c,if_neg q] at h;exact h
  · unfold yaS at h;rw [if_neg c] at h;exact h
theorem joined_ind{n:Nat}{es:List E3}{l:List Int}(hN:NrmE n es)(hn:n≤12)(hs:SetOk n l)(hne:l≠[]):yaS (l.length:Nat) (made l.length (indL es l))=if ydD (l.length:Nat) (made l.length (indL es l))=true then 0 else 13:=by
  unfold yaS;rw [if_pos (ind_ok hs hN hn hne)]
theorem made_len{d:Nat}{L:List (Int×Int)}(hd:d≤12):(made d L).length≤1000:=by
  have:(yf2 d (tabE d L)).length≤d*d:=by
    unfold yf2
    have:∀ m,((List.range m).flatMap (rowJ d (tabE d L))).length≤m*d:=fun m=>by
      induction m with
      | zero=>simp
      | succ m ih =>
        rw [List.range_succ,List.flatMap_append,List.length_append]
        have:((List.flatMap (rowJ d (tabE d L)) [m])).length≤d:=by
          rw [List.flatMap_singleton]
          unfold rowJ
          refine Nat.le_trans (List.length_filterMap_le _ _) ?_
          rw [List.length_range];omega
        rw [Nat.add_mul];omega
    exact this d
  have h2:d*d≤12*12:=Nat.mul_le_mul hd hd
  show (yf2 d (tabE d L)).length≤1000
  omega
theorem yer{n:Int}{es:List E3}{s:List (List Int)}{R:Int→Prop}(hl:es.length≤40)(h:R (chkE n es s)):ybN n es s R:=by
  refine ycg (by omega) ⟨fun c=>⟨fun q=>?_,fun q=>?_⟩,fun c=>?_⟩
  · unfold chkE eggsF at h;rw [if_pos c,if_pos (by omega)] at h;exact h
  · unfold chkE eggsF at h;rw [if_pos c,if_neg (by omega)] at h
    obtain ⟨k,rfl,hk1,hk12⟩:=ycH (ybn c).1
    have hN:=nrm_of (ybn c).1
    refine ⟨fun m v=>∃ i:Nat,v=i∧i+m=s.length∧yjn k es s=yjn k es (s.drop i),⟨s.length,0,rfl,by omega,rfl⟩,?_⟩
    rintro m v ⟨i,rfl,hm,he⟩
    refine ⟨fun hlt=>?_,fun hge=>?_⟩
    · have hi:i<s.length:=by omega
      rw [List.drop_eq_getElem_cons hi,yjn,←yc3 hi] at he
      rw [Int.toNat_natCast]
      refine ⟨⟨by omega,hlt⟩,p_graph_Subset' (by omega) (by omega) hN.g ⟨fun c1=>?_,fun c1=>?_⟩⟩
      · have hs:=yiY c1
        refine yjE hN hk12 hl (fun q=>absurd c1 q) (fun _ e=>?_) (fun _ hne=>?_)
        · refine ⟨fun z=>by omega,fun _=>?_⟩
          have e2:eggE k es (gx s i)=14:=by unfold eggE;rw [if_pos c1,if_pos e]
          rw [he,e2] at h;exact h
        · have hlen:=hs.len
          refine ⟨fun _=>ycg (by have:=made_len (d:=(gx s i).length) (L:=indL es (gx s i)) (by omega);omega) ?_,fun z=>by omega⟩
          rw [joined_ind hN hk12 hs hne]
          have e2:eggE k es (gx s i)=if ydD ((gx s i).length:Nat) (made (gx s i).length (indL es (gx s i)))=true then 0 else 13:=by unfold eggE;rw [if_pos c1,if_neg hne]
          rw [e2] at he
          refine ⟨fun z=>?_,fun z=>?_⟩
          · rw [if_pos z] at he
            exact ⟨⟨by omega,by omega⟩,m-1,by omega,i+1,by omega,by omega,he⟩
          · rw [if_neg z] at he
            rw [he] at h;exact h
      · have e2:eggE k es (gx s i)=subF k (gx s i):=by unfold eggE;rw [if_neg c1]
        rw [e2,if_neg c1] at he
        rw [he] at h;exact h
    · have:i=s.length:=by omega
      rw [he,this,List.drop_length] at h;exact h
  · unfold chkE at h;rw [if_neg c] at h;exact h
theorem p_r40_egg{n:Nat}{es:List E3}{l:List Int}{R:Int→Prop}(hN:NrmE n es)(hn:n≤12)(hl:es.length≤40)(h:R (eggE n es l)):yg0 (n:Int) es l R:=by
  refine p_r08_Subset (by omega) ⟨fun c=>⟨fun q=>?_,fun q=>?_⟩,fun c=>?_⟩
  · have e:l=[]:=List.length_eq_zero_iff.1 (by omega)
    unfold eggE at h;rw [if_pos c,if_pos e] at h;exact h
  · have hne:l≠[]:=by rintro rfl;exact q rfl
    have hs:=yiY c
    have hlen:=hs.len
    unfold eggE at h;rw [if_pos c,if_neg hne] at h
    refine p_r08_Induced hN hn hs hl (ygT (by have:=made_len (d:=l.length) (L:=indL es l) (by omega);omega) (ind_ok hs hN hn hne) ⟨fun z=>?_,fun z=>?_⟩)
    · rw [if_pos z] at h;exact h
    · rw [if_neg z] at h;exact h
  · unfold eggE at h;rw [if_neg c] at h;exact h
theorem p_r40_Eggs{n:Int}{es:List E3}{s:List (List Int)}{R:Int→Prop}(hg:yav n es=0)(hl:es.length≤40)(h:R (eggsF n es s)):yf1 n es s R:=by
  obtain ⟨k,rfl,hk1,hk12⟩:=ycH hg
  have hN:=nrm_of hg
  unfold eggsF at h
  refine ⟨fun q=>by rw [if_pos (by omega)] at h;exact h,fun q=>?_⟩
  rw [if_neg (by omega)] at h
  refine ⟨fun m v=>∃ i:Nat,v=i∧i+m=s.length∧yjn k es s=yjn k es (s.drop i),⟨s.length,0,rfl,by omega,rfl⟩,?_⟩
  rintro m v ⟨i,rfl,hm,he⟩
  refine ⟨fun hlt=>?_,fun hge=>?_⟩
  · have hi:i<s.length:=by omega
    rw [List.drop_eq_getElem_cons hi,yjn,←yc3 hi] at he
    rw [Int.toNat_natCast]
    refine ⟨⟨by omega,hlt⟩,p_r40_egg hN hk12 hl ⟨fun z=>?_,fun z=>?_⟩⟩
    · rw [if_pos z] at he
      exact ⟨⟨by omega,by omega⟩,m-1,by omega,i+1,by omega,by omega,he⟩
    · rw [if_neg z] at he
      rw [he] at h;exact h
  · have:i=s.length:=by omega
    rw [he,this,List.drop_length] at h;exact h
structure ScrOk(n:Nat)(es:List E3)(s:List (List Int)):Prop where
  j:yaS n es=0
  l:s.length≤256
  e:∀ x∈s,eggE n es x=0
theorem yiy{n:Nat}{es:List E3}{s:List (List Int)}(h:chkE n es s=0):ScrOk n es s:=by
  unfold chkE at h
  split at h
  · rename_i c
    unfold eggsF at h
    split at h
    · cases h
    · rename_i c2;exact ⟨c,by omega,yid.1 h⟩
  · rename_i c;exact absurd h c
theorem ScrOk.chk{n:Nat}{es:List E3}{s:List (List Int)}(h:ScrOk n es s):chkE n es s=0:=by
  unfold chkE eggsF
  have:=h.l
  rw [if_pos h.j,if_neg (by omega)];exact yid.2 h.e
theorem egg_zero{n:Nat}{es:List E3}{l:List Int}(h:eggE n es l=0):SetOk n l∧l≠[]∧ydD (l.length:Nat) (made l.length (indL es l))=true:=by
  unfold eggE at h
  split at h
  · rename_i c
    split at h
    · cases h
    · rename_i c2
      split at h
      · rename_i c3;exact ⟨yiY c,c2,c3⟩
      · cases h
  · rename_i c;exact absurd h c
theorem ScrOk.len{n:Nat}{es:List E3}{s:List (List Int)}(h:ScrOk n es s):∀ x∈s,x.length≤n:=fun x hx=>(egg_zero (h.e x hx)).1.len
theorem ScrOk.n12{n:Nat}{es:List E3}{s:List (List Int)}(h:ScrOk n es s):1≤n∧n≤12:=by
  obtain ⟨k,e,h1,h2⟩:=ycH (ybn h.j).1
  omega
theorem ScrOk.nrm{n:Nat}{es:List E3}{s:List (List Int)}(h:ScrOk n es s):NrmE n es:=nrm_of (ybn h.j).1
theorem vset_ok(n:Nat)(U:Nat→Bool):SetOk n (ykF n U):=by
  refine ⟨fun k hk=>?_,fun j k hjk hk=>?_⟩
  · have:gi (ykF n U) k∈ykF n U:=yjo hk
    obtain ⟨v,h1,_,h3⟩:=ykO.1 this
    omega
  · rw [yaN (by omega),yaN hk]
    exact List.pairwise_iff_getElem.1 (vsetL_sorted n U) j k (by omega) hk hjk
theorem yjA{n:Nat}{y:List Int}(h:y∈yeV n):SetOk n y:=by
  obtain ⟨U,rfl⟩:=sets_is h
  exact vset_ok n U
def hitF(n:Nat)(s:List (List Int)):Int×List Int:=lstF (fun y=>((y.length:Int),hitB s y)) (yeV n) (-1,[])
def sepF(n:Nat)(es:List E3)(s:List (List Int)):Int×List Int:=lstF (fun y=>((cutN es y:Int),parB s y)) (yeV n) (-1,[])
theorem ydJ{n:Int}{es:List E3}{s:List (List Int)}{R:Int→List Int→Int→Prop}(hl:es.length≤40)(h0:chkE n es s≠0→R 0 [] (chkE n es s))(h1:∀ k:Nat,n=k→ScrOk k es s→R (hitF k s).1 (hitF k s).2 0):ybh n es s R:=by
  refine yer hl ⟨fun c=>?_,fun c=>h0 c⟩
  have hj:yaS n es=0:=by
    unfold chkE at c;split at c
    · assumption
    · exact c
  obtain ⟨k,rfl,_,_⟩:=ycH (ybn hj).1
  have hS:=yiy c
  have:=hS.n12
  have hsl:=hS.l
  refine p_least (by omega) (val:=fun y=>((y.length:Int),hitB s y)) (fun y hy=>?_) (h1 k rfl hS)
  have:=(yjA hy).len
  exact ⟨by omega,fun R' h'=>p_Hitting_1 (by omega) (by omega) (fun e he=>by have:=hS.len e he;omega) h'⟩
theorem p_Cut_1{n:Nat}{es:List E3}{s:List (List Int)}(hS:ScrOk n es s)(hl:es.length≤40){y:List Int}(hy:SetOk n y){R:Int→Bool→Int→Prop}(h1:parB s y=true→R (cutN es y:Nat) true 0)(h2:parB s y=false→R 0 false 0):yce y s (n:Int) es 0 R:=by
  have hn:=hS.n12
  have hsl:=hS.l
  have hyl:=hy.len
  have hel:∀ e∈s,e.length≤1000000000:=fun e he=>by have:=hS.len e he;omega
  refine p_anySS (p:=fun egg=>covB y egg) (by omega) (fun x hx R' h'=>yib (by omega) (hel x hx) h') ?_
  refine p_anySS (p:=fun egg=>!ygL egg y) (by omega) (fun x hx R' h'=>ygf (by omega) (hel x hx) h') ?_
  refine ⟨parB s y=true,fun z=>p_graph_Cut hS.nrm hn.2 hl hy fun out ho=>?_,fun za=>⟨fun zb=>?_,fun zb=>h2 ?_⟩,fun za=>h2 ?_⟩
  · rw [ho];exact ⟨fun _=>h1 z,fun q=>absurd rfl q⟩
  · unfold parB;rw [za,zb];rfl
  · unfold parB;rw [Bool.eq_false_iff.2 zb,Bool.and_false]
  · unfold parB;rw [Bool.eq_false_iff.2 za,Bool.false_and]
theorem p_least_v2{n:Nat}{es:List E3}{s:List (List Int)}(hS:ScrOk n es s)(hl:es.length≤40){R:Int→List Int→Int→Prop}(h:R (sepF n es s).1 (sepF n es s).2 0):ycd (n:Int) s (n:Int) es 0 R:=by
  have hn:=hS.n12
  show ∃ Pr Rr:List (List Int)→Prop,_
  refine ⟨_,_,p_sets_1 (by omega),fun pre v best first=>v=0∧(best,first)=lstF (fun y=>((cutN es y:Int),parB s y)) pre (-1,[]),⟨rfl,rfl⟩,?_,?_⟩
  · rintro pre y v best first ⟨rfl,hI⟩ hPr
    have hy:SetOk n y:=yjA (hPr.subset (by simp))
    have hyl:=hy.len
    have hs:=yhX (fun y=>((cutN es y:Int),parB s y)) pre y (-1,[])
    rw [←hI] at hs
    refine p_Cut_1 hS hl hy (fun c=>⟨fun _=>⟨fun q2=>yhZ (by omega) ⟨rfl,?_⟩,fun q2=>⟨fun q3=>yhZ (by omega) ⟨rfl,?_⟩,fun q3=>⟨rfl,?_⟩⟩⟩,fun q=>absurd rfl q⟩) (fun c=>⟨fun q=>(by cases q),fun _=>⟨rfl,?_⟩⟩)
    · exact (hs.trans (if_pos ⟨c, .inl q2⟩)).symm
    · exact (hs.trans (if_pos ⟨c, .inr q3⟩)).symm
    · exact (hs.trans (if_neg (fun z=>z.2.elim q2 q3))).symm
    · exact (hs.trans (if_neg (fun z=>by rw [c] at z;cases z.1))).symm
  · rintro ys v best first ⟨rfl,hI⟩ hR
    have hR:ys=yeV n:=hR
    subst hR
    unfold sepF at h
    rw [←hI] at h
    exact h
theorem yft{n:Int}{es:List E3}{s:List (List Int)}{R:Int→List Int→Int→Prop}(hl:es.length≤40)(h0:chkE n es s≠0→R 0 [] (chkE n es s))(h1:∀ k:Nat,n=k→ScrOk k es s→R (sepF k es s).1 (sepF k es s).2 0):ybO n es s R:=by
  refine yer hl ⟨fun c=>?_,fun c=>h0 c⟩
  have hj:yaS n es=0:=by
    unfold chkE at c;split at c
    · assumption
    · exact c
  obtain ⟨k,rfl,_,_⟩:=ycH (ybn hj).1
  have hS:=yiy c
  exact p_least_v2 hS hl ⟨fun _=>h1 k rfl hS,fun q=>absurd rfl q⟩
def ordF(n:Nat)(es:List E3)(s:List (List Int)):Int:=if (sepF n es s).1<0 then (hitF n s).1 else mnF (hitF n s).1 (sepF n es s).1
theorem ygg{n:Int}{es:List E3}{s:List (List Int)}{R:Int→Int→Prop}(hl:es.length≤40)(h0:chkE n es s≠0→R 0 (chkE n es s))(h1:∀ k:Nat,n=k→ScrOk k es s→R (ordF k es s) 0):ybM n es s R:=by
  refine ydJ hl (fun c=>⟨fun q=>absurd q c,fun _=>h0 c⟩) fun k hk hS=>⟨fun _=>?_,fun q=>absurd rfl q⟩
  refine yft hl (fun c=>absurd (by rw [hk];exact hS.chk) c) fun k' hk' _=>⟨fun _=>?_,fun q=>absurd rfl q⟩
  have e:k'=k:=by omega
  subst e
  have h:=h1 k' hk hS
  unfold ordF at h
  exact ⟨fun c=>by rw [if_pos c] at h;exact h,fun c=>by rw [if_neg c] at h;exact h⟩
section
variable {n : Nat} {es : List E3} {s : List (List Int)} (hS : ScrOk n es s) (hl : es.length ≤ 40) (hn6 : n ≤ 6)
include hS hl hn6
end
end Go.Proofs.YtadpnlimiblniaaGreat

/- Gonality: the first effective divisor of the least degree whose rank is at least 1; the program and the reference. -/
namespace Go.Proofs.YtadpnlimiblniaaGreat
open Go Go.RowKit Go.Shelf Go.Proofs.Tryz
theorem first_setG(N:Nat)(k:Int):(List.replicate (N+1) (0:Int)).set N k=ydX (N+1) k:=by
  refine ygi (by rw [List.length_set,List.length_replicate,yhO (by omega)]) fun i hi=>?_
  rw [List.length_set,List.length_replicate] at hi
  rw [ycQ (by rw [List.length_replicate];omega),gi_firstF,yhs hi]
  rfl
theorem yju{N k:Nat}(hN:N≤4)(hk:k≤6):ybX (ydX (N+1) (k:Int)) (fun p=>p <+: ycp (N+1) k) (fun p=>p=ycp (N+1) k):=by
  unfold ybX
  obtain ⟨⟨B0,hB0⟩,hst⟩:=yhl N k
  have hmem:∀ x∈ycp (N+1) k,x.length=N+1∧∀ j,j<N+1 → -1000000≤gi x j∧gi x j≤1000000:=fun x hx=>by
    obtain ⟨h1,h2,h3⟩:=(yed N k x).1 hx
    exact ⟨h1,fun j hj=>by have:=dg_entry h2 (j:=j) (by omega);omega⟩
  generalize ycp (N+1) k=L at hB0 hst hmem ⊢
  refine ⟨fun q pre more v=>∃ B,L=pre++B∧q=B.length∧(more=true→∃ B',B=v::B')∧(more=false→B=[]),⟨L.length,L,rfl,rfl,fun _=>⟨B0,hB0⟩,fun q=>(by cases q)⟩,?_⟩
  rintro q pre more v ⟨B,hL,rfl,hm,hn⟩
  refine ⟨fun hmt=>?_,fun hmf=>?_⟩
  · obtain ⟨B',rfl⟩:=hm hmt
    obtain ⟨hvl,hvb⟩:=hmem v (by rw [hL];simp)
    have hL2:L=(pre++[v])++B':=by rw [hL];simp
    have hat:=(show ygn (pre++v::B') none by rw [←hL];exact hst).at_
    refine ygo (by omega) ⟨⟨B',hL2.symm⟩,?_,trivial⟩
    refine p_chips_step (by omega) (by omega) (fun j hj=>hvb j (by omega)) (fun y hy=>⟨B'.length,by simp,B',hL2,rfl,fun _=>?_,fun q=>(by cases q)⟩) (fun hno=>?_)
    · rw [hy] at hat
      cases B' with
      | nil=>simp at hat
      | cons z B'=>simp at hat;exact ⟨B',by rw [hat]⟩
    · rw [hno] at hat
      refine ⟨B'.length,by simp,B',hL2,rfl,fun q=>(by cases q),fun _=>?_⟩
      cases B' with
      | nil=>rfl
      | cons z B'=>simp at hat
  · have hB:=hn (by simpa using hmf)
    rw [hB,List.append_nil] at hL
    exact hL.symm
def cntG(k:Nat):Nat→Int
  | 0=>1
  | i+1=>if i=0 then 1 else (cntG k i*((k:Int)+i)).tdiv i
theorem cntG_ok:∀ k,k<6→∀ j,j<5→0<j→(0≤cntG k j∧cntG k j≤1000)∧(0≤cntG k j*((k:Int)+j)∧cntG k j*((k:Int)+j)≤10000)∧(cntG k j*((k:Int)+j)).tdiv (j:Int)=cntG k (j+1)∧(0≤cntG k (j+1)∧cntG k (j+1)≤1000):=by decide
theorem p_chips_AllG{N k:Nat}{R:List (List Int)→Int→Prop}(hN:N≤4)(hk:k≤5)(h:R (ycp (N+1) k) 0):yeg ((N+1:Nat):Int) (k:Int) R:=by
  unfold yeg
  have hv:∀ {R':Int→Prop},R' 0→ybu ((N+1:Nat):Int) R':=fun h=>by
    unfold ybu
    exact ⟨fun q=>by omega,fun _=>⟨fun q=>by omega,fun _=>h⟩⟩
  refine hv ⟨fun _=>?_,fun q=>absurd rfl q⟩
  · refine ⟨True,fun _=>?_,fun q=>by omega,fun _=>⟨fun q=>by omega,fun _=>trivial⟩⟩
    refine ⟨fun q c i=>∃ j:Nat,i=(j:Int)∧1≤j∧j≤N+1∧q=N+1-j∧c=cntG k j,⟨N,1,rfl,by omega,by omega,by omega,rfl⟩,?_⟩
    rintro q c _ ⟨j,rfl,h1,hj,rfl,rfl⟩
    refine ⟨fun hlt=>?_,fun hge=>?_⟩
    · obtain ⟨k1,k2,k3,k4⟩:=cntG_ok k (by omega) j (by omega) (by omega)
      rw [k3]
      exact ⟨i64 (by omega),i64 (by omega),by omega,i64 (by omega),fun q=>by omega,fun _=>⟨i64 (by omega),N+1-(j+1),by omega,j+1,rfl,by omega,by omega,rfl,rfl⟩⟩
    · have e1:(((N+1:Nat):Int)-1).toNat=N:=by omega
      rw [e1,Int.toNat_natCast,first_setG]
      refine ⟨by omega,i64 (by omega),by simp;omega,?_⟩
      unfold yeP ybg yaM
      have hlen:=list_few (n:=N) (k:=k) (by omega) (by omega)
      refine ⟨fun p=>p <+: ycp (N+1) k,fun p=>p=ycp (N+1) k,yju hN (by omega),fun p s=>s=p,rfl,fun pre y s hs hp=>⟨?_,by rw [hs]⟩,fun ys s hs hys=>by rw [hs,hys];exact h⟩
      have:=hp.length_le
      rw [List.length_append,List.length_singleton] at this
      rw [hs];omega
theorem p_graph_EndsI{n:Nat}{es:List E3}{R:List (Int×Int)→Int→Prop}(hl:es.length≤100)(q:yav n es=0)(h:R (yeK es) 0):yeI (n:Int) es R:=by
  refine ydK (by omega) ⟨fun q=>?_,fun c=>absurd q c⟩
  obtain ⟨hE,hn1,hn12⟩:=ybW q
  show ∃ Pr Rr:List (Int×Int×Int)→Prop,_
  refine ⟨_,_,yd3 hE (by omega),fun pre out=>out=pre.map fun y=>(y.2.1,y.2.2),rfl,?_,?_⟩
  · rintro pre e a b out rfl hPr
    have hPr:(pre++[(e,a,b)]).map gmap <+: sF es:=hPr
    have h2:=hPr.length_le
    have h3:=sF_few hE
    rw [List.length_map,List.length_append] at h2
    simp only [List.length_singleton] at h2
    refine ⟨by rw [List.length_map];omega,?_⟩
    show _=List.map _ _
    rw [List.map_append];rfl
  · rintro ys out rfl hR
    have hR:ys.map gmap=sF es:=hR
    have e:ys.map (fun y=>(y.2.1,y.2.2))=yeK es:=by
      rw [←sF_endsI,←hR,List.map_map];rfl
    rw [e];exact h
theorem p_graph_SizeI{n:Nat}{es:List E3}{R:Int→Int→Prop}(hl:es.length≤100)(q:yav n es=0)(h:R ((es.map (·.2.2)).sum) 0):yeL (n:Int) es R:=by
  refine p_graph_EndsI hl q ?_
  rw [(ye6 es (fun x hx=>by have:=(ybW q).1 x hx;omega)).1];exact h
theorem p_AtLeast1{n:Nat}{es:List E3}{d:List Int}{R:Bool→Int→Prop}(hD:DOk n es d)(hg:ybo n es 0 d=0)(h1:AL n es d 1→R true 0)(h2:¬AL n es d 1→R false 0):ycl (n:Int) es d 1 R:=by
  have hel:=hD.G.el
  refine p_rank_AtLeast (by omega) (fun q=>absurd hg q) (fun _ q=>by omega) fun _ _=>⟨hD,fun k hk=>?_⟩
  have hk:RkOk n es d k:=hk
  by_cases c:(1:Int)≤k
  · rw [decide_eq_true c];exact h1 ((hk.ge hD.G.n1).1 c)
  · rw [decide_eq_false c];exact h2 fun q=>c ((hk.ge hD.G.n1).2 q)
structure GonOk(n:Nat)(es:List E3)(k:Nat)(d:List Int):Prop where
  k1:1≤k∧k≤n
  at_:∃ i,i<(ycp n k).length∧gx (ycp n k) i=d∧∀ j,j<i→¬AL n es (gx (ycp n k) j) 1
  al:AL n es d 1
  no:∀ k',1≤k'→k'<k→∀ y∈ycp n k',¬AL n es y 1
theorem GonOk.mem{n:Nat}{es:List E3}{k:Nat}{d:List Int}(h:GonOk n es k d):d∈ycp n k:=by
  obtain ⟨i,hi,rfl,_⟩:=h.at_
  exact ygu hi
theorem GonOk.eff{n:Nat}{es:List E3}{k:Nat}{d:List Int}(h:GonOk n es k d):Eff n d k:=by
  obtain ⟨N,rfl⟩:∃ N,n=N+1:=⟨n-1,by have:=h.k1;omega⟩
  exact yku h.mem
theorem GonOk.eq{n:Nat}{es:List E3}{k k':Nat}{d d':List Int}(h:GonOk n es k d)(h':GonOk n es k' d'):k=k'∧d=d':=by
  have e:k=k':=by
    rcases Nat.lt_trichotomy k k' with q | q | q
    · exact absurd h.al (h'.no k h.k1.1 q d h.mem)
    · exact q
    · exact absurd h'.al (h.no k' h'.k1.1 q d' h'.mem)
  subst e
  refine ⟨rfl,?_⟩
  obtain ⟨i,hi,e1,h1⟩:=h.at_;obtain ⟨j,hj,e2,h2⟩:=h'.at_
  rcases Nat.lt_trichotomy i j with q | q | q
  · exact absurd (by rw [e1];exact h.al) (h2 i q)
  · rw [←e1,←e2,q]
  · exact absurd (by rw [e2];exact h'.al) (h1 j q)
theorem al_ones{n:Nat}{es:List E3}(hn:1≤n):AL n es (List.replicate n 1) 1:=fun e he=>⟨fun _=>0,fun v hv=>by
  have:=he.le hv
  rw [yfl,ygA hv,yaN (by simpa using hv)];simp;omega⟩
theorem ones_mem(N:Nat):List.replicate (N+1) (1:Int)∈ycp (N+1) (N+1):=by
  refine (yed N (N+1) _).2 ⟨by simp,fun a ha=>by rw [(List.mem_replicate.1 ha).2];omega,?_⟩
  have:∀ m:Nat,(List.replicate m (1:Int)).sum=m:=fun m=>by
    induction m with
    | zero=>rfl
    | succ m ih=>rw [List.replicate_succ,List.sum_cons,ih];omega
  exact this _
theorem gok_dok{N:Nat}{es:List E3}(hG:GOk (N+1) es){k:Nat}(hk:k≤5){y:List Int}(hy:y∈ycp (N+1) k):DOk (N+1) es y∧ybo ((N+1:Nat):Int) es 0 y=0∧y.length=N+1:=by
  have he:=yku hy
  have hb:∀ v,v<N+1→0≤gi y v∧gi y v≤5:=fun v hv=>by have:=he.pos v hv;have:=he.le hv;omega
  refine ⟨⟨hG,fun v hv=>by have:=hb v hv;omega,by rw [he.deg];omega⟩,?_,he.len⟩
  rw [given0]
  have hj:yaS ((N+1:Nat):Int) es=0:=by unfold yaS;rw [if_pos hG.g,if_pos hG.c]
  have:=hG.n5
  rw [if_pos hj]
  exact yfE he.len (by omega) (by omega) fun j hj=>by have:=hb j hj;omega
theorem yeY{n:Int}{es:List E3}{R:Int→List Int→Int→Prop}(hl:es.length≤40)(h0:yaS n es≠0→R 0 [] (yaS n es))(h1:yaS n es=0→∃ k:Nat,n=k∧GOk k es∧∀ j d,GonOk k es j d→R j d 0):ybG n es R:=by
  refine ycg (by omega) ⟨fun c=>?_,fun c=>h0 c⟩
  obtain ⟨n,rfl,hG,hR⟩:=h1 c
  have hn1:=hG.n1;have hn5:=hG.n5;have hsu:=hG.su
  obtain ⟨N,rfl⟩:∃ N,n=N+1:=⟨n-1,by omega⟩
  refine p_graph_SizeI (by omega) hG.g ⟨True,fun _=>?_,fun _=>⟨fun q=>by omega,fun _=>⟨fun q=>by omega,fun _=>trivial⟩⟩,fun q=>absurd rfl q⟩
  refine ⟨fun m v=>∃ k:Nat,v=k∧1≤k∧k+m=N+2∧∀ k',1≤k'→k'<k→∀ y∈ycp (N+1) k',¬AL (N+1) es y 1,⟨N+1,1,rfl,by omega,by omega,fun k' h1 h2=>by omega⟩,?_⟩
  rintro m v ⟨k,rfl,hk1,hm,hno⟩
  refine ⟨fun hle=>?_,fun hgt=>?_⟩
  · refine p_chips_AllG (by omega) (by omega) ⟨fun _=>?_,fun q=>absurd rfl q⟩
    have hfew:=list_few (n:=N) (k:=k) (by omega) (by omega)
    refine ⟨fun m v=>∃ i:Nat,v=i∧i+m=(ycp (N+1) k).length∧∀ j,j<i→¬AL (N+1) es (gx (ycp (N+1) k) j) 1,⟨_,0,rfl,Nat.zero_add _,fun j hj=>by omega⟩,?_⟩
    rintro m' v ⟨i,rfl,hm',hi⟩
    refine ⟨fun hlt=>?_,fun hge=>?_⟩
    · have hil:i<(ycp (N+1) k).length:=by omega
      obtain ⟨hD,hg,hlen⟩:=gok_dok hG (k:=k) (by omega) (ygu hil)
      rw [Int.toNat_natCast]
      refine ⟨⟨by omega,hlt⟩,p_AtLeast1 hD hg (fun hal=>⟨fun _=>⟨fun _=>hR k _ ⟨⟨hk1,by omega⟩,⟨i,hil,rfl,hi⟩,hal,hno⟩,fun q=>absurd rfl q⟩,fun q=>absurd rfl q⟩) fun hal=>⟨fun _=>⟨fun q=>(by cases q),fun _=>⟨⟨by omega,by omega⟩,m'-1,by omega,i+1,by omega,by omega,fun j hj=>?_⟩⟩,fun q=>absurd rfl q⟩⟩
      by_cases e:j=i
      · rw [e];exact hal
      · exact hi j (by omega)
    · refine ⟨⟨by omega,by omega⟩,m-1,by omega,k+1,by omega,by omega,by omega,fun k' h1 h2 y hy=>?_⟩
      by_cases e:k'=k
      · subst e
        obtain ⟨j,hj,ej⟩:=List.mem_iff_getElem.1 hy
        rw [←ej,←yc3 hj]
        exact hi j (by omega)
      · exact hno k' h1 (by omega) y hy
  · exact absurd (al_ones hn1) (hno (N+1) (by omega) (by omega) _ (ones_mem N))
def ptsF(n:Nat):List (List Int):=(List.range n).map fun v:Nat=>[(v:Int)]
def prsF:List E3→List (List Int)
  | []=>[]
  | x::t=>(if x.1=x.2.1 then [] else [[x.1,x.2.1]])++prsF t
theorem prsF_app:∀ a b:List E3,prsF (a++b)=prsF a++prsF b
  | [],b=>rfl
  | x::t,b=>by rw [List.cons_append,prsF,prsF,prsF_app t b,List.append_assoc]
theorem prsF_len:∀ a:List E3,(prsF a).length≤a.length
  | []=>Nat.le_refl _
  | x::t=>by
    have:=prsF_len t
    rw [prsF,List.length_append,List.length_cons]
    split <;> simp <;> omega
theorem prsF_take{es:List E3}{k:Nat}(hk:k<es.length):prsF (es.take (k+1))=prsF (es.take k)++if (ge es k).1=(ge es k).2.1 then [] else [[(ge es k).1,(ge es k).2.1]]:=by
  rw [List.take_add_one,List.getElem?_eq_getElem hk,←yc4 hk,prsF_app]
  simp [prsF]
def pairE(n:Int)(es:List E3):List (List Int):=if yaS n es=0 then prsF es else []
def yj5(n:Int)(es:List E3):List (List Int):=if yaS n es=0 then ptsF n.toNat else []
theorem loop_pts{n:Nat}(hn:n≤12){R:List (List Int)→Int→Prop}(h:R (ptsF n) 0):(∃ I2:Nat→(List (List Int))→Int→Prop,(∃ m0,I2 m0 ([]) 0)∧∀ (m2:Nat) (out:List (List Int)) (v:Int),I2 m2 out v → 
((v<(n:Int) →
(out.length+1≤1000000000 ∧
(In64 (v+1) ∧
∃ m3,m3<m2∧I2 m3 (out++[[v]]) (v+1)))) ∧
(¬(v<(n:Int)) →
R out 0))):=by
  refine ⟨fun m out v=>∃ k:Nat,v=k∧k+m=n∧out=ptsF k,⟨n,0,rfl,by omega,rfl⟩,?_⟩
  rintro m out v ⟨k,rfl,hm,rfl⟩
  refine ⟨fun hlt=>⟨by simp [ptsF];omega,⟨by omega,by omega⟩,m-1,by omega,k+1,by omega,by omega,?_⟩,fun hge=>?_⟩
  · unfold ptsF;rw [List.range_succ,List.map_append];rfl
  · have:k=n:=by omega
    rw [this];exact h
theorem yih{n:Int}{es:List E3}{R:List (List Int)→Int→Prop}(hl:es.length≤40)(h:R (yj5 n es) (yaS n es)):ycL n es R:=by
  unfold yj5 at h
  refine ycg (by omega) ⟨fun c=>?_,fun c=>by rw [if_neg c] at h;exact h⟩
  rw [if_pos c,c] at h
  obtain ⟨k,rfl,_,h12⟩:=ycH (ybn c).1
  exact loop_pts h12 h
theorem loop_prs{es:List E3}(hl:es.length≤40){R:List (List Int)→Int→Prop}(h:R (prsF es) 0):(∃ I2:Nat→(List (List Int))→Int→Prop,(∃ m0,I2 m0 ([]) 0)∧∀ (m2:Nat) (out:List (List Int)) (v:Int),I2 m2 out v → 
((v<((es.length:Nat):Int) →
((0≤v∧v<((es.length:Nat):Int)) ∧
((((ge es v.toNat).1)=((ge es v.toNat).2.1) →
(In64 (v+1) ∧
∃ m3,m3<m2∧I2 m3 out (v+1))) ∧
(¬(((ge es v.toNat).1)=((ge es v.toNat).2.1)) →
(out.length+1≤1000000000 ∧
(In64 (v+1) ∧
∃ m4,m4<m2∧I2 m4 (out++[[(ge es v.toNat).1,(ge es v.toNat).2.1]]) (v+1))))))) ∧
(¬(v<((es.length:Nat):Int)) →
R out 0))):=by
  refine ⟨fun m out v=>∃ k:Nat,v=k∧k+m=es.length∧out=prsF (es.take k),⟨es.length,0,rfl,by omega,rfl⟩,?_⟩
  rintro m out v ⟨k,rfl,hm,rfl⟩
  refine ⟨fun hlt=>⟨⟨by omega,hlt⟩,fun c=>⟨⟨by omega,by omega⟩,m-1,by omega,k+1,by omega,by omega,?_⟩,fun c=>⟨?_,⟨by omega,by omega⟩,m-1,by omega,k+1,by omega,by omega,?_⟩⟩,fun hge=>?_⟩
  · rw [Int.toNat_natCast] at c
    rw [prsF_take (by omega),if_pos c,List.append_nil]
  · have:=prsF_len (es.take k)
    rw [List.length_take] at this;omega
  · rw [Int.toNat_natCast] at c ⊢
    rw [prsF_take (by omega),if_neg c]
  · have:k=es.length:=by omega
    rw [this,List.take_length];exact h
theorem yiJ{n:Int}{es:List E3}{R:List (List Int)→Int→Prop}(hl:es.length≤40)(h:R (pairE n es) (yaS n es)):yc7 n es R:=by
  unfold pairE at h
  refine ycg (by omega) ⟨fun c=>?_,fun c=>by rw [if_neg c] at h;exact h⟩
  rw [if_pos c,c] at h
  exact loop_prs hl h
end Go.Proofs.YtadpnlimiblniaaGreat

/- Pure forms of functions, made by program (pf.py), each with the proof that the code does so. -/
namespace Go.Proofs.YtadpnlimiblniaaGreat
open Go Go.RowKit Go.Shelf Go.Proofs.Tryz
set_option maxRecDepth 100000
set_option maxHeartbeats 8000000
def ycS(R:Bool→Prop):Prop :=
ydQ (fun r r2 =>
ybG r r2 (fun r3 r4 r5 =>
ycL r r2 (fun r6 r7 =>
ybO r r2 r6 (fun r8 r9 r10 =>
ybM r r2 r6 (fun r11 r12 =>
ybG 3 ([(0,1,1),(1,2,1)]) (fun r13 r14 r15 =>
yc7 3 ([(0,1,1),(1,2,1)]) (fun r16 r17 =>
ybh 3 ([(0,1,1),(1,2,1)]) r16 (fun r18 r19 r20 =>
(In64 (r5+r7) ∧
(In64 ((r5+r7)+r10) ∧
(In64 (((r5+r7)+r10)+r12) ∧
(In64 ((((r5+r7)+r10)+r12)+r15) ∧
(In64 (((((r5+r7)+r10)+r12)+r15)+r17) ∧
(In64 ((((((r5+r7)+r10)+r12)+r15)+r17)+r20) ∧
((((((((r5+r7)+r10)+r12)+r15)+r17)+r20)=0 →
((r3=2 →
ybb r4 ([0,0,2]) (fun r21 =>
((r21=true →
((r8=2 →
ybr r9 ([0]) (fun r22 =>
((r22=true →
((r11=2 →
((r13=1 →
ybb r14 ([0,0,1]) (fun r23 =>
((r23=true →
((r18=1 →
ybr r19 ([1]) (fun r24 =>
R r24)) ∧
(¬(r18=1) →
R false))) ∧
(¬(r23=true) →
R false)))) ∧
(¬(r13=1) →
R false))) ∧
(¬(r11=2) →
R false))) ∧
(¬(r22=true) →
R false)))) ∧
(¬(r8=2) →
R false))) ∧
(¬(r21=true) →
R false)))) ∧
(¬(r3=2) →
R false))) ∧
(¬(((((((r5+r7)+r10)+r12)+r15)+r17)+r20)=0) →
R false))))))))))))))))
theorem yfW{O:Nat→Prop}{w:World}{R:Bool→Prop}(h:ycS R)(hO:∀ k,O k→k<w.heap.size) :
    Calls Tryz.prog 13 #[] w fun e w'=>∃ r25,e = .returned (.bool (r25))∧Sep w no O w' (rl [])∧R r25:=by
  unfold ycS at h;have hS:Sep w no O w (rl []):=Sep.start w hO;refine yap (l:=[]) func13 rfl ntmps13 zY (zs (zQ (.bool (false)) (yaa (zs (zn (yam rfl (am0) enter_53 ((yiH h (yaB _)).mono ?_)))))));rintro _ w2 ⟨r,r2,Ar,lr,cr,rfl,hC,h⟩;replace hS:=hS.call1 (hC.widen (yde (ya0 (fP (fI .i64) (fP (fI .i64) (fI .i64))) _ _ _ _ _) ydA) hS.blt) 0 0 rfl;clear hC;refine ⟨_,rfl,?_⟩;refine zb (zn (yaO yao ?_));intro g w3 hN;replace hS:Sep w no O w3 (stl _ 1 (Res.box 24 g [(ii 0),(.slice none 0 0)])):=hS.new 1 rfl hN;clear hN;refine zb (zo (yaV (b:=g) (o:=0) (cells:=#[(ii r),(.slice Ar lr cr)]) rfl rfl yao rfl rfl (yaI (hS.bx 1 rfl) zY) ?_));intro w4 e1;replace hS:=hS.bstn 1 rfl 0 [(ii r),(.slice Ar lr cr)] e1;clear e1;refine zb (yaa (zs (zn (yck (l:=[(0,(ii 0)),(1,(ii 1)),(2,(ii 1))]) (cells:=[(ii 0),(ii 1),(ii 1)]) (places:=[(0,1),(1,1),(2,1)]) (bp3 rfl rfl rfl) underlying79 yaK (by kernel_rfl) rfl ?_))));refine zb (zn (yck (l:=[(0,(ii 1)),(1,(ii 2)),(2,(ii 1))]) (cells:=[(ii 1),(ii 2),(ii 1)]) (places:=[(0,1),(1,1),(2,1)]) (bp3 rfl rfl rfl) underlying79 yaK (by kernel_rfl) rfl ?_));refine zb (zn (yaX (l:=[(0,(.agg #[(ii 0),(ii 1),(ii 1)])),(1,(.agg #[(ii 1),(ii 2),(ii 1)]))]) (cells:=[(ii 0),(ii 1),(ii 1),(ii 1),(ii 2),(ii 1)]) (bp2 rfl rfl) underlying22 yaK rfl rfl ?_));intro g2 w5 hN;replace hS:=hS.litf (n:=2) 2 rfl (fP (fI .i64) (fP (fI .i64) (fI .i64))) hN ([(0,1,1),(1,2,1)]:List E3) rfl (by decide) rfl;clear hN;refine zb (zn (yck (l:=[(0,(ii 3)),(1,(.slice (some ⟨g2,0,none⟩) 2 2))]) (cells:=[(ii 3),(.slice (some ⟨g2,0,none⟩) 2 2)]) (places:=[(0,1),(1,1)]) (bp2 rfl rfl) underlying24 yao (by kernel_rfl) rfl ?_));refine zb (zn (yaO yao ?_));intro g3 w6 hN;replace hS:Sep w no O w6 (stl _ 3 (Res.box 24 g3 [(ii 0),(.slice none 0 0)])):=hS.new 3 rfl hN;clear hN;refine zb (zo (yaV (b:=g3) (o:=0) (cells:=#[(ii 3),(.slice (some ⟨g2,0,none⟩) 2 2)]) rfl rfl yao rfl rfl (yaI (hS.bx 3 rfl) zY) ?_));intro w7 e1;replace hS:=hS.bstn 3 rfl 0 [(ii 3),(.slice (some ⟨g2,0,none⟩) 2 2)] e1;clear e1;refine zb (yaa (zs (zq (yaq (vs:=[(ii r),(.slice Ar lr cr)]) rfl underlying24 rfl yao ⟨Row.cell (hS.bx 1 rfl) (i:=0) rfl,Row.cell (hS.bx 1 rfl) (i:=1) rfl,trivial⟩) ?_)));replace hS:=hS.frz 0 rfl;refine zn (yam rfl (am1 rfl) enter_24 ((yee h hS.blt (hS.ro 0 rfl)).mono ?_));rintro _ w8 ⟨r3,r4,r5,Ar2,lr2,cr2,rfl,hC,h⟩;replace hS:=hS.call1 hC 4 0 rfl;clear hC;refine ⟨_,rfl,?_⟩;refine zb (zM (.tuple #[(ii r3),(.slice Ar2 lr2 cr2),(ii r5)]) (zq (zx (ii r3)) (zq (zx (.slice Ar2 lr2 cr2)) (zq (zx (ii r5)) (zQ (ii r3) (zQ (.slice Ar2 lr2 cr2) (zQ (ii r5) (yaa (zs (zq (yaq (vs:=[(ii r),(.slice Ar lr cr)]) rfl underlying24 rfl yao ⟨Row.cell (hS.bx 1 rfl) (i:=0) rfl,Row.cell (hS.bx 1 rfl) (i:=1) rfl,trivial⟩) (zn (yam rfl (am1 rfl) enter_33 ((yho h hS.blt (hS.ro 0 rfl)).mono ?_)))))))))))));rintro _ w9 ⟨r6,r7,Ar3,lr3,cr3,rfl,hC,h⟩;replace hS:=hS.call1 hC 5 0 rfl;clear hC;refine ⟨_,rfl,?_⟩;refine zb (zM (.tuple #[(.slice Ar3 lr3 cr3),(ii r7)]) (zq (zx (.slice Ar3 lr3 cr3)) (zq (zx (ii r7)) (zQ (.slice Ar3 lr3 cr3) (zQ (ii r7) (yaa (zs (zq (yaq (vs:=[(ii r),(.slice Ar lr cr)]) rfl underlying24 rfl yao ⟨Row.cell (hS.bx 1 rfl) (i:=0) rfl,Row.cell (hS.bx 1 rfl) (i:=1) rfl,trivial⟩) (zM (.slice Ar3 lr3 cr3) (zn (yam rfl (am2 rfl rfl) enter_16 ((yev h (yaB _) (hS.rdr 0 rfl) (hS.rdo 5 rfl)).mono ?_))))))))))));rintro _ w10 ⟨r8,r9,r10,Ar4,lr4,cr4,rfl,hC,h⟩;replace hS:=hS.call1 (hC.widen (yde (ya0 (fI .i64) _ _ _ _ _) ydA) hS.blt) 6 0 rfl;clear hC;refine ⟨_,rfl,?_⟩;refine zb (zM (.tuple #[(ii r8),(.slice Ar4 lr4 cr4),(ii r10)]) (zq (zx (ii r8)) (zq (zx (.slice Ar4 lr4 cr4)) (zq (zx (ii r10)) (zQ (ii r8) (zQ (.slice Ar4 lr4 cr4) (zQ (ii r10) (yaa (zs (zq (yaq (vs:=[(ii r),(.slice Ar lr cr)]) rfl underlying24 rfl yao ⟨Row.cell (hS.bx 1 rfl) (i:=0) rfl,Row.cell (hS.bx 1 rfl) (i:=1) rfl,trivial⟩) (zM (.slice Ar3 lr3 cr3) (zn (yam rfl (am2 rfl rfl) enter_18 ((yff h (yaB _) (hS.rdr 0 rfl) (hS.rdo 5 rfl)).mono ?_))))))))))))));rintro _ w11 ⟨r11,r12,rfl,hC,h⟩;replace hS:=hS.pur hC.pure;clear hC;refine ⟨_,rfl,?_⟩;refine zb (zM (.tuple #[(ii r11),(ii r12)]) (zq (zx (ii r11)) (zq (zx (ii r12)) (zQ (ii r11) (zQ (ii r12) (yaa (zs (zq (yaq (vs:=[(ii 3),(.slice (some ⟨g2,0,none⟩) 2 2)]) rfl underlying24 rfl yao ⟨Row.cell (hS.bx 3 rfl) (i:=0) rfl,Row.cell (hS.bx 3 rfl) (i:=1) rfl,trivial⟩) ?_))))))));replace hS:=hS.frz 2 rfl;refine zn (yam rfl (am1 rfl) enter_24 ((yee h hS.blt (hS.ro 2 rfl)).mono ?_));rintro _ w12 ⟨r13,r14,r15,Ar5,lr5,cr5,rfl,hC,h⟩;replace hS:=hS.call1 hC 7 0 rfl;clear hC;refine ⟨_,rfl,?_⟩;refine zb (zM (.tuple #[(ii r13),(.slice Ar5 lr5 cr5),(ii r15)]) (zq (zx (ii r13)) (zq (zx (.slice Ar5 lr5 cr5)) (zq (zx (ii r15)) (zQ (ii r13) (zQ (.slice Ar5 lr5 cr5) (zQ (ii r15) (yaa (zs (zq (yaq (vs:=[(ii 3),(.slice (some ⟨g2,0,none⟩) 2 2)]) rfl underlying24 rfl yao ⟨Row.cell (hS.bx 3 rfl) (i:=0) rfl,Row.cell (hS.bx 3 rfl) (i:=1) rfl,trivial⟩) (zn (yam rfl (am1 rfl) enter_35 ((yhV h hS.blt (hS.ro 2 rfl)).mono ?_)))))))))))));rintro _ w13 ⟨r16,r17,Ar6,lr6,cr6,rfl,hC,h⟩;replace hS:=hS.call1 hC 8 0 rfl;clear hC;refine ⟨_,rfl,?_⟩
  refine zb (zM (.tuple #[(.slice Ar6 lr6 cr6),(ii r17)]) (zq (zx (.slice Ar6 lr6 cr6)) (zq (zx (ii r17)) (zQ (.slice Ar6 lr6 cr6) (zQ (ii r17) (yaa (zs (zq (yaq (vs:=[(ii 3),(.slice (some ⟨g2,0,none⟩) 2 2)]) rfl underlying24 rfl yao ⟨Row.cell (hS.bx 3 rfl) (i:=0) rfl,Row.cell (hS.bx 3 rfl) (i:=1) rfl,trivial⟩) (zM (.slice Ar6 lr6 cr6) (zn (yam rfl (am2 rfl rfl) enter_14 ((ydd h (yaB _) (hS.rdr 2 rfl) (hS.rdo 8 rfl)).mono ?_))))))))))));rintro _ w14 ⟨r18,r19,r20,Ar7,lr7,cr7,rfl,hC,h⟩;replace hS:=hS.call1 (hC.widen (yde (ya0 (fI .i64) _ _ _ _ _) ydA) hS.blt) 9 0 rfl;clear hC;refine ⟨_,rfl,?_⟩;refine zb (zM (.tuple #[(ii r18),(.slice Ar7 lr7 cr7),(ii r20)]) (zq (zx (ii r18)) (zq (zx (.slice Ar7 lr7 cr7)) (zq (zx (ii r20)) (zQ (ii r18) (zQ (.slice Ar7 lr7 cr7) (zQ (ii r20) (yaa (zs (zM (ii r5) (zM (ii r7) ?_)))))))))));obtain ⟨hi,h⟩:=h;refine zq (zA hi) (zM (ii r10) ?_);obtain ⟨hi2,h⟩:=h;refine zq (zA hi2) (zM (ii r12) ?_);obtain ⟨hi3,h⟩:=h;refine zq (zA hi3) (zM (ii r15) ?_);obtain ⟨hi4,h⟩:=h;refine zq (zA hi4) (zM (ii r17) ?_);obtain ⟨hi5,h⟩:=h;refine zq (zA hi5) (zM (ii r20) ?_);obtain ⟨hi6,h⟩:=h;refine zq (zA hi6) (zq zE (zM (.bool (decide (((((((r5+r7)+r10)+r12)+r15)+r17)+r20)=0))) ?_));by_cases hp:((((((r5+r7)+r10)+r12)+r15)+r17)+r20)=0
  · replace h:=h.1 hp;refine zW rfl rfl (zT hp) (zm (ii r3)) (zW rfl rfl (zT hp) zE (zq (yas (v:=(.bool (decide (r3=2)))) (zT hp) rfl) (zM (.bool (decide (r3=2))) ?_)));by_cases hp2:r3=2
    · replace h:=h.1 hp2;refine zW rfl rfl (zT hp2) (zm (.slice Ar2 lr2 cr2)) (rl_n (yae rfl (yac rfl (zT hp2))) rfl rfl rfl (yaX (l:=[(0,(ii 0)),(1,(ii 0)),(2,(ii 2))]) (cells:=[(ii 0),(ii 0),(ii 2)]) (bp3 rfl rfl rfl) underlying43 yaj rfl rfl ?_));intro g4 w15 hN;replace hS:=hS.litf (n:=3) 10 rfl (fI .i64) hN ([0,0,2]:List Int) rfl (by decide) rfl;clear hN;refine zb (rl_n (yae rfl (yac rfl (zT hp2))) rfl rfl rfl (yam rfl (am2 rfl rfl) enter_54 ((ydz h (yaB _) (hS.rdr 4 rfl) (hS.rdo 10 rfl)).mono ?_)));rintro _ w16 ⟨r21,rfl,hC,h⟩;replace hS:=hS.pur hC.pure;clear hC;refine ⟨_,rfl,?_⟩;refine zb (zq (yas (v:=(.bool (r21))) (zT hp2) rfl) (zM (.bool (r21)) ?_));by_cases hp3:r21=true
      · replace h:=h.1 hp3;refine zW rfl rfl (zC hp3) (zm (ii r8)) (zW rfl rfl (zC hp3) zE (zq (yas (v:=(.bool (decide (r8=2)))) (zC hp3) rfl) (zM (.bool (decide (r8=2))) ?_)));by_cases hp4:r8=2
        · replace h:=h.1 hp4;refine zW rfl rfl (zT hp4) (zm (.slice Ar4 lr4 cr4)) (rl_n (yae rfl (yac rfl (zT hp4))) rfl rfl rfl (yaX (l:=[(0,(ii 0))]) (cells:=[(ii 0)]) (bp1 rfl) underlying29 yaj rfl rfl ?_));intro g5 w17 hN;replace hS:=hS.litf (n:=1) 11 rfl (fI .i64) hN ([0]:List Int) rfl (by decide) rfl;clear hN;refine zb (rl_n (yae rfl (yac rfl (zT hp4))) rfl rfl rfl (yam rfl (am2 rfl rfl) enter_55 ((yec h (yaB _) (hS.rdo 6 rfl) (hS.rdo 11 rfl)).mono ?_)));rintro _ w18 ⟨r22,rfl,hC,h⟩;replace hS:=hS.pur hC.pure;clear hC;refine ⟨_,rfl,?_⟩;refine zb (zq (yas (v:=(.bool (r22))) (zT hp4) rfl) (zM (.bool (r22)) ?_));by_cases hp5:r22=true
          · replace h:=h.1 hp5;refine zW rfl rfl (zC hp5) (zm (ii r11)) (zW rfl rfl (zC hp5) zE (zq (yas (v:=(.bool (decide (r11=2)))) (zC hp5) rfl) (zM (.bool (decide (r11=2))) ?_)));by_cases hp6:r11=2
            · replace h:=h.1 hp6;refine zW rfl rfl (zT hp6) (zm (ii r13)) (zW rfl rfl (zT hp6) zE (zq (yas (v:=(.bool (decide (r13=1)))) (zT hp6) rfl) (zM (.bool (decide (r13=1))) ?_)));by_cases hp7:r13=1
              · replace h:=h.1 hp7;refine zW rfl rfl (zT hp7) (zm (.slice Ar5 lr5 cr5)) (rl_n (yae rfl (yac rfl (zT hp7))) rfl rfl rfl (yaX (l:=[(0,(ii 0)),(1,(ii 0)),(2,(ii 1))]) (cells:=[(ii 0),(ii 0),(ii 1)]) (bp3 rfl rfl rfl) underlying43 yaj rfl rfl ?_));intro g6 w19 hN;replace hS:=hS.litf (n:=3) 12 rfl (fI .i64) hN ([0,0,1]:List Int) rfl (by decide) rfl;clear hN;refine zb (rl_n (yae rfl (yac rfl (zT hp7))) rfl rfl rfl (yam rfl (am2 rfl rfl) enter_54 ((ydz h (yaB _) (hS.rdr 7 rfl) (hS.rdo 12 rfl)).mono ?_)));rintro _ w20 ⟨r23,rfl,hC,h⟩;replace hS:=hS.pur hC.pure;clear hC;refine ⟨_,rfl,?_⟩;refine zb (zq (yas (v:=(.bool (r23))) (zT hp7) rfl) (zM (.bool (r23)) ?_));by_cases hp8:r23=true
                · replace h:=h.1 hp8;refine zW rfl rfl (zC hp8) (zm (ii r18)) (zW rfl rfl (zC hp8) zE (zq (yas (v:=(.bool (decide (r18=1)))) (zC hp8) rfl) (zM (.bool (decide (r18=1))) ?_)));by_cases hp9:r18=1
                  · replace h:=h.1 hp9;refine zW rfl rfl (zT hp9) (zm (.slice Ar7 lr7 cr7)) (rl_n (yae rfl (yac rfl (zT hp9))) rfl rfl rfl (yaX (l:=[(0,(ii 1))]) (cells:=[(ii 1)]) (bp1 rfl) underlying29 yaj rfl rfl ?_));intro g7 w21 hN;replace hS:=hS.litf (n:=1) 13 rfl (fI .i64) hN ([1]:List Int) rfl (by decide) rfl;clear hN;refine zb (rl_n (yae rfl (yac rfl (zT hp9))) rfl rfl rfl (yam rfl (am2 rfl rfl) enter_55 ((yec h (yaB _) (hS.rdo 9 rfl) (hS.rdo 13 rfl)).mono ?_)));rintro _ w22 ⟨r24,rfl,hC,h⟩;replace hS:=hS.pur hC.pure;clear hC;refine ⟨_,rfl,?_⟩;exact zb (zq (yas (v:=(.bool (r24))) (zT hp9) rfl) (zQ (.bool (r24)) (yaa (yak rfl rfl ⟨_,rfl,(hS.sel []),h⟩))))
                  · replace h:=h.2 hp9;exact zV rfl rfl (zF hp9) (zV rfl rfl (zF hp9) (zV rfl rfl (zF hp9) (zq (yal (v:=(.bool (false))) (zF hp9) rfl) (zQ (.bool (false)) (yaa (yak rfl rfl ⟨_,rfl,(hS.sel []),h⟩))))))
                · replace h:=h.2 hp8;exact zV rfl rfl (zC (zI hp8)) (zV rfl rfl (zC (zI hp8)) (zq (yal (v:=(.bool (false))) (zC (zI hp8)) rfl) (zM (.bool (false)) (zU (zU (zU (zq (yal (v:=(.bool (false))) rfl rfl) (zQ (.bool (false)) (yaa (yak rfl rfl ⟨_,rfl,(hS.sel []),h⟩))))))))))
              · replace h:=h.2 hp7;exact zV rfl rfl (zF hp7) (zV rfl rfl (zF hp7) (zV rfl rfl (zF hp7) (zq (yal (v:=(.bool (false))) (zF hp7) rfl) (zM (.bool (false)) (zU (zU (zq (yal (v:=(.bool (false))) rfl rfl) (zM (.bool (false)) (zU (zU (zU (zq (yal (v:=(.bool (false))) rfl rfl) (zQ (.bool (false)) (yaa (yak rfl rfl ⟨_,rfl,(hS.sel []),h⟩)))))))))))))))
            · replace h:=h.2 hp6;exact zV rfl rfl (zF hp6) (zV rfl rfl (zF hp6) (zq (yal (v:=(.bool (false))) (zF hp6) rfl) (zM (.bool (false)) (zU (zU (zU (zq (yal (v:=(.bool (false))) rfl rfl) (zM (.bool (false)) (zU (zU (zq (yal (v:=(.bool (false))) rfl rfl) (zM (.bool (false)) (zU (zU (zU (zq (yal (v:=(.bool (false))) rfl rfl) (zQ (.bool (false)) (yaa (yak rfl rfl ⟨_,rfl,(hS.sel []),h⟩)))))))))))))))))))
          · replace h:=h.2 hp5;exact zV rfl rfl (zC (zI hp5)) (zV rfl rfl (zC (zI hp5)) (zq (yal (v:=(.bool (false))) (zC (zI hp5)) rfl) (zM (.bool (false)) (zU (zU (zq (yal (v:=(.bool (false))) rfl rfl) (zM (.bool (false)) (zU (zU (zU (zq (yal (v:=(.bool (false))) rfl rfl) (zM (.bool (false)) (zU (zU (zq (yal (v:=(.bool (false))) rfl rfl) (zM (.bool (false)) (zU (zU (zU (zq (yal (v:=(.bool (false))) rfl rfl) (zQ (.bool (false)) (yaa (yak rfl rfl ⟨_,rfl,(hS.sel []),h⟩)))))))))))))))))))))))
        · replace h:=h.2 hp4;exact zV rfl rfl (zF hp4) (zV rfl rfl (zF hp4) (zV rfl rfl (zF hp4) (zq (yal (v:=(.bool (false))) (zF hp4) rfl) (zM (.bool (false)) (zU (zU (zq (yal (v:=(.bool (false))) rfl rfl) (zM (.bool (false)) (zU (zU (zq (yal (v:=(.bool (false))) rfl rfl) (zM (.bool (false)) (zU (zU (zU (zq (yal (v:=(.bool (false))) rfl rfl) (zM (.bool (false)) (zU (zU (zq (yal (v:=(.bool (false))) rfl rfl) (zM (.bool (false)) (zU (zU (zU (zq (yal (v:=(.bool (false))) rfl rfl) (zQ (.bool (false)) (yaa (yak rfl rfl ⟨_,rfl,(hS.sel []),h⟩))))))))))))))))))))))))))))
      · replace h:=h.2 hp3;exact zV rfl rfl (zC (zI hp3)) (zV rfl rfl (zC (zI hp3)) (zq (yal (v:=(.bool (false))) (zC (zI hp3)) rfl) (zM (.bool (false)) (zU (zU (zU (zq (yal (v:=(.bool (false))) rfl rfl) (zM (.bool (false)) (zU (zU (zq (yal (v:=(.bool (false))) rfl rfl) (zM (.bool (false)) (zU (zU (zq (yal (v:=(.bool (false))) rfl rfl) (zM (.bool (false)) (zU (zU (zU (zq (yal (v:=(.bool (false))) rfl rfl) (zM (.bool (false)) (zU (zU (zq (yal (v:=(.bool (false))) rfl rfl) (zM (.bool (false)) (zU (zU (zU (zq (yal (v:=(.bool (false))) rfl rfl) (zQ (.bool (false)) (yaa (yak rfl rfl ⟨_,rfl,(hS.sel []),h⟩))))))))))))))))))))))))))))))))
    · replace h:=h.2 hp2;exact zV rfl rfl (zF hp2) (zV rfl rfl (zF hp2) (zV rfl rfl (zF hp2) (zq (yal (v:=(.bool (false))) (zF hp2) rfl) (zM (.bool (false)) (zU (zU (zq (yal (v:=(.bool (false))) rfl rfl) (zM (.bool (false)) (zU (zU (zU (zq (yal (v:=(.bool (false))) rfl rfl) (zM (.bool (false)) (zU (zU (zq (yal (v:=(.bool (false))) rfl rfl) (zM (.bool (false)) (zU (zU (zq (yal (v:=(.bool (false))) rfl rfl) (zM (.bool (false)) (zU (zU (zU (zq (yal (v:=(.bool (false))) rfl rfl) (zM (.bool (false)) (zU (zU (zq (yal (v:=(.bool (false))) rfl rfl) (zM (.bool (false)) (zU (zU (zU (zq (yal (v:=(.bool (false))) rfl rfl) (zQ (.bool (false)) (yaa (yak rfl rfl ⟨_,rfl,(hS.sel []),h⟩)))))))))))))))))))))))))))))))))))))
  · replace h:=h.2 hp;exact zV rfl rfl (zF hp) (zV rfl rfl (zF hp) (zq (yal (v:=(.bool (false))) (zF hp) rfl) (zM (.bool (false)) (zU (zU (zU (zq (yal (v:=(.bool (false))) rfl rfl) (zM (.bool (false)) (zU (zU (zq (yal (v:=(.bool (false))) rfl rfl) (zM (.bool (false)) (zU (zU (zU (zq (yal (v:=(.bool (false))) rfl rfl) (zM (.bool (false)) (zU (zU (zq (yal (v:=(.bool (false))) rfl rfl) (zM (.bool (false)) (zU (zU (zq (yal (v:=(.bool (false))) rfl rfl) (zM (.bool (false)) (zU (zU (zU (zq (yal (v:=(.bool (false))) rfl rfl) (zM (.bool (false)) (zU (zU (zq (yal (v:=(.bool (false))) rfl rfl) (zM (.bool (false)) (zU (zU (zU (zq (yal (v:=(.bool (false))) rfl rfl) (zQ (.bool (false)) (yaa (yak rfl rfl ⟨_,rfl,(hS.sel []),h⟩)))))))))))))))))))))))))))))))))))))))))
def ykE(g:Int)(g2:List E3)(R:Bool→Prop):Prop :=
ykc g g2 (fun r =>
((r=true →
yeH g g2 (fun r2 =>
R (decide (r2=0)))) ∧
(¬(r=true) →
R false)))
theorem pok_l40_right{O:Nat→Prop}{w:World}{g g2 Ag lg cg}{R:Bool→Prop}(h:ykE g g2 R)(hO:∀ k,O k→k<w.heap.size)(hA0:(FP.sl c3 Ag lg cg g2).P O w) :
    Calls Tryz.prog 27 #[(.agg #[(ii g),(.slice Ag lg cg)])] w fun e w'=>∃ r3,e = .returned (.bool (r3))∧Sep w no O w' (rl [])∧R r3:=by
  unfold ykE at h;have hS:Sep w no O w (rl [Res.ro (FP.sl c3 Ag lg cg g2)]):=Sep.startl hO [(FP.sl c3 Ag lg cg g2)] ⟨hA0,trivial⟩;refine yap (l:=[(.agg #[(ii g),(.slice Ag lg cg)])]) func27 rfl ntmps27 zY (zs (zn (ya8 (v:=(.agg #[(ii g),(.slice Ag lg cg)])) rfl ?_)));intro g3 w2 hN;replace hS:Sep w no O w2 (stl _ 1 (Res.box 24 g3 [(ii g),(.slice Ag lg cg)])):=hS.new 1 rfl hN;clear hN;refine zb (zQ (.bool (false)) (yaa (zs (zq (yaq (vs:=[(ii g),(.slice Ag lg cg)]) rfl underlying24 rfl yao ⟨Row.cell (hS.bx 1 rfl) (i:=0) rfl,Row.cell (hS.bx 1 rfl) (i:=1) rfl,trivial⟩) (zn (yam rfl (am1 rfl) enter_23 ((ykt h (yaB _) (hS.rdr 0 rfl)).mono ?_)))))));rintro _ w3 ⟨r,rfl,hC,h⟩;replace hS:=hS.pur hC.pure;clear hC;refine ⟨_,rfl,?_⟩;refine zb (zM (.bool (r)) ?_);by_cases hp:r=true
  · replace h:=h.1 hp;refine zW rfl rfl (zC hp) (yaq (vs:=[(ii g),(.slice Ag lg cg)]) rfl underlying24 rfl yao ⟨Row.cell (hS.bx 1 rfl) (i:=0) rfl,Row.cell (hS.bx 1 rfl) (i:=1) rfl,trivial⟩) (rl_n (yae rfl (yac rfl (zC hp))) rfl rfl rfl (yam rfl (am1 rfl) enter_43 ((yj3 h (yaB _) (hS.rdr 0 rfl)).mono ?_)));rintro _ w4 ⟨r2,rfl,hC,h⟩;replace hS:=hS.pur hC.pure;clear hC;refine ⟨_,rfl,?_⟩;exact zb (zW rfl rfl (zC hp) zE (zq (yas (v:=(.bool (decide (r2=0)))) (zC hp) rfl) (zQ (.bool (decide (r2=0))) (yaa (yak rfl rfl ⟨_,rfl,(hS.sel []),h⟩)))))
  · replace h:=h.2 hp;exact zV rfl rfl (zC (zI hp)) (zV rfl rfl (zC (zI hp)) (zV rfl rfl (zC (zI hp)) (zq (yal (v:=(.bool (false))) (zC (zI hp)) rfl) (zQ (.bool (false)) (yaa (yak rfl rfl ⟨_,rfl,(hS.sel []),h⟩))))))
def ykB(d:Int)(d2:List E3)(i:List (List Int))(a:List Int)(R:Bool→Prop):Prop :=
(∃ J2:Prop,(J2→ybM d d2 i (fun r r2 =>
ybG d d2 (fun r3 r4 r5 =>
yea d d2 r4 (fun r6 r7 =>
(∃ J3:Prop,(J3→(∃ J4:Prop,(J4→yea d d2 a (fun r8 r9 =>
((r9=0 →
((r8<1 →
ycS (fun r10 =>
R r10)) ∧
(¬(r8<1) →
R false))) ∧
(¬(r9=0) →
R false)))) ∧
ykC a d (fun r11 =>
((r11=0 →
ykD a (fun r12 =>
((r12=true →
ykg a (fun r13 =>
((r3≤r13 →
ycS (fun r14 =>
R r14)) ∧
(¬(r3≤r13) →
J4)))) ∧
(¬(r12=true) →
ycS (fun r15 =>
R r15))))) ∧
(¬(r11=0) →
ycS (fun r16 =>
R r16)))))) ∧
(In64 (r2+r5) ∧
(In64 ((r2+r5)+r7) ∧
((((r2+r5)+r7)=0 →
((r3<r →
R false) ∧
(¬(r3<r) →
((r6<1 →
R false) ∧
(¬(r6<1) →
(((r4.length:Int)=d →
ykg r4 (fun r17 =>
((r17=r3 →
((r3<1 →
R false) ∧
(¬(r3<1) →
((d<r3 →
R false) ∧
(¬(d<r3) →
J3))))) ∧
(¬(r17=r3) →
R false)))) ∧
(¬((r4.length:Int)=d) →
R false))))))) ∧
(¬(((r2+r5)+r7)=0) →
R false))))))))) ∧
ykE d d2 (fun r18 =>
((r18=true →
ygV i (fun r19 =>
((r19=true →
yf1 d d2 i (fun r20 =>
((r20=0 →
J2) ∧
(¬(r20=0) →
ycS (fun r21 =>
R r21))))) ∧
(¬(r19=true) →
ycS (fun r22 =>
R r22))))) ∧
(¬(r18=true) →
ycS (fun r23 =>
R r23)))))
theorem pok_l40_GonalityBounds{O:Nat→Prop}{w:World}{d d2 i a Ad ld cd Ai li ci Aa la ca}{R:Bool→Prop}(h:ykB d d2 i a R)(hO:∀ k,O k→k<w.heap.size)(hA0:(FP.sl c3 Ad ld cd d2).P O w)(hA1:(FP.sl (cL cI) Ai li ci i).P O w)(hA2:(FP.sl cI Aa la ca a).P O w) :
    Calls Tryz.prog 5 #[(.agg #[(ii d),(.slice Ad ld cd)]),(.slice Ai li ci),(.slice Aa la ca)] w fun e w'=>∃ r24,e = .returned (.bool (r24))∧Sep w no O w' (rl [])∧R r24:=by
  unfold ykB at h;have hS:Sep w no O w (rl [Res.ro (FP.sl c3 Ad ld cd d2),Res.ro (FP.sl (cL cI) Ai li ci i),Res.ro (FP.sl cI Aa la ca a)]):=Sep.startl hO [(FP.sl c3 Ad ld cd d2),(FP.sl (cL cI) Ai li ci i),(FP.sl cI Aa la ca a)] ⟨hA0,hA1,hA2,trivial⟩;refine yap (l:=[(.agg #[(ii d),(.slice Ad ld cd)]),(.slice Ai li ci),(.slice Aa la ca)]) func5 rfl ntmps5 zY (zs (zn (ya8 (v:=(.agg #[(ii d),(.slice Ad ld cd)])) rfl ?_)));intro g w2 hN;replace hS:Sep w no O w2 (stl _ 3 (Res.box 24 g [(ii d),(.slice Ad ld cd)])):=hS.new 3 rfl hN;clear hN;refine zb (zQ (.bool (false)) (yaa (yaf (yaf ?_))));obtain ⟨J2,hJ,h⟩:=h;refine yc1 (fun E ds w'=>J2∧ds=[]∧E 1=(Value.slice Ai li ci)∧E 2=(Value.slice Aa la ca)∧E 3=(Value.pointer (some ⟨g,0,none⟩))∧Sep w no O w' (rl [Res.ro (FP.sl (cL cI) Ai li ci i),Res.ro (FP.sl cI Aa la ca a),Res.box 24 g [(ii d),(.slice Ad ld cd)],Res.ro (FP.sl c3 Ad ld cd d2)])) ?_ ?_
  · clear h hS;rintro E ds w3 ⟨h,rfl,H1,H2,H3,hS⟩;replace h:=hJ h;refine zs (zq (yaq (vs:=[(ii d),(.slice Ad ld cd)]) H3 underlying24 rfl yao ⟨Row.cell (hS.bx 2 rfl) (i:=0) rfl,Row.cell (hS.bx 2 rfl) (i:=1) rfl,trivial⟩) (zq (yad H1) (zn (yam rfl (am2 rfl rfl) enter_18 ((yff h (yaB _) (hS.rdr 3 rfl) (hS.rdr 0 rfl)).mono ?_)))));rintro _ w4 ⟨r,r2,rfl,hC,h⟩;replace hS:=hS.pur hC.pure;clear hC;refine ⟨_,rfl,?_⟩;refine zb (zM (.tuple #[(ii r),(ii r2)]) (zq (zx (ii r)) (zq (zx (ii r2)) (zQ (ii r) (zQ (ii r2) (yaa (zs (zq (yaq (vs:=[(ii d),(.slice Ad ld cd)]) H3 underlying24 rfl yao ⟨Row.cell (hS.bx 2 rfl) (i:=0) rfl,Row.cell (hS.bx 2 rfl) (i:=1) rfl,trivial⟩) (zn (yam rfl (am1 rfl) enter_24 ((yee h hS.blt (hS.ro 3 rfl)).mono ?_)))))))))));rintro _ w5 ⟨r3,r4,r5,Ar,lr,cr,rfl,hC,h⟩;replace hS:=hS.call1 hC 4 0 rfl;clear hC;refine ⟨_,rfl,?_⟩;refine zb (zM (.tuple #[(ii r3),(.slice Ar lr cr),(ii r5)]) (zq (zx (ii r3)) (zq (zx (.slice Ar lr cr)) (zq (zx (ii r5)) (zQ (ii r3) (zQ (.slice Ar lr cr) (zQ (ii r5) (yaa (zs (zq (yaq (vs:=[(ii d),(.slice Ad ld cd)]) H3 underlying24 rfl yao ⟨Row.cell (hS.bx 2 rfl) (i:=0) rfl,Row.cell (hS.bx 2 rfl) (i:=1) rfl,trivial⟩) (zM (.slice Ar lr cr) (zn (yam rfl (am2 rfl rfl) enter_29 ((ykG h (yaB _) (hS.rdr 3 rfl) (hS.rdr 4 rfl)).mono ?_))))))))))))));rintro _ w6 ⟨r6,r7,rfl,hC,h⟩;replace hS:=hS.pur hC.pure;clear hC;refine ⟨_,rfl,?_⟩;refine zb (zM (.tuple #[(ii r6),(ii r7)]) (zq (zx (ii r6)) (zq (zx (ii r7)) (zQ (ii r6) (zQ (ii r7) (yaa (yaf (yaf ?_))))))));obtain ⟨J3,hJ,h⟩:=h;refine yc1 (fun E ds w'=>J3∧ds=[]∧E 2=(Value.slice Aa la ca)∧E 3=(Value.pointer (some ⟨g,0,none⟩))∧E 9=(ii r3)∧Sep w no O w' (rl [Res.ro (FP.sl cI Aa la ca a),Res.box 24 g [(ii d),(.slice Ad ld cd)],Res.ro (FP.sl c3 Ad ld cd d2)])) ?_ ?_
    · clear h hS;rintro E ds w7 ⟨h,rfl,H2,H3,H9,hS⟩;replace h:=hJ h;refine yaf (yaf ?_);obtain ⟨J4,hJ,h⟩:=h;refine yc1 (fun E ds w'=>J4∧ds=[]∧E 2=(Value.slice Aa la ca)∧E 3=(Value.pointer (some ⟨g,0,none⟩))∧Sep w no O w' (rl [Res.ro (FP.sl cI Aa la ca a),Res.box 24 g [(ii d),(.slice Ad ld cd)],Res.ro (FP.sl c3 Ad ld cd d2)])) ?_ ?_
      · clear h hS;rintro E ds w8 ⟨h,rfl,H2,H3,hS⟩;replace h:=hJ h;refine zs (zq (yaq (vs:=[(ii d),(.slice Ad ld cd)]) H3 underlying24 rfl yao ⟨Row.cell (hS.bx 1 rfl) (i:=0) rfl,Row.cell (hS.bx 1 rfl) (i:=1) rfl,trivial⟩) (zq (yad H2) (zn (yam rfl (am2 rfl rfl) enter_29 ((ykG h (yaB _) (hS.rdr 2 rfl) (hS.rdr 0 rfl)).mono ?_)))));rintro _ w9 ⟨r8,r9,rfl,hC,h⟩;replace hS:=hS.pur hC.pure;clear hC;refine ⟨_,rfl,?_⟩;refine zb (zM (.tuple #[(ii r8),(ii r9)]) (zq (zx (ii r8)) (zq (zx (ii r9)) (zQ (ii r8) (zQ (ii r9) (yaa (zs (zM (ii r9) (zq zE (zM (.bool (decide (r9=0))) ?_))))))))));by_cases hp:r9=0
        · replace h:=h.1 hp;refine zW rfl rfl (zT hp) (zm (ii r8)) (zW rfl rfl (zT hp) zL (zq (yas (v:=(.bool (decide (r8<1)))) (zT hp) rfl) (zM (.bool (decide (r8<1))) ?_)));by_cases hp2:r8<1
          · replace h:=h.1 hp2;refine rl_n (yae rfl (yac rfl (zT hp2))) rfl rfl rfl (yam rfl (am0) ykH ((yfW h (yaB _)).mono ?_));rintro _ w10 ⟨r10,rfl,hC,h⟩;replace hS:=hS.pur hC.pure;clear hC;refine ⟨_,rfl,?_⟩;exact zb (zq (yas (v:=(.bool (r10))) (zT hp2) rfl) (zQ (.bool (r10)) (yaa (yak rfl rfl ⟨_,rfl,(hS.sel []),h⟩))))
          · replace h:=h.2 hp2;exact zV rfl rfl (zF hp2) (zq (yal (v:=(.bool (false))) (zF hp2) rfl) (zQ (.bool (false)) (yaa (yak rfl rfl ⟨_,rfl,(hS.sel []),h⟩))))
        · replace h:=h.2 hp;exact zV rfl rfl (zF hp) (zV rfl rfl (zF hp) (zq (yal (v:=(.bool (false))) (zF hp) rfl) (zM (.bool (false)) (zU (zq (yal (v:=(.bool (false))) rfl rfl) (zQ (.bool (false)) (yaa (yak rfl rfl ⟨_,rfl,(hS.sel []),h⟩))))))))
      clear hJ;intro j3;refine zr (zq (yad H2) (zq (yan H3 underlying24 rfl yaj) (zq (zl underlying3 (Row.cell (hS.bx 1 rfl) (i:=0) rfl)) (zn (yam rfl (am2 rfl rfl) enter_31 ((pok_r17_Check h (yaB _) (hS.rdr 0 rfl)).mono ?_))))));rintro _ w11 ⟨r11,rfl,hC,h⟩;replace hS:=hS.pur hC.pure;clear hC;refine ⟨_,rfl,?_⟩;refine zb (zq zN (zM (.bool (!(decide (r11=0)))) ?_));by_cases hp3:r11=0
      · replace h:=h.1 hp3;refine zW rfl rfl (zC (zB (decide_eq_true hp3))) (yad H2) (rl_n (yae rfl (yac rfl (zC (zB (decide_eq_true hp3))))) rfl rfl rfl (yam rfl (am1 rfl) enter_32 ((pok_r17_Paid h (yaB _) (hS.rdr 0 rfl)).mono ?_)));rintro _ w12 ⟨r12,rfl,hC,h⟩;replace hS:=hS.pur hC.pure;clear hC;refine ⟨_,rfl,?_⟩;refine zb (zW rfl rfl (zC (zB (decide_eq_true hp3))) (ycX rfl) (zq (yal (v:=(.bool (!(r12)))) (zC (zB (decide_eq_true hp3))) rfl) (zM (.bool (!(r12))) ?_)));by_cases hp4:r12=true
        · replace h:=h.1 hp4;refine zW rfl rfl (zC (zB hp4)) (yad H2) (rl_n (yae rfl (yac rfl (zC (zB hp4)))) rfl rfl rfl (yam rfl (am1 rfl) enter_30 ((ykK h (yaB _) (hS.rdr 0 rfl)).mono ?_)));rintro _ w13 ⟨r13,rfl,hC,h⟩;replace hS:=hS.pur hC.pure;clear hC;refine ⟨_,rfl,?_⟩;refine zb (zW rfl rfl (zC (zB hp4)) (yad H9) (zW rfl rfl (zC (zB hp4)) (yiF rfl rfl) (zq (yal (v:=(.bool (decide (r3≤r13)))) (zC (zB hp4)) rfl) (yaa ?_))));by_cases hp5:r3≤r13
          · replace h:=h.1 hp5;refine zc hp5 (zs (zn (yam rfl (am0) ykH ((yfW h (yaB _)).mono ?_))));rintro _ w14 ⟨r14,rfl,hC,h⟩;replace hS:=hS.pur hC.pure;clear hC;refine ⟨_,rfl,?_⟩;exact zb (zQ (.bool (r14)) (yaa (yak rfl rfl ⟨_,rfl,(hS.sel []),h⟩)))
          · replace h:=h.2 hp5;exact zd hp5 (yag (j3 _ _ _ ⟨h,rfl,H2,H3,(hS.sel [0,1,2])⟩))
        · replace h:=h.2 hp4;refine zV rfl rfl (zC (zB (zI hp4))) (zV rfl rfl (zC (zB (zI hp4))) (zV rfl rfl (zC (zB (zI hp4))) (zV rfl rfl (zC (zB (zI hp4))) (zq (yas (v:=(.bool (true))) (zC (zB (zI hp4))) rfl) (yaa (yar rfl (zs (zn (yam rfl (am0) ykH ((yfW h (yaB _)).mono ?_))))))))));rintro _ w15 ⟨r15,rfl,hC,h⟩;replace hS:=hS.pur hC.pure;clear hC;refine ⟨_,rfl,?_⟩;exact zb (zQ (.bool (r15)) (yaa (yak rfl rfl ⟨_,rfl,(hS.sel []),h⟩)))
      · replace h:=h.2 hp3;refine zV rfl rfl (zC (zB (decide_eq_false hp3))) (zV rfl rfl (zC (zB (decide_eq_false hp3))) (zV rfl rfl (zC (zB (decide_eq_false hp3))) (zq (yas (v:=(.bool (true))) (zC (zB (decide_eq_false hp3))) rfl) (zM (.bool (true)) (zU (zU (zU (zU (zq (yas (v:=(.bool (true))) rfl rfl) (yaa (yar rfl (zs (zn (yam rfl (am0) ykH ((yfW h (yaB _)).mono ?_)))))))))))))));rintro _ w16 ⟨r16,rfl,hC,h⟩;replace hS:=hS.pur hC.pure;clear hC;refine ⟨_,rfl,?_⟩;exact zb (zQ (.bool (r16)) (yaa (yak rfl rfl ⟨_,rfl,(hS.sel []),h⟩)))
    clear hJ;intro j2;refine zr (zM (ii r2) (zM (ii r5) ?_));obtain ⟨hi,h⟩:=h;refine zq (zA hi) (zM (ii r7) ?_);obtain ⟨hi2,h⟩:=h;refine zq (zA hi2) (zq zN (zM (.bool (!(decide (((r2+r5)+r7)=0)))) ?_));by_cases hp6:((r2+r5)+r7)=0
    · replace h:=h.1 hp6;refine zW rfl rfl (zC (zB (decide_eq_true hp6))) (zm (ii r)) (zW rfl rfl (zC (zB (decide_eq_true hp6))) (zm (ii r3)) (zW rfl rfl (zC (zB (decide_eq_true hp6))) zG (zq (yal (v:=(.bool (decide (r3<r)))) (zC (zB (decide_eq_true hp6))) rfl) (zM (.bool (decide (r3<r))) ?_))));by_cases hp7:r3<r
      · replace h:=h.1 hp7;exact zV rfl rfl (zT hp7) (zV rfl rfl (zT hp7) (zq (yas (v:=(.bool (true))) (zT hp7) rfl) (zM (.bool (true)) (zU (zU (zU (zU (zU (zq (yas (v:=(.bool (true))) rfl rfl) (zM (.bool (true)) (zU (zU (zU (zU (zq (yas (v:=(.bool (true))) rfl rfl) (zM (.bool (true)) (zU (zU (zq (yas (v:=(.bool (true))) rfl rfl) (zM (.bool (true)) (zU (zU (zU (zU (zq (yas (v:=(.bool (true))) rfl rfl) (yaa (yar rfl (zs (zQ (.bool (false)) (yaa (yak rfl rfl ⟨_,rfl,(hS.sel []),h⟩)))))))))))))))))))))))))))))))
      · replace h:=h.2 hp7;refine zW rfl rfl (zF hp7) (zm (ii r6)) (zW rfl rfl (zF hp7) zL (zq (yal (v:=(.bool (decide (r6<1)))) (zF hp7) rfl) (zM (.bool (decide (r6<1))) ?_)));by_cases hp8:r6<1
        · replace h:=h.1 hp8;exact zV rfl rfl (zT hp8) (zV rfl rfl (zT hp8) (zV rfl rfl (zT hp8) (zV rfl rfl (zT hp8) (zV rfl rfl (zT hp8) (zq (yas (v:=(.bool (true))) (zT hp8) rfl) (zM (.bool (true)) (zU (zU (zU (zU (zq (yas (v:=(.bool (true))) rfl rfl) (zM (.bool (true)) (zU (zU (zq (yas (v:=(.bool (true))) rfl rfl) (zM (.bool (true)) (zU (zU (zU (zU (zq (yas (v:=(.bool (true))) rfl rfl) (yaa (yar rfl (zs (zQ (.bool (false)) (yaa (yak rfl rfl ⟨_,rfl,(hS.sel []),h⟩)))))))))))))))))))))))))))
        · replace h:=h.2 hp8;refine zW rfl rfl (zF hp8) (zm (.slice Ar lr cr)) (zW rfl rfl (zF hp8) (yaF (n:=r4.length) rfl underlying43 (yaE (hS.rdr 4 rfl))) (zW rfl rfl (zF hp8) (yan H3 underlying24 rfl yaj) (zW rfl rfl (zF hp8) (zl underlying3 (Row.cell (hS.bx 2 rfl) (i:=0) rfl)) (zW rfl rfl (zF hp8) zN (zq (yal (v:=(.bool (!(decide ((r4.length:Int)=d))))) (zF hp8) rfl) (zM (.bool (!(decide ((r4.length:Int)=d)))) ?_))))));by_cases hp9:(r4.length:Int)=d
          · replace h:=h.1 hp9;refine zW rfl rfl (zC (zB (decide_eq_true hp9))) (zm (.slice Ar lr cr)) (rl_n (yae rfl (yac rfl (zC (zB (decide_eq_true hp9))))) rfl rfl rfl (yam rfl (am1 rfl) enter_30 ((ykK h (yaB _) (hS.rdr 4 rfl)).mono ?_)));rintro _ w17 ⟨r17,rfl,hC,h⟩;replace hS:=hS.pur hC.pure;clear hC;refine ⟨_,rfl,?_⟩;refine zb (zW rfl rfl (zC (zB (decide_eq_true hp9))) (zm (ii r3)) (zW rfl rfl (zC (zB (decide_eq_true hp9))) zN (zq (yal (v:=(.bool (!(decide (r17=r3))))) (zC (zB (decide_eq_true hp9))) rfl) (zM (.bool (!(decide (r17=r3)))) ?_))));by_cases hp10:r17=r3
            · replace h:=h.1 hp10;refine zW rfl rfl (zC (zB (decide_eq_true hp10))) (zm (ii r3)) (zW rfl rfl (zC (zB (decide_eq_true hp10))) zL (zq (yal (v:=(.bool (decide (r3<1)))) (zC (zB (decide_eq_true hp10))) rfl) (zM (.bool (decide (r3<1))) ?_)));by_cases hp11:r3<1
              · replace h:=h.1 hp11;exact zV rfl rfl (zT hp11) (zV rfl rfl (zT hp11) (zV rfl rfl (zT hp11) (zV rfl rfl (zT hp11) (zq (yas (v:=(.bool (true))) (zT hp11) rfl) (yaa (yar rfl (zs (zQ (.bool (false)) (yaa (yak rfl rfl ⟨_,rfl,(hS.sel []),h⟩))))))))))
              · replace h:=h.2 hp11;refine zW rfl rfl (zF hp11) (zm (ii r3)) (zW rfl rfl (zF hp11) (yan H3 underlying24 rfl yaj) (zW rfl rfl (zF hp11) (zl underlying3 (Row.cell (hS.bx 2 rfl) (i:=0) rfl)) (zW rfl rfl (zF hp11) zG (zq (yal (v:=(.bool (decide (d<r3)))) (zF hp11) rfl) (yaa ?_)))));by_cases hp12:d<r3
                · replace h:=h.1 hp12;exact zc hp12 (zs (zQ (.bool (false)) (yaa (yak rfl rfl ⟨_,rfl,(hS.sel []),h⟩))))
                · replace h:=h.2 hp12;exact zd hp12 (yag (j2 _ _ _ ⟨h,rfl,H2,H3,rfl,(hS.sel [1,2,3])⟩))
            · replace h:=h.2 hp10;exact zV rfl rfl (zC (zB (decide_eq_false hp10))) (zV rfl rfl (zC (zB (decide_eq_false hp10))) (zq (yas (v:=(.bool (true))) (zC (zB (decide_eq_false hp10))) rfl) (zM (.bool (true)) (zU (zU (zU (zU (zq (yas (v:=(.bool (true))) rfl rfl) (yaa (yar rfl (zs (zQ (.bool (false)) (yaa (yak rfl rfl ⟨_,rfl,(hS.sel []),h⟩))))))))))))))
          · replace h:=h.2 hp9;exact zV rfl rfl (zC (zB (decide_eq_false hp9))) (zV rfl rfl (zC (zB (decide_eq_false hp9))) (zV rfl rfl (zC (zB (decide_eq_false hp9))) (zV rfl rfl (zC (zB (decide_eq_false hp9))) (zq (yas (v:=(.bool (true))) (zC (zB (decide_eq_false hp9))) rfl) (zM (.bool (true)) (zU (zU (zq (yas (v:=(.bool (true))) rfl rfl) (zM (.bool (true)) (zU (zU (zU (zU (zq (yas (v:=(.bool (true))) rfl rfl) (yaa (yar rfl (zs (zQ (.bool (false)) (yaa (yak rfl rfl ⟨_,rfl,(hS.sel []),h⟩))))))))))))))))))))
    · replace h:=h.2 hp6;exact zV rfl rfl (zC (zB (decide_eq_false hp6))) (zV rfl rfl (zC (zB (decide_eq_false hp6))) (zV rfl rfl (zC (zB (decide_eq_false hp6))) (zq (yas (v:=(.bool (true))) (zC (zB (decide_eq_false hp6))) rfl) (zM (.bool (true)) (zU (zU (zq (yas (v:=(.bool (true))) rfl rfl) (zM (.bool (true)) (zU (zU (zU (zU (zU (zq (yas (v:=(.bool (true))) rfl rfl) (zM (.bool (true)) (zU (zU (zU (zU (zq (yas (v:=(.bool (true))) rfl rfl) (zM (.bool (true)) (zU (zU (zq (yas (v:=(.bool (true))) rfl rfl) (zM (.bool (true)) (zU (zU (zU (zU (zq (yas (v:=(.bool (true))) rfl rfl) (yaa (yar rfl (zs (zQ (.bool (false)) (yaa (yak rfl rfl ⟨_,rfl,(hS.sel []),h⟩))))))))))))))))))))))))))))))))))))
  clear hJ;intro j;refine zr (zq (yaq (vs:=[(ii d),(.slice Ad ld cd)]) rfl underlying24 rfl yao ⟨Row.cell (hS.bx 3 rfl) (i:=0) rfl,Row.cell (hS.bx 3 rfl) (i:=1) rfl,trivial⟩) (zn (yam rfl (am1 rfl) enter_27 ((pok_l40_right h (yaB _) (hS.rdr 0 rfl)).mono ?_))));rintro _ w18 ⟨r18,rfl,hC,h⟩;replace hS:=hS.pur hC.pure;clear hC;refine ⟨_,rfl,?_⟩;refine zb (zq (ycX rfl) (zM (.bool (!(r18))) ?_));by_cases hp13:r18=true
  · replace h:=h.1 hp13;refine zW rfl rfl (zC (zB hp13)) (zm (.slice Ai li ci)) (rl_n (yae rfl (yac rfl (zC (zB hp13)))) rfl rfl rfl (yam rfl (am1 rfl) enter_12 ((pok_r40_Few h (yaB _) (hS.rdr 1 rfl)).mono ?_)));rintro _ w19 ⟨r19,rfl,hC,h⟩;replace hS:=hS.pur hC.pure;clear hC;refine ⟨_,rfl,?_⟩;refine zb (zW rfl rfl (zC (zB hp13)) (ycX rfl) (zq (yal (v:=(.bool (!(r19)))) (zC (zB hp13)) rfl) (zM (.bool (!(r19))) ?_)));by_cases hp14:r19=true
    · replace h:=h.1 hp14;refine zW rfl rfl (zC (zB hp14)) (yaq (vs:=[(ii d),(.slice Ad ld cd)]) rfl underlying24 rfl yao ⟨Row.cell (hS.bx 3 rfl) (i:=0) rfl,Row.cell (hS.bx 3 rfl) (i:=1) rfl,trivial⟩) (zW rfl rfl (zC (zB hp14)) (zm (.slice Ai li ci)) (rl_n (yae rfl (yac rfl (zC (zB hp14)))) rfl rfl rfl (yam rfl (am2 rfl rfl) enter_28 ((pok_r40_Eggs h (yaB _) (hS.rdr 0 rfl) (hS.rdr 1 rfl)).mono ?_))));rintro _ w20 ⟨r20,rfl,hC,h⟩;replace hS:=hS.pur hC.pure;clear hC;refine ⟨_,rfl,?_⟩;refine zb (zW rfl rfl (zC (zB hp14)) zN (zq (yal (v:=(.bool (!(decide (r20=0))))) (zC (zB hp14)) rfl) (yaa ?_)));by_cases hp15:r20=0
      · replace h:=h.1 hp15;exact ze hp15 (yag (j _ _ _ ⟨h,rfl,rfl,rfl,rfl,(hS.sel [1,2,3,0])⟩))
      · replace h:=h.2 hp15;refine zf hp15 (zs (zn (yam rfl (am0) ykH ((yfW h (yaB _)).mono ?_))));rintro _ w21 ⟨r21,rfl,hC,h⟩;replace hS:=hS.pur hC.pure;clear hC;refine ⟨_,rfl,?_⟩;exact zb (zQ (.bool (r21)) (yaa (yak rfl rfl ⟨_,rfl,(hS.sel []),h⟩)))
    · replace h:=h.2 hp14;refine zV rfl rfl (zC (zB (zI hp14))) (zV rfl rfl (zC (zB (zI hp14))) (zV rfl rfl (zC (zB (zI hp14))) (zV rfl rfl (zC (zB (zI hp14))) (zq (yas (v:=(.bool (true))) (zC (zB (zI hp14))) rfl) (yaa (yar rfl (zs (zn (yam rfl (am0) ykH ((yfW h (yaB _)).mono ?_))))))))));rintro _ w22 ⟨r22,rfl,hC,h⟩;replace hS:=hS.pur hC.pure;clear hC;refine ⟨_,rfl,?_⟩;exact zb (zQ (.bool (r22)) (yaa (yak rfl rfl ⟨_,rfl,(hS.sel []),h⟩)))
  · replace h:=h.2 hp13;refine zV rfl rfl (zC (zB (zI hp13))) (zV rfl rfl (zC (zB (zI hp13))) (zV rfl rfl (zC (zB (zI hp13))) (zq (yas (v:=(.bool (true))) (zC (zB (zI hp13))) rfl) (zM (.bool (true)) (zU (zU (zU (zU (zq (yas (v:=(.bool (true))) rfl rfl) (yaa (yar rfl (zs (zn (yam rfl (am0) ykH ((yfW h (yaB _)).mono ?_)))))))))))))));rintro _ w23 ⟨r23,rfl,hC,h⟩;replace hS:=hS.pur hC.pure;clear hC;refine ⟨_,rfl,?_⟩;exact zb (zQ (.bool (r23)) (yaa (yak rfl rfl ⟨_,rfl,(hS.sel []),h⟩)))
end Go.Proofs.YtadpnlimiblniaaGreat

/- Layer 40: the fixed examples; the laws that compare with the reference. -/
namespace Go.Proofs.YtadpnlimiblniaaGreat
open Go Go.RowKit Go.Shelf Go.Proofs.Tryz
def pth3:List E3:=[(0,1,1),(1,2,1)]
theorem pth_ok:GOk 3 pth3:=⟨by decide,by decide +kernel,by decide,by decide,by decide,by decide⟩
theorem eff3{e:List Int}(h:Eff 3 e 1):e=[0,0,1]∨e=[0,1,0]∨e=[1,0,0]:=by
  have:e∈ycp 3 1:=eff_list (n:=2) (k:=1) h
  have h2:ycp 3 1=[[0,0,1],[0,1,0],[1,0,0]]:=by decide
  rw [h2] at this
  simpa using this
theorem win3{es:List E3}{x:List Int}(s0 s1 s2:Int)(h:∀ v,v<3→0≤gi x v-Lp 3 es (fun i=>if i=0 then s0 else if i=1 then s1 else s2) v):Win 3 es x:=⟨_,h⟩
theorem gon_tri:GonOk 3 tri 2 [0,0,2]:=by
  have w01:W tri 0 1=1:=by decide
  have w02:W tri 0 2=1:=by decide
  have w12:W tri 1 2=1:=by decide
  refine ⟨by omega,⟨0,by decide,by decide,fun j hj=>by omega⟩,fun e he=>?_,fun k' h1 h2 y hy hal=>?_⟩
  · rcases eff3 he with rfl | rfl | rfl
    · exact win3 0 0 0 (by decide)
    · exact win3 0 0 1 (by decide)
    · exact win3 0 0 1 (by decide)
  · have e:k'=1:=by omega
    subst e
    have lose:∀ x:List Int,(gi x 0+gi x 1+gi x 2=0)→(gi x 1+2*gi x 2) % 3≠0→¬Win 3 tri x:=by
      rintro x h0 h1 ⟨s,hs⟩
      have a0:=hs 0 (by omega);have a1:=hs 1 (by omega);have a2:=hs 2 (by omega)
      simp only [Lp,sm] at a0 a1 a2
      rw [yhC,w01,w02] at a0
      rw [yhC,ye0 tri 1 0,w01,w12] at a1
      rw [yhC,ye0 tri 2 0,ye0 tri 2 1,w02,w12] at a2
      omega
    have u:∀ v,v<3→Eff 3 (yfw (List.replicate 3 0) v 1) 1:=fun v hv=>by
      have:=(yfe 3).add (v:=v) hv (k:=1) (by have:=(yfe 3).pos v hv;omega)
      rwa [Int.zero_add] at this
    have hy2:y∈[[0,0,1],[0,1,0],[1,0,0]]:=by
      have h2:ycp 3 1=[[0,0,1],[0,1,0],[1,0,0]]:=by decide
      rwa [←h2]
    simp only [List.mem_cons,List.not_mem_nil,or_false] at hy2
    rcases hy2 with rfl | rfl | rfl
    · exact lose _ (by decide) (by decide) (hal _ (u 0 (by omega)))
    · exact lose _ (by decide) (by decide) (hal _ (u 0 (by omega)))
    · exact lose _ (by decide) (by decide) (hal _ (u 1 (by omega)))
theorem gon_pth:GonOk 3 pth3 1 [0,0,1]:=by
  refine ⟨by omega,⟨0,by decide,by decide,fun j hj=>by omega⟩,fun e he=>?_,fun k' h1 h2=>by omega⟩
  rcases eff3 he with rfl | rfl | rfl
  · exact win3 0 0 0 (by decide)
  · exact win3 0 0 1 (by decide)
  · exact win3 0 1 2 (by decide)
theorem chk_tri:chkE 3 tri (ptsF 3)=0:=by decide +kernel
theorem chk_pth:chkE 3 pth3 (prsF pth3)=0:=by decide +kernel
theorem sep_tri:sepF 3 tri (ptsF 3)=(2,[0]):=by decide +kernel
theorem ord_tri:ordF 3 tri (ptsF 3)=2:=by decide +kernel
theorem hit_pth:hitF 3 (prsF pth3)=(1,[1]):=by decide +kernel
theorem j_tri:yaS 3 tri=0:=by decide +kernel
theorem j_pth:yaS 3 pth3=0:=by decide +kernel
theorem yhq{R:Bool→Prop}(h:R true):ycS R:=by
  unfold ycS ydQ
  have e:([(0,1,1),(0,2,1),(1,2,1)]:List (Int×Int×Int))=tri:=rfl
  have e2:([(0,1,1),(1,2,1)]:List (Int×Int×Int))=pth3:=rfl
  rw [e,e2]
  clear e e2
  refine yeY (by decide) (fun q=>absurd j_tri q) fun _=>⟨3,rfl,tri_ok,fun j d hd=>?_⟩
  obtain ⟨rfl,rfl⟩:=hd.eq gon_tri
  refine yih (by decide) ?_
  rw [show yj5 3 tri=ptsF 3 by unfold yj5;rw [if_pos j_tri];rfl,j_tri]
  refine yft (by decide) (fun q=>absurd chk_tri q) fun k hk _=>?_
  obtain rfl:k=3:=by omega
  rw [sep_tri]
  refine ygg (by decide) (fun q=>absurd chk_tri q) fun k hk _=>?_
  obtain rfl:k=3:=by omega
  rw [ord_tri]
  refine yeY (by decide) (fun q=>absurd j_pth q) fun _=>⟨3,rfl,pth_ok,fun j d hd=>?_⟩
  obtain ⟨rfl,rfl⟩:=hd.eq gon_pth
  refine yiJ (by decide) ?_
  rw [show pairE 3 pth3=prsF pth3 by unfold pairE;rw [if_pos j_pth],j_pth]
  refine ydJ (by decide) (fun q=>absurd chk_pth q) fun k hk _=>?_
  obtain rfl:k=3:=by omega
  rw [hit_pth]
  refine ⟨i64 (by omega),i64 (by omega),i64 (by omega),i64 (by omega),i64 (by omega),i64 (by omega),fun _=>⟨fun _=>?_,fun q=>absurd rfl q⟩,fun q=>absurd rfl q⟩
  refine ydW (by decide) ⟨fun _=>⟨fun _=>?_,fun q=>absurd rfl q⟩,fun q=>absurd (by decide) q⟩
  refine yeW (by decide) ⟨fun _=>⟨fun _=>⟨fun _=>?_,fun q=>absurd rfl q⟩,fun q=>absurd rfl q⟩,fun q=>absurd (by decide) q⟩
  refine ydW (by decide) ⟨fun _=>⟨fun _=>?_,fun q=>absurd rfl q⟩,fun q=>absurd (by decide) q⟩
  exact yeW (by decide) h
theorem small_getI{n:Int}{es:List E3}{a b:Int}(h:yi8 n es a b=true):es.length≤40∧(yav n es=0→n≤a∧(es.map (·.2.2)).sum≤b):=of_decide_eq_true h
theorem ykv{n:Int}{es:List E3}{R:Bool→Prop}(h:R (yi8 n es 5 7)):ykc n es R:=p_r08_small h
theorem p_r40_Few{s:List (List Int)}{R:Bool→Prop}(h:∀ b,R b):ygV s R:=by
  refine ⟨fun m i=>∃ k:Nat,i=k∧k≤20∧m+k=20,⟨20,0,rfl,by omega,by omega⟩,?_⟩
  rintro m i ⟨k,rfl,hk,hm⟩
  have fin:((((s.length:Nat):Int)≤12→R true)∧(¬(((s.length:Nat):Int)≤12)→((256<((s.length:Nat):Int)→R (decide (((s.length:Nat):Int)<512)))∧(¬(256<((s.length:Nat):Int))→R false)))):=⟨fun _=>h _,fun _=>⟨fun _=>h _,fun _=>h _⟩⟩
  exact ⟨(k:Int)<((s.length:Nat):Int)∧k<20,fun hJ=>⟨⟨by omega,hJ.1⟩,fun _=>h _,fun _=>⟨⟨by omega,by omega⟩,m-1,by omega,k+1,by omega,by omega,by omega⟩⟩,fun hlt=>⟨fun h20=>⟨hlt,by omega⟩,fun _=>fin⟩,fun _=>fin⟩
section
variable {n : Int} {es : List E3} {s : List (List Int)} (hl : es.length ≤ 40) (h6 : yav n es = 0 → n ≤ 6)
include hl h6
end
theorem gok_small{n:Int}{es:List E3}(hs:yi8 n es 5 7=true)(hj:yaS n es=0):∃ k:Nat,n=k∧GOk k es:=by
  obtain ⟨k,rfl,_,_⟩:=ycH (ybn hj).1
  exact ⟨k,rfl,gok_of hs (ybn hj).1 (ybn hj).2⟩
end Go.Proofs.YtadpnlimiblniaaGreat

/- Layer 40: the laws GonalityProves, GonalityBounds and GonalityEggs. -/
namespace Go.Proofs.YtadpnlimiblniaaGreat
open Go Go.RowKit Go.Shelf Go.Proofs.Tryz
theorem hit_is{n:Nat}(hn:n≤6)(s:List (List Int)):((∀ y∈yeV n,hitB s y=false)∧hitF n s=(-1,[]))∨∃ m,m∈yeV n∧hitB s m=true∧(∀ y∈yeV n,hitB s y=true→(m.length:Int)≤(y.length:Int))∧hitF n s=((m.length:Int),m) :=
  lst_is hn (fun y=>(y.length:Int)) (hitB s) fun y=>Int.natCast_nonneg _
theorem sep_is{n:Nat}(hn:n≤6)(es:List E3)(s:List (List Int)):((∀ y∈yeV n,parB s y=false)∧sepF n es s=(-1,[]))∨∃ m,m∈yeV n∧parB s m=true∧(∀ y∈yeV n,parB s y=true→(cutN es m:Int)≤(cutN es y:Int))∧sepF n es s=((cutN es m:Int),m) :=
  lst_is hn (fun y=>(cutN es y:Int)) (parB s) fun y=>Int.natCast_nonneg _
theorem hit_le{n:Nat}(hn:n≤6){s:List (List Int)}{y:List Int}(hy:y∈yeV n)(h:hitB s y=true):0≤(hitF n s).1∧(hitF n s).1≤(y.length:Int):=by
  rcases hit_is hn s with ⟨h1,_⟩ | ⟨m,_,_,h3,h4⟩
  · rw [h1 y hy] at h;cases h
  · rw [h4];exact ⟨Int.natCast_nonneg _,h3 y hy h⟩
theorem sep_le{n:Nat}(hn:n≤6){es:List E3}{s:List (List Int)}{y:List Int}(hy:y∈yeV n)(h:parB s y=true):0≤(sepF n es s).1∧(sepF n es s).1≤(cutN es y:Int):=by
  rcases sep_is hn es s with ⟨h1,_⟩ | ⟨m,_,_,h3,h4⟩
  · rw [h1 y hy] at h;cases h
  · rw [h4];exact ⟨Int.natCast_nonneg _,h3 y hy h⟩
theorem ord_le1{n:Nat}{es:List E3}{s:List (List Int)} : ordF n es s≤(hitF n s).1:=by
  unfold ordF mnF
  split
  · exact Int.le_refl _
  · split <;> omega
theorem ord_le2{n:Nat}{es:List E3}{s:List (List Int)}(h:0≤(sepF n es s).1):ordF n es s≤(sepF n es s).1:=by
  unfold ordF mnF
  rw [if_neg (by omega)]
  split <;> omega
theorem ykQ{egg set:List Int} : ygL egg set=true↔∃ v∈egg,v∈set:=by
  unfold ygL;rw [List.any_eq_true];simp
theorem hitB_iff{s:List (List Int)}{set:List Int} : hitB s set=true↔∀ e∈s,ygL e set=true:=by
  unfold hitB
  rw [Bool.not_eq_true',Bool.eq_false_iff]
  constructor
  · intro h e he
    cases q:ygL e set
    · exact absurd (List.any_eq_true.2 ⟨e,he,by rw [q];rfl⟩) h
    · rfl
  · intro h q
    obtain ⟨e,he,h2⟩:=List.any_eq_true.1 q
    rw [h e he] at h2;cases h2
theorem covB_iff{set egg:List Int} : covB set egg=true↔∀ v∈egg,v∈set:=by
  unfold covB
  rw [Bool.not_eq_true',Bool.eq_false_iff]
  constructor
  · intro h v hv
    exact Classical.byContradiction fun q=>h (List.any_eq_true.2 ⟨v,hv,by simpa using q⟩)
  · intro h q
    obtain ⟨v,hv,h2⟩:=List.any_eq_true.1 q
    have:=h v hv
    simp [this] at h2
theorem parB_iff{s:List (List Int)}{set:List Int} : parB s set=true↔(∃ e∈s,∀ v∈e,v∈set)∧∃ e∈s,∀ v∈e,v∉set:=by
  unfold parB
  rw [Bool.and_eq_true,List.any_eq_true,List.any_eq_true]
  constructor
  · rintro ⟨⟨e,he,h1⟩,f,hf,h2⟩
    refine ⟨⟨e,he,covB_iff.1 h1⟩,f,hf,fun v hv q=>?_⟩
    rw [ykQ.2 ⟨v,hv,q⟩] at h2;cases h2
  · rintro ⟨⟨e,he,h1⟩,f,hf,h2⟩
    refine ⟨⟨e,he,covB_iff.2 h1⟩,f,hf,?_⟩
    cases q:ygL f set
    · rfl
    · obtain ⟨v,hv,q⟩:=ykQ.1 q
      exact absurd q (h2 v hv)
theorem vset_len{U:Nat→Bool} : ∀ n,((ykF n U).length:Int)=sm n fun v=>if U v=true then 1 else 0
  | 0=>rfl
  | n+1=>by
    have ih:=vset_len (U:=U) n
    have e:ykF (n+1) U=ykF n U++if U n=true then [(n:Int)] else []:=by
      unfold ykF
      rw [List.range_succ,List.filter_append,List.map_append]
      congr 1
      by_cases c:U n=true
      · simp [c]
      · simp [c]
    rw [e,List.length_append,sm,←ih]
    split <;> simp
theorem cutN_cons(x:E3)(es:List E3)(set:List Int):(cutN (x::es) set:Nat)=(if (decide (x.1∈set) != decide (x.2.1∈set))=true then x.2.2.toNat else 0)+cutN es set:=by
  have e:yeK (x::es)=List.replicate x.2.2.toNat (x.1,x.2.1)++yeK es:=by unfold yeK;rw [List.flatMap_cons]
  unfold cutN
  rw [e,List.countP_append,List.countP_replicate]
theorem cutW_W{n:Nat}{U:Nat→Bool} : ∀ {es:List E3},EOk n es→((cutN es (ykF n U):Nat):Int)=cutW n es U
  | [],_=>by
    have h:cutW n [] U=0:=by
      unfold cutW
      rw [yaw (g:=fun _=>0) fun v hv=>by rw [yaw (g:=fun _=>0) fun u hu=>by rw [W_nil];split <;> rfl];exact ybJ n]
      exact ybJ n
    rw [h];rfl
  | x::es,hE=>by
    have ih:=cutW_W (n:=n) (U:=U) (es:=es) fun y hy=>hE y (by simp [hy])
    have hx:=hE x (by simp)
    have h1:cutW n (x::es) U=sm n (fun v=>sm n fun u=>if U v && !U u then w1 x v u else 0)+cutW n es U:=by
      unfold cutW
      rw [←ycc]
      refine yaw fun v hv=>?_
      rw [←ycc]
      refine yaw fun u hu=>?_
      rw [ygd]
      split <;> omega
    obtain ⟨a,ha⟩:∃ a:Nat,x.1=a:=⟨x.1.toNat,by omega⟩
    obtain ⟨b,hb⟩:∃ b:Nat,x.2.1=b:=⟨x.2.1.toNat,by omega⟩
    have han:a<n:=by omega
    have hbn:b<n:=by omega
    have ma:decide (x.1∈ykF n U)=U a:=by
      rw [ha]
      cases q:U a
      · exact decide_eq_false fun z=>by have:=(mem_vsetL'.1 z).2;rw [q] at this;cases this
      · exact decide_eq_true (mem_vsetL'.2 ⟨han,q⟩)
    have mb:decide (x.2.1∈ykF n U)=U b:=by
      rw [hb]
      cases q:U b
      · exact decide_eq_false fun z=>by have:=(mem_vsetL'.1 z).2;rw [q] at this;cases this
      · exact decide_eq_true (mem_vsetL'.2 ⟨hbn,q⟩)
    rw [cutN_cons,ma,mb,h1,←ih]
    have key:sm n (fun v=>sm n fun u=>if U v && !U u then w1 x v u else 0)=if (U a != U b)=true then x.2.2 else 0:=by
      by_cases c:U a=U b
      · rw [if_neg (by simp [c])]
        rw [yaw (g:=fun _=>0) fun v hv=>?_]
        · exact ybJ n
        rw [yaw (g:=fun _=>0) fun u hu=>?_]
        · exact ybJ n
        unfold w1
        rw [ha,hb]
        split
        · rename_i q
          rw [if_neg]
          rintro ⟨_,⟨z1,z2⟩ | ⟨z1,z2⟩⟩
          · have e1:a=v:=by omega
            have e2:b=u:=by omega
            subst e1 e2;rw [c] at q;simp at q
          · have e1:a=u:=by omega
            have e2:b=v:=by omega
            subst e1 e2;rw [c] at q;simp at q
        · rfl
      · rw [if_pos (by simpa using c)]
        have hne:a≠b:=fun q=>c (by rw [q])
        have two:∀ p q:Nat,p<n→q<n→U p=true→U q=false→(∀ v u,(U v && !U u)=true→w1 x v u=if v=p then (if u=q then x.2.2 else 0) else 0)→sm n (fun v=>sm n fun u=>if U v && !U u then w1 x v u else 0)=x.2.2:=by
          intro p q hp hq hUp hUq hw
          rw [yaw (g:=fun v=>if v=p then x.2.2 else 0) fun v hv=>?_]
          · exact ye9 _ hp
          by_cases e:v=p
          · rw [if_pos e]
            rw [yaw (g:=fun u=>if u=q then x.2.2 else 0) fun u hu=>?_]
            · exact ye9 _ hq
            by_cases e2:(U v && !U u)=true
            · rw [if_pos e2,hw v u e2,if_pos e]
            · rw [if_neg e2,if_neg]
              rintro rfl
              exact e2 (by rw [e,hUp,hUq];rfl)
          · rw [if_neg e]
            rw [yaw (g:=fun _=>0) fun u hu=>?_]
            · exact ybJ n
            split
            · rename_i e2;rw [hw v u e2,if_neg e]
            · rfl
        cases qa:U a
        · have qb:U b=true:=by cases q:U b;exact absurd (qa.trans q.symm) c;rfl
          refine two b a hbn han qb qa fun v u e2=>?_
          rw [Bool.and_eq_true] at e2
          unfold w1;rw [ha,hb]
          by_cases e:v=b
          · by_cases e3:u=a
            · rw [if_pos e,if_pos e3,if_pos ⟨by omega, .inr ⟨by omega,by omega⟩⟩]
            · rw [if_pos e,if_neg e3,if_neg]
              rintro ⟨_,⟨z1,z2⟩ | ⟨z1,z2⟩⟩ <;> omega
          · rw [if_neg e,if_neg]
            rintro ⟨_,⟨z1,z2⟩ | ⟨z1,z2⟩⟩
            · have:a=v:=by omega
              subst this;rw [qa] at e2;cases e2.1
            · omega
        · have qb:U b=false:=by cases q:U b;rfl;exact absurd (qa.trans q.symm) c
          refine two a b han hbn qa qb fun v u e2=>?_
          rw [Bool.and_eq_true] at e2
          unfold w1;rw [ha,hb]
          by_cases e:v=a
          · by_cases e3:u=b
            · rw [if_pos e,if_pos e3,if_pos ⟨by omega, .inl ⟨by omega,by omega⟩⟩]
            · rw [if_pos e,if_neg e3,if_neg]
              rintro ⟨_,⟨z1,z2⟩ | ⟨z1,z2⟩⟩ <;> omega
          · rw [if_neg e,if_neg]
            rintro ⟨_,⟨z1,z2⟩ | ⟨z1,z2⟩⟩
            · omega
            · have:b=v:=by omega
              subst this;rw [qb] at e2;cases e2.1
    rw [key]
    split <;> omega
theorem ord_le{n:Nat}{es:List E3}{s:List (List Int)}(hn:n≤6)(hS:ScrOk n es s){j:Nat}{d:List Int}(hd:Eff n d j)(hal:AL n es d 1):ordF n es s≤j:=by
  have hN:=hS.nrm
  have h12:=hS.n12
  rcases scr_main hN.ok hd.len hd.pos hal (s.map fun (l:List Int) (v:Nat)=>decide ((v:Int)∈l)) (fun E hE=>by
    obtain ⟨l,hl,rfl⟩:=List.mem_map.1 hE
    obtain ⟨h1,h2,h3⟩:=egg_zero (hS.e l hl)
    exact egg_of hN h12.2 h1 h2 h3) with ⟨x,hx0,hxs,hx⟩ | ⟨U,⟨E,hE,h1⟩,⟨F,hF,h2⟩,h3⟩
  · rw [hd.deg] at hxs
    have hy:hitB s (ykF n fun v=>decide (1≤x v))=true:=by
      refine hitB_iff.2 fun l hl=>ykQ.2 ?_
      obtain ⟨v,hv,hvl,hvx⟩:=hx _ (List.mem_map.2 ⟨l,hl,rfl⟩)
      exact ⟨v,of_decide_eq_true hvl,mem_vsetL'.2 ⟨hv,decide_eq_true hvx⟩⟩
    have h4:=hit_le hn (vsetL_mem n _) hy
    have h5:=ord_le1 (n:=n) (es:=es) (s:=s)
    have h6:((ykF n fun v=>decide (1≤x v)).length:Int)≤sm n x:=by
      rw [vset_len]
      refine ydh fun v hv=>?_
      have:=hx0 v hv
      by_cases c:1≤x v
      · rw [if_pos (decide_eq_true c)];exact c
      · rw [if_neg (by simpa using c)];exact this
    omega
  · obtain ⟨l,hl,rfl⟩:=List.mem_map.1 hE
    obtain ⟨f,hf,rfl⟩:=List.mem_map.1 hF
    rw [hd.deg,←cutW_W hN.ok] at h3
    have hp:parB s (ykF n U)=true:=by
      refine parB_iff.2 ⟨⟨l,hl,fun v hv=>?_⟩,f,hf,fun v hv q=>?_⟩
      · obtain ⟨i,hi,rfl⟩:=List.getElem_of_mem hv
        have:=(egg_zero (hS.e l hl)).1.r i hi
        rw [yaN hi] at this
        obtain ⟨u,hu⟩:∃ u:Nat,l[i]=u:=⟨l[i].toNat,by omega⟩
        rw [hu] at this ⊢
        exact mem_vsetL'.2 ⟨by omega,h1 u (by omega) (decide_eq_true (by rw [←hu];exact hv))⟩
      · obtain ⟨u,hu1,hu2,rfl⟩:=ykO.1 q
        rw [h2 u hu1 (decide_eq_true hv)] at hu2;cases hu2
    have h4:=sep_le (es:=es) hn (vsetL_mem n U) hp
    have h5:=ord_le2 h4.1
    omega
noncomputable def verB (n:Nat) (es:List E3) (k:Int) (d:List Int) (s:List (List Int)):Bool:=@decide (dg d=k∧k≤ordF n es s∧AL n es d 1) (Classical.propDecidable _)
section
variable {n k : Int} {es : List E3} {d : List Int} {s : List (List Int)} (hl : es.length ≤ 40) (hs : yaS n es = 0 → ∃ k : Nat, n = k ∧ GOk k es) (hb : yaS n es = 0 → ybf d n = 0 → ∀ v, v < d.length → -100 ≤ gi d v ∧ gi d v ≤ 100)
include hl hs hb
end
theorem p_l40_right{n:Int}{es:List E3}{R:Bool→Prop}(h1:∀ k:Nat,n=k→GOk k es→yaS k es=0→(es.map (·.2.2)).sum≤7→R true)(h2:R false):ykE n es R:=by
  refine ykv ⟨fun hs=>?_,fun _=>h2⟩
  obtain ⟨hl,h5⟩:=small_getI hs
  refine yj7 (by omega) ?_
  by_cases c:yaS n es=0
  · rw [decide_eq_true c]
    obtain ⟨k,rfl,hG⟩:=gok_small hs c
    exact h1 k rfl hG c (h5 hG.g).2
  · rw [decide_eq_false c];exact h2
theorem p_rankI{n:Nat}{es:List E3}{d:List Int}{R:Int→Int→Prop}(hG:GOk n es)(hd:d.length=n)(hb:∀ v,v<n→0≤gi d v)(h5:dg d≤5)(h:∀ k,RkOk n es d k→R k 0):yea (n:Int) es d R:=by
  have:=hG.el
  have hn5:=hG.n5;have hn1:=hG.n1
  have hbb:∀ v,v<n→0≤gi d v∧gi d v≤5:=fun v hv=>by
    have h1:=hb v hv
    have h2:=yik (f:=gi d) hb v hv
    rw [←dg_n hd] at h2;omega
  have hg:ybo n es 0 d=0:=by
    rw [given0]
    have hj:yaS n es=0:=by unfold yaS;rw [if_pos hG.g,if_pos hG.c]
    rw [if_pos hj]
    exact yfE hd (by omega) (by omega) fun j hj=>by have:=hbb j hj;omega
  refine ykT (by omega) (fun q=>absurd hg q) fun _=>?_
  simp only [Int.toNat_natCast]
  exact ⟨hG,fun v hv=>by have:=hbb v hv;omega,h5,h⟩
theorem paid_at{d:List Int}(h:paidF d=true):∀ v,v<d.length→0≤gi d v:=ykN.1 h
theorem p_gonalitybounds{n:Int}{es:List E3}{s:List (List Int)}{a:List Int} : ykB n es s a (fun b=>b=true):=by
  refine ⟨∃ k:Nat,n=k∧GOk k es∧ScrOk k es s,?_,p_l40_right (fun k hk hG hj _=>⟨fun _=>p_r40_Few fun b=>⟨fun _=>?_,fun _=>yhq rfl⟩,fun q=>absurd rfl q⟩) ⟨fun q=>(by cases q),fun _=>yhq rfl⟩⟩
  · rintro ⟨n,rfl,hG,hS⟩
    have hn5:=hG.n5;have hn1:=hG.n1;have hl:=hG.el
    refine ygg hl (fun c=>absurd hS.chk c) fun k' hk' _=>?_
    obtain rfl:n=k':=by omega
    refine yeY hl (fun c=>absurd hS.j c) fun _=>⟨n,rfl,hG,fun j d hd=>?_⟩
    have he:=hd.eff
    have hj:=hd.k1
    have hle:=ord_le (by omega) hS he hd.al
    refine p_rankI hG he.len he.pos (by rw [he.deg];omega) fun r hr=>?_
    have hr1:1≤r:=(hr.ge hn1).2 hd.al
    have hbb:∀ i,i<d.length → -1000000000000≤gi d i∧gi d i≤1000000000000:=fun i hi=>by
      rw [he.len] at hi
      have:=he.pos i hi;have:=he.le hi;omega
    refine ⟨True,fun _=>?_,i64 (by omega),i64 (by omega),fun _=>⟨fun q=>by omega,fun _=>⟨fun q=>by omega,fun _=>⟨fun _=>ykS (by rw [he.len];omega) hbb ⟨fun _=>⟨fun q=>by omega,fun _=>⟨fun q=>by omega,fun _=>trivial⟩⟩,fun q=>absurd he.deg q⟩,fun q=>absurd (by rw [he.len]) q⟩⟩⟩,fun q=>absurd rfl q⟩
    refine ⟨a.length=n∧(∀ v,v<n→0≤gi a v)∧dg a<j,?_,p_r17_Check ⟨fun c=>?_,fun _=>yhq rfl⟩⟩
    · rintro ⟨h1,h2,h3⟩
      have hda:0≤dg a:=by rw [dg_n h1];exact ya5 h2
      refine p_rankI hG h1 h2 (by omega) fun q hq=>⟨fun _=>⟨fun _=>yhq rfl,fun ge=>?_⟩,fun z=>absurd rfl z⟩
      exfalso
      have hal:=(hq.ge hn1).1 (show 1≤q by omega)
      by_cases c:dg a=0
      · have hw:=hal _ ((yfe n).add (v:=0) (by omega) (k:=1) (by have:=(yfe n).pos 0 (by omega);omega))
        have:=win_dg (ygG n a _) hw
        rw [dg_sb h1 (by simp [yfa]),ykM (by simp;omega),(yfe n).deg] at this
        omega
      · obtain ⟨m,hm⟩:∃ m:Nat,dg a=m:=⟨(dg a).toNat,by omega⟩
        obtain ⟨N,rfl⟩:∃ N,n=N+1:=⟨n-1,by omega⟩
        exact hd.no m (by omega) (by omega) a (eff_list ⟨h1,h2,hm⟩) hal
    · obtain ⟨hal,_,_,hab⟩:=yjI c
      refine p_r17_Paid (by omega) ⟨fun hp=>?_,fun _=>yhq rfl⟩
      refine ykS (by omega) (fun i hi=>by have:=hab i (by omega);omega) ⟨fun _=>yhq rfl,fun lt=>⟨hal,fun v hv=>paid_at hp v (by omega),by omega⟩⟩
  · subst hk
    refine p_r40_Eggs hG.g hG.el ⟨fun c=>⟨k,rfl,hG,yiy (by unfold chkE;rw [if_pos hj];exact c)⟩,fun _=>yhq rfl⟩
end Go.Proofs.YtadpnlimiblniaaGreat
