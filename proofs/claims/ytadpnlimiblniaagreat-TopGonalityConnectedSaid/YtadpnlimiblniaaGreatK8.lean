/- Texts laid together: Hit, Lea, Ggn, PGd, Lg, Lh, Li, Lj. -/
import Derived.Test.YtadpnlimiblniaaGreatK7
set_option linter.unusedVariables false
set_option linter.unusedSimpArgs false
set_option linter.unusedSectionVars false
/- Hitting sets, separating sets and cuts: the program and the reference. -/
namespace Go.Proofs.YtadpnlimiblniaaGreat
open Go Go.RowKit Go.Shelf Go.Proofs.Tryz
theorem p_anyS{s:List Int}{F:Int→(Bool→Prop)→Prop}{p:Int→Bool}{R:Bool→Prop}(hl:s.length≤1000000000)(hF:∀ x∈s,∀ R':Bool→Prop,R' (p x)→F x R')(h:R (s.any p)):yba s F R:=by
  refine ⟨fun m v=>∃ k:Nat,v=k∧k+m=s.length∧s.any p=(s.drop k).any p,⟨s.length,0,rfl,by omega,rfl⟩,?_⟩
  rintro m v ⟨k,rfl,hm,he⟩
  refine ⟨fun hlt=>?_,fun hge=>?_⟩
  · have hk:k<s.length:=by omega
    rw [Int.toNat_natCast]
    rw [List.drop_eq_getElem_cons hk,List.any_cons,←yaN hk] at he
    refine ⟨⟨by omega,hlt⟩,hF _ (yjo hk) _ ⟨fun c=>?_,fun c=>?_⟩⟩
    · rw [he,c,Bool.true_or] at h
      show R (decide (0≤(k:Int)))
      rw [decide_eq_true (by omega)];exact h
    · have c:p (gi s k)=false:=by simpa using c
      rw [c,Bool.false_or] at he
      exact ⟨⟨by omega,by omega⟩,m-1,by omega,k+1,by omega,by omega,he⟩
  · have:k=s.length:=by omega
    rw [he,this,List.drop_length] at h;exact h
theorem ygu{s:List (List Int)}{k:Nat}(hk:k<s.length):gx s k∈s:=by rw [yc3 hk];exact List.getElem_mem hk
theorem p_anySS{s:List (List Int)}{F:List Int→(Bool→Prop)→Prop}{p:List Int→Bool}{R:Bool→Prop}(hl:s.length≤1000000000)(hF:∀ x∈s,∀ R':Bool→Prop,R' (p x)→F x R')(h:R (s.any p)):yaU s F R:=by
  refine ⟨fun m v=>∃ k:Nat,v=k∧k+m=s.length∧s.any p=(s.drop k).any p,⟨s.length,0,rfl,by omega,rfl⟩,?_⟩
  rintro m v ⟨k,rfl,hm,he⟩
  refine ⟨fun hlt=>?_,fun hge=>?_⟩
  · have hk:k<s.length:=by omega
    rw [Int.toNat_natCast]
    rw [List.drop_eq_getElem_cons hk,List.any_cons,←yc3 hk] at he
    refine ⟨⟨by omega,hlt⟩,hF _ (ygu hk) _ ⟨fun c=>?_,fun c=>?_⟩⟩
    · rw [he,c,Bool.true_or] at h
      show R (decide (0≤(k:Int)))
      rw [decide_eq_true (by omega)];exact h
    · have c:p (gx s k)=false:=by simpa using c
      rw [c,Bool.false_or] at he
      exact ⟨⟨by omega,by omega⟩,m-1,by omega,k+1,by omega,by omega,he⟩
  · have:k=s.length:=by omega
    rw [he,this,List.drop_length] at h;exact h
def ygL(egg set:List Int):Bool:=egg.any fun v=>decide (v∈set)
def covB(set egg:List Int):Bool:=!(egg.any fun v=>!decide (v∈set))
def hitB(s:List (List Int))(set:List Int):Bool:=!(s.any fun egg=>!ygL egg set)
def parB(s:List (List Int))(set:List Int):Bool:=(s.any fun egg=>covB set egg)&&s.any fun egg=>!ygL egg set
theorem ygf{set egg:List Int}{R:Bool→Prop}(hs:set.length≤1000000000)(he:egg.length≤1000000000)(h:R (ygL egg set)):ycf set egg R :=
  p_anyS he (fun x _ R' h'=>yc8 hs h') h
theorem yib{set egg:List Int}{R:Bool→Prop}(hs:set.length≤1000000000)(he:egg.length≤1000000000)(h:R (covB set egg)):ycM set egg R :=
  p_anyS (p:=fun v=>!decide (v∈set)) he (fun x _ R' h'=>yc8 hs h') h
theorem p_Hitting_1{set:List Int}{s:List (List Int)}{R:Int→Bool→Prop}(hs:set.length≤1000000000)(hl:s.length≤1000000000)(he:∀ e∈s,e.length≤1000000000)(h:R (set.length:Nat) (hitB s set)):yb1 set s R :=
  p_anySS (p:=fun egg=>!ygL egg set) hl (fun x hx R' h'=>ygf hs (he x hx) h') h
def cutN(es:List E3)(set:List Int):Nat:=(yeK es).countP fun p=>decide (p.1∈set) != decide (p.2∈set)
theorem sF_endsI:∀ es:List E3,(sF es).map (fun x=>(x.1,x.2.1))=yeK es
  | []=>rfl
  | x::t=>by
    have e:yeK (x::t)=List.replicate x.2.2.toNat (x.1,x.2.1)++yeK t:=by unfold yeK;rw [List.flatMap_cons]
    rw [sF,e,List.map_append,List.map_replicate,sF_endsI t]
theorem p_graph_Cut{n:Nat}{es:List E3}{set:List Int}{R:List Int→Int→Prop}(hN:NrmE n es)(hn:n≤12)(hl:es.length≤40)(hs:SetOk n set)(h:∀ out:List Int,out.length=cutN es set→R out 0):yfi (n:Int) es set R:=by
  have hlen:=hs.len
  refine p_graph_Subset' (by omega) (by omega) hN.g ⟨fun _=>?_,fun q=>absurd (setOk_sub hs) q⟩
  show ∃ Pr Rr:List (Int×Int×Int)→Prop,_
  refine ⟨_,_,yd3 hN.ok (by omega),fun pre out=>out.length=pre.countP fun y=>decide (y.2.1∈set) != decide (y.2.2∈set),rfl,?_,?_⟩
  · rintro pre e a b out hI hPr
    have hI:out.length=pre.countP fun y=>decide (y.2.1∈set) != decide (y.2.2∈set):=hI
    have hPr:(pre++[(e,a,b)]).map gmap <+: sF es:=hPr
    have h2:=hPr.length_le
    have h3:=sF_few hN.ok
    have h4:pre.countP (fun y=>decide (y.2.1∈set) != decide (y.2.2∈set))≤pre.length:=List.countP_le_length
    rw [List.length_map,List.length_append] at h2
    simp only [List.length_singleton] at h2
    refine yc8 (by omega) (yc8 (by omega) ⟨fun q=>?_,fun q=>⟨by omega,?_⟩⟩)
    · show out.length=List.countP _ (pre++[(e,a,b)])
      rw [List.countP_append,List.countP_singleton,if_neg (by simpa using q),hI];rfl
    · show (out++[e]).length=List.countP _ (pre++[(e,a,b)])
      rw [List.countP_append,List.countP_singleton,if_pos (by simpa using q),List.length_append,hI];rfl
  · rintro ys out hI hR
    have hI:out.length=ys.countP fun y=>decide (y.2.1∈set) != decide (y.2.2∈set):=hI
    have hR:ys.map gmap=sF es:=hR
    refine h out ?_
    unfold cutN
    rw [hI,←sF_endsI,←hR,List.map_map,List.countP_map];rfl
end Go.Proofs.YtadpnlimiblniaaGreat

/- Check, Hitting, Cut and Order of scrambles: the program and the reference. -/
namespace Go.Proofs.YtadpnlimiblniaaGreat
open Go Go.RowKit Go.Shelf Go.Proofs.Tryz
def eggE(n:Int)(es:List E3)(l:List Int):Int :=
  if subF n l=0 then (if l=[] then 14 else if ydD (l.length:Nat) (made l.length (indL es l))=true then 0 else 13) else subF n l
def yjn(n:Int)(es:List E3):List (List Int)→Int
  | []=>0
  | l::t=>if eggE n es l=0 then yjn n es t else eggE n es l
def ylc(n:Int)(es:List E3)(s:List (List Int)):Int:=if 256<s.length then 5 else yjn n es s
def chkE(n:Int)(es:List E3)(s:List (List Int)):Int:=if yaS n es=0 then ylc n es s else yaS n es
theorem yid{n:Int}{es:List E3} : ∀ {s:List (List Int)},yjn n es s=0↔∀ l∈s,eggE n es l=0
  | []=>by simp [yjn]
  | l::t=>by
    rw [yjn]
    by_cases c:eggE n es l=0
    · rw [if_pos c,yid];simp [c]
    · rw [if_neg c];simp [c]
theorem ybn{n:Int}{es:List E3}(h:yaS n es=0):yav n es=0∧ydD n es=true:=by
  unfold yaS at h
  split at h
  · rename_i c
    split at h
    · rename_i c2;exact ⟨c,c2⟩
    · cases h
  · rename_i c;exact absurd h c
theorem ycH{n:Int}{es:List E3}(h:yav n es=0):∃ k:Nat,n=k∧1≤k∧k≤12:=by
  have hn:(1:Int)≤n∧n≤12:=by
    unfold yav at h;split at h
    · assumption
    · cases h
  exact ⟨n.toNat,by omega,by omega,by omega⟩
theorem ycg{n:Int}{es:List E3}{R:Int→Prop}(hl:es.length≤1000000000)(h:R (yaS n es)):ybd n es R:=by
  refine ⟨hl,fun c=>⟨fun q=>?_,fun q=>?_⟩,fun c=>?_⟩
  · have q:=of_decide_eq_true q
    unfold yaS at h;rw [if_pos q.1,if_pos q.2] at h;exact h
  · unfold yaS at h;rw [if_pos c,if_neg (fun z=>q (decide_eq_true ⟨c,z⟩))] at h;exact h
  · unfold yaS at h;rw [if_neg c] at h;exact h
theorem yj7{n:Int}{es:List E3}{R:Int→Prop}(hl:es.length≤1000000000)(h:R (yaS n es)):yeH n es R:=by
  refine yjC hl ⟨fun c=>?_,fun c=>?_⟩
  · obtain ⟨k,rfl,_,_⟩:=ycH c
    refine ygT hl c ⟨fun q=>?_,fun q=>?_⟩
    · unfold yaS at h;rw [if_pos c,if_pos q] at h;exact h
    · unfold yaS at h;rw [if_pos c,if_neg q] at h;exact h
  · unfold yaS at h;rw [if_neg c] at h;exact h
theorem joined_ind{n:Nat}{es:List E3}{l:List Int}(hN:NrmE n es)(hn:n≤12)(hs:SetOk n l)(hne:l≠[]):yaS (l.length:Nat) (made l.length (indL es l))=if ydD (l.length:Nat) (made l.length (indL es l))=true then 0 else 13:=by
  unfold yaS;rw [if_pos (ind_ok hs hN hn hne)]
theorem made_len{d:Nat}{L:List (Int×Int)}(hd:d≤12):(made d L).length≤1000:=by
  have:(yf2 d (tabE d L)).length≤d*d:=by
    unfold yf2
    have:∀ m,((List.range m).flatMap (rowJ d (tabE d L))).length≤m*d:=fun m=>by
      induction m with
      | zero=>simp
      | succ m ih =>
        rw [List.range_succ,List.flatMap_append,List.length_append]
        have:((List.flatMap (rowJ d (tabE d L)) [m])).length≤d:=by
          rw [List.flatMap_singleton]
          unfold rowJ
          refine Nat.le_trans (List.length_filterMap_le _ _) ?_
          rw [List.length_range];omega
        rw [Nat.add_mul];omega
    exact this d
  have h2:d*d≤12*12:=Nat.mul_le_mul hd hd
  show (yf2 d (tabE d L)).length≤1000
  omega
theorem yer{n:Int}{es:List E3}{s:List (List Int)}{R:Int→Prop}(hl:es.length≤40)(h:R (chkE n es s)):ybN n es s R:=by
  refine ycg (by omega) ⟨fun c=>⟨fun q=>?_,fun q=>?_⟩,fun c=>?_⟩
  · unfold chkE ylc at h;rw [if_pos c,if_pos (by omega)] at h;exact h
  · unfold chkE ylc at h;rw [if_pos c,if_neg (by omega)] at h
    obtain ⟨k,rfl,hk1,hk12⟩:=ycH (ybn c).1
    have hN:=nrm_of (ybn c).1
    refine ⟨fun m v=>∃ i:Nat,v=i∧i+m=s.length∧yjn k es s=yjn k es (s.drop i),⟨s.length,0,rfl,by omega,rfl⟩,?_⟩
    rintro m v ⟨i,rfl,hm,he⟩
    refine ⟨fun hlt=>?_,fun hge=>?_⟩
    · have hi:i<s.length:=by omega
      rw [List.drop_eq_getElem_cons hi,yjn,←yc3 hi] at he
      rw [Int.toNat_natCast]
      refine ⟨⟨by omega,hlt⟩,p_graph_Subset' (by omega) (by omega) hN.g ⟨fun c1=>?_,fun c1=>?_⟩⟩
      · have hs:=yiY c1
        refine yjE hN hk12 hl (fun q=>absurd c1 q) (fun _ e=>?_) (fun _ hne=>?_)
        · refine ⟨fun z=>by omega,fun _=>?_⟩
          have e2:eggE k es (gx s i)=14:=by unfold eggE;rw [if_pos c1,if_pos e]
          rw [he,e2] at h;exact h
        · have hlen:=hs.len
          refine ⟨fun _=>ycg (by have:=made_len (d:=(gx s i).length) (L:=indL es (gx s i)) (by omega);omega) ?_,fun z=>by omega⟩
          rw [joined_ind hN hk12 hs hne]
          have e2:eggE k es (gx s i)=if ydD ((gx s i).length:Nat) (made (gx s i).length (indL es (gx s i)))=true then 0 else 13:=by unfold eggE;rw [if_pos c1,if_neg hne]
          rw [e2] at he
          refine ⟨fun z=>?_,fun z=>?_⟩
          · rw [if_pos z] at he
            exact ⟨⟨by omega,by omega⟩,m-1,by omega,i+1,by omega,by omega,he⟩
          · rw [if_neg z] at he
            rw [he] at h;exact h
      · have e2:eggE k es (gx s i)=subF k (gx s i):=by unfold eggE;rw [if_neg c1]
        rw [e2,if_neg c1] at he
        rw [he] at h;exact h
    · have:i=s.length:=by omega
      rw [he,this,List.drop_length] at h;exact h
  · unfold chkE at h;rw [if_neg c] at h;exact h
structure ScrOk(n:Nat)(es:List E3)(s:List (List Int)):Prop where
  j:yaS n es=0
  l:s.length≤256
  e:∀ x∈s,eggE n es x=0
theorem yiy{n:Nat}{es:List E3}{s:List (List Int)}(h:chkE n es s=0):ScrOk n es s:=by
  unfold chkE at h
  split at h
  · rename_i c
    unfold ylc at h
    split at h
    · cases h
    · rename_i c2;exact ⟨c,by omega,yid.1 h⟩
  · rename_i c;exact absurd h c
theorem ScrOk.chk{n:Nat}{es:List E3}{s:List (List Int)}(h:ScrOk n es s):chkE n es s=0:=by
  unfold chkE ylc
  have:=h.l
  rw [if_pos h.j,if_neg (by omega)];exact yid.2 h.e
theorem ylN{n:Nat}{es:List E3}{l:List Int}(h:eggE n es l=0):SetOk n l∧l≠[]∧ydD (l.length:Nat) (made l.length (indL es l))=true:=by
  unfold eggE at h
  split at h
  · rename_i c
    split at h
    · cases h
    · rename_i c2
      split at h
      · rename_i c3;exact ⟨yiY c,c2,c3⟩
      · cases h
  · rename_i c;exact absurd h c
theorem ScrOk.len{n:Nat}{es:List E3}{s:List (List Int)}(h:ScrOk n es s):∀ x∈s,x.length≤n:=fun x hx=>(ylN (h.e x hx)).1.len
theorem ScrOk.n12{n:Nat}{es:List E3}{s:List (List Int)}(h:ScrOk n es s):1≤n∧n≤12:=by
  obtain ⟨k,e,h1,h2⟩:=ycH (ybn h.j).1
  omega
theorem ScrOk.nrm{n:Nat}{es:List E3}{s:List (List Int)}(h:ScrOk n es s):NrmE n es:=nrm_of (ybn h.j).1
theorem vset_ok(n:Nat)(U:Nat→Bool):SetOk n (ykF n U):=by
  refine ⟨fun k hk=>?_,fun j k hjk hk=>?_⟩
  · have:gi (ykF n U) k∈ykF n U:=yjo hk
    obtain ⟨v,h1,_,h3⟩:=ykO.1 this
    omega
  · rw [yaN (by omega),yaN hk]
    exact List.pairwise_iff_getElem.1 (vsetL_sorted n U) j k (by omega) hk hjk
theorem yjA{n:Nat}{y:List Int}(h:y∈yeV n):SetOk n y:=by
  obtain ⟨U,rfl⟩:=sets_is h
  exact vset_ok n U
def hitF(n:Nat)(s:List (List Int)):Int×List Int:=lstF (fun y=>((y.length:Int),hitB s y)) (yeV n) (-1,[])
def sepF(n:Nat)(es:List E3)(s:List (List Int)):Int×List Int:=lstF (fun y=>((cutN es y:Int),parB s y)) (yeV n) (-1,[])
theorem ydJ{n:Int}{es:List E3}{s:List (List Int)}{R:Int→List Int→Int→Prop}(hl:es.length≤40)(h0:chkE n es s≠0→R 0 [] (chkE n es s))(h1:∀ k:Nat,n=k→ScrOk k es s→R (hitF k s).1 (hitF k s).2 0):ybh n es s R:=by
  refine yer hl ⟨fun c=>?_,fun c=>h0 c⟩
  have hj:yaS n es=0:=by
    unfold chkE at c;split at c
    · assumption
    · exact c
  obtain ⟨k,rfl,_,_⟩:=ycH (ybn hj).1
  have hS:=yiy c
  have:=hS.n12
  have hsl:=hS.l
  refine p_least (by omega) (val:=fun y=>((y.length:Int),hitB s y)) (fun y hy=>?_) (h1 k rfl hS)
  have:=(yjA hy).len
  exact ⟨by omega,fun R' h'=>p_Hitting_1 (by omega) (by omega) (fun e he=>by have:=hS.len e he;omega) h'⟩
theorem p_Cut_1{n:Nat}{es:List E3}{s:List (List Int)}(hS:ScrOk n es s)(hl:es.length≤40){y:List Int}(hy:SetOk n y){R:Int→Bool→Int→Prop}(h1:parB s y=true→R (cutN es y:Nat) true 0)(h2:parB s y=false→R 0 false 0):yce y s (n:Int) es 0 R:=by
  have hn:=hS.n12
  have hsl:=hS.l
  have hyl:=hy.len
  have hel:∀ e∈s,e.length≤1000000000:=fun e he=>by have:=hS.len e he;omega
  refine p_anySS (p:=fun egg=>covB y egg) (by omega) (fun x hx R' h'=>yib (by omega) (hel x hx) h') ?_
  refine p_anySS (p:=fun egg=>!ygL egg y) (by omega) (fun x hx R' h'=>ygf (by omega) (hel x hx) h') ?_
  refine ⟨parB s y=true,fun z=>p_graph_Cut hS.nrm hn.2 hl hy fun out ho=>?_,fun za=>⟨fun zb=>?_,fun zb=>h2 ?_⟩,fun za=>h2 ?_⟩
  · rw [ho];exact ⟨fun _=>h1 z,fun q=>absurd rfl q⟩
  · unfold parB;rw [za,zb];rfl
  · unfold parB;rw [Bool.eq_false_iff.2 zb,Bool.and_false]
  · unfold parB;rw [Bool.eq_false_iff.2 za,Bool.false_and]
theorem p_least_v2{n:Nat}{es:List E3}{s:List (List Int)}(hS:ScrOk n es s)(hl:es.length≤40){R:Int→List Int→Int→Prop}(h:R (sepF n es s).1 (sepF n es s).2 0):ycd (n:Int) s (n:Int) es 0 R:=by
  have hn:=hS.n12
  show ∃ Pr Rr:List (List Int)→Prop,_
  refine ⟨_,_,p_sets_1 (by omega),fun pre v best first=>v=0∧(best,first)=lstF (fun y=>((cutN es y:Int),parB s y)) pre (-1,[]),⟨rfl,rfl⟩,?_,?_⟩
  · rintro pre y v best first ⟨rfl,hI⟩ hPr
    have hy:SetOk n y:=yjA (hPr.subset (by simp))
    have hyl:=hy.len
    have hs:=yhX (fun y=>((cutN es y:Int),parB s y)) pre y (-1,[])
    rw [←hI] at hs
    refine p_Cut_1 hS hl hy (fun c=>⟨fun _=>⟨fun q2=>yhZ (by omega) ⟨rfl,?_⟩,fun q2=>⟨fun q3=>yhZ (by omega) ⟨rfl,?_⟩,fun q3=>⟨rfl,?_⟩⟩⟩,fun q=>absurd rfl q⟩) (fun c=>⟨fun q=>(by cases q),fun _=>⟨rfl,?_⟩⟩)
    · exact (hs.trans (if_pos ⟨c, .inl q2⟩)).symm
    · exact (hs.trans (if_pos ⟨c, .inr q3⟩)).symm
    · exact (hs.trans (if_neg (fun z=>z.2.elim q2 q3))).symm
    · exact (hs.trans (if_neg (fun z=>by rw [c] at z;cases z.1))).symm
  · rintro ys v best first ⟨rfl,hI⟩ hR
    have hR:ys=yeV n:=hR
    subst hR
    unfold sepF at h
    rw [←hI] at h
    exact h
theorem yft{n:Int}{es:List E3}{s:List (List Int)}{R:Int→List Int→Int→Prop}(hl:es.length≤40)(h0:chkE n es s≠0→R 0 [] (chkE n es s))(h1:∀ k:Nat,n=k→ScrOk k es s→R (sepF k es s).1 (sepF k es s).2 0):ybO n es s R:=by
  refine yer hl ⟨fun c=>?_,fun c=>h0 c⟩
  have hj:yaS n es=0:=by
    unfold chkE at c;split at c
    · assumption
    · exact c
  obtain ⟨k,rfl,_,_⟩:=ycH (ybn hj).1
  have hS:=yiy c
  exact p_least_v2 hS hl ⟨fun _=>h1 k rfl hS,fun q=>absurd rfl q⟩
def ordF(n:Nat)(es:List E3)(s:List (List Int)):Int:=if (sepF n es s).1<0 then (hitF n s).1 else mnF (hitF n s).1 (sepF n es s).1
theorem ygg{n:Int}{es:List E3}{s:List (List Int)}{R:Int→Int→Prop}(hl:es.length≤40)(h0:chkE n es s≠0→R 0 (chkE n es s))(h1:∀ k:Nat,n=k→ScrOk k es s→R (ordF k es s) 0):ybM n es s R:=by
  refine ydJ hl (fun c=>⟨fun q=>absurd q c,fun _=>h0 c⟩) fun k hk hS=>⟨fun _=>?_,fun q=>absurd rfl q⟩
  refine yft hl (fun c=>absurd (by rw [hk];exact hS.chk) c) fun k' hk' _=>⟨fun _=>?_,fun q=>absurd rfl q⟩
  have e:k'=k:=by omega
  subst e
  have h:=h1 k' hk hS
  unfold ordF at h
  exact ⟨fun c=>by rw [if_pos c] at h;exact h,fun c=>by rw [if_neg c] at h;exact h⟩
section
variable {n : Nat} {es : List E3} {s : List (List Int)} (hS : ScrOk n es s) (hl : es.length ≤ 40) (hn6 : n ≤ 6)
include hS hl hn6
end
end Go.Proofs.YtadpnlimiblniaaGreat

/- Gonality: the first effective divisor of the least degree whose rank is at least 1; the program and the reference. -/
namespace Go.Proofs.YtadpnlimiblniaaGreat
open Go Go.RowKit Go.Shelf Go.Proofs.Tryz
theorem first_setG(N:Nat)(k:Int):(List.replicate (N+1) (0:Int)).set N k=ydX (N+1) k:=by
  refine ygi (by rw [List.length_set,List.length_replicate,yhO (by omega)]) fun i hi=>?_
  rw [List.length_set,List.length_replicate] at hi
  rw [ycQ (by rw [List.length_replicate];omega),gi_firstF,yhs hi]
  rfl
theorem yju{N k:Nat}(hN:N≤4)(hk:k≤6):ybX (ydX (N+1) (k:Int)) (fun p=>p <+: ycp (N+1) k) (fun p=>p=ycp (N+1) k):=by
  unfold ybX
  obtain ⟨⟨B0,hB0⟩,hst⟩:=yhl N k
  have hmem:∀ x∈ycp (N+1) k,x.length=N+1∧∀ j,j<N+1 → -1000000≤gi x j∧gi x j≤1000000:=fun x hx=>by
    obtain ⟨h1,h2,h3⟩:=(yed N k x).1 hx
    exact ⟨h1,fun j hj=>by have:=dg_entry h2 (j:=j) (by omega);omega⟩
  generalize ycp (N+1) k=L at hB0 hst hmem ⊢
  refine ⟨fun q pre more v=>∃ B,L=pre++B∧q=B.length∧(more=true→∃ B',B=v::B')∧(more=false→B=[]),⟨L.length,L,rfl,rfl,fun _=>⟨B0,hB0⟩,fun q=>(by cases q)⟩,?_⟩
  rintro q pre more v ⟨B,hL,rfl,hm,hn⟩
  refine ⟨fun hmt=>?_,fun hmf=>?_⟩
  · obtain ⟨B',rfl⟩:=hm hmt
    obtain ⟨hvl,hvb⟩:=hmem v (by rw [hL];simp)
    have hL2:L=(pre++[v])++B':=by rw [hL];simp
    have hat:=(show ygn (pre++v::B') none by rw [←hL];exact hst).at_
    refine ygo (by omega) ⟨⟨B',hL2.symm⟩,?_,trivial⟩
    refine p_chips_step (by omega) (by omega) (fun j hj=>hvb j (by omega)) (fun y hy=>⟨B'.length,by simp,B',hL2,rfl,fun _=>?_,fun q=>(by cases q)⟩) (fun hno=>?_)
    · rw [hy] at hat
      cases B' with
      | nil=>simp at hat
      | cons z B'=>simp at hat;exact ⟨B',by rw [hat]⟩
    · rw [hno] at hat
      refine ⟨B'.length,by simp,B',hL2,rfl,fun q=>(by cases q),fun _=>?_⟩
      cases B' with
      | nil=>rfl
      | cons z B'=>simp at hat
  · have hB:=hn (by simpa using hmf)
    rw [hB,List.append_nil] at hL
    exact hL.symm
def cntG(k:Nat):Nat→Int
  | 0=>1
  | i+1=>if i=0 then 1 else (cntG k i*((k:Int)+i)).tdiv i
theorem cntG_ok:∀ k,k<6→∀ j,j<5→0<j→(0≤cntG k j∧cntG k j≤1000)∧(0≤cntG k j*((k:Int)+j)∧cntG k j*((k:Int)+j)≤10000)∧(cntG k j*((k:Int)+j)).tdiv (j:Int)=cntG k (j+1)∧(0≤cntG k (j+1)∧cntG k (j+1)≤1000):=by decide
theorem p_chips_AllG{N k:Nat}{R:List (List Int)→Int→Prop}(hN:N≤4)(hk:k≤5)(h:R (ycp (N+1) k) 0):yeg ((N+1:Nat):Int) (k:Int) R:=by
  unfold yeg
  have hv:∀ {R':Int→Prop},R' 0→ybu ((N+1:Nat):Int) R':=fun h=>by
    unfold ybu
    exact ⟨fun q=>by omega,fun _=>⟨fun q=>by omega,fun _=>h⟩⟩
  refine hv ⟨fun _=>?_,fun q=>absurd rfl q⟩
  · refine ⟨True,fun _=>?_,fun q=>by omega,fun _=>⟨fun q=>by omega,fun _=>trivial⟩⟩
    refine ⟨fun q c i=>∃ j:Nat,i=(j:Int)∧1≤j∧j≤N+1∧q=N+1-j∧c=cntG k j,⟨N,1,rfl,by omega,by omega,by omega,rfl⟩,?_⟩
    rintro q c _ ⟨j,rfl,h1,hj,rfl,rfl⟩
    refine ⟨fun hlt=>?_,fun hge=>?_⟩
    · obtain ⟨k1,k2,k3,k4⟩:=cntG_ok k (by omega) j (by omega) (by omega)
      rw [k3]
      exact ⟨i64 (by omega),i64 (by omega),by omega,i64 (by omega),fun q=>by omega,fun _=>⟨i64 (by omega),N+1-(j+1),by omega,j+1,rfl,by omega,by omega,rfl,rfl⟩⟩
    · have e1:(((N+1:Nat):Int)-1).toNat=N:=by omega
      rw [e1,Int.toNat_natCast,first_setG]
      refine ⟨by omega,i64 (by omega),by simp;omega,?_⟩
      unfold yeP ybg yaM
      have hlen:=list_few (n:=N) (k:=k) (by omega) (by omega)
      refine ⟨fun p=>p <+: ycp (N+1) k,fun p=>p=ycp (N+1) k,yju hN (by omega),fun p s=>s=p,rfl,fun pre y s hs hp=>⟨?_,by rw [hs]⟩,fun ys s hs hys=>by rw [hs,hys];exact h⟩
      have:=hp.length_le
      rw [List.length_append,List.length_singleton] at this
      rw [hs];omega
theorem p_graph_EndsI{n:Nat}{es:List E3}{R:List (Int×Int)→Int→Prop}(hl:es.length≤100)(q:yav n es=0)(h:R (yeK es) 0):yeI (n:Int) es R:=by
  refine ydK (by omega) ⟨fun q=>?_,fun c=>absurd q c⟩
  obtain ⟨hE,hn1,hn12⟩:=ybW q
  show ∃ Pr Rr:List (Int×Int×Int)→Prop,_
  refine ⟨_,_,yd3 hE (by omega),fun pre out=>out=pre.map fun y=>(y.2.1,y.2.2),rfl,?_,?_⟩
  · rintro pre e a b out rfl hPr
    have hPr:(pre++[(e,a,b)]).map gmap <+: sF es:=hPr
    have h2:=hPr.length_le
    have h3:=sF_few hE
    rw [List.length_map,List.length_append] at h2
    simp only [List.length_singleton] at h2
    refine ⟨by rw [List.length_map];omega,?_⟩
    show _=List.map _ _
    rw [List.map_append];rfl
  · rintro ys out rfl hR
    have hR:ys.map gmap=sF es:=hR
    have e:ys.map (fun y=>(y.2.1,y.2.2))=yeK es:=by
      rw [←sF_endsI,←hR,List.map_map];rfl
    rw [e];exact h
theorem p_graph_SizeI{n:Nat}{es:List E3}{R:Int→Int→Prop}(hl:es.length≤100)(q:yav n es=0)(h:R ((es.map (·.2.2)).sum) 0):yeL (n:Int) es R:=by
  refine p_graph_EndsI hl q ?_
  rw [(ye6 es (fun x hx=>by have:=(ybW q).1 x hx;omega)).1];exact h
theorem p_AtLeast1{n:Nat}{es:List E3}{d:List Int}{R:Bool→Int→Prop}(hD:DOk n es d)(hg:ybo n es 0 d=0)(h1:AL n es d 1→R true 0)(h2:¬AL n es d 1→R false 0):ycl (n:Int) es d 1 R:=by
  have hel:=hD.G.el
  refine p_rank_AtLeast (by omega) (fun q=>absurd hg q) (fun _ q=>by omega) fun _ _=>⟨hD,fun k hk=>?_⟩
  have hk:RkOk n es d k:=hk
  by_cases c:(1:Int)≤k
  · rw [decide_eq_true c];exact h1 ((hk.ge hD.G.n1).1 c)
  · rw [decide_eq_false c];exact h2 fun q=>c ((hk.ge hD.G.n1).2 q)
structure GonOk(n:Nat)(es:List E3)(k:Nat)(d:List Int):Prop where
  k1:1≤k∧k≤n
  at_:∃ i,i<(ycp n k).length∧gx (ycp n k) i=d∧∀ j,j<i→¬AL n es (gx (ycp n k) j) 1
  al:AL n es d 1
  no:∀ k',1≤k'→k'<k→∀ y∈ycp n k',¬AL n es y 1
theorem GonOk.mem{n:Nat}{es:List E3}{k:Nat}{d:List Int}(h:GonOk n es k d):d∈ycp n k:=by
  obtain ⟨i,hi,rfl,_⟩:=h.at_
  exact ygu hi
theorem GonOk.eff{n:Nat}{es:List E3}{k:Nat}{d:List Int}(h:GonOk n es k d):Eff n d k:=by
  obtain ⟨N,rfl⟩:∃ N,n=N+1:=⟨n-1,by have:=h.k1;omega⟩
  exact yku h.mem
theorem GonOk.eq{n:Nat}{es:List E3}{k k':Nat}{d d':List Int}(h:GonOk n es k d)(h':GonOk n es k' d'):k=k'∧d=d':=by
  have e:k=k':=by
    rcases Nat.lt_trichotomy k k' with q | q | q
    · exact absurd h.al (h'.no k h.k1.1 q d h.mem)
    · exact q
    · exact absurd h'.al (h.no k' h'.k1.1 q d' h'.mem)
  subst e
  refine ⟨rfl,?_⟩
  obtain ⟨i,hi,e1,h1⟩:=h.at_;obtain ⟨j,hj,e2,h2⟩:=h'.at_
  rcases Nat.lt_trichotomy i j with q | q | q
  · exact absurd (by rw [e1];exact h.al) (h2 i q)
  · rw [←e1,←e2,q]
  · exact absurd (by rw [e2];exact h'.al) (h1 j q)
theorem al_ones{n:Nat}{es:List E3}(hn:1≤n):AL n es (List.replicate n 1) 1:=fun e he=>⟨fun _=>0,fun v hv=>by
  have:=he.le hv
  rw [yfl,ygA hv,yaN (by simpa using hv)];simp;omega⟩
theorem ones_mem(N:Nat):List.replicate (N+1) (1:Int)∈ycp (N+1) (N+1):=by
  refine (yed N (N+1) _).2 ⟨by simp,fun a ha=>by rw [(List.mem_replicate.1 ha).2];omega,?_⟩
  have:∀ m:Nat,(List.replicate m (1:Int)).sum=m:=fun m=>by
    induction m with
    | zero=>rfl
    | succ m ih=>rw [List.replicate_succ,List.sum_cons,ih];omega
  exact this _
theorem gok_dok{N:Nat}{es:List E3}(hG:GOk (N+1) es){k:Nat}(hk:k≤5){y:List Int}(hy:y∈ycp (N+1) k):DOk (N+1) es y∧ybo ((N+1:Nat):Int) es 0 y=0∧y.length=N+1:=by
  have he:=yku hy
  have hb:∀ v,v<N+1→0≤gi y v∧gi y v≤5:=fun v hv=>by have:=he.pos v hv;have:=he.le hv;omega
  refine ⟨⟨hG,fun v hv=>by have:=hb v hv;omega,by rw [he.deg];omega⟩,?_,he.len⟩
  rw [given0]
  have hj:yaS ((N+1:Nat):Int) es=0:=by unfold yaS;rw [if_pos hG.g,if_pos hG.c]
  have:=hG.n5
  rw [if_pos hj]
  exact yfE he.len (by omega) (by omega) fun j hj=>by have:=hb j hj;omega
theorem yeY{n:Int}{es:List E3}{R:Int→List Int→Int→Prop}(hl:es.length≤40)(h0:yaS n es≠0→R 0 [] (yaS n es))(h1:yaS n es=0→∃ k:Nat,n=k∧GOk k es∧∀ j d,GonOk k es j d→R j d 0):ybG n es R:=by
  refine ycg (by omega) ⟨fun c=>?_,fun c=>h0 c⟩
  obtain ⟨n,rfl,hG,hR⟩:=h1 c
  have hn1:=hG.n1;have hn5:=hG.n5;have hsu:=hG.su
  obtain ⟨N,rfl⟩:∃ N,n=N+1:=⟨n-1,by omega⟩
  refine p_graph_SizeI (by omega) hG.g ⟨True,fun _=>?_,fun _=>⟨fun q=>by omega,fun _=>⟨fun q=>by omega,fun _=>trivial⟩⟩,fun q=>absurd rfl q⟩
  refine ⟨fun m v=>∃ k:Nat,v=k∧1≤k∧k+m=N+2∧∀ k',1≤k'→k'<k→∀ y∈ycp (N+1) k',¬AL (N+1) es y 1,⟨N+1,1,rfl,by omega,by omega,fun k' h1 h2=>by omega⟩,?_⟩
  rintro m v ⟨k,rfl,hk1,hm,hno⟩
  refine ⟨fun hle=>?_,fun hgt=>?_⟩
  · refine p_chips_AllG (by omega) (by omega) ⟨fun _=>?_,fun q=>absurd rfl q⟩
    have hfew:=list_few (n:=N) (k:=k) (by omega) (by omega)
    refine ⟨fun m v=>∃ i:Nat,v=i∧i+m=(ycp (N+1) k).length∧∀ j,j<i→¬AL (N+1) es (gx (ycp (N+1) k) j) 1,⟨_,0,rfl,Nat.zero_add _,fun j hj=>by omega⟩,?_⟩
    rintro m' v ⟨i,rfl,hm',hi⟩
    refine ⟨fun hlt=>?_,fun hge=>?_⟩
    · have hil:i<(ycp (N+1) k).length:=by omega
      obtain ⟨hD,hg,hlen⟩:=gok_dok hG (k:=k) (by omega) (ygu hil)
      rw [Int.toNat_natCast]
      refine ⟨⟨by omega,hlt⟩,p_AtLeast1 hD hg (fun hal=>⟨fun _=>⟨fun _=>hR k _ ⟨⟨hk1,by omega⟩,⟨i,hil,rfl,hi⟩,hal,hno⟩,fun q=>absurd rfl q⟩,fun q=>absurd rfl q⟩) fun hal=>⟨fun _=>⟨fun q=>(by cases q),fun _=>⟨⟨by omega,by omega⟩,m'-1,by omega,i+1,by omega,by omega,fun j hj=>?_⟩⟩,fun q=>absurd rfl q⟩⟩
      by_cases e:j=i
      · rw [e];exact hal
      · exact hi j (by omega)
    · refine ⟨⟨by omega,by omega⟩,m-1,by omega,k+1,by omega,by omega,by omega,fun k' h1 h2 y hy=>?_⟩
      by_cases e:k'=k
      · subst e
        obtain ⟨j,hj,ej⟩:=List.mem_iff_getElem.1 hy
        rw [←ej,←yc3 hj]
        exact hi j (by omega)
      · exact hno k' h1 (by omega) y hy
  · exact absurd (al_ones hn1) (hno (N+1) (by omega) (by omega) _ (ones_mem N))
def ptsF(n:Nat):List (List Int):=(List.range n).map fun v:Nat=>[(v:Int)]
def yj5(n:Int)(es:List E3):List (List Int):=if yaS n es=0 then ptsF n.toNat else []
theorem loop_pts{n:Nat}(hn:n≤12){R:List (List Int)→Int→Prop}(h:R (ptsF n) 0):(∃ I2:Nat→(List (List Int))→Int→Prop,(∃ m0,I2 m0 ([]) 0)∧∀ (m2:Nat) (out:List (List Int)) (v:Int),I2 m2 out v → 
((v<(n:Int) →
(out.length+1≤1000000000 ∧
(In64 (v+1) ∧
∃ m3,m3<m2∧I2 m3 (out++[[v]]) (v+1)))) ∧
(¬(v<(n:Int)) →
R out 0))):=by
  refine ⟨fun m out v=>∃ k:Nat,v=k∧k+m=n∧out=ptsF k,⟨n,0,rfl,by omega,rfl⟩,?_⟩
  rintro m out v ⟨k,rfl,hm,rfl⟩
  refine ⟨fun hlt=>⟨by simp [ptsF];omega,⟨by omega,by omega⟩,m-1,by omega,k+1,by omega,by omega,?_⟩,fun hge=>?_⟩
  · unfold ptsF;rw [List.range_succ,List.map_append];rfl
  · have:k=n:=by omega
    rw [this];exact h
theorem yih{n:Int}{es:List E3}{R:List (List Int)→Int→Prop}(hl:es.length≤40)(h:R (yj5 n es) (yaS n es)):ycL n es R:=by
  unfold yj5 at h
  refine ycg (by omega) ⟨fun c=>?_,fun c=>by rw [if_neg c] at h;exact h⟩
  rw [if_pos c,c] at h
  obtain ⟨k,rfl,_,h12⟩:=ycH (ybn c).1
  exact loop_pts h12 h
end Go.Proofs.YtadpnlimiblniaaGreat

/- Pure forms of functions, made by program (pf.py), each with the proof that the code does so. -/
namespace Go.Proofs.YtadpnlimiblniaaGreat
open Go Go.RowKit Go.Shelf Go.Proofs.Tryz
set_option maxRecDepth 100000
set_option maxHeartbeats 8000000
def ylA(x:Int)(x2:Int)(x3:Int)(R:Bool→Prop):Prop :=
R (decide (x=x2))
theorem ylE{O:Nat→Prop}{w:World}{x x2 x3}{R:Bool→Prop}(h:ylA x x2 x3 R)(hO:∀ k,O k→k<w.heap.size) :
    Calls Tryz.prog 98 #[(.agg #[(ii x),(ii x2),(ii x3)])] w fun e w'=>∃ r,e = .returned (.bool (r))∧Sep w no O w' (rl [])∧R r:=by
  unfold ylA at h;have hS:Sep w no O w (rl []):=Sep.start w hO;refine yap (l:=[(.agg #[(ii x),(ii x2),(ii x3)])]) func98 rfl ntmps98 zY (zs (zn (ya8 (v:=(.agg #[(ii x),(ii x2),(ii x3)])) rfl ?_)));intro g w2 hN;replace hS:Sep w no O w2 (stl _ 0 (Res.box 79 g [(ii x),(ii x2),(ii x3)])):=hS.new 0 rfl hN;clear hN;exact zb (zQ (.bool (false)) (yaa (zs (zq (yan rfl underlying79 rfl yaj) (zq (zl underlying3 (Row.cell (hS.bx 0 rfl) (i:=0) rfl)) (zq (yan rfl underlying79 rfl yaj) (zq (zl underlying3 (Row.cell (hS.bx 0 rfl) (i:=1) rfl)) (zq zE (zQ (.bool (decide (x=x2))) (yaa (yak rfl rfl ⟨_,rfl,(hS.sel []),h⟩)))))))))))
def ylw(g:Int)(g2:List E3)(R:Bool→Prop):Prop :=
ykc g g2 (fun r =>
((r=true →
yeH g g2 (fun r2 =>
((r2=0 →
ylu g2 (fun x x2 x3 R=>ylA x x2 x3 R) (fun r3 =>
R (!(r3)))) ∧
(¬(r2=0) →
R false)))) ∧
(¬(r=true) →
R false)))
theorem ylG{O:Nat→Prop}{w:World}{g g2 Ag lg cg}{R:Bool→Prop}(h:ylw g g2 R)(hO:∀ k,O k→k<w.heap.size)(hA0:(FP.sl c3 Ag lg cg g2).P O w) :
    Calls Tryz.prog 49 #[(.agg #[(ii g),(.slice Ag lg cg)])] w fun e w'=>∃ r4,e = .returned (.bool (r4))∧Sep w no O w' (rl [])∧R r4:=by
  unfold ylw at h;have hS:Sep w no O w (rl [Res.ro (FP.sl c3 Ag lg cg g2)]):=Sep.startl hO [(FP.sl c3 Ag lg cg g2)] ⟨hA0,trivial⟩;refine yap (l:=[(.agg #[(ii g),(.slice Ag lg cg)])]) func49 rfl ntmps49 zY (zs (zn (ya8 (v:=(.agg #[(ii g),(.slice Ag lg cg)])) rfl ?_)));intro g3 w2 hN;replace hS:Sep w no O w2 (stl _ 1 (Res.box 24 g3 [(ii g),(.slice Ag lg cg)])):=hS.new 1 rfl hN;clear hN;refine zb (zQ (.bool (false)) (yaa (zs (zq (yaq (vs:=[(ii g),(.slice Ag lg cg)]) rfl underlying24 rfl yao ⟨Row.cell (hS.bx 1 rfl) (i:=0) rfl,Row.cell (hS.bx 1 rfl) (i:=1) rfl,trivial⟩) (zn (yam rfl (am1 rfl) enter_23 ((ykt h (yaB _) (hS.rdr 0 rfl)).mono ?_)))))));rintro _ w3 ⟨r,rfl,hC,h⟩;replace hS:=hS.pur hC.pure;clear hC;refine ⟨_,rfl,?_⟩;refine zb (zM (.bool (r)) ?_);by_cases hp:r=true
  · replace h:=h.1 hp;refine zW rfl rfl (zC hp) (yaq (vs:=[(ii g),(.slice Ag lg cg)]) rfl underlying24 rfl yao ⟨Row.cell (hS.bx 1 rfl) (i:=0) rfl,Row.cell (hS.bx 1 rfl) (i:=1) rfl,trivial⟩) (rl_n (yae rfl (yac rfl (zC hp))) rfl rfl rfl (yam rfl (am1 rfl) enter_43 ((yj3 h (yaB _) (hS.rdr 0 rfl)).mono ?_)));rintro _ w4 ⟨r2,rfl,hC,h⟩;replace hS:=hS.pur hC.pure;clear hC;refine ⟨_,rfl,?_⟩;refine zb (zW rfl rfl (zC hp) zE (zq (yas (v:=(.bool (decide (r2=0)))) (zC hp) rfl) (zM (.bool (decide (r2=0))) ?_)));by_cases hp2:r2=0
    · replace h:=h.1 hp2;refine zW rfl rfl (zT hp2) (yan rfl underlying24 rfl ybv) (zW rfl rfl (zT hp2) (zl underlying22 (Row.cell (hS.bx 1 rfl) (i:=1) rfl)) (rl_n (yae rfl (yac rfl (zT hp2))) rfl rfl rfl (yam rfl (am2 rfl rfl) enter_97 ((ylC h (yaB _) (hS.rdr 0 rfl) (fun w' hk=>⟨98,#[],rfl,enter_98,fun x x2 x3 R hF=>ya4 (by simp) (ylE hF (yaB _))⟩)).mono ?_))));rintro _ w5 ⟨r3,rfl,hC,h⟩;replace hS:=hS.pur hC.pure;clear hC;refine ⟨_,rfl,?_⟩;exact zb (zW rfl rfl (zT hp2) (ycX rfl) (zq (yas (v:=(.bool (!(r3)))) (zT hp2) rfl) (zQ (.bool (!(r3))) (yaa (yak rfl rfl ⟨_,rfl,(hS.sel []),h⟩)))))
    · replace h:=h.2 hp2;exact zV rfl rfl (zF hp2) (zV rfl rfl (zF hp2) (zV rfl rfl (zF hp2) (zV rfl rfl (zF hp2) (zq (yal (v:=(.bool (false))) (zF hp2) rfl) (zQ (.bool (false)) (yaa (yak rfl rfl ⟨_,rfl,(hS.sel []),h⟩)))))))
  · replace h:=h.2 hp;exact zV rfl rfl (zC (zI hp)) (zV rfl rfl (zC (zI hp)) (zV rfl rfl (zC (zI hp)) (zq (yal (v:=(.bool (false))) (zC (zI hp)) rfl) (zM (.bool (false)) (zU (zU (zU (zU (zq (yal (v:=(.bool (false))) rfl rfl) (zQ (.bool (false)) (yaa (yak rfl rfl ⟨_,rfl,(hS.sel []),h⟩))))))))))))
def ylv(R:Int→(List E3)→Prop):Prop :=
R 3 ([(0,1,1),(0,2,1),(1,2,1)])
theorem ylD{O:Nat→Prop}{w:World}{R:Int→(List E3)→Prop}(h:ylv R)(hO:∀ k,O k→k<w.heap.size) :
    Calls Tryz.prog 99 #[] w fun e w'=>∃ r r2 Ar lr cr,e = .returned (.agg #[(ii r),(.slice Ar lr cr)])∧Sep w no O w' (rl [Res.own c3 79 Ar lr cr r2])∧R r r2:=by
  unfold ylv at h;have hS:Sep w no O w (rl []):=Sep.start w hO;refine yap (l:=[]) func99 rfl ntmps99 zY (zs (zn (yaO yao ?_)));intro g w2 hN;replace hS:Sep w no O w2 (stl _ 0 (Res.box 24 g [(ii 0),(.slice none 0 0)])):=hS.new 0 rfl hN;clear hN;refine zb (yaa (zs (zn (yck (l:=[(0,(ii 0)),(1,(ii 1)),(2,(ii 1))]) (cells:=[(ii 0),(ii 1),(ii 1)]) (places:=[(0,1),(1,1),(2,1)]) (bp3 rfl rfl rfl) underlying79 yaK (by kernel_rfl) rfl ?_))));refine zb (zn (yck (l:=[(0,(ii 0)),(1,(ii 2)),(2,(ii 1))]) (cells:=[(ii 0),(ii 2),(ii 1)]) (places:=[(0,1),(1,1),(2,1)]) (bp3 rfl rfl rfl) underlying79 yaK (by kernel_rfl) rfl ?_));refine zb (zn (yck (l:=[(0,(ii 1)),(1,(ii 2)),(2,(ii 1))]) (cells:=[(ii 1),(ii 2),(ii 1)]) (places:=[(0,1),(1,1),(2,1)]) (bp3 rfl rfl rfl) underlying79 yaK (by kernel_rfl) rfl ?_));refine zb (zn (yaX (l:=[(0,(.agg #[(ii 0),(ii 1),(ii 1)])),(1,(.agg #[(ii 0),(ii 2),(ii 1)])),(2,(.agg #[(ii 1),(ii 2),(ii 1)]))]) (cells:=[(ii 0),(ii 1),(ii 1),(ii 0),(ii 2),(ii 1),(ii 1),(ii 2),(ii 1)]) (bp3 rfl rfl rfl) underlying22 yaK rfl rfl ?_));intro g2 w3 hN;replace hS:=hS.litf (n:=3) 1 rfl (fP (fI .i64) (fP (fI .i64) (fI .i64))) hN ([(0,1,1),(0,2,1),(1,2,1)]:List E3) rfl (by decide) rfl;clear hN;refine zb (zn (yck (l:=[(0,(ii 3)),(1,(.slice (some ⟨g2,0,none⟩) 3 3))]) (cells:=[(ii 3),(.slice (some ⟨g2,0,none⟩) 3 3)]) (places:=[(0,1),(1,1)]) (bp2 rfl rfl) underlying24 yao (by kernel_rfl) rfl ?_));refine zb (zo (yaV (b:=g) (o:=0) (cells:=#[(ii 3),(.slice (some ⟨g2,0,none⟩) 3 3)]) rfl rfl yao rfl rfl (yaI (hS.bx 0 rfl) zY) ?_));intro w4 e1;replace hS:=hS.bstn 0 rfl 0 [(ii 3),(.slice (some ⟨g2,0,none⟩) 3 3)] e1;clear e1;exact zb (yaa (yg1 rfl (rv_n (vs:=[(ii 3),(.slice (some ⟨g2,0,none⟩) 3 3)]) rfl underlying24 rfl yao ⟨Row.cell (hS.bx 0 rfl) (i:=0) rfl,Row.cell (hS.bx 0 rfl) (i:=1) rfl,trivial⟩) ⟨_,_,_,_,_,rfl,(hS.sel [1]),h⟩))
def yls(R:Bool→Prop):Prop :=
ylv (fun r r2 =>
ybG r r2 (fun r3 r4 r5 =>
((r5=0 →
R (decide (r3=2))) ∧
(¬(r5=0) →
R false))))
theorem yly{O:Nat→Prop}{w:World}{R:Bool→Prop}(h:yls R)(hO:∀ k,O k→k<w.heap.size) :
    Calls Tryz.prog 50 #[] w fun e w'=>∃ r6,e = .returned (.bool (r6))∧Sep w no O w' (rl [])∧R r6:=by
  unfold yls at h;have hS:Sep w no O w (rl []):=Sep.start w hO;refine yap (l:=[]) func50 rfl ntmps50 zY (zs (zQ (.bool (false)) (yaa (zs (zn (yam rfl (am0) enter_99 ((ylD h (yaB _)).mono ?_)))))));rintro _ w2 ⟨r,r2,Ar,lr,cr,rfl,hC,h⟩;replace hS:=hS.call1 (hC.widen (yde (ya0 (fP (fI .i64) (fP (fI .i64) (fI .i64))) _ _ _ _ _) ydA) hS.blt) 0 0 rfl;clear hC;refine ⟨_,rfl,?_⟩;refine zb ?_;replace hS:=hS.frz 0 rfl;refine zn (yam rfl (am1 rfl) enter_24 ((yee h hS.blt (hS.ro 0 rfl)).mono ?_));rintro _ w3 ⟨r3,r4,r5,Ar2,lr2,cr2,rfl,hC,h⟩;replace hS:=hS.call1 hC 1 0 rfl;clear hC;refine ⟨_,rfl,?_⟩;refine zb (zM (.tuple #[(ii r3),(.slice Ar2 lr2 cr2),(ii r5)]) (zq (zx (ii r3)) (zq (zx (.slice Ar2 lr2 cr2)) (zq (zx (ii r5)) (zQ (ii r3) (zQ (.slice Ar2 lr2 cr2) (zQ (ii r5) (yaa (zs (zM (ii r5) (zq zE (zM (.bool (decide (r5=0))) ?_))))))))))));by_cases hp:r5=0
  · replace h:=h.1 hp;exact zW rfl rfl (zT hp) (zm (ii r3)) (zW rfl rfl (zT hp) zE (zq (yas (v:=(.bool (decide (r3=2)))) (zT hp) rfl) (zQ (.bool (decide (r3=2))) (yaa (yak rfl rfl ⟨_,rfl,(hS.sel []),h⟩)))))
  · replace h:=h.2 hp;exact zV rfl rfl (zF hp) (zV rfl rfl (zF hp) (zq (yal (v:=(.bool (false))) (zF hp) rfl) (zQ (.bool (false)) (yaa (yak rfl rfl ⟨_,rfl,(hS.sel []),h⟩)))))
def ylt(d:Int)(d2:List E3)(R:Bool→Prop):Prop :=
(∃ J2:Prop,(J2→ybG d d2 (fun r r2 r3 =>
ylx d d2 (fun r4 r5 r6 =>
ycL d d2 (fun r7 r8 =>
ybM d d2 r7 (fun r9 r10 =>
(In64 (r3+r6) ∧
(In64 ((r3+r6)+r8) ∧
(In64 (((r3+r6)+r8)+r10) ∧
(((((r3+r6)+r8)+r10)=0 →
((r9=(mnF r4 d) →
((r9≤r →
yls (fun r11 =>
R r11)) ∧
(¬(r9≤r) →
R false))) ∧
(¬(r9=(mnF r4 d)) →
R false))) ∧
(¬((((r3+r6)+r8)+r10)=0) →
R false)))))))))) ∧
ylw d d2 (fun r12 =>
((r12=true →
((d<2 →
yls (fun r13 =>
R r13)) ∧
(¬(d<2) →
J2))) ∧
(¬(r12=true) →
yls (fun r14 =>
R r14)))))
theorem ylL{O:Nat→Prop}{w:World}{d d2 Ad ld cd}{R:Bool→Prop}(h:ylt d d2 R)(hO:∀ k,O k→k<w.heap.size)(hA0:(FP.sl c3 Ad ld cd d2).P O w) :
    Calls Tryz.prog 10 #[(.agg #[(ii d),(.slice Ad ld cd)])] w fun e w'=>∃ r15,e = .returned (.bool (r15))∧Sep w no O w' (rl [])∧R r15:=by
  unfold ylt at h;have hS:Sep w no O w (rl [Res.ro (FP.sl c3 Ad ld cd d2)]):=Sep.startl hO [(FP.sl c3 Ad ld cd d2)] ⟨hA0,trivial⟩;refine yap (l:=[(.agg #[(ii d),(.slice Ad ld cd)])]) func10 rfl ntmps10 zY (zs (zn (ya8 (v:=(.agg #[(ii d),(.slice Ad ld cd)])) rfl ?_)));intro g w2 hN;replace hS:Sep w no O w2 (stl _ 1 (Res.box 24 g [(ii d),(.slice Ad ld cd)])):=hS.new 1 rfl hN;clear hN;refine zb (zQ (.bool (false)) (yaa (yaf (yaf ?_))));obtain ⟨J2,hJ,h⟩:=h;refine yc1 (fun E ds w'=>J2∧ds=[]∧E 1=(Value.pointer (some ⟨g,0,none⟩))∧Sep w no O w' (rl [Res.box 24 g [(ii d),(.slice Ad ld cd)],Res.ro (FP.sl c3 Ad ld cd d2)])) ?_ ?_
  · clear h hS;rintro E ds w3 ⟨h,rfl,H1,hS⟩;replace h:=hJ h;refine zs (zq (yaq (vs:=[(ii d),(.slice Ad ld cd)]) H1 underlying24 rfl yao ⟨Row.cell (hS.bx 0 rfl) (i:=0) rfl,Row.cell (hS.bx 0 rfl) (i:=1) rfl,trivial⟩) (zn (yam rfl (am1 rfl) enter_24 ((yee h hS.blt (hS.ro 1 rfl)).mono ?_))));rintro _ w4 ⟨r,r2,r3,Ar,lr,cr,rfl,hC,h⟩;replace hS:=hS.call1 hC 2 0 rfl;clear hC;refine ⟨_,rfl,?_⟩;refine zb (zM (.tuple #[(ii r),(.slice Ar lr cr),(ii r3)]) (zq (zx (ii r)) (zq (zx (.slice Ar lr cr)) (zq (zx (ii r3)) (zQ (ii r) (zQ (.slice Ar lr cr) (zQ (ii r3) (yaa (zs (zq (yaq (vs:=[(ii d),(.slice Ad ld cd)]) H1 underlying24 rfl yao ⟨Row.cell (hS.bx 0 rfl) (i:=0) rfl,Row.cell (hS.bx 0 rfl) (i:=1) rfl,trivial⟩) (zn (yam rfl (am1 rfl) enter_51 ((ylI h (yaB _) (hS.rdr 1 rfl)).mono ?_)))))))))))));rintro _ w5 ⟨r4,r5,r6,Ar2,lr2,cr2,rfl,hC,h⟩;replace hS:=hS.call1 (hC.widen (yde (ya0 (fI .i64) _ _ _ _ _) ydA) hS.blt) 3 0 rfl;clear hC;refine ⟨_,rfl,?_⟩;refine zb (zM (.tuple #[(ii r4),(.slice Ar2 lr2 cr2),(ii r6)]) (zq (zx (ii r4)) (zq (zx (.slice Ar2 lr2 cr2)) (zq (zx (ii r6)) (zQ (ii r4) (zQ (.slice Ar2 lr2 cr2) (zQ (ii r6) (yaa (zs (zq (yaq (vs:=[(ii d),(.slice Ad ld cd)]) H1 underlying24 rfl yao ⟨Row.cell (hS.bx 0 rfl) (i:=0) rfl,Row.cell (hS.bx 0 rfl) (i:=1) rfl,trivial⟩) (zn (yam rfl (am1 rfl) enter_33 ((yho h hS.blt (hS.ro 1 rfl)).mono ?_)))))))))))));rintro _ w6 ⟨r7,r8,Ar3,lr3,cr3,rfl,hC,h⟩;replace hS:=hS.call1 hC 4 0 rfl;clear hC;refine ⟨_,rfl,?_⟩;refine zb (zM (.tuple #[(.slice Ar3 lr3 cr3),(ii r8)]) (zq (zx (.slice Ar3 lr3 cr3)) (zq (zx (ii r8)) (zQ (.slice Ar3 lr3 cr3) (zQ (ii r8) (yaa (zs (zq (yaq (vs:=[(ii d),(.slice Ad ld cd)]) H1 underlying24 rfl yao ⟨Row.cell (hS.bx 0 rfl) (i:=0) rfl,Row.cell (hS.bx 0 rfl) (i:=1) rfl,trivial⟩) (zM (.slice Ar3 lr3 cr3) (zn (yam rfl (am2 rfl rfl) enter_18 ((yff h (yaB _) (hS.rdr 1 rfl) (hS.rdo 4 rfl)).mono ?_))))))))))));rintro _ w7 ⟨r9,r10,rfl,hC,h⟩;replace hS:=hS.pur hC.pure;clear hC;refine ⟨_,rfl,?_⟩;refine zb (zM (.tuple #[(ii r9),(ii r10)]) (zq (zx (ii r9)) (zq (zx (ii r10)) (zQ (ii r9) (zQ (ii r10) (yaa (zs (zM (ii r3) (zM (ii r6) ?_)))))))));obtain ⟨hi,h⟩:=h;refine zq (zA hi) (zM (ii r8) ?_);obtain ⟨hi2,h⟩:=h;refine zq (zA hi2) (zM (ii r10) ?_);obtain ⟨hi3,h⟩:=h;refine zq (zA hi3) (zq zE (zM (.bool (decide ((((r3+r6)+r8)+r10)=0))) ?_));by_cases hp:(((r3+r6)+r8)+r10)=0
    · replace h:=h.1 hp;refine zW rfl rfl (zT hp) (zm (ii r9)) (zW rfl rfl (zT hp) (zm (ii r4)) (zW rfl rfl (zT hp) (yan H1 underlying24 rfl yaj) (zW rfl rfl (zT hp) (zl underlying3 (Row.cell (hS.bx 0 rfl) (i:=0) rfl)) (zW rfl rfl (zT hp) (yja rfl rfl) (zW rfl rfl (zT hp) zE (zq (yas (v:=(.bool (decide (r9=(mnF r4 d))))) (zT hp) rfl) (zM (.bool (decide (r9=(mnF r4 d)))) ?_)))))));by_cases hp2:r9=(mnF r4 d)
      · replace h:=h.1 hp2;refine zW rfl rfl (zT hp2) (zm (ii r)) (zW rfl rfl (zT hp2) (zm (ii r9)) (zW rfl rfl (zT hp2) (yiF rfl rfl) (zq (yas (v:=(.bool (decide (r9≤r)))) (zT hp2) rfl) (zM (.bool (decide (r9≤r))) ?_))));by_cases hp3:r9≤r
        · replace h:=h.1 hp3;refine rl_n (yae rfl (yac rfl (zT hp3))) rfl rfl rfl (yam rfl (am0) enter_50 ((yly h (yaB _)).mono ?_));rintro _ w8 ⟨r11,rfl,hC,h⟩;replace hS:=hS.pur hC.pure;clear hC;refine ⟨_,rfl,?_⟩;exact zb (zq (yas (v:=(.bool (r11))) (zT hp3) rfl) (zQ (.bool (r11)) (yaa (yak rfl rfl ⟨_,rfl,(hS.sel []),h⟩))))
        · replace h:=h.2 hp3;exact zV rfl rfl (zF hp3) (zq (yal (v:=(.bool (false))) (zF hp3) rfl) (zQ (.bool (false)) (yaa (yak rfl rfl ⟨_,rfl,(hS.sel []),h⟩))))
      · replace h:=h.2 hp2;exact zV rfl rfl (zF hp2) (zV rfl rfl (zF hp2) (zV rfl rfl (zF hp2) (zq (yal (v:=(.bool (false))) (zF hp2) rfl) (zM (.bool (false)) (zU (zq (yal (v:=(.bool (false))) rfl rfl) (zQ (.bool (false)) (yaa (yak rfl rfl ⟨_,rfl,(hS.sel []),h⟩)))))))))
    · replace h:=h.2 hp;exact zV rfl rfl (zF hp) (zV rfl rfl (zF hp) (zV rfl rfl (zF hp) (zV rfl rfl (zF hp) (zV rfl rfl (zF hp) (zV rfl rfl (zF hp) (zq (yal (v:=(.bool (false))) (zF hp) rfl) (zM (.bool (false)) (zU (zU (zU (zq (yal (v:=(.bool (false))) rfl rfl) (zM (.bool (false)) (zU (zq (yal (v:=(.bool (false))) rfl rfl) (zQ (.bool (false)) (yaa (yak rfl rfl ⟨_,rfl,(hS.sel []),h⟩)))))))))))))))))
  clear hJ;intro j;refine zr (zq (yaq (vs:=[(ii d),(.slice Ad ld cd)]) rfl underlying24 rfl yao ⟨Row.cell (hS.bx 1 rfl) (i:=0) rfl,Row.cell (hS.bx 1 rfl) (i:=1) rfl,trivial⟩) (zn (yam rfl (am1 rfl) enter_49 ((ylG h (yaB _) (hS.rdr 0 rfl)).mono ?_))));rintro _ w9 ⟨r12,rfl,hC,h⟩;replace hS:=hS.pur hC.pure;clear hC;refine ⟨_,rfl,?_⟩;refine zb (zq (ycX rfl) (zM (.bool (!(r12))) ?_));by_cases hp4:r12=true
  · replace h:=h.1 hp4;refine zW rfl rfl (zC (zB hp4)) (yan rfl underlying24 rfl yaj) (zW rfl rfl (zC (zB hp4)) (zl underlying3 (Row.cell (hS.bx 1 rfl) (i:=0) rfl)) (zW rfl rfl (zC (zB hp4)) zL (zq (yal (v:=(.bool (decide (d<2)))) (zC (zB hp4)) rfl) (yaa ?_))));by_cases hp5:d<2
    · replace h:=h.1 hp5;refine zc hp5 (zs (zn (yam rfl (am0) enter_50 ((yly h (yaB _)).mono ?_))));rintro _ w10 ⟨r13,rfl,hC,h⟩;replace hS:=hS.pur hC.pure;clear hC;refine ⟨_,rfl,?_⟩;exact zb (zQ (.bool (r13)) (yaa (yak rfl rfl ⟨_,rfl,(hS.sel []),h⟩)))
    · replace h:=h.2 hp5;exact zd hp5 (yag (j _ _ _ ⟨h,rfl,rfl,(hS.sel [1,0])⟩))
  · replace h:=h.2 hp4;refine zV rfl rfl (zC (zB (zI hp4))) (zV rfl rfl (zC (zB (zI hp4))) (zV rfl rfl (zC (zB (zI hp4))) (zq (yas (v:=(.bool (true))) (zC (zB (zI hp4))) rfl) (yaa (yar rfl (zs (zn (yam rfl (am0) enter_50 ((yly h (yaB _)).mono ?_)))))))));rintro _ w11 ⟨r14,rfl,hC,h⟩;replace hS:=hS.pur hC.pure;clear hC;refine ⟨_,rfl,?_⟩;exact zb (zQ (.bool (r14)) (yaa (yak rfl rfl ⟨_,rfl,(hS.sel []),h⟩)))
end Go.Proofs.YtadpnlimiblniaaGreat

/- Layer 40: the fixed examples; the laws that compare with the reference. -/
namespace Go.Proofs.YtadpnlimiblniaaGreat
open Go Go.RowKit Go.Shelf Go.Proofs.Tryz
theorem eff3{e:List Int}(h:Eff 3 e 1):e=[0,0,1]∨e=[0,1,0]∨e=[1,0,0]:=by
  have:e∈ycp 3 1:=eff_list (n:=2) (k:=1) h
  have h2:ycp 3 1=[[0,0,1],[0,1,0],[1,0,0]]:=by decide
  rw [h2] at this
  simpa using this
theorem win3{es:List E3}{x:List Int}(s0 s1 s2:Int)(h:∀ v,v<3→0≤gi x v-Lp 3 es (fun i=>if i=0 then s0 else if i=1 then s1 else s2) v):Win 3 es x:=⟨_,h⟩
theorem gon_tri:GonOk 3 tri 2 [0,0,2]:=by
  have w01:W tri 0 1=1:=by decide
  have w02:W tri 0 2=1:=by decide
  have w12:W tri 1 2=1:=by decide
  refine ⟨by omega,⟨0,by decide,by decide,fun j hj=>by omega⟩,fun e he=>?_,fun k' h1 h2 y hy hal=>?_⟩
  · rcases eff3 he with rfl | rfl | rfl
    · exact win3 0 0 0 (by decide)
    · exact win3 0 0 1 (by decide)
    · exact win3 0 0 1 (by decide)
  · have e:k'=1:=by omega
    subst e
    have lose:∀ x:List Int,(gi x 0+gi x 1+gi x 2=0)→(gi x 1+2*gi x 2) % 3≠0→¬Win 3 tri x:=by
      rintro x h0 h1 ⟨s,hs⟩
      have a0:=hs 0 (by omega);have a1:=hs 1 (by omega);have a2:=hs 2 (by omega)
      simp only [Lp,sm] at a0 a1 a2
      rw [yhC,w01,w02] at a0
      rw [yhC,ye0 tri 1 0,w01,w12] at a1
      rw [yhC,ye0 tri 2 0,ye0 tri 2 1,w02,w12] at a2
      omega
    have u:∀ v,v<3→Eff 3 (yfw (List.replicate 3 0) v 1) 1:=fun v hv=>by
      have:=(yfe 3).add (v:=v) hv (k:=1) (by have:=(yfe 3).pos v hv;omega)
      rwa [Int.zero_add] at this
    have hy2:y∈[[0,0,1],[0,1,0],[1,0,0]]:=by
      have h2:ycp 3 1=[[0,0,1],[0,1,0],[1,0,0]]:=by decide
      rwa [←h2]
    simp only [List.mem_cons,List.not_mem_nil,or_false] at hy2
    rcases hy2 with rfl | rfl | rfl
    · exact lose _ (by decide) (by decide) (hal _ (u 0 (by omega)))
    · exact lose _ (by decide) (by decide) (hal _ (u 0 (by omega)))
    · exact lose _ (by decide) (by decide) (hal _ (u 1 (by omega)))
theorem j_tri:yaS 3 tri=0:=by decide +kernel
theorem small_getI{n:Int}{es:List E3}{a b:Int}(h:yi8 n es a b=true):es.length≤40∧(yav n es=0→n≤a∧(es.map (·.2.2)).sum≤b):=of_decide_eq_true h
theorem ykv{n:Int}{es:List E3}{R:Bool→Prop}(h:R (yi8 n es 5 7)):ykc n es R:=p_r08_small h
section
variable {n : Int} {es : List E3} {s : List (List Int)} (hl : es.length ≤ 40) (h6 : yav n es = 0 → n ≤ 6)
include hl h6
end
theorem pts_len(n:Nat):(ptsF n).length=n:=by simp [ptsF]
theorem gok_small{n:Int}{es:List E3}(hs:yi8 n es 5 7=true)(hj:yaS n es=0):∃ k:Nat,n=k∧GOk k es:=by
  obtain ⟨k,rfl,_,_⟩:=ycH (ybn hj).1
  exact ⟨k,rfl,gok_of hs (ybn hj).1 (ybn hj).2⟩
end Go.Proofs.YtadpnlimiblniaaGreat

/- Layer 40: the laws GonalityProves, GonalityBounds and GonalityEggs. -/
namespace Go.Proofs.YtadpnlimiblniaaGreat
open Go Go.RowKit Go.Shelf Go.Proofs.Tryz
theorem hit_is{n:Nat}(hn:n≤6)(s:List (List Int)):((∀ y∈yeV n,hitB s y=false)∧hitF n s=(-1,[]))∨∃ m,m∈yeV n∧hitB s m=true∧(∀ y∈yeV n,hitB s y=true→(m.length:Int)≤(y.length:Int))∧hitF n s=((m.length:Int),m) :=
  lst_is hn (fun y=>(y.length:Int)) (hitB s) fun y=>Int.natCast_nonneg _
theorem sep_is{n:Nat}(hn:n≤6)(es:List E3)(s:List (List Int)):((∀ y∈yeV n,parB s y=false)∧sepF n es s=(-1,[]))∨∃ m,m∈yeV n∧parB s m=true∧(∀ y∈yeV n,parB s y=true→(cutN es m:Int)≤(cutN es y:Int))∧sepF n es s=((cutN es m:Int),m) :=
  lst_is hn (fun y=>(cutN es y:Int)) (parB s) fun y=>Int.natCast_nonneg _
theorem hit_le{n:Nat}(hn:n≤6){s:List (List Int)}{y:List Int}(hy:y∈yeV n)(h:hitB s y=true):0≤(hitF n s).1∧(hitF n s).1≤(y.length:Int):=by
  rcases hit_is hn s with ⟨h1,_⟩ | ⟨m,_,_,h3,h4⟩
  · rw [h1 y hy] at h;cases h
  · rw [h4];exact ⟨Int.natCast_nonneg _,h3 y hy h⟩
theorem sep_le{n:Nat}(hn:n≤6){es:List E3}{s:List (List Int)}{y:List Int}(hy:y∈yeV n)(h:parB s y=true):0≤(sepF n es s).1∧(sepF n es s).1≤(cutN es y:Int):=by
  rcases sep_is hn es s with ⟨h1,_⟩ | ⟨m,_,_,h3,h4⟩
  · rw [h1 y hy] at h;cases h
  · rw [h4];exact ⟨Int.natCast_nonneg _,h3 y hy h⟩
theorem ord_le1{n:Nat}{es:List E3}{s:List (List Int)} : ordF n es s≤(hitF n s).1:=by
  unfold ordF mnF
  split
  · exact Int.le_refl _
  · split <;> omega
theorem ord_le2{n:Nat}{es:List E3}{s:List (List Int)}(h:0≤(sepF n es s).1):ordF n es s≤(sepF n es s).1:=by
  unfold ordF mnF
  rw [if_neg (by omega)]
  split <;> omega
theorem ykQ{egg set:List Int} : ygL egg set=true↔∃ v∈egg,v∈set:=by
  unfold ygL;rw [List.any_eq_true];simp
theorem hitB_iff{s:List (List Int)}{set:List Int} : hitB s set=true↔∀ e∈s,ygL e set=true:=by
  unfold hitB
  rw [Bool.not_eq_true',Bool.eq_false_iff]
  constructor
  · intro h e he
    cases q:ygL e set
    · exact absurd (List.any_eq_true.2 ⟨e,he,by rw [q];rfl⟩) h
    · rfl
  · intro h q
    obtain ⟨e,he,h2⟩:=List.any_eq_true.1 q
    rw [h e he] at h2;cases h2
theorem covB_iff{set egg:List Int} : covB set egg=true↔∀ v∈egg,v∈set:=by
  unfold covB
  rw [Bool.not_eq_true',Bool.eq_false_iff]
  constructor
  · intro h v hv
    exact Classical.byContradiction fun q=>h (List.any_eq_true.2 ⟨v,hv,by simpa using q⟩)
  · intro h q
    obtain ⟨v,hv,h2⟩:=List.any_eq_true.1 q
    have:=h v hv
    simp [this] at h2
theorem parB_iff{s:List (List Int)}{set:List Int} : parB s set=true↔(∃ e∈s,∀ v∈e,v∈set)∧∃ e∈s,∀ v∈e,v∉set:=by
  unfold parB
  rw [Bool.and_eq_true,List.any_eq_true,List.any_eq_true]
  constructor
  · rintro ⟨⟨e,he,h1⟩,f,hf,h2⟩
    refine ⟨⟨e,he,covB_iff.1 h1⟩,f,hf,fun v hv q=>?_⟩
    rw [ykQ.2 ⟨v,hv,q⟩] at h2;cases h2
  · rintro ⟨⟨e,he,h1⟩,f,hf,h2⟩
    refine ⟨⟨e,he,covB_iff.2 h1⟩,f,hf,?_⟩
    cases q:ygL f set
    · rfl
    · obtain ⟨v,hv,q⟩:=ykQ.1 q
      exact absurd q (h2 v hv)
theorem all_hit{n:Nat}{es:List E3}{s:List (List Int)}(hS:ScrOk n es s):hitB s (ykF n fun _=>true)=true:=by
  refine hitB_iff.2 fun e he=>ykQ.2 ?_
  obtain ⟨h1,h2,_⟩:=ylN (hS.e e he)
  have hl:0<e.length:=by
    cases e with
    | nil=>exact absurd rfl h2
    | cons=>simp
  have:=h1.r 0 hl
  exact ⟨gi e 0,yjo hl,ykO.2 ⟨(gi e 0).toNat,by omega,rfl,by omega⟩⟩
theorem hit_of{n:Nat}{es:List E3}{s:List (List Int)}(hn:n≤6)(hS:ScrOk n es s):∃ m,m∈yeV n∧hitB s m=true∧(∀ y∈yeV n,hitB s y=true→(m.length:Int)≤(y.length:Int))∧hitF n s=((m.length:Int),m):=by
  rcases hit_is hn s with ⟨h1,_⟩ | h
  · have:=all_hit hS
    rw [h1 _ (ylK n _)] at this;cases this
  · exact h
theorem vset_len{U:Nat→Bool} : ∀ n,((ykF n U).length:Int)=sm n fun v=>if U v=true then 1 else 0
  | 0=>rfl
  | n+1=>by
    have ih:=vset_len (U:=U) n
    have e:ykF (n+1) U=ykF n U++if U n=true then [(n:Int)] else []:=by
      unfold ykF
      rw [List.range_succ,List.filter_append,List.map_append]
      congr 1
      by_cases c:U n=true
      · simp [c]
      · simp [c]
    rw [e,List.length_append,sm,←ih]
    split <;> simp
theorem cutN_cons(x:E3)(es:List E3)(set:List Int):(cutN (x::es) set:Nat)=(if (decide (x.1∈set) != decide (x.2.1∈set))=true then x.2.2.toNat else 0)+cutN es set:=by
  have e:yeK (x::es)=List.replicate x.2.2.toNat (x.1,x.2.1)++yeK es:=by unfold yeK;rw [List.flatMap_cons]
  unfold cutN
  rw [e,List.countP_append,List.countP_replicate]
theorem cutW_W{n:Nat}{U:Nat→Bool} : ∀ {es:List E3},EOk n es→((cutN es (ykF n U):Nat):Int)=cutW n es U
  | [],_=>by
    have h:cutW n [] U=0:=by
      unfold cutW
      rw [yaw (g:=fun _=>0) fun v hv=>by rw [yaw (g:=fun _=>0) fun u hu=>by rw [W_nil];split <;> rfl];exact ybJ n]
      exact ybJ n
    rw [h];rfl
  | x::es,hE=>by
    have ih:=cutW_W (n:=n) (U:=U) (es:=es) fun y hy=>hE y (by simp [hy])
    have hx:=hE x (by simp)
    have h1:cutW n (x::es) U=sm n (fun v=>sm n fun u=>if U v && !U u then w1 x v u else 0)+cutW n es U:=by
      unfold cutW
      rw [←ycc]
      refine yaw fun v hv=>?_
      rw [←ycc]
      refine yaw fun u hu=>?_
      rw [ygd]
      split <;> omega
    obtain ⟨a,ha⟩:∃ a:Nat,x.1=a:=⟨x.1.toNat,by omega⟩
    obtain ⟨b,hb⟩:∃ b:Nat,x.2.1=b:=⟨x.2.1.toNat,by omega⟩
    have han:a<n:=by omega
    have hbn:b<n:=by omega
    have ma:decide (x.1∈ykF n U)=U a:=by
      rw [ha]
      cases q:U a
      · exact decide_eq_false fun z=>by have:=(mem_vsetL'.1 z).2;rw [q] at this;cases this
      · exact decide_eq_true (mem_vsetL'.2 ⟨han,q⟩)
    have mb:decide (x.2.1∈ykF n U)=U b:=by
      rw [hb]
      cases q:U b
      · exact decide_eq_false fun z=>by have:=(mem_vsetL'.1 z).2;rw [q] at this;cases this
      · exact decide_eq_true (mem_vsetL'.2 ⟨hbn,q⟩)
    rw [cutN_cons,ma,mb,h1,←ih]
    have key:sm n (fun v=>sm n fun u=>if U v && !U u then w1 x v u else 0)=if (U a != U b)=true then x.2.2 else 0:=by
      by_cases c:U a=U b
      · rw [if_neg (by simp [c])]
        rw [yaw (g:=fun _=>0) fun v hv=>?_]
        · exact ybJ n
        rw [yaw (g:=fun _=>0) fun u hu=>?_]
        · exact ybJ n
        unfold w1
        rw [ha,hb]
        split
        · rename_i q
          rw [if_neg]
          rintro ⟨_,⟨z1,z2⟩ | ⟨z1,z2⟩⟩
          · have e1:a=v:=by omega
            have e2:b=u:=by omega
            subst e1 e2;rw [c] at q;simp at q
          · have e1:a=u:=by omega
            have e2:b=v:=by omega
            subst e1 e2;rw [c] at q;simp at q
        · rfl
      · rw [if_pos (by simpa using c)]
        have hne:a≠b:=fun q=>c (by rw [q])
        have two:∀ p q:Nat,p<n→q<n→U p=true→U q=false→(∀ v u,(U v && !U u)=true→w1 x v u=if v=p then (if u=q then x.2.2 else 0) else 0)→sm n (fun v=>sm n fun u=>if U v && !U u then w1 x v u else 0)=x.2.2:=by
          intro p q hp hq hUp hUq hw
          rw [yaw (g:=fun v=>if v=p then x.2.2 else 0) fun v hv=>?_]
          · exact ye9 _ hp
          by_cases e:v=p
          · rw [if_pos e]
            rw [yaw (g:=fun u=>if u=q then x.2.2 else 0) fun u hu=>?_]
            · exact ye9 _ hq
            by_cases e2:(U v && !U u)=true
            · rw [if_pos e2,hw v u e2,if_pos e]
            · rw [if_neg e2,if_neg]
              rintro rfl
              exact e2 (by rw [e,hUp,hUq];rfl)
          · rw [if_neg e]
            rw [yaw (g:=fun _=>0) fun u hu=>?_]
            · exact ybJ n
            split
            · rename_i e2;rw [hw v u e2,if_neg e]
            · rfl
        cases qa:U a
        · have qb:U b=true:=by cases q:U b;exact absurd (qa.trans q.symm) c;rfl
          refine two b a hbn han qb qa fun v u e2=>?_
          rw [Bool.and_eq_true] at e2
          unfold w1;rw [ha,hb]
          by_cases e:v=b
          · by_cases e3:u=a
            · rw [if_pos e,if_pos e3,if_pos ⟨by omega, .inr ⟨by omega,by omega⟩⟩]
            · rw [if_pos e,if_neg e3,if_neg]
              rintro ⟨_,⟨z1,z2⟩ | ⟨z1,z2⟩⟩ <;> omega
          · rw [if_neg e,if_neg]
            rintro ⟨_,⟨z1,z2⟩ | ⟨z1,z2⟩⟩
            · have:a=v:=by omega
              subst this;rw [qa] at e2;cases e2.1
            · omega
        · have qb:U b=false:=by cases q:U b;rfl;exact absurd (qa.trans q.symm) c
          refine two a b han hbn qa qb fun v u e2=>?_
          rw [Bool.and_eq_true] at e2
          unfold w1;rw [ha,hb]
          by_cases e:v=a
          · by_cases e3:u=b
            · rw [if_pos e,if_pos e3,if_pos ⟨by omega, .inl ⟨by omega,by omega⟩⟩]
            · rw [if_pos e,if_neg e3,if_neg]
              rintro ⟨_,⟨z1,z2⟩ | ⟨z1,z2⟩⟩ <;> omega
          · rw [if_neg e,if_neg]
            rintro ⟨_,⟨z1,z2⟩ | ⟨z1,z2⟩⟩
            · omega
            · have:b=v:=by omega
              subst this;rw [qb] at e2;cases e2.1
    rw [key]
    split <;> omega
theorem ord_le{n:Nat}{es:List E3}{s:List (List Int)}(hn:n≤6)(hS:ScrOk n es s){j:Nat}{d:List Int}(hd:Eff n d j)(hal:AL n es d 1):ordF n es s≤j:=by
  have hN:=hS.nrm
  have h12:=hS.n12
  rcases scr_main hN.ok hd.len hd.pos hal (s.map fun (l:List Int) (v:Nat)=>decide ((v:Int)∈l)) (fun E hE=>by
    obtain ⟨l,hl,rfl⟩:=List.mem_map.1 hE
    obtain ⟨h1,h2,h3⟩:=ylN (hS.e l hl)
    exact egg_of hN h12.2 h1 h2 h3) with ⟨x,hx0,hxs,hx⟩ | ⟨U,⟨E,hE,h1⟩,⟨F,hF,h2⟩,h3⟩
  · rw [hd.deg] at hxs
    have hy:hitB s (ykF n fun v=>decide (1≤x v))=true:=by
      refine hitB_iff.2 fun l hl=>ykQ.2 ?_
      obtain ⟨v,hv,hvl,hvx⟩:=hx _ (List.mem_map.2 ⟨l,hl,rfl⟩)
      exact ⟨v,of_decide_eq_true hvl,mem_vsetL'.2 ⟨hv,decide_eq_true hvx⟩⟩
    have h4:=hit_le hn (ylK n _) hy
    have h5:=ord_le1 (n:=n) (es:=es) (s:=s)
    have h6:((ykF n fun v=>decide (1≤x v)).length:Int)≤sm n x:=by
      rw [vset_len]
      refine ydh fun v hv=>?_
      have:=hx0 v hv
      by_cases c:1≤x v
      · rw [if_pos (decide_eq_true c)];exact c
      · rw [if_neg (by simpa using c)];exact this
    omega
  · obtain ⟨l,hl,rfl⟩:=List.mem_map.1 hE
    obtain ⟨f,hf,rfl⟩:=List.mem_map.1 hF
    rw [hd.deg,←cutW_W hN.ok] at h3
    have hp:parB s (ykF n U)=true:=by
      refine parB_iff.2 ⟨⟨l,hl,fun v hv=>?_⟩,f,hf,fun v hv q=>?_⟩
      · obtain ⟨i,hi,rfl⟩:=List.getElem_of_mem hv
        have:=(ylN (hS.e l hl)).1.r i hi
        rw [yaN hi] at this
        obtain ⟨u,hu⟩:∃ u:Nat,l[i]=u:=⟨l[i].toNat,by omega⟩
        rw [hu] at this ⊢
        exact mem_vsetL'.2 ⟨by omega,h1 u (by omega) (decide_eq_true (by rw [←hu];exact hv))⟩
      · obtain ⟨u,hu1,hu2,rfl⟩:=ykO.1 q
        rw [h2 u hu1 (decide_eq_true hv)] at hu2;cases hu2
    have h4:=sep_le (es:=es) hn (ylK n U) hp
    have h5:=ord_le2 h4.1
    omega
noncomputable def verB (n:Nat) (es:List E3) (k:Int) (d:List Int) (s:List (List Int)):Bool:=@decide (dg d=k∧k≤ordF n es s∧AL n es d 1) (Classical.propDecidable _)
section
variable {n k : Int} {es : List E3} {d : List Int} {s : List (List Int)} (hl : es.length ≤ 40) (hs : yaS n es = 0 → ∃ k : Nat, n = k ∧ GOk k es) (hb : yaS n es = 0 → ybf d n = 0 → ∀ v, v < d.length → -100 ≤ gi d v ∧ gi d v ≤ 100)
include hl hs hb
end
end Go.Proofs.YtadpnlimiblniaaGreat

/- Layer 40: the law GonalityTrees: by Riemann and Roch, and four vertices by a finite check. -/
namespace Go.Proofs.YtadpnlimiblniaaGreat
open Go Go.RowKit Go.Shelf Go.Proofs.Tryz
section
variable {n : Nat} {es : List E3} (G : GOk n es)
include G
end
section
variable {n : Nat} {es : List E3} {j : Nat} {d : List Int} (G : GOk n es) (hd : GonOk n es j d)
include G hd
end
theorem conn_point{es:List E3}(hg:yav 1 es=0):ydD 1 es=true:=by
  obtain ⟨hE,_,_⟩:=ybW (n:=1) hg
  refine (yi7 (n:=1) hE (by omega) (by omega) (q:=0) (by omega)).2 ?_
  rintro S h0 ⟨v,hv,hS⟩
  obtain rfl:v=0:=by omega
  rw [h0] at hS;cases hS
theorem egg_point{n:Nat}{es:List E3}(hN:NrmE n es)(hn:n≤12){v:Nat}(hv:v<n):eggE n es [(v:Int)]=0:=by
  have hs:SetOk n [(v:Int)]:=⟨fun k hk=>by
    have:k=0:=by simpa using hk
    subst this;show 0≤(v:Int)∧(v:Int)<n;omega,fun j k hjk hk=>by
    have:k=0:=by simpa using hk
    omega⟩
  unfold eggE
  rw [if_pos (setOk_sub hs),if_neg (by simp)]
  rw [if_pos]
  exact conn_point (ind_ok hs hN hn (by simp))
theorem pts_ok{n:Nat}{es:List E3}(hj:yaS n es=0):ScrOk n es (ptsF n):=by
  obtain ⟨k,hk,h1,h12⟩:=ycH (ybn hj).1
  refine ⟨hj,by rw [pts_len];omega,fun x hx=>?_⟩
  unfold ptsF at hx
  obtain ⟨v,hv,rfl⟩:=List.mem_map.1 hx
  exact egg_point (nrm_of (ybn hj).1) (by omega) (List.mem_range.1 hv)
end Go.Proofs.YtadpnlimiblniaaGreat

/- The law TopGonalityConnected: connectivity and the points as a scramble. -/
namespace Go.Proofs.YtadpnlimiblniaaGreat
open Go Go.RowKit Go.Shelf Go.Proofs.Tryz
def bitN(u v:Nat):Nat:=u / 2^v % 2
def cutB(es:List E3)(u:Nat):Int:=(es.map fun x=>if bitN u x.1.toNat=bitN u x.2.1.toNat then 0 else x.2.2).sum
theorem bit_two(u v:Nat):bitN u v=0∨bitN u v=1:=by unfold bitN;omega
theorem mask_of{n:Nat}(h2:2≤n)(h5:n≤5){U:Nat→Bool}(h0:U 0=true)(hw:∃ w,w<n∧U w=false):∃ u,u<2^n-1∧u % 2=1∧∀ v,v<n→(bitN u v=1↔U v=true):=by
  let b:Nat→Nat:=fun i=>if i<n∧U i=true then 1 else 0
  have hb:∀ i,(b i=1∧i<n∧U i=true)∨(b i=0∧¬(i<n∧U i=true)):=fun i=>by
    by_cases c:i<n∧U i=true
    · exact .inl ⟨if_pos c,c⟩
    · exact .inr ⟨if_neg c,c⟩
  have hbl:∀ i,b i≤1:=fun i=>by rcases hb i with h | h <;> omega
  have l0:=hbl 0;have l1:=hbl 1;have l2:=hbl 2;have l3:=hbl 3;have l4:=hbl 4
  have b0:b 0=1:=if_pos ⟨by omega,h0⟩
  have hz:∀ i,n≤i→b i=0:=fun i hi=>if_neg fun z=>by omega
  have hiff:∀ i,i<n→(b i=1↔U i=true):=fun i hi=>by
    rcases hb i with ⟨h1,_,h3⟩ | ⟨h1,h3⟩
    · exact ⟨fun _=>h3,fun _=>h1⟩
    · exact ⟨fun z=>by omega,fun z=>absurd ⟨hi,z⟩ h3⟩
  refine ⟨b 0+2*b 1+4*b 2+8*b 3+16*b 4,?_,by omega,fun v hv=>?_⟩
  · obtain ⟨w,hwn,hwU⟩:=hw
    have hbw:b w=0:=if_neg fun z=>by rw [hwU] at z;cases z.2
    have z2:=hz 2;have z3:=hz 3;have z4:=hz 4
    rcases (by omega:n=2∨n=3∨n=4∨n=5) with rfl | rfl | rfl | rfl <;>
      rcases (by omega:w=0∨w=1∨w=2∨w=3∨w=4) with rfl | rfl | rfl | rfl | rfl <;> simp only [Nat.reducePow,Nat.reduceSub] at * <;> omega
  · rw [←hiff v hv]
    unfold bitN
    rcases (by omega:v=0∨v=1∨v=2∨v=3∨v=4) with rfl | rfl | rfl | rfl | rfl <;> simp only [Nat.reducePow] <;> omega
theorem bits_zero{n:Nat}(h2:2≤n)(h5:n≤5){u:Nat}(hu:u<2^n-1):∃ w,w<n∧bitN u w=0:=by
  apply Classical.byContradiction
  intro c
  have h:∀ w,w<n→bitN u w=1:=fun w hw=>(bit_two u w).resolve_left fun z=>c ⟨w,hw,z⟩
  unfold bitN at h
  have a0:=h 0;have a1:=h 1;have a2:=h 2;have a3:=h 3;have a4:=h 4
  rcases (by omega:n=2∨n=3∨n=4∨n=5) with rfl | rfl | rfl | rfl <;> simp only [Nat.reducePow,Nat.reduceSub] at * <;> omega
theorem cutB_N{n:Nat}{u:Nat} : ∀ {es:List E3},EOk n es→cutB es u=((cutN es (ykF n fun v=>decide (bitN u v=1)):Nat):Int)
  | [],_=>rfl
  | x::es,hE=>by
    have ih:=cutB_N (n:=n) (u:=u) (es:=es) fun y hy=>hE y (by simp [hy])
    have hx:=hE x (by simp)
    have mem:∀ a:Int,0≤a→a<n→decide (a∈ykF n fun v=>decide (bitN u v=1))=decide (bitN u a.toNat=1):=fun a h1 h2=>by
      obtain ⟨k,rfl⟩:∃ k:Nat,a=k:=⟨a.toNat,by omega⟩
      rw [Int.toNat_natCast]
      by_cases q:bitN u k=1
      · rw [decide_eq_true q];exact decide_eq_true (mem_vsetL'.2 ⟨by omega,decide_eq_true q⟩)
      · rw [decide_eq_false q];exact decide_eq_false fun z=>q (of_decide_eq_true (mem_vsetL'.1 z).2)
    rw [cutN_cons,mem _ (by omega) (by omega),mem _ (by omega) (by omega)]
    have e:cutB (x::es) u=(if bitN u x.1.toNat=bitN u x.2.1.toNat then 0 else x.2.2)+cutB es u:=by unfold cutB;rw [List.map_cons,List.sum_cons]
    rw [e,ih]
    have h1:=bit_two u x.1.toNat;have h2:=bit_two u x.2.1.toNat
    by_cases c:bitN u x.1.toNat=bitN u x.2.1.toNat
    · rw [if_pos c,c,if_neg (by simp)];omega
    · rw [if_neg c,if_pos]
      · omega
      · rcases h1 with h1 | h1 <;> rcases h2 with h2 | h2
        · exact absurd (h1.trans h2.symm) c
        · rw [h1,h2];rfl
        · rw [h1,h2];rfl
        · exact absurd (h1.trans h2.symm) c
theorem cutB_take{es:List E3}{k:Nat}(hk:k<es.length)(u:Nat):cutB (es.take (k+1)) u=cutB (es.take k) u+if bitN u (ge es k).1.toNat=bitN u (ge es k).2.1.toNat then 0 else (ge es k).2.2:=by
  unfold cutB
  rw [List.take_add_one,List.getElem?_eq_getElem hk,←yc4 hk,List.map_append,List.sum_append]
  simp
structure MinB(n:Nat)(es:List E3)(v:Int):Prop where
  at_:∃ u,u<2^n-1∧u % 2=1∧cutB es u=v
  le:∀ u,u<2^n-1→u % 2=1→v≤cutB es u
theorem ylM{a b:List Int}{R:Int→Prop}(ha:a.length≤1000000000)(h:∀ r,R r):ylz a b R:=by
  refine ⟨fun m v=>∃ k:Nat,v=k∧k+m=a.length,⟨a.length,0,rfl,by omega⟩,?_⟩
  rintro m v ⟨k,rfl,hm⟩
  exact ⟨fun hlt=>⟨⟨by omega,hlt⟩,fun _=>h _,fun q=>⟨⟨by omega,by omega⟩,yhx ⟨fun _=>⟨⟨by omega,by omega⟩,m-1,by omega,k+1,by omega,by omega⟩,fun _=>h _⟩⟩⟩,fun _=>⟨fun _=>h _,fun _=>h _⟩⟩
theorem bit_andJ(u:Nat)(a:Int):((((u:Int) / 2^a.toNat).toNat &&& (1:Int).toNat:Nat):Int)=(bitN u a.toNat:Nat):=by
  have e:((u:Int) / 2^a.toNat)=((u / 2^a.toNat:Nat):Int):=by
    rw [Int.natCast_ediv,Int.natCast_pow];rfl
  rw [e,Int.toNat_natCast]
  show (((u / 2^a.toNat) &&& 1:Nat):Int)=_
  rw [Nat.and_one_is_mod];rfl
theorem ylR{u:Nat}(hu:u<64)(a:Nat):0≤((u:Int) / 2^a)∧((u:Int) / 2^a)<9223372036854775808:=by
  have e:((u:Int) / 2^a)=((u / 2^a:Nat):Int):=by
    rw [Int.natCast_ediv,Int.natCast_pow];rfl
  have:=Nat.div_le_self u (2^a)
  rw [e]
  generalize u / 2^a=z at this ⊢
  omega
theorem p_Connectivity{n:Nat}{es:List E3}(G:GOk n es)(h2:2≤n){R:Int→List Int→Int→Prop}(h:∀ v l,MinB n es v→R v l 0):ylx (n:Int) es R:=by
  have hn5:=G.n5;have hel:=G.el
  have hpw:2^n≤32:=Nat.le_trans (Nat.pow_le_pow_right (n:=2) (j:=5) (by omega) hn5) (by decide)
  have hpw2:4≤2^n:=Nat.le_trans (by decide) (Nat.pow_le_pow_right (n:=2) (i:=2) (by omega) h2)
  have e2:(1*2^((n:Int)).toNat:Int)=((2^n:Nat):Int):=by rw [Int.toNat_natCast,Int.one_mul,Int.natCast_pow];rfl
  refine ydK (by omega) ⟨fun _=>⟨fun q=>by omega,fun _=>⟨⟨by omega,by omega⟩,?_⟩⟩,fun q=>absurd G.g q⟩
  rw [e2]
  generalize hP:2^n=P at hpw hpw2
  refine ⟨i64 (by omega),i64 (by omega),?_⟩
  refine ⟨fun m v v2 v3=>∃ t:Nat,v3=t∧t+m=P-1 ∧ -1≤v∧(v = -1→∀ u,u<t→u % 2=1→False)∧(0≤v→∃ u,u<t∧u % 2=1∧cutB es u=v)∧(∀ u,u<t→u % 2=1→v≤cutB es u),⟨P-1,0,rfl,by omega,by omega,fun _ u hu=>by omega,fun q=>by omega,fun u hu=>by omega⟩,?_⟩
  rintro m v v2 v3 ⟨t,rfl,hm,hv1,hvn,hva,hvl⟩
  refine ⟨fun hlt=>?_,fun hge=>?_⟩
  · have htP:t<P-1:=by omega
    have ht64:t<64:=by omega
    refine ⟨by omega,fun hz=>?_,fun hz=>?_⟩
    · have hodd:t % 2≠1:=fun q=>by
        have:((((t:Int)).toNat &&& (1:Int).toNat:Nat):Int)=(t % 2:Nat):=by rw [Int.toNat_natCast];show ((t &&& 1:Nat):Int)=_;rw [Nat.and_one_is_mod]
        rw [this] at hz;omega
      refine ⟨i64 (by omega),m-1,by omega,t+1,by omega,by omega,hv1,fun q u hu ho=>?_,fun q=>?_,fun u hu ho=>?_⟩
      · by_cases e:u=t
        · exact hodd (e▸ho)
        · exact hvn q u (by omega) ho
      · obtain ⟨u,h1,h3⟩:=hva q
        exact ⟨u,by omega,h3⟩
      · by_cases e:u=t
        · exact absurd (e▸ho) hodd
        · exact hvl u (by omega) ho
    · have hodd:t % 2=1:=by
        have:((((t:Int)).toNat &&& (1:Int).toNat:Nat):Int)=(t % 2:Nat):=by rw [Int.toNat_natCast];show ((t &&& 1:Nat):Int)=_;rw [Nat.and_one_is_mod]
        rw [this] at hz;omega
      -- the next state, whichever
      have nx:∀ (w:Int) (w2:List Int),(w=cutB es t∨w=v)→(w=v→0≤v)→(v<0∨w≤v)→w≤cutB es t→0≤cutB es t→In64 ((t:Int)+1)∧∃ m3,m3<m∧∃ t2:Nat,(t:Int)+1=t2∧t2+m3=P-1 ∧ -1≤w∧(w = -1→∀ u,u<t2→u % 2=1→False)∧(0≤w→∃ u,u<t2∧u % 2=1∧cutB es u=w)∧(∀ u,u<t2→u % 2=1→w≤cutB es u):=by
        intro w w2 hw hw1 hw2 hw3 hc0
        refine ⟨i64 (by omega),m-1,by omega,t+1,by omega,by omega,by rcases hw with q | q;omega;have:=hw1 q;omega,fun q=>by rcases hw with z | z;omega;have:=hw1 z;omega,fun q=>?_,fun u hu ho=>?_⟩
        · rcases hw with z | z
          · exact ⟨t,by omega,hodd,z.symm⟩
          · obtain ⟨u,h1,h3,h4⟩:=hva (hw1 z)
            exact ⟨u,by omega,h3,by rw [h4,z]⟩
        · by_cases e:u=t
          · rw [e];exact hw3
          · have h1:=hvl u (by omega) ho
            rcases hw2 with z | z
            · exact (hvn (by omega) u (by omega) ho).elim
            · omega
      refine ⟨fun m v4 v5=>∃ k:Nat,v5=k∧k+m=es.length∧v4=cutB (es.take k) t∧0≤v4∧v4≤50*k,⟨es.length,0,rfl,by omega,rfl,by omega,by omega⟩,?_⟩
      rintro m4 v4 v5 ⟨k,rfl,hm4,hv4,hv40,hv4b⟩
      refine ⟨fun hlt2=>?_,fun hge2=>?_⟩
      · have hk:k<es.length:=by omega
        have hT:=cutB_take hk t
        have hx:=G.E (ge es k) (by rw [yc4 hk];exact List.getElem_mem hk)
        rw [Int.toNat_natCast,bit_andJ,bit_andJ]
        have d1:=ylR ht64 (ge es k).1.toNat
        have d2:=ylR ht64 (ge es k).2.1.toNat
        refine ⟨⟨by omega,hlt2⟩,⟨by omega,by omega⟩,⟨d1.1,d1.2,by omega,by omega⟩,⟨by omega,by omega⟩,⟨d2.1,d2.2,by omega,by omega⟩,fun c=>⟨i64 (by omega),m4-1,by omega,k+1,by omega,by omega,?_,hv40,by omega⟩,fun c=>⟨i64 (by omega),i64 (by omega),m4-1,by omega,k+1,by omega,by omega,?_,by omega,by omega⟩⟩
        · rw [hT,if_pos (by omega),hv4];omega
        · rw [hT,if_neg (by omega),hv4]
      · have hk:k=es.length:=by omega
        rw [hk,List.take_length] at hv4
        subst hv4
        refine ⟨v<0∨cutB es t≤v,fun hJ=>?_,fun hpos=>⟨fun hgt=>nx v v2 (.inr rfl) (fun _=>hpos) (.inr (Int.le_refl _)) (by omega) hv40,fun hle => .inr (by omega)⟩,fun hneg => .inl (by omega)⟩
        refine ⟨fun m v6 v7=>∃ k:Nat,v7=k∧k+m=n∧v6.length≤k,⟨n,0,rfl,by omega,by simp⟩,?_⟩
        rintro m7 v6 v7 ⟨k,rfl,hm7,hv6⟩
        refine ⟨fun hlt3=>?_,fun hge3=>?_⟩
        · have d1:=ylR ht64 ((k:Int)).toNat
          exact ⟨⟨by omega,by omega⟩,⟨d1.1,d1.2,by omega,by omega⟩,fun _=>⟨by omega,i64 (by omega),m7-1,by omega,k+1,by omega,by omega,by simp;omega⟩,fun _=>⟨i64 (by omega),m7-1,by omega,k+1,by omega,by omega,by omega⟩⟩
        · refine ⟨fun c=>nx _ v6 (.inl rfl) (fun q=>by omega) (.inr (by omega)) (Int.le_refl _) hv40,fun c=>⟨fun c2=>nx _ v6 (.inl rfl) (fun q=>by omega) (.inl c2) (Int.le_refl _) hv40,fun c2=>ylM (by omega) fun r=>⟨fun _=>nx _ v6 (.inl rfl) (fun q=>by omega) (.inr (by omega)) (Int.le_refl _) hv40,fun _=>nx v v2 (.inr rfl) (fun _=>by omega) (.inr (Int.le_refl _)) (by omega) hv40⟩⟩⟩
  · have e:t=P-1:=by omega
    have h0:0≤v:=by
      apply Int.not_lt.1
      intro q
      exact hvn (by omega) 1 (by omega) rfl
    refine h v v2 ⟨?_,fun u hu ho=>hvl u (by omega) ho⟩
    obtain ⟨u,h1,h3⟩:=hva h0
    exact ⟨u,by omega,h3⟩
theorem ylQ{n:Nat}{x:List Int} : x∈ptsF n↔∃ v:Nat,v<n∧x=[(v:Int)]:=by
  unfold ptsF
  rw [List.mem_map]
  exact ⟨fun ⟨v,h1,h2⟩=>⟨v,List.mem_range.1 h1,h2.symm⟩,fun ⟨v,h1,h2⟩=>⟨v,List.mem_range.2 h1,h2.symm⟩⟩
theorem par_pts{n:Nat}{U:Nat→Bool} : parB (ptsF n) (ykF n U)=true↔(∃ v,v<n∧U v=true)∧∃ v,v<n∧U v=false:=by
  rw [parB_iff]
  constructor
  · rintro ⟨⟨e,he,h1⟩,f,hf,h2⟩
    obtain ⟨v,hv,rfl⟩:=ylQ.1 he
    obtain ⟨w,hw,rfl⟩:=ylQ.1 hf
    refine ⟨⟨v,hv,(mem_vsetL'.1 (h1 _ (by simp))).2⟩,w,hw,?_⟩
    cases q:U w
    · rfl
    · exact absurd (mem_vsetL'.2 ⟨hw,q⟩) (h2 _ (by simp))
  · rintro ⟨⟨v,hv,h1⟩,w,hw,h2⟩
    refine ⟨⟨_,ylQ.2 ⟨v,hv,rfl⟩,fun x hx=>?_⟩,_,ylQ.2 ⟨w,hw,rfl⟩,fun x hx=>?_⟩
    · rw [List.mem_singleton.1 hx];exact mem_vsetL'.2 ⟨hv,h1⟩
    · rw [List.mem_singleton.1 hx]
      intro q
      rw [(mem_vsetL'.1 q).2] at h2;cases h2
theorem hit_pts{n:Nat}{es:List E3}(hn:n≤6)(hS:ScrOk n es (ptsF n)):(hitF n (ptsF n)).1=n:=by
  obtain ⟨m,hm,h1,_,e⟩:=hit_of hn hS
  rw [e]
  obtain ⟨U,rfl⟩:=sets_is hm
  show ((ykF n U).length:Int)=n
  rw [vset_len,yaw (g:=fun _=>1) fun v hv=>?_,yd8]
  · omega
  · rw [if_pos]
    obtain ⟨x,hx,hx2⟩:=ykQ.1 (hitB_iff.1 h1 _ (ylQ.2 ⟨v,hv,rfl⟩))
    rw [List.mem_singleton.1 hx] at hx2
    exact (mem_vsetL'.1 hx2).2
theorem cutW_compl{n:Nat}{es:List E3}(U:Nat→Bool):cutW n es (fun v=>!U v)=cutW n es U:=by
  unfold cutW
  rw [ylP]
  refine yaw fun v hv=>yaw fun u hu=>?_
  rw [ye0 es u v]
  show (if (!U u && !!U v)=true then W es v u else 0)=if (U v && !U u)=true then W es v u else 0
  cases U v <;> cases U u <;> rfl
theorem sep_pts{n:Nat}{es:List E3}(G:GOk n es)(h2:2≤n){v:Int}(hv:MinB n es v):(sepF n es (ptsF n)).1=v∧0≤v:=by
  have hn5:=G.n5
  obtain ⟨u,hu,ho,hc⟩:=hv.at_
  obtain ⟨w,hw,hw0⟩:=bits_zero h2 hn5 hu
  have hp:parB (ptsF n) (ykF n fun i=>decide (bitN u i=1))=true:=par_pts.2 ⟨⟨0,by omega,decide_eq_true (by show u / 2^0 % 2=1;simpa using ho)⟩,w,hw,decide_eq_false (by omega)⟩
  have h1:=sep_le (es:=es) (by omega) (ylK n _) hp
  rw [←cutB_N G.E,hc] at h1
  refine ⟨Int.le_antisymm h1.2 ?_,by omega⟩
  rcases sep_is (n:=n) (by omega) es (ptsF n) with ⟨h3,_⟩ | ⟨m,hm,hmp,_,e⟩
  · rw [h3 _ (ylK n _)] at hp;cases hp
  · rw [e]
    obtain ⟨U,rfl⟩:=sets_is hm
    show v≤(cutN es (ykF n U):Int)
    rw [cutW_W G.E]
    have main:∀ U':Nat→Bool,U' 0=true→(∃ w,w<n∧U' w=false)→v≤cutW n es U':=fun U' h0 hw'=>by
      obtain ⟨u',hu',ho',hb'⟩:=mask_of h2 hn5 h0 hw'
      have h5:=hv.le u' hu' ho'
      rw [cutB_N G.E,cutW_W G.E] at h5
      have e2:cutW n es (fun i=>decide (bitN u' i=1))=cutW n es U':=by
        unfold cutW
        refine yaw fun a ha=>yaw fun b hb=>?_
        have ea:decide (bitN u' a=1)=U' a:=by
          cases q:U' a
          · exact decide_eq_false fun z=>by rw [(hb' a ha).1 z] at q;cases q
          · exact decide_eq_true ((hb' a ha).2 q)
        have eb:decide (bitN u' b=1)=U' b:=by
          cases q:U' b
          · exact decide_eq_false fun z=>by rw [(hb' b hb).1 z] at q;cases q
          · exact decide_eq_true ((hb' b hb).2 q)
        show (if (decide (bitN u' a=1) && !decide (bitN u' b=1))=true then W es a b else 0)=_
        rw [ea,eb]
      rwa [e2] at h5
    obtain ⟨⟨a,ha,haU⟩,b,hb,hbU⟩:=par_pts.1 hmp
    cases q:U 0
    · rw [←cutW_compl]
      exact main _ (by rw [q];rfl) ⟨a,ha,by rw [haU];rfl⟩
    · exact main U q ⟨b,hb,hbU⟩
theorem p_anyE{es:List E3}{F:Int→Int→Int→(Bool→Prop)→Prop}{R:Bool→Prop}(hl:es.length≤1000000000)(hF:∀ a b c (R':Bool→Prop),(∀ r,R' r)→F a b c R')(h:∀ b,R b):ylu es F R:=by
  refine ⟨fun m v=>∃ k:Nat,v=k∧k+m=es.length,⟨es.length,0,rfl,by omega⟩,?_⟩
  rintro m v ⟨k,rfl,hm⟩
  exact ⟨fun hlt=>⟨⟨by omega,hlt⟩,hF _ _ _ _ fun r=>⟨fun _=>h _,fun _=>⟨⟨by omega,by omega⟩,m-1,by omega,k+1,by omega,by omega⟩⟩⟩,fun _=>h _⟩
theorem ylH{R:Bool→Prop}(h:R true):yls R:=by
  unfold yls ylv
  have e:([(0,1,1),(0,2,1),(1,2,1)]:List (Int×Int×Int))=tri:=rfl
  rw [e]
  clear e
  refine yeY (by decide) (fun q=>absurd j_tri q) fun _=>⟨3,rfl,tri_ok,fun j d hd=>?_⟩
  obtain ⟨rfl,rfl⟩:=hd.eq gon_tri
  exact ⟨fun _=>h,fun q=>absurd rfl q⟩
theorem p_playPlain{n:Int}{es:List E3}{R:Bool→Prop}(h1:∀ k:Nat,n=k→GOk k es→yaS k es=0→R true)(h2:R false):ylw n es R:=by
  refine ykv ⟨fun hs=>?_,fun _=>h2⟩
  obtain ⟨hl,_⟩:=small_getI hs
  refine yj7 (by omega) ⟨fun c=>?_,fun _=>h2⟩
  obtain ⟨k,rfl,G⟩:=gok_small hs c
  refine p_anyE (by omega) (fun a b c R' h=>h _) fun b=>?_
  cases b
  · exact h1 k rfl G c
  · exact h2
theorem p_topconnected{n:Int}{es:List E3} : ylt n es (fun b=>b=true):=by
  refine ⟨∃ k:Nat,n=k∧2≤k∧GOk k es∧yaS k es=0,?_,p_playPlain (fun k hk G hj=>⟨fun _=>⟨fun _=>ylH rfl,fun q=>⟨k,hk,by omega,G,hj⟩⟩,fun q=>absurd rfl q⟩) ⟨fun q=>(by cases q),fun _=>ylH rfl⟩⟩
  rintro ⟨n,rfl,h2,G,hj⟩
  have hn5:=G.n5;have hl:=G.el
  have hS:=pts_ok hj
  refine yeY hl (fun c=>absurd hj c) fun _=>⟨n,rfl,G,fun j d hd=>?_⟩
  refine p_Connectivity G h2 fun v l hv=>?_
  refine yih hl ?_
  rw [show yj5 n es=ptsF n by unfold yj5;rw [if_pos hj,Int.toNat_natCast],hj]
  refine ygg hl (fun c=>absurd hS.chk c) fun k' hk' _=>?_
  obtain rfl:n=k':=by omega
  have hord:=ord_le (by omega) hS hd.eff hd.al
  obtain ⟨hs1,hs2⟩:=sep_pts G h2 hv
  have hh:=hit_pts (by omega) hS
  refine ⟨i64 (by omega),i64 (by omega),i64 (by omega),fun _=>⟨fun _=>⟨fun _=>ylH rfl,fun q=>absurd hord q⟩,fun q=>absurd ?_ q⟩,fun q=>absurd rfl q⟩
  unfold ordF
  rw [if_neg (by omega),hs1,hh]
  unfold mnF
  split <;> split <;> omega
end Go.Proofs.YtadpnlimiblniaaGreat
