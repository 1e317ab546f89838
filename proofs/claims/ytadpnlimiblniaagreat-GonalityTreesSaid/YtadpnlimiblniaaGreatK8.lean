/- Texts laid together: Lea, Ggn, PGd, Lg, Lh, Li. -/
import Derived.Test.YtadpnlimiblniaaGreatK7
set_option linter.unusedVariables false
set_option linter.unusedSimpArgs false
set_option linter.unusedSectionVars false
/- Check, Hitting, Cut and Order of scrambles: the program and the reference. -/
namespace Go.Proofs.YtadpnlimiblniaaGreat
open Go Go.RowKit Go.Shelf Go.Proofs.Tryz
def eggE(n:Int)(es:List E3)(l:List Int):Int :=
  if subF n l=0 then (if l=[] then 14 else if ydD (l.length:Nat) (made l.length (indL es l))=true then 0 else 13) else subF n l
def yjn(n:Int)(es:List E3):List (List Int)→Int
  | []=>0
  | l::t=>if eggE n es l=0 then yjn n es t else eggE n es l
def ylc(n:Int)(es:List E3)(s:List (List Int)):Int:=if 256<s.length then 5 else yjn n es s
def chkE(n:Int)(es:List E3)(s:List (List Int)):Int:=if yaS n es=0 then ylc n es s else yaS n es
theorem yid{n:Int}{es:List E3} : ∀ {s:List (List Int)},yjn n es s=0↔∀ l∈s,eggE n es l=0
  | []=>by simp [yjn]
  | l::t=>by
    rw [yjn]
    by_cases c:eggE n es l=0
    · rw [if_pos c,yid];simp [c]
    · rw [if_neg c];simp [c]
theorem ybn{n:Int}{es:List E3}(h:yaS n es=0):yav n es=0∧ydD n es=true:=by
  unfold yaS at h
  split at h
  · rename_i c
    split at h
    · rename_i c2;exact ⟨c,c2⟩
    · cases h
  · rename_i c;exact absurd h c
theorem ycH{n:Int}{es:List E3}(h:yav n es=0):∃ k:Nat,n=k∧1≤k∧k≤12:=by
  have hn:(1:Int)≤n∧n≤12:=by
    unfold yav at h;split at h
    · assumption
    · cases h
  exact ⟨n.toNat,by omega,by omega,by omega⟩
theorem ycg{n:Int}{es:List E3}{R:Int→Prop}(hl:es.length≤1000000000)(h:R (yaS n es)):ybd n es R:=by
  refine ⟨hl,fun c=>⟨fun q=>?_,fun q=>?_⟩,fun c=>?_⟩
  · have q:=of_decide_eq_true q
    unfold yaS at h;rw [if_pos q.1,if_pos q.2] at h;exact h
  · unfold yaS at h;rw [if_pos c,if_neg (fun z=>q (decide_eq_true ⟨c,z⟩))] at h;exact h
  · unfold yaS at h;rw [if_neg c] at h;exact h
theorem yj7{n:Int}{es:List E3}{R:Int→Prop}(hl:es.length≤1000000000)(h:R (yaS n es)):yeH n es R:=by
  refine yjC hl ⟨fun c=>?_,fun c=>?_⟩
  · obtain ⟨k,rfl,_,_⟩:=ycH c
    refine ygT hl c ⟨fun q=>?_,fun q=>?_⟩
    · unfold yaS at h;rw [if_pos c,if_pos q] at h;exact h
    · unfold yaS at h;rw [if_pos c,if_neg q] at h;exact h
  · unfold yaS at h;rw [if_neg c] at h;exact h
theorem joined_ind{n:Nat}{es:List E3}{l:List Int}(hN:NrmE n es)(hn:n≤12)(hs:SetOk n l)(hne:l≠[]):yaS (l.length:Nat) (made l.length (indL es l))=if ydD (l.length:Nat) (made l.length (indL es l))=true then 0 else 13:=by
  unfold yaS;rw [if_pos (ind_ok hs hN hn hne)]
theorem made_len{d:Nat}{L:List (Int×Int)}(hd:d≤12):(made d L).length≤1000:=by
  have:(yf2 d (tabE d L)).length≤d*d:=by
    unfold yf2
    have:∀ m,((List.range m).flatMap (rowJ d (tabE d L))).length≤m*d:=fun m=>by
      induction m with
      | zero=>simp
      | succ m ih =>
        rw [List.range_succ,List.flatMap_append,List.length_append]
        have:((List.flatMap (rowJ d (tabE d L)) [m])).length≤d:=by
          rw [List.flatMap_singleton]
          unfold rowJ
          refine Nat.le_trans (List.length_filterMap_le _ _) ?_
          rw [List.length_range];omega
        rw [Nat.add_mul];omega
    exact this d
  have h2:d*d≤12*12:=Nat.mul_le_mul hd hd
  show (yf2 d (tabE d L)).length≤1000
  omega
theorem yer{n:Int}{es:List E3}{s:List (List Int)}{R:Int→Prop}(hl:es.length≤40)(h:R (chkE n es s)):ybN n es s R:=by
  refine ycg (by omega) ⟨fun c=>⟨fun q=>?_,fun q=>?_⟩,fun c=>?_⟩
  · unfold chkE ylc at h;rw [if_pos c,if_pos (by omega)] at h;exact h
  · unfold chkE ylc at h;rw [if_pos c,if_neg (by omega)] at h
    obtain ⟨k,rfl,hk1,hk12⟩:=ycH (ybn c).1
    have hN:=nrm_of (ybn c).1
    refine ⟨fun m v=>∃ i:Nat,v=i∧i+m=s.length∧yjn k es s=yjn k es (s.drop i),⟨s.length,0,rfl,by omega,rfl⟩,?_⟩
    rintro m v ⟨i,rfl,hm,he⟩
    refine ⟨fun hlt=>?_,fun hge=>?_⟩
    · have hi:i<s.length:=by omega
      rw [List.drop_eq_getElem_cons hi,yjn,←yc3 hi] at he
      rw [Int.toNat_natCast]
      refine ⟨⟨by omega,hlt⟩,p_graph_Subset' (by omega) (by omega) hN.g ⟨fun c1=>?_,fun c1=>?_⟩⟩
      · have hs:=yiY c1
        refine yjE hN hk12 hl (fun q=>absurd c1 q) (fun _ e=>?_) (fun _ hne=>?_)
        · refine ⟨fun z=>by omega,fun _=>?_⟩
          have e2:eggE k es (gx s i)=14:=by unfold eggE;rw [if_pos c1,if_pos e]
          rw [he,e2] at h;exact h
        · have hlen:=hs.len
          refine ⟨fun _=>ycg (by have:=made_len (d:=(gx s i).length) (L:=indL es (gx s i)) (by omega);omega) ?_,fun z=>by omega⟩
          rw [joined_ind hN hk12 hs hne]
          have e2:eggE k es (gx s i)=if ydD ((gx s i).length:Nat) (made (gx s i).length (indL es (gx s i)))=true then 0 else 13:=by unfold eggE;rw [if_pos c1,if_neg hne]
          rw [e2] at he
          refine ⟨fun z=>?_,fun z=>?_⟩
          · rw [if_pos z] at he
            exact ⟨⟨by omega,by omega⟩,m-1,by omega,i+1,by omega,by omega,he⟩
          · rw [if_neg z] at he
            rw [he] at h;exact h
      · have e2:eggE k es (gx s i)=subF k (gx s i):=by unfold eggE;rw [if_neg c1]
        rw [e2,if_neg c1] at he
        rw [he] at h;exact h
    · have:i=s.length:=by omega
      rw [he,this,List.drop_length] at h;exact h
  · unfold chkE at h;rw [if_neg c] at h;exact h
structure ScrOk(n:Nat)(es:List E3)(s:List (List Int)):Prop where
  j:yaS n es=0
  l:s.length≤256
  e:∀ x∈s,eggE n es x=0
theorem yiy{n:Nat}{es:List E3}{s:List (List Int)}(h:chkE n es s=0):ScrOk n es s:=by
  unfold chkE at h
  split at h
  · rename_i c
    unfold ylc at h
    split at h
    · cases h
    · rename_i c2;exact ⟨c,by omega,yid.1 h⟩
  · rename_i c;exact absurd h c
theorem ScrOk.chk{n:Nat}{es:List E3}{s:List (List Int)}(h:ScrOk n es s):chkE n es s=0:=by
  unfold chkE ylc
  have:=h.l
  rw [if_pos h.j,if_neg (by omega)];exact yid.2 h.e
theorem egg_zero{n:Nat}{es:List E3}{l:List Int}(h:eggE n es l=0):SetOk n l∧l≠[]∧ydD (l.length:Nat) (made l.length (indL es l))=true:=by
  unfold eggE at h
  split at h
  · rename_i c
    split at h
    · cases h
    · rename_i c2
      split at h
      · rename_i c3;exact ⟨yiY c,c2,c3⟩
      · cases h
  · rename_i c;exact absurd h c
theorem ScrOk.len{n:Nat}{es:List E3}{s:List (List Int)}(h:ScrOk n es s):∀ x∈s,x.length≤n:=fun x hx=>(egg_zero (h.e x hx)).1.len
theorem ScrOk.n12{n:Nat}{es:List E3}{s:List (List Int)}(h:ScrOk n es s):1≤n∧n≤12:=by
  obtain ⟨k,e,h1,h2⟩:=ycH (ybn h.j).1
  omega
theorem ScrOk.nrm{n:Nat}{es:List E3}{s:List (List Int)}(h:ScrOk n es s):NrmE n es:=nrm_of (ybn h.j).1
theorem vset_ok(n:Nat)(U:Nat→Bool):SetOk n (ykF n U):=by
  refine ⟨fun k hk=>?_,fun j k hjk hk=>?_⟩
  · have:gi (ykF n U) k∈ykF n U:=yjo hk
    obtain ⟨v,h1,_,h3⟩:=ykO.1 this
    omega
  · rw [yaN (by omega),yaN hk]
    exact List.pairwise_iff_getElem.1 (vsetL_sorted n U) j k (by omega) hk hjk
theorem yjA{n:Nat}{y:List Int}(h:y∈yeV n):SetOk n y:=by
  obtain ⟨U,rfl⟩:=sets_is h
  exact vset_ok n U
def hitF(n:Nat)(s:List (List Int)):Int×List Int:=lstF (fun y=>((y.length:Int),hitB s y)) (yeV n) (-1,[])
def sepF(n:Nat)(es:List E3)(s:List (List Int)):Int×List Int:=lstF (fun y=>((cutN es y:Int),parB s y)) (yeV n) (-1,[])
theorem ydJ{n:Int}{es:List E3}{s:List (List Int)}{R:Int→List Int→Int→Prop}(hl:es.length≤40)(h0:chkE n es s≠0→R 0 [] (chkE n es s))(h1:∀ k:Nat,n=k→ScrOk k es s→R (hitF k s).1 (hitF k s).2 0):ybh n es s R:=by
  refine yer hl ⟨fun c=>?_,fun c=>h0 c⟩
  have hj:yaS n es=0:=by
    unfold chkE at c;split at c
    · assumption
    · exact c
  obtain ⟨k,rfl,_,_⟩:=ycH (ybn hj).1
  have hS:=yiy c
  have:=hS.n12
  have hsl:=hS.l
  refine p_least (by omega) (val:=fun y=>((y.length:Int),hitB s y)) (fun y hy=>?_) (h1 k rfl hS)
  have:=(yjA hy).len
  exact ⟨by omega,fun R' h'=>p_Hitting_1 (by omega) (by omega) (fun e he=>by have:=hS.len e he;omega) h'⟩
theorem p_Cut_1{n:Nat}{es:List E3}{s:List (List Int)}(hS:ScrOk n es s)(hl:es.length≤40){y:List Int}(hy:SetOk n y){R:Int→Bool→Int→Prop}(h1:parB s y=true→R (cutN es y:Nat) true 0)(h2:parB s y=false→R 0 false 0):yce y s (n:Int) es 0 R:=by
  have hn:=hS.n12
  have hsl:=hS.l
  have hyl:=hy.len
  have hel:∀ e∈s,e.length≤1000000000:=fun e he=>by have:=hS.len e he;omega
  refine p_anySS (p:=fun egg=>covB y egg) (by omega) (fun x hx R' h'=>yib (by omega) (hel x hx) h') ?_
  refine p_anySS (p:=fun egg=>!ygL egg y) (by omega) (fun x hx R' h'=>ygf (by omega) (hel x hx) h') ?_
  refine ⟨parB s y=true,fun z=>p_graph_Cut hS.nrm hn.2 hl hy fun out ho=>?_,fun za=>⟨fun zb=>?_,fun zb=>h2 ?_⟩,fun za=>h2 ?_⟩
  · rw [ho];exact ⟨fun _=>h1 z,fun q=>absurd rfl q⟩
  · unfold parB;rw [za,zb];rfl
  · unfold parB;rw [Bool.eq_false_iff.2 zb,Bool.and_false]
  · unfold parB;rw [Bool.eq_false_iff.2 za,Bool.false_and]
theorem p_least_v2{n:Nat}{es:List E3}{s:List (List Int)}(hS:ScrOk n es s)(hl:es.length≤40){R:Int→List Int→Int→Prop}(h:R (sepF n es s).1 (sepF n es s).2 0):ycd (n:Int) s (n:Int) es 0 R:=by
  have hn:=hS.n12
  show ∃ Pr Rr:List (List Int)→Prop,_
  refine ⟨_,_,p_sets_1 (by omega),fun pre v best first=>v=0∧(best,first)=lstF (fun y=>((cutN es y:Int),parB s y)) pre (-1,[]),⟨rfl,rfl⟩,?_,?_⟩
  · rintro pre y v best first ⟨rfl,hI⟩ hPr
    have hy:SetOk n y:=yjA (hPr.subset (by simp))
    have hyl:=hy.len
    have hs:=yhX (fun y=>((cutN es y:Int),parB s y)) pre y (-1,[])
    rw [←hI] at hs
    refine p_Cut_1 hS hl hy (fun c=>⟨fun _=>⟨fun q2=>yhZ (by omega) ⟨rfl,?_⟩,fun q2=>⟨fun q3=>yhZ (by omega) ⟨rfl,?_⟩,fun q3=>⟨rfl,?_⟩⟩⟩,fun q=>absurd rfl q⟩) (fun c=>⟨fun q=>(by cases q),fun _=>⟨rfl,?_⟩⟩)
    · exact (hs.trans (if_pos ⟨c, .inl q2⟩)).symm
    · exact (hs.trans (if_pos ⟨c, .inr q3⟩)).symm
    · exact (hs.trans (if_neg (fun z=>z.2.elim q2 q3))).symm
    · exact (hs.trans (if_neg (fun z=>by rw [c] at z;cases z.1))).symm
  · rintro ys v best first ⟨rfl,hI⟩ hR
    have hR:ys=yeV n:=hR
    subst hR
    unfold sepF at h
    rw [←hI] at h
    exact h
theorem yft{n:Int}{es:List E3}{s:List (List Int)}{R:Int→List Int→Int→Prop}(hl:es.length≤40)(h0:chkE n es s≠0→R 0 [] (chkE n es s))(h1:∀ k:Nat,n=k→ScrOk k es s→R (sepF k es s).1 (sepF k es s).2 0):ybO n es s R:=by
  refine yer hl ⟨fun c=>?_,fun c=>h0 c⟩
  have hj:yaS n es=0:=by
    unfold chkE at c;split at c
    · assumption
    · exact c
  obtain ⟨k,rfl,_,_⟩:=ycH (ybn hj).1
  have hS:=yiy c
  exact p_least_v2 hS hl ⟨fun _=>h1 k rfl hS,fun q=>absurd rfl q⟩
def ordF(n:Nat)(es:List E3)(s:List (List Int)):Int:=if (sepF n es s).1<0 then (hitF n s).1 else mnF (hitF n s).1 (sepF n es s).1
theorem ygg{n:Int}{es:List E3}{s:List (List Int)}{R:Int→Int→Prop}(hl:es.length≤40)(h0:chkE n es s≠0→R 0 (chkE n es s))(h1:∀ k:Nat,n=k→ScrOk k es s→R (ordF k es s) 0):ybM n es s R:=by
  refine ydJ hl (fun c=>⟨fun q=>absurd q c,fun _=>h0 c⟩) fun k hk hS=>⟨fun _=>?_,fun q=>absurd rfl q⟩
  refine yft hl (fun c=>absurd (by rw [hk];exact hS.chk) c) fun k' hk' _=>⟨fun _=>?_,fun q=>absurd rfl q⟩
  have e:k'=k:=by omega
  subst e
  have h:=h1 k' hk hS
  unfold ordF at h
  exact ⟨fun c=>by rw [if_pos c] at h;exact h,fun c=>by rw [if_neg c] at h;exact h⟩
section
variable {n : Nat} {es : List E3} {s : List (List Int)} (hS : ScrOk n es s) (hl : es.length ≤ 40) (hn6 : n ≤ 6)
include hS hl hn6
end
end Go.Proofs.YtadpnlimiblniaaGreat

/- Gonality: the first effective divisor of the least degree whose rank is at least 1; the program and the reference. -/
namespace Go.Proofs.YtadpnlimiblniaaGreat
open Go Go.RowKit Go.Shelf Go.Proofs.Tryz
theorem first_setG(N:Nat)(k:Int):(List.replicate (N+1) (0:Int)).set N k=ydX (N+1) k:=by
  refine ygi (by rw [List.length_set,List.length_replicate,yhO (by omega)]) fun i hi=>?_
  rw [List.length_set,List.length_replicate] at hi
  rw [ycQ (by rw [List.length_replicate];omega),gi_firstF,yhs hi]
  rfl
theorem yju{N k:Nat}(hN:N≤4)(hk:k≤6):ybX (ydX (N+1) (k:Int)) (fun p=>p <+: ycp (N+1) k) (fun p=>p=ycp (N+1) k):=by
  unfold ybX
  obtain ⟨⟨B0,hB0⟩,hst⟩:=yhl N k
  have hmem:∀ x∈ycp (N+1) k,x.length=N+1∧∀ j,j<N+1 → -1000000≤gi x j∧gi x j≤1000000:=fun x hx=>by
    obtain ⟨h1,h2,h3⟩:=(yed N k x).1 hx
    exact ⟨h1,fun j hj=>by have:=dg_entry h2 (j:=j) (by omega);omega⟩
  generalize ycp (N+1) k=L at hB0 hst hmem ⊢
  refine ⟨fun q pre more v=>∃ B,L=pre++B∧q=B.length∧(more=true→∃ B',B=v::B')∧(more=false→B=[]),⟨L.length,L,rfl,rfl,fun _=>⟨B0,hB0⟩,fun q=>(by cases q)⟩,?_⟩
  rintro q pre more v ⟨B,hL,rfl,hm,hn⟩
  refine ⟨fun hmt=>?_,fun hmf=>?_⟩
  · obtain ⟨B',rfl⟩:=hm hmt
    obtain ⟨hvl,hvb⟩:=hmem v (by rw [hL];simp)
    have hL2:L=(pre++[v])++B':=by rw [hL];simp
    have hat:=(show ygn (pre++v::B') none by rw [←hL];exact hst).at_
    refine ygo (by omega) ⟨⟨B',hL2.symm⟩,?_,trivial⟩
    refine p_chips_step (by omega) (by omega) (fun j hj=>hvb j (by omega)) (fun y hy=>⟨B'.length,by simp,B',hL2,rfl,fun _=>?_,fun q=>(by cases q)⟩) (fun hno=>?_)
    · rw [hy] at hat
      cases B' with
      | nil=>simp at hat
      | cons z B'=>simp at hat;exact ⟨B',by rw [hat]⟩
    · rw [hno] at hat
      refine ⟨B'.length,by simp,B',hL2,rfl,fun q=>(by cases q),fun _=>?_⟩
      cases B' with
      | nil=>rfl
      | cons z B'=>simp at hat
  · have hB:=hn (by simpa using hmf)
    rw [hB,List.append_nil] at hL
    exact hL.symm
def cntG(k:Nat):Nat→Int
  | 0=>1
  | i+1=>if i=0 then 1 else (cntG k i*((k:Int)+i)).tdiv i
theorem cntG_ok:∀ k,k<6→∀ j,j<5→0<j→(0≤cntG k j∧cntG k j≤1000)∧(0≤cntG k j*((k:Int)+j)∧cntG k j*((k:Int)+j)≤10000)∧(cntG k j*((k:Int)+j)).tdiv (j:Int)=cntG k (j+1)∧(0≤cntG k (j+1)∧cntG k (j+1)≤1000):=by decide
theorem p_chips_AllG{N k:Nat}{R:List (List Int)→Int→Prop}(hN:N≤4)(hk:k≤5)(h:R (ycp (N+1) k) 0):yeg ((N+1:Nat):Int) (k:Int) R:=by
  unfold yeg
  have hv:∀ {R':Int→Prop},R' 0→ybu ((N+1:Nat):Int) R':=fun h=>by
    unfold ybu
    exact ⟨fun q=>by omega,fun _=>⟨fun q=>by omega,fun _=>h⟩⟩
  refine hv ⟨fun _=>?_,fun q=>absurd rfl q⟩
  · refine ⟨True,fun _=>?_,fun q=>by omega,fun _=>⟨fun q=>by omega,fun _=>trivial⟩⟩
    refine ⟨fun q c i=>∃ j:Nat,i=(j:Int)∧1≤j∧j≤N+1∧q=N+1-j∧c=cntG k j,⟨N,1,rfl,by omega,by omega,by omega,rfl⟩,?_⟩
    rintro q c _ ⟨j,rfl,h1,hj,rfl,rfl⟩
    refine ⟨fun hlt=>?_,fun hge=>?_⟩
    · obtain ⟨k1,k2,k3,k4⟩:=cntG_ok k (by omega) j (by omega) (by omega)
      rw [k3]
      exact ⟨i64 (by omega),i64 (by omega),by omega,i64 (by omega),fun q=>by omega,fun _=>⟨i64 (by omega),N+1-(j+1),by omega,j+1,rfl,by omega,by omega,rfl,rfl⟩⟩
    · have e1:(((N+1:Nat):Int)-1).toNat=N:=by omega
      rw [e1,Int.toNat_natCast,first_setG]
      refine ⟨by omega,i64 (by omega),by simp;omega,?_⟩
      unfold yeP ybg yaM
      have hlen:=list_few (n:=N) (k:=k) (by omega) (by omega)
      refine ⟨fun p=>p <+: ycp (N+1) k,fun p=>p=ycp (N+1) k,yju hN (by omega),fun p s=>s=p,rfl,fun pre y s hs hp=>⟨?_,by rw [hs]⟩,fun ys s hs hys=>by rw [hs,hys];exact h⟩
      have:=hp.length_le
      rw [List.length_append,List.length_singleton] at this
      rw [hs];omega
theorem p_graph_EndsI{n:Nat}{es:List E3}{R:List (Int×Int)→Int→Prop}(hl:es.length≤100)(q:yav n es=0)(h:R (yeK es) 0):yeI (n:Int) es R:=by
  refine ydK (by omega) ⟨fun q=>?_,fun c=>absurd q c⟩
  obtain ⟨hE,hn1,hn12⟩:=ybW q
  show ∃ Pr Rr:List (Int×Int×Int)→Prop,_
  refine ⟨_,_,yd3 hE (by omega),fun pre out=>out=pre.map fun y=>(y.2.1,y.2.2),rfl,?_,?_⟩
  · rintro pre e a b out rfl hPr
    have hPr:(pre++[(e,a,b)]).map gmap <+: sF es:=hPr
    have h2:=hPr.length_le
    have h3:=sF_few hE
    rw [List.length_map,List.length_append] at h2
    simp only [List.length_singleton] at h2
    refine ⟨by rw [List.length_map];omega,?_⟩
    show _=List.map _ _
    rw [List.map_append];rfl
  · rintro ys out rfl hR
    have hR:ys.map gmap=sF es:=hR
    have e:ys.map (fun y=>(y.2.1,y.2.2))=yeK es:=by
      rw [←sF_endsI,←hR,List.map_map];rfl
    rw [e];exact h
theorem p_graph_SizeI{n:Nat}{es:List E3}{R:Int→Int→Prop}(hl:es.length≤100)(q:yav n es=0)(h:R ((es.map (·.2.2)).sum) 0):yeL (n:Int) es R:=by
  refine p_graph_EndsI hl q ?_
  rw [(ye6 es (fun x hx=>by have:=(ybW q).1 x hx;omega)).1];exact h
theorem p_AtLeast1{n:Nat}{es:List E3}{d:List Int}{R:Bool→Int→Prop}(hD:DOk n es d)(hg:ybo n es 0 d=0)(h1:AL n es d 1→R true 0)(h2:¬AL n es d 1→R false 0):ycl (n:Int) es d 1 R:=by
  have hel:=hD.G.el
  refine p_rank_AtLeast (by omega) (fun q=>absurd hg q) (fun _ q=>by omega) fun _ _=>⟨hD,fun k hk=>?_⟩
  have hk:RkOk n es d k:=hk
  by_cases c:(1:Int)≤k
  · rw [decide_eq_true c];exact h1 ((hk.ge hD.G.n1).1 c)
  · rw [decide_eq_false c];exact h2 fun q=>c ((hk.ge hD.G.n1).2 q)
structure GonOk(n:Nat)(es:List E3)(k:Nat)(d:List Int):Prop where
  k1:1≤k∧k≤n
  at_:∃ i,i<(ycp n k).length∧gx (ycp n k) i=d∧∀ j,j<i→¬AL n es (gx (ycp n k) j) 1
  al:AL n es d 1
  no:∀ k',1≤k'→k'<k→∀ y∈ycp n k',¬AL n es y 1
theorem GonOk.mem{n:Nat}{es:List E3}{k:Nat}{d:List Int}(h:GonOk n es k d):d∈ycp n k:=by
  obtain ⟨i,hi,rfl,_⟩:=h.at_
  exact ygu hi
theorem GonOk.eff{n:Nat}{es:List E3}{k:Nat}{d:List Int}(h:GonOk n es k d):Eff n d k:=by
  obtain ⟨N,rfl⟩:∃ N,n=N+1:=⟨n-1,by have:=h.k1;omega⟩
  exact yku h.mem
theorem GonOk.eq{n:Nat}{es:List E3}{k k':Nat}{d d':List Int}(h:GonOk n es k d)(h':GonOk n es k' d'):k=k'∧d=d':=by
  have e:k=k':=by
    rcases Nat.lt_trichotomy k k' with q | q | q
    · exact absurd h.al (h'.no k h.k1.1 q d h.mem)
    · exact q
    · exact absurd h'.al (h.no k' h'.k1.1 q d' h'.mem)
  subst e
  refine ⟨rfl,?_⟩
  obtain ⟨i,hi,e1,h1⟩:=h.at_;obtain ⟨j,hj,e2,h2⟩:=h'.at_
  rcases Nat.lt_trichotomy i j with q | q | q
  · exact absurd (by rw [e1];exact h.al) (h2 i q)
  · rw [←e1,←e2,q]
  · exact absurd (by rw [e2];exact h'.al) (h1 j q)
theorem al_ones{n:Nat}{es:List E3}(hn:1≤n):AL n es (List.replicate n 1) 1:=fun e he=>⟨fun _=>0,fun v hv=>by
  have:=he.le hv
  rw [yfl,ygA hv,yaN (by simpa using hv)];simp;omega⟩
theorem ones_mem(N:Nat):List.replicate (N+1) (1:Int)∈ycp (N+1) (N+1):=by
  refine (yed N (N+1) _).2 ⟨by simp,fun a ha=>by rw [(List.mem_replicate.1 ha).2];omega,?_⟩
  have:∀ m:Nat,(List.replicate m (1:Int)).sum=m:=fun m=>by
    induction m with
    | zero=>rfl
    | succ m ih=>rw [List.replicate_succ,List.sum_cons,ih];omega
  exact this _
theorem gok_dok{N:Nat}{es:List E3}(hG:GOk (N+1) es){k:Nat}(hk:k≤5){y:List Int}(hy:y∈ycp (N+1) k):DOk (N+1) es y∧ybo ((N+1:Nat):Int) es 0 y=0∧y.length=N+1:=by
  have he:=yku hy
  have hb:∀ v,v<N+1→0≤gi y v∧gi y v≤5:=fun v hv=>by have:=he.pos v hv;have:=he.le hv;omega
  refine ⟨⟨hG,fun v hv=>by have:=hb v hv;omega,by rw [he.deg];omega⟩,?_,he.len⟩
  rw [given0]
  have hj:yaS ((N+1:Nat):Int) es=0:=by unfold yaS;rw [if_pos hG.g,if_pos hG.c]
  have:=hG.n5
  rw [if_pos hj]
  exact yfE he.len (by omega) (by omega) fun j hj=>by have:=hb j hj;omega
theorem yeY{n:Int}{es:List E3}{R:Int→List Int→Int→Prop}(hl:es.length≤40)(h0:yaS n es≠0→R 0 [] (yaS n es))(h1:yaS n es=0→∃ k:Nat,n=k∧GOk k es∧∀ j d,GonOk k es j d→R j d 0):ybG n es R:=by
  refine ycg (by omega) ⟨fun c=>?_,fun c=>h0 c⟩
  obtain ⟨n,rfl,hG,hR⟩:=h1 c
  have hn1:=hG.n1;have hn5:=hG.n5;have hsu:=hG.su
  obtain ⟨N,rfl⟩:∃ N,n=N+1:=⟨n-1,by omega⟩
  refine p_graph_SizeI (by omega) hG.g ⟨True,fun _=>?_,fun _=>⟨fun q=>by omega,fun _=>⟨fun q=>by omega,fun _=>trivial⟩⟩,fun q=>absurd rfl q⟩
  refine ⟨fun m v=>∃ k:Nat,v=k∧1≤k∧k+m=N+2∧∀ k',1≤k'→k'<k→∀ y∈ycp (N+1) k',¬AL (N+1) es y 1,⟨N+1,1,rfl,by omega,by omega,fun k' h1 h2=>by omega⟩,?_⟩
  rintro m v ⟨k,rfl,hk1,hm,hno⟩
  refine ⟨fun hle=>?_,fun hgt=>?_⟩
  · refine p_chips_AllG (by omega) (by omega) ⟨fun _=>?_,fun q=>absurd rfl q⟩
    have hfew:=list_few (n:=N) (k:=k) (by omega) (by omega)
    refine ⟨fun m v=>∃ i:Nat,v=i∧i+m=(ycp (N+1) k).length∧∀ j,j<i→¬AL (N+1) es (gx (ycp (N+1) k) j) 1,⟨_,0,rfl,Nat.zero_add _,fun j hj=>by omega⟩,?_⟩
    rintro m' v ⟨i,rfl,hm',hi⟩
    refine ⟨fun hlt=>?_,fun hge=>?_⟩
    · have hil:i<(ycp (N+1) k).length:=by omega
      obtain ⟨hD,hg,hlen⟩:=gok_dok hG (k:=k) (by omega) (ygu hil)
      rw [Int.toNat_natCast]
      refine ⟨⟨by omega,hlt⟩,p_AtLeast1 hD hg (fun hal=>⟨fun _=>⟨fun _=>hR k _ ⟨⟨hk1,by omega⟩,⟨i,hil,rfl,hi⟩,hal,hno⟩,fun q=>absurd rfl q⟩,fun q=>absurd rfl q⟩) fun hal=>⟨fun _=>⟨fun q=>(by cases q),fun _=>⟨⟨by omega,by omega⟩,m'-1,by omega,i+1,by omega,by omega,fun j hj=>?_⟩⟩,fun q=>absurd rfl q⟩⟩
      by_cases e:j=i
      · rw [e];exact hal
      · exact hi j (by omega)
    · refine ⟨⟨by omega,by omega⟩,m-1,by omega,k+1,by omega,by omega,by omega,fun k' h1 h2 y hy=>?_⟩
      by_cases e:k'=k
      · subst e
        obtain ⟨j,hj,ej⟩:=List.mem_iff_getElem.1 hy
        rw [←ej,←yc3 hj]
        exact hi j (by omega)
      · exact hno k' h1 (by omega) y hy
  · exact absurd (al_ones hn1) (hno (N+1) (by omega) (by omega) _ (ones_mem N))
def ptsF(n:Nat):List (List Int):=(List.range n).map fun v:Nat=>[(v:Int)]
def prsF:List E3→List (List Int)
  | []=>[]
  | x::t=>(if x.1=x.2.1 then [] else [[x.1,x.2.1]])++prsF t
theorem prsF_app:∀ a b:List E3,prsF (a++b)=prsF a++prsF b
  | [],b=>rfl
  | x::t,b=>by rw [List.cons_append,prsF,prsF,prsF_app t b,List.append_assoc]
theorem prsF_len:∀ a:List E3,(prsF a).length≤a.length
  | []=>Nat.le_refl _
  | x::t=>by
    have:=prsF_len t
    rw [prsF,List.length_append,List.length_cons]
    split <;> simp <;> omega
theorem prsF_take{es:List E3}{k:Nat}(hk:k<es.length):prsF (es.take (k+1))=prsF (es.take k)++if (ge es k).1=(ge es k).2.1 then [] else [[(ge es k).1,(ge es k).2.1]]:=by
  rw [List.take_add_one,List.getElem?_eq_getElem hk,←yc4 hk,prsF_app]
  simp [prsF]
def pairE(n:Int)(es:List E3):List (List Int):=if yaS n es=0 then prsF es else []
def yj5(n:Int)(es:List E3):List (List Int):=if yaS n es=0 then ptsF n.toNat else []
theorem loop_pts{n:Nat}(hn:n≤12){R:List (List Int)→Int→Prop}(h:R (ptsF n) 0):(∃ I2:Nat→(List (List Int))→Int→Prop,(∃ m0,I2 m0 ([]) 0)∧∀ (m2:Nat) (out:List (List Int)) (v:Int),I2 m2 out v → 
((v<(n:Int) →
(out.length+1≤1000000000 ∧
(In64 (v+1) ∧
∃ m3,m3<m2∧I2 m3 (out++[[v]]) (v+1)))) ∧
(¬(v<(n:Int)) →
R out 0))):=by
  refine ⟨fun m out v=>∃ k:Nat,v=k∧k+m=n∧out=ptsF k,⟨n,0,rfl,by omega,rfl⟩,?_⟩
  rintro m out v ⟨k,rfl,hm,rfl⟩
  refine ⟨fun hlt=>⟨by simp [ptsF];omega,⟨by omega,by omega⟩,m-1,by omega,k+1,by omega,by omega,?_⟩,fun hge=>?_⟩
  · unfold ptsF;rw [List.range_succ,List.map_append];rfl
  · have:k=n:=by omega
    rw [this];exact h
theorem yih{n:Int}{es:List E3}{R:List (List Int)→Int→Prop}(hl:es.length≤40)(h:R (yj5 n es) (yaS n es)):ycL n es R:=by
  unfold yj5 at h
  refine ycg (by omega) ⟨fun c=>?_,fun c=>by rw [if_neg c] at h;exact h⟩
  rw [if_pos c,c] at h
  obtain ⟨k,rfl,_,h12⟩:=ycH (ybn c).1
  exact loop_pts h12 h
theorem loop_prs{es:List E3}(hl:es.length≤40){R:List (List Int)→Int→Prop}(h:R (prsF es) 0):(∃ I2:Nat→(List (List Int))→Int→Prop,(∃ m0,I2 m0 ([]) 0)∧∀ (m2:Nat) (out:List (List Int)) (v:Int),I2 m2 out v → 
((v<((es.length:Nat):Int) →
((0≤v∧v<((es.length:Nat):Int)) ∧
((((ge es v.toNat).1)=((ge es v.toNat).2.1) →
(In64 (v+1) ∧
∃ m3,m3<m2∧I2 m3 out (v+1))) ∧
(¬(((ge es v.toNat).1)=((ge es v.toNat).2.1)) →
(out.length+1≤1000000000 ∧
(In64 (v+1) ∧
∃ m4,m4<m2∧I2 m4 (out++[[(ge es v.toNat).1,(ge es v.toNat).2.1]]) (v+1))))))) ∧
(¬(v<((es.length:Nat):Int)) →
R out 0))):=by
  refine ⟨fun m out v=>∃ k:Nat,v=k∧k+m=es.length∧out=prsF (es.take k),⟨es.length,0,rfl,by omega,rfl⟩,?_⟩
  rintro m out v ⟨k,rfl,hm,rfl⟩
  refine ⟨fun hlt=>⟨⟨by omega,hlt⟩,fun c=>⟨⟨by omega,by omega⟩,m-1,by omega,k+1,by omega,by omega,?_⟩,fun c=>⟨?_,⟨by omega,by omega⟩,m-1,by omega,k+1,by omega,by omega,?_⟩⟩,fun hge=>?_⟩
  · rw [Int.toNat_natCast] at c
    rw [prsF_take (by omega),if_pos c,List.append_nil]
  · have:=prsF_len (es.take k)
    rw [List.length_take] at this;omega
  · rw [Int.toNat_natCast] at c ⊢
    rw [prsF_take (by omega),if_neg c]
  · have:k=es.length:=by omega
    rw [this,List.take_length];exact h
theorem yiJ{n:Int}{es:List E3}{R:List (List Int)→Int→Prop}(hl:es.length≤40)(h:R (pairE n es) (yaS n es)):yc7 n es R:=by
  unfold pairE at h
  refine ycg (by omega) ⟨fun c=>?_,fun c=>by rw [if_neg c] at h;exact h⟩
  rw [if_pos c,c] at h
  exact loop_prs hl h
end Go.Proofs.YtadpnlimiblniaaGreat

/- Pure forms of functions, made by program (pf.py), each with the proof that the code does so. -/
namespace Go.Proofs.YtadpnlimiblniaaGreat
open Go Go.RowKit Go.Shelf Go.Proofs.Tryz
set_option maxRecDepth 100000
set_option maxHeartbeats 8000000
def ycS(R:Bool→Prop):Prop :=
ydQ (fun r r2 =>
ybG r r2 (fun r3 r4 r5 =>
ycL r r2 (fun r6 r7 =>
ybO r r2 r6 (fun r8 r9 r10 =>
ybM r r2 r6 (fun r11 r12 =>
ybG 3 ([(0,1,1),(1,2,1)]) (fun r13 r14 r15 =>
yc7 3 ([(0,1,1),(1,2,1)]) (fun r16 r17 =>
ybh 3 ([(0,1,1),(1,2,1)]) r16 (fun r18 r19 r20 =>
(In64 (r5+r7) ∧
(In64 ((r5+r7)+r10) ∧
(In64 (((r5+r7)+r10)+r12) ∧
(In64 ((((r5+r7)+r10)+r12)+r15) ∧
(In64 (((((r5+r7)+r10)+r12)+r15)+r17) ∧
(In64 ((((((r5+r7)+r10)+r12)+r15)+r17)+r20) ∧
((((((((r5+r7)+r10)+r12)+r15)+r17)+r20)=0 →
((r3=2 →
ybb r4 ([0,0,2]) (fun r21 =>
((r21=true →
((r8=2 →
ybr r9 ([0]) (fun r22 =>
((r22=true →
((r11=2 →
((r13=1 →
ybb r14 ([0,0,1]) (fun r23 =>
((r23=true →
((r18=1 →
ybr r19 ([1]) (fun r24 =>
R r24)) ∧
(¬(r18=1) →
R false))) ∧
(¬(r23=true) →
R false)))) ∧
(¬(r13=1) →
R false))) ∧
(¬(r11=2) →
R false))) ∧
(¬(r22=true) →
R false)))) ∧
(¬(r8=2) →
R false))) ∧
(¬(r21=true) →
R false)))) ∧
(¬(r3=2) →
R false))) ∧
(¬(((((((r5+r7)+r10)+r12)+r15)+r17)+r20)=0) →
R false))))))))))))))))
theorem yfW{O:Nat→Prop}{w:World}{R:Bool→Prop}(h:ycS R)(hO:∀ k,O k→k<w.heap.size) :
    Calls Tryz.prog 13 #[] w fun e w'=>∃ r25,e = .returned (.bool (r25))∧Sep w no O w' (rl [])∧R r25:=by
  unfold ycS at h;have hS:Sep w no O w (rl []):=Sep.start w hO;refine yap (l:=[]) func13 rfl ntmps13 zY (zs (zQ (.bool (false)) (yaa (zs (zn (yam rfl (am0) enter_53 ((yiH h (yaB _)).mono ?_)))))));rintro _ w2 ⟨r,r2,Ar,lr,cr,rfl,hC,h⟩;replace hS:=hS.call1 (hC.widen (yde (ya0 (fP (fI .i64) (fP (fI .i64) (fI .i64))) _ _ _ _ _) ydA) hS.blt) 0 0 rfl;clear hC;refine ⟨_,rfl,?_⟩;refine zb (zn (yaO yao ?_));intro g w3 hN;replace hS:Sep w no O w3 (stl _ 1 (Res.box 24 g [(ii 0),(.slice none 0 0)])):=hS.new 1 rfl hN;clear hN;refine zb (zo (yaV (b:=g) (o:=0) (cells:=#[(ii r),(.slice Ar lr cr)]) rfl rfl yao rfl rfl (yaI (hS.bx 1 rfl) zY) ?_));intro w4 e1;replace hS:=hS.bstn 1 rfl 0 [(ii r),(.slice Ar lr cr)] e1;clear e1;refine zb (yaa (zs (zn (yck (l:=[(0,(ii 0)),(1,(ii 1)),(2,(ii 1))]) (cells:=[(ii 0),(ii 1),(ii 1)]) (places:=[(0,1),(1,1),(2,1)]) (bp3 rfl rfl rfl) underlying79 yaK (by kernel_rfl) rfl ?_))));refine zb (zn (yck (l:=[(0,(ii 1)),(1,(ii 2)),(2,(ii 1))]) (cells:=[(ii 1),(ii 2),(ii 1)]) (places:=[(0,1),(1,1),(2,1)]) (bp3 rfl rfl rfl) underlying79 yaK (by kernel_rfl) rfl ?_));refine zb (zn (yaX (l:=[(0,(.agg #[(ii 0),(ii 1),(ii 1)])),(1,(.agg #[(ii 1),(ii 2),(ii 1)]))]) (cells:=[(ii 0),(ii 1),(ii 1),(ii 1),(ii 2),(ii 1)]) (bp2 rfl rfl) underlying22 yaK rfl rfl ?_));intro g2 w5 hN;replace hS:=hS.litf (n:=2) 2 rfl (fP (fI .i64) (fP (fI .i64) (fI .i64))) hN ([(0,1,1),(1,2,1)]:List E3) rfl (by decide) rfl;clear hN;refine zb (zn (yck (l:=[(0,(ii 3)),(1,(.slice (some ⟨g2,0,none⟩) 2 2))]) (cells:=[(ii 3),(.slice (some ⟨g2,0,none⟩) 2 2)]) (places:=[(0,1),(1,1)]) (bp2 rfl rfl) underlying24 yao (by kernel_rfl) rfl ?_));refine zb (zn (yaO yao ?_));intro g3 w6 hN;replace hS:Sep w no O w6 (stl _ 3 (Res.box 24 g3 [(ii 0),(.slice none 0 0)])):=hS.new 3 rfl hN;clear hN;refine zb (zo (yaV (b:=g3) (o:=0) (cells:=#[(ii 3),(.slice (some ⟨g2,0,none⟩) 2 2)]) rfl rfl yao rfl rfl (yaI (hS.bx 3 rfl) zY) ?_));intro w7 e1;replace hS:=hS.bstn 3 rfl 0 [(ii 3),(.slice (some ⟨g2,0,none⟩) 2 2)] e1;clear e1;refine zb (yaa (zs (zq (yaq (vs:=[(ii r),(.slice Ar lr cr)]) rfl underlying24 rfl yao ⟨Row.cell (hS.bx 1 rfl) (i:=0) rfl,Row.cell (hS.bx 1 rfl) (i:=1) rfl,trivial⟩) ?_)));replace hS:=hS.frz 0 rfl;refine zn (yam rfl (am1 rfl) enter_24 ((yee h hS.blt (hS.ro 0 rfl)).mono ?_));rintro _ w8 ⟨r3,r4,r5,Ar2,lr2,cr2,rfl,hC,h⟩;replace hS:=hS.call1 hC 4 0 rfl;clear hC;refine ⟨_,rfl,?_⟩;refine zb (zM (.tuple #[(ii r3),(.slice Ar2 lr2 cr2),(ii r5)]) (zq (zx (ii r3)) (zq (zx (.slice Ar2 lr2 cr2)) (zq (zx (ii r5)) (zQ (ii r3) (zQ (.slice Ar2 lr2 cr2) (zQ (ii r5) (yaa (zs (zq (yaq (vs:=[(ii r),(.slice Ar lr cr)]) rfl underlying24 rfl yao ⟨Row.cell (hS.bx 1 rfl) (i:=0) rfl,Row.cell (hS.bx 1 rfl) (i:=1) rfl,trivial⟩) (zn (yam rfl (am1 rfl) enter_33 ((yho h hS.blt (hS.ro 0 rfl)).mono ?_)))))))))))));rintro _ w9 ⟨r6,r7,Ar3,lr3,cr3,rfl,hC,h⟩;replace hS:=hS.call1 hC 5 0 rfl;clear hC;refine ⟨_,rfl,?_⟩;refine zb (zM (.tuple #[(.slice Ar3 lr3 cr3),(ii r7)]) (zq (zx (.slice Ar3 lr3 cr3)) (zq (zx (ii r7)) (zQ (.slice Ar3 lr3 cr3) (zQ (ii r7) (yaa (zs (zq (yaq (vs:=[(ii r),(.slice Ar lr cr)]) rfl underlying24 rfl yao ⟨Row.cell (hS.bx 1 rfl) (i:=0) rfl,Row.cell (hS.bx 1 rfl) (i:=1) rfl,trivial⟩) (zM (.slice Ar3 lr3 cr3) (zn (yam rfl (am2 rfl rfl) enter_16 ((yev h (yaB _) (hS.rdr 0 rfl) (hS.rdo 5 rfl)).mono ?_))))))))))));rintro _ w10 ⟨r8,r9,r10,Ar4,lr4,cr4,rfl,hC,h⟩;replace hS:=hS.call1 (hC.widen (yde (ya0 (fI .i64) _ _ _ _ _) ydA) hS.blt) 6 0 rfl;clear hC;refine ⟨_,rfl,?_⟩;refine zb (zM (.tuple #[(ii r8),(.slice Ar4 lr4 cr4),(ii r10)]) (zq (zx (ii r8)) (zq (zx (.slice Ar4 lr4 cr4)) (zq (zx (ii r10)) (zQ (ii r8) (zQ (.slice Ar4 lr4 cr4) (zQ (ii r10) (yaa (zs (zq (yaq (vs:=[(ii r),(.slice Ar lr cr)]) rfl underlying24 rfl yao ⟨Row.cell (hS.bx 1 rfl) (i:=0) rfl,Row.cell (hS.bx 1 rfl) (i:=1) rfl,trivial⟩) (zM (.slice Ar3 lr3 cr3) (zn (yam rfl (am2 rfl rfl) enter_18 ((yff h (yaB _) (hS.rdr 0 rfl) (hS.rdo 5 rfl)).mono ?_))))))))))))));rintro _ w11 ⟨r11,r12,rfl,hC,h⟩;replace hS:=hS.pur hC.pure;clear hC;refine ⟨_,rfl,?_⟩;refine zb (zM (.tuple #[(ii r11),(ii r12)]) (zq (zx (ii r11)) (zq (zx (ii r12)) (zQ (ii r11) (zQ (ii r12) (yaa (zs (zq (yaq (vs:=[(ii 3),(.slice (some ⟨g2,0,none⟩) 2 2)]) rfl underlying24 rfl yao ⟨Row.cell (hS.bx 3 rfl) (i:=0) rfl,Row.cell (hS.bx 3 rfl) (i:=1) rfl,trivial⟩) ?_))))))));replace hS:=hS.frz 2 rfl;refine zn (yam rfl (am1 rfl) enter_24 ((yee h hS.blt (hS.ro 2 rfl)).mono ?_));rintro _ w12 ⟨r13,r14,r15,Ar5,lr5,cr5,rfl,hC,h⟩;replace hS:=hS.call1 hC 7 0 rfl;clear hC;refine ⟨_,rfl,?_⟩;refine zb (zM (.tuple #[(ii r13),(.slice Ar5 lr5 cr5),(ii r15)]) (zq (zx (ii r13)) (zq (zx (.slice Ar5 lr5 cr5)) (zq (zx (ii r15)) (zQ (ii r13) (zQ (.slice Ar5 lr5 cr5) (zQ (ii r15) (yaa (zs (zq (yaq (vs:=[(ii 3),(.slice (some ⟨g2,0,none⟩) 2 2)]) rfl underlying24 rfl yao ⟨Row.cell (hS.bx 3 rfl) (i:=0) rfl,Row.cell (hS.bx 3 rfl) (i:=1) rfl,trivial⟩) (zn (yam rfl (am1 rfl) enter_35 ((yhV h hS.blt (hS.ro 2 rfl)).mono ?_)))))))))))));rintro _ w13 ⟨r16,r17,Ar6,lr6,cr6,rfl,hC,h⟩;replace hS:=hS.call1 hC 8 0 rfl;clear hC;refine ⟨_,rfl,?_⟩
  refine zb (zM (.tuple #[(.slice Ar6 lr6 cr6),(ii r17)]) (zq (zx (.slice Ar6 lr6 cr6)) (zq (zx (ii r17)) (zQ (.slice Ar6 lr6 cr6) (zQ (ii r17) (yaa (zs (zq (yaq (vs:=[(ii 3),(.slice (some ⟨g2,0,none⟩) 2 2)]) rfl underlying24 rfl yao ⟨Row.cell (hS.bx 3 rfl) (i:=0) rfl,Row.cell (hS.bx 3 rfl) (i:=1) rfl,trivial⟩) (zM (.slice Ar6 lr6 cr6) (zn (yam rfl (am2 rfl rfl) enter_14 ((ydd h (yaB _) (hS.rdr 2 rfl) (hS.rdo 8 rfl)).mono ?_))))))))))));rintro _ w14 ⟨r18,r19,r20,Ar7,lr7,cr7,rfl,hC,h⟩;replace hS:=hS.call1 (hC.widen (yde (ya0 (fI .i64) _ _ _ _ _) ydA) hS.blt) 9 0 rfl;clear hC;refine ⟨_,rfl,?_⟩;refine zb (zM (.tuple #[(ii r18),(.slice Ar7 lr7 cr7),(ii r20)]) (zq (zx (ii r18)) (zq (zx (.slice Ar7 lr7 cr7)) (zq (zx (ii r20)) (zQ (ii r18) (zQ (.slice Ar7 lr7 cr7) (zQ (ii r20) (yaa (zs (zM (ii r5) (zM (ii r7) ?_)))))))))));obtain ⟨hi,h⟩:=h;refine zq (zA hi) (zM (ii r10) ?_);obtain ⟨hi2,h⟩:=h;refine zq (zA hi2) (zM (ii r12) ?_);obtain ⟨hi3,h⟩:=h;refine zq (zA hi3) (zM (ii r15) ?_);obtain ⟨hi4,h⟩:=h;refine zq (zA hi4) (zM (ii r17) ?_);obtain ⟨hi5,h⟩:=h;refine zq (zA hi5) (zM (ii r20) ?_);obtain ⟨hi6,h⟩:=h;refine zq (zA hi6) (zq zE (zM (.bool (decide (((((((r5+r7)+r10)+r12)+r15)+r17)+r20)=0))) ?_));by_cases hp:((((((r5+r7)+r10)+r12)+r15)+r17)+r20)=0
  · replace h:=h.1 hp;refine zW rfl rfl (zT hp) (zm (ii r3)) (zW rfl rfl (zT hp) zE (zq (yas (v:=(.bool (decide (r3=2)))) (zT hp) rfl) (zM (.bool (decide (r3=2))) ?_)));by_cases hp2:r3=2
    · replace h:=h.1 hp2;refine zW rfl rfl (zT hp2) (zm (.slice Ar2 lr2 cr2)) (rl_n (yae rfl (yac rfl (zT hp2))) rfl rfl rfl (yaX (l:=[(0,(ii 0)),(1,(ii 0)),(2,(ii 2))]) (cells:=[(ii 0),(ii 0),(ii 2)]) (bp3 rfl rfl rfl) underlying43 yaj rfl rfl ?_));intro g4 w15 hN;replace hS:=hS.litf (n:=3) 10 rfl (fI .i64) hN ([0,0,2]:List Int) rfl (by decide) rfl;clear hN;refine zb (rl_n (yae rfl (yac rfl (zT hp2))) rfl rfl rfl (yam rfl (am2 rfl rfl) enter_54 ((ydz h (yaB _) (hS.rdr 4 rfl) (hS.rdo 10 rfl)).mono ?_)));rintro _ w16 ⟨r21,rfl,hC,h⟩;replace hS:=hS.pur hC.pure;clear hC;refine ⟨_,rfl,?_⟩;refine zb (zq (yas (v:=(.bool (r21))) (zT hp2) rfl) (zM (.bool (r21)) ?_));by_cases hp3:r21=true
      · replace h:=h.1 hp3;refine zW rfl rfl (zC hp3) (zm (ii r8)) (zW rfl rfl (zC hp3) zE (zq (yas (v:=(.bool (decide (r8=2)))) (zC hp3) rfl) (zM (.bool (decide (r8=2))) ?_)));by_cases hp4:r8=2
        · replace h:=h.1 hp4;refine zW rfl rfl (zT hp4) (zm (.slice Ar4 lr4 cr4)) (rl_n (yae rfl (yac rfl (zT hp4))) rfl rfl rfl (yaX (l:=[(0,(ii 0))]) (cells:=[(ii 0)]) (bp1 rfl) underlying29 yaj rfl rfl ?_));intro g5 w17 hN;replace hS:=hS.litf (n:=1) 11 rfl (fI .i64) hN ([0]:List Int) rfl (by decide) rfl;clear hN;refine zb (rl_n (yae rfl (yac rfl (zT hp4))) rfl rfl rfl (yam rfl (am2 rfl rfl) enter_55 ((yec h (yaB _) (hS.rdo 6 rfl) (hS.rdo 11 rfl)).mono ?_)));rintro _ w18 ⟨r22,rfl,hC,h⟩;replace hS:=hS.pur hC.pure;clear hC;refine ⟨_,rfl,?_⟩;refine zb (zq (yas (v:=(.bool (r22))) (zT hp4) rfl) (zM (.bool (r22)) ?_));by_cases hp5:r22=true
          · replace h:=h.1 hp5;refine zW rfl rfl (zC hp5) (zm (ii r11)) (zW rfl rfl (zC hp5) zE (zq (yas (v:=(.bool (decide (r11=2)))) (zC hp5) rfl) (zM (.bool (decide (r11=2))) ?_)));by_cases hp6:r11=2
            · replace h:=h.1 hp6;refine zW rfl rfl (zT hp6) (zm (ii r13)) (zW rfl rfl (zT hp6) zE (zq (yas (v:=(.bool (decide (r13=1)))) (zT hp6) rfl) (zM (.bool (decide (r13=1))) ?_)));by_cases hp7:r13=1
              · replace h:=h.1 hp7;refine zW rfl rfl (zT hp7) (zm (.slice Ar5 lr5 cr5)) (rl_n (yae rfl (yac rfl (zT hp7))) rfl rfl rfl (yaX (l:=[(0,(ii 0)),(1,(ii 0)),(2,(ii 1))]) (cells:=[(ii 0),(ii 0),(ii 1)]) (bp3 rfl rfl rfl) underlying43 yaj rfl rfl ?_));intro g6 w19 hN;replace hS:=hS.litf (n:=3) 12 rfl (fI .i64) hN ([0,0,1]:List Int) rfl (by decide) rfl;clear hN;refine zb (rl_n (yae rfl (yac rfl (zT hp7))) rfl rfl rfl (yam rfl (am2 rfl rfl) enter_54 ((ydz h (yaB _) (hS.rdr 7 rfl) (hS.rdo 12 rfl)).mono ?_)));rintro _ w20 ⟨r23,rfl,hC,h⟩;replace hS:=hS.pur hC.pure;clear hC;refine ⟨_,rfl,?_⟩;refine zb (zq (yas (v:=(.bool (r23))) (zT hp7) rfl) (zM (.bool (r23)) ?_));by_cases hp8:r23=true
                · replace h:=h.1 hp8;refine zW rfl rfl (zC hp8) (zm (ii r18)) (zW rfl rfl (zC hp8) zE (zq (yas (v:=(.bool (decide (r18=1)))) (zC hp8) rfl) (zM (.bool (decide (r18=1))) ?_)));by_cases hp9:r18=1
                  · replace h:=h.1 hp9;refine zW rfl rfl (zT hp9) (zm (.slice Ar7 lr7 cr7)) (rl_n (yae rfl (yac rfl (zT hp9))) rfl rfl rfl (yaX (l:=[(0,(ii 1))]) (cells:=[(ii 1)]) (bp1 rfl) underlying29 yaj rfl rfl ?_));intro g7 w21 hN;replace hS:=hS.litf (n:=1) 13 rfl (fI .i64) hN ([1]:List Int) rfl (by decide) rfl;clear hN;refine zb (rl_n (yae rfl (yac rfl (zT hp9))) rfl rfl rfl (yam rfl (am2 rfl rfl) enter_55 ((yec h (yaB _) (hS.rdo 9 rfl) (hS.rdo 13 rfl)).mono ?_)));rintro _ w22 ⟨r24,rfl,hC,h⟩;replace hS:=hS.pur hC.pure;clear hC;refine ⟨_,rfl,?_⟩;exact zb (zq (yas (v:=(.bool (r24))) (zT hp9) rfl) (zQ (.bool (r24)) (yaa (yak rfl rfl ⟨_,rfl,(hS.sel []),h⟩))))
                  · replace h:=h.2 hp9;exact zV rfl rfl (zF hp9) (zV rfl rfl (zF hp9) (zV rfl rfl (zF hp9) (zq (yal (v:=(.bool (false))) (zF hp9) rfl) (zQ (.bool (false)) (yaa (yak rfl rfl ⟨_,rfl,(hS.sel []),h⟩))))))
                · replace h:=h.2 hp8;exact zV rfl rfl (zC (zI hp8)) (zV rfl rfl (zC (zI hp8)) (zq (yal (v:=(.bool (false))) (zC (zI hp8)) rfl) (zM (.bool (false)) (zU (zU (zU (zq (yal (v:=(.bool (false))) rfl rfl) (zQ (.bool (false)) (yaa (yak rfl rfl ⟨_,rfl,(hS.sel []),h⟩))))))))))
              · replace h:=h.2 hp7;exact zV rfl rfl (zF hp7) (zV rfl rfl (zF hp7) (zV rfl rfl (zF hp7) (zq (yal (v:=(.bool (false))) (zF hp7) rfl) (zM (.bool (false)) (zU (zU (zq (yal (v:=(.bool (false))) rfl rfl) (zM (.bool (false)) (zU (zU (zU (zq (yal (v:=(.bool (false))) rfl rfl) (zQ (.bool (false)) (yaa (yak rfl rfl ⟨_,rfl,(hS.sel []),h⟩)))))))))))))))
            · replace h:=h.2 hp6;exact zV rfl rfl (zF hp6) (zV rfl rfl (zF hp6) (zq (yal (v:=(.bool (false))) (zF hp6) rfl) (zM (.bool (false)) (zU (zU (zU (zq (yal (v:=(.bool (false))) rfl rfl) (zM (.bool (false)) (zU (zU (zq (yal (v:=(.bool (false))) rfl rfl) (zM (.bool (false)) (zU (zU (zU (zq (yal (v:=(.bool (false))) rfl rfl) (zQ (.bool (false)) (yaa (yak rfl rfl ⟨_,rfl,(hS.sel []),h⟩)))))))))))))))))))
          · replace h:=h.2 hp5;exact zV rfl rfl (zC (zI hp5)) (zV rfl rfl (zC (zI hp5)) (zq (yal (v:=(.bool (false))) (zC (zI hp5)) rfl) (zM (.bool (false)) (zU (zU (zq (yal (v:=(.bool (false))) rfl rfl) (zM (.bool (false)) (zU (zU (zU (zq (yal (v:=(.bool (false))) rfl rfl) (zM (.bool (false)) (zU (zU (zq (yal (v:=(.bool (false))) rfl rfl) (zM (.bool (false)) (zU (zU (zU (zq (yal (v:=(.bool (false))) rfl rfl) (zQ (.bool (false)) (yaa (yak rfl rfl ⟨_,rfl,(hS.sel []),h⟩)))))))))))))))))))))))
        · replace h:=h.2 hp4;exact zV rfl rfl (zF hp4) (zV rfl rfl (zF hp4) (zV rfl rfl (zF hp4) (zq (yal (v:=(.bool (false))) (zF hp4) rfl) (zM (.bool (false)) (zU (zU (zq (yal (v:=(.bool (false))) rfl rfl) (zM (.bool (false)) (zU (zU (zq (yal (v:=(.bool (false))) rfl rfl) (zM (.bool (false)) (zU (zU (zU (zq (yal (v:=(.bool (false))) rfl rfl) (zM (.bool (false)) (zU (zU (zq (yal (v:=(.bool (false))) rfl rfl) (zM (.bool (false)) (zU (zU (zU (zq (yal (v:=(.bool (false))) rfl rfl) (zQ (.bool (false)) (yaa (yak rfl rfl ⟨_,rfl,(hS.sel []),h⟩))))))))))))))))))))))))))))
      · replace h:=h.2 hp3;exact zV rfl rfl (zC (zI hp3)) (zV rfl rfl (zC (zI hp3)) (zq (yal (v:=(.bool (false))) (zC (zI hp3)) rfl) (zM (.bool (false)) (zU (zU (zU (zq (yal (v:=(.bool (false))) rfl rfl) (zM (.bool (false)) (zU (zU (zq (yal (v:=(.bool (false))) rfl rfl) (zM (.bool (false)) (zU (zU (zq (yal (v:=(.bool (false))) rfl rfl) (zM (.bool (false)) (zU (zU (zU (zq (yal (v:=(.bool (false))) rfl rfl) (zM (.bool (false)) (zU (zU (zq (yal (v:=(.bool (false))) rfl rfl) (zM (.bool (false)) (zU (zU (zU (zq (yal (v:=(.bool (false))) rfl rfl) (zQ (.bool (false)) (yaa (yak rfl rfl ⟨_,rfl,(hS.sel []),h⟩))))))))))))))))))))))))))))))))
    · replace h:=h.2 hp2;exact zV rfl rfl (zF hp2) (zV rfl rfl (zF hp2) (zV rfl rfl (zF hp2) (zq (yal (v:=(.bool (false))) (zF hp2) rfl) (zM (.bool (false)) (zU (zU (zq (yal (v:=(.bool (false))) rfl rfl) (zM (.bool (false)) (zU (zU (zU (zq (yal (v:=(.bool (false))) rfl rfl) (zM (.bool (false)) (zU (zU (zq (yal (v:=(.bool (false))) rfl rfl) (zM (.bool (false)) (zU (zU (zq (yal (v:=(.bool (false))) rfl rfl) (zM (.bool (false)) (zU (zU (zU (zq (yal (v:=(.bool (false))) rfl rfl) (zM (.bool (false)) (zU (zU (zq (yal (v:=(.bool (false))) rfl rfl) (zM (.bool (false)) (zU (zU (zU (zq (yal (v:=(.bool (false))) rfl rfl) (zQ (.bool (false)) (yaa (yak rfl rfl ⟨_,rfl,(hS.sel []),h⟩)))))))))))))))))))))))))))))))))))))
  · replace h:=h.2 hp;exact zV rfl rfl (zF hp) (zV rfl rfl (zF hp) (zq (yal (v:=(.bool (false))) (zF hp) rfl) (zM (.bool (false)) (zU (zU (zU (zq (yal (v:=(.bool (false))) rfl rfl) (zM (.bool (false)) (zU (zU (zq (yal (v:=(.bool (false))) rfl rfl) (zM (.bool (false)) (zU (zU (zU (zq (yal (v:=(.bool (false))) rfl rfl) (zM (.bool (false)) (zU (zU (zq (yal (v:=(.bool (false))) rfl rfl) (zM (.bool (false)) (zU (zU (zq (yal (v:=(.bool (false))) rfl rfl) (zM (.bool (false)) (zU (zU (zU (zq (yal (v:=(.bool (false))) rfl rfl) (zM (.bool (false)) (zU (zU (zq (yal (v:=(.bool (false))) rfl rfl) (zM (.bool (false)) (zU (zU (zU (zq (yal (v:=(.bool (false))) rfl rfl) (zQ (.bool (false)) (yaa (yak rfl rfl ⟨_,rfl,(hS.sel []),h⟩)))))))))))))))))))))))))))))))))))))))))
def ykE(g:Int)(g2:List E3)(R:Bool→Prop):Prop :=
ykc g g2 (fun r =>
((r=true →
yeH g g2 (fun r2 =>
R (decide (r2=0)))) ∧
(¬(r=true) →
R false)))
theorem pok_l40_right{O:Nat→Prop}{w:World}{g g2 Ag lg cg}{R:Bool→Prop}(h:ykE g g2 R)(hO:∀ k,O k→k<w.heap.size)(hA0:(FP.sl c3 Ag lg cg g2).P O w) :
    Calls Tryz.prog 27 #[(.agg #[(ii g),(.slice Ag lg cg)])] w fun e w'=>∃ r3,e = .returned (.bool (r3))∧Sep w no O w' (rl [])∧R r3:=by
  unfold ykE at h;have hS:Sep w no O w (rl [Res.ro (FP.sl c3 Ag lg cg g2)]):=Sep.startl hO [(FP.sl c3 Ag lg cg g2)] ⟨hA0,trivial⟩;refine yap (l:=[(.agg #[(ii g),(.slice Ag lg cg)])]) func27 rfl ntmps27 zY (zs (zn (ya8 (v:=(.agg #[(ii g),(.slice Ag lg cg)])) rfl ?_)));intro g3 w2 hN;replace hS:Sep w no O w2 (stl _ 1 (Res.box 24 g3 [(ii g),(.slice Ag lg cg)])):=hS.new 1 rfl hN;clear hN;refine zb (zQ (.bool (false)) (yaa (zs (zq (yaq (vs:=[(ii g),(.slice Ag lg cg)]) rfl underlying24 rfl yao ⟨Row.cell (hS.bx 1 rfl) (i:=0) rfl,Row.cell (hS.bx 1 rfl) (i:=1) rfl,trivial⟩) (zn (yam rfl (am1 rfl) enter_23 ((ykt h (yaB _) (hS.rdr 0 rfl)).mono ?_)))))));rintro _ w3 ⟨r,rfl,hC,h⟩;replace hS:=hS.pur hC.pure;clear hC;refine ⟨_,rfl,?_⟩;refine zb (zM (.bool (r)) ?_);by_cases hp:r=true
  · replace h:=h.1 hp;refine zW rfl rfl (zC hp) (yaq (vs:=[(ii g),(.slice Ag lg cg)]) rfl underlying24 rfl yao ⟨Row.cell (hS.bx 1 rfl) (i:=0) rfl,Row.cell (hS.bx 1 rfl) (i:=1) rfl,trivial⟩) (rl_n (yae rfl (yac rfl (zC hp))) rfl rfl rfl (yam rfl (am1 rfl) enter_43 ((yj3 h (yaB _) (hS.rdr 0 rfl)).mono ?_)));rintro _ w4 ⟨r2,rfl,hC,h⟩;replace hS:=hS.pur hC.pure;clear hC;refine ⟨_,rfl,?_⟩;exact zb (zW rfl rfl (zC hp) zE (zq (yas (v:=(.bool (decide (r2=0)))) (zC hp) rfl) (zQ (.bool (decide (r2=0))) (yaa (yak rfl rfl ⟨_,rfl,(hS.sel []),h⟩)))))
  · replace h:=h.2 hp;exact zV rfl rfl (zC (zI hp)) (zV rfl rfl (zC (zI hp)) (zV rfl rfl (zC (zI hp)) (zq (yal (v:=(.bool (false))) (zC (zI hp)) rfl) (zQ (.bool (false)) (yaa (yak rfl rfl ⟨_,rfl,(hS.sel []),h⟩))))))
def ykW(d:Int)(d2:List E3)(R:Bool→Prop):Prop :=
ykE d d2 (fun r =>
((r=true →
ybG d d2 (fun r2 r3 r4 =>
ycL d d2 (fun r5 r6 =>
ybM d d2 r5 (fun r7 r8 =>
ykV d d2 r2 r3 r5 (fun r9 r10 =>
ykX d d2 50 (fun r11 r12 =>
ykZ r11 r12 (fun r13 =>
(In64 (r4+r6) ∧
(In64 ((r4+r6)+r8) ∧
(In64 (((r4+r6)+r8)+r10) ∧
(((((r4+r6)+r8)+r10)=0 →
(((decide (r2=1)==decide (r13=0))=true →
(In64 (r13+3) ∧
((2:Int)≠0 ∧
In64 ((r13+3).tdiv 2) ∧
((r2≤((r13+3).tdiv 2) →
(((r9==decide (r2≤r7))=true →
ycS (fun r14 =>
R r14)) ∧
(¬((r9==decide (r2≤r7))=true) →
R false))) ∧
(¬(r2≤((r13+3).tdiv 2)) →
R false))))) ∧
(¬((decide (r2=1)==decide (r13=0))=true) →
R false))) ∧
(¬((((r4+r6)+r8)+r10)=0) →
R false)))))))))))) ∧
(¬(r=true) →
ycS (fun r15 =>
R r15))))
theorem pok_l40_GonalityTrees{O:Nat→Prop}{w:World}{d d2 Ad ld cd}{R:Bool→Prop}(h:ykW d d2 R)(hO:∀ k,O k→k<w.heap.size)(hA0:(FP.sl c3 Ad ld cd d2).P O w) :
    Calls Tryz.prog 8 #[(.agg #[(ii d),(.slice Ad ld cd)])] w fun e w'=>∃ r16,e = .returned (.bool (r16))∧Sep w no O w' (rl [])∧R r16:=by
  unfold ykW at h;have hS:Sep w no O w (rl [Res.ro (FP.sl c3 Ad ld cd d2)]):=Sep.startl hO [(FP.sl c3 Ad ld cd d2)] ⟨hA0,trivial⟩;refine yap (l:=[(.agg #[(ii d),(.slice Ad ld cd)])]) func8 rfl ntmps8 zY (zs (zn (ya8 (v:=(.agg #[(ii d),(.slice Ad ld cd)])) rfl ?_)));intro g w2 hN;replace hS:Sep w no O w2 (stl _ 1 (Res.box 24 g [(ii d),(.slice Ad ld cd)])):=hS.new 1 rfl hN;clear hN;refine zb (zQ (.bool (false)) (yaa (yaf (zs (zq (yaq (vs:=[(ii d),(.slice Ad ld cd)]) rfl underlying24 rfl yao ⟨Row.cell (hS.bx 1 rfl) (i:=0) rfl,Row.cell (hS.bx 1 rfl) (i:=1) rfl,trivial⟩) (zn (yam rfl (am1 rfl) enter_27 ((pok_l40_right h (yaB _) (hS.rdr 0 rfl)).mono ?_))))))));rintro _ w3 ⟨r,rfl,hC,h⟩;replace hS:=hS.pur hC.pure;clear hC;refine ⟨_,rfl,?_⟩;refine zb (zq (ycX rfl) (yaa ?_));by_cases hp:r=true
  · replace h:=h.1 hp;refine yat (zC (zB hp)) (yag (zs (zq (yaq (vs:=[(ii d),(.slice Ad ld cd)]) rfl underlying24 rfl yao ⟨Row.cell (hS.bx 1 rfl) (i:=0) rfl,Row.cell (hS.bx 1 rfl) (i:=1) rfl,trivial⟩) (zn (yam rfl (am1 rfl) enter_24 ((yee h hS.blt (hS.ro 0 rfl)).mono ?_))))));rintro _ w4 ⟨r2,r3,r4,Ar,lr,cr,rfl,hC,h⟩;replace hS:=hS.call1 hC 2 0 rfl;clear hC;refine ⟨_,rfl,?_⟩;refine zb (zM (.tuple #[(ii r2),(.slice Ar lr cr),(ii r4)]) (zq (zx (ii r2)) (zq (zx (.slice Ar lr cr)) (zq (zx (ii r4)) (zQ (ii r2) (zQ (.slice Ar lr cr) (zQ (ii r4) (yaa (zs (zq (yaq (vs:=[(ii d),(.slice Ad ld cd)]) rfl underlying24 rfl yao ⟨Row.cell (hS.bx 1 rfl) (i:=0) rfl,Row.cell (hS.bx 1 rfl) (i:=1) rfl,trivial⟩) (zn (yam rfl (am1 rfl) enter_33 ((yho h hS.blt (hS.ro 0 rfl)).mono ?_)))))))))))));rintro _ w5 ⟨r5,r6,Ar2,lr2,cr2,rfl,hC,h⟩;replace hS:=hS.call1 hC 3 0 rfl;clear hC;refine ⟨_,rfl,?_⟩;refine zb (zM (.tuple #[(.slice Ar2 lr2 cr2),(ii r6)]) (zq (zx (.slice Ar2 lr2 cr2)) (zq (zx (ii r6)) (zQ (.slice Ar2 lr2 cr2) (zQ (ii r6) (yaa (zs (zq (yaq (vs:=[(ii d),(.slice Ad ld cd)]) rfl underlying24 rfl yao ⟨Row.cell (hS.bx 1 rfl) (i:=0) rfl,Row.cell (hS.bx 1 rfl) (i:=1) rfl,trivial⟩) (zM (.slice Ar2 lr2 cr2) (zn (yam rfl (am2 rfl rfl) enter_18 ((yff h (yaB _) (hS.rdr 0 rfl) (hS.rdo 3 rfl)).mono ?_))))))))))));rintro _ w6 ⟨r7,r8,rfl,hC,h⟩;replace hS:=hS.pur hC.pure;clear hC;refine ⟨_,rfl,?_⟩;refine zb (zM (.tuple #[(ii r7),(ii r8)]) (zq (zx (ii r7)) (zq (zx (ii r8)) (zQ (ii r7) (zQ (ii r8) (yaa (zs (zq (yaq (vs:=[(ii d),(.slice Ad ld cd)]) rfl underlying24 rfl yao ⟨Row.cell (hS.bx 1 rfl) (i:=0) rfl,Row.cell (hS.bx 1 rfl) (i:=1) rfl,trivial⟩) (zM (ii r2) (zM (.slice Ar lr cr) (zM (.slice Ar2 lr2 cr2) (zn (yam rfl (am4 rfl rfl rfl rfl) enter_39 ((yk1 h (yaB _) (hS.rdr 0 rfl) (hS.rdr 2 rfl) (hS.rdo 3 rfl)).mono ?_))))))))))))));rintro _ w7 ⟨r9,r10,rfl,hC,h⟩;replace hS:=hS.pur hC.pure;clear hC;refine ⟨_,rfl,?_⟩;refine zb (zM (.tuple #[(.bool (r9)),(ii r10)]) (zq (zx (.bool (r9))) (zq (zx (ii r10)) (zQ (.bool (r9)) (zQ (ii r10) (yaa (zs (zq (yaq (vs:=[(ii d),(.slice Ad ld cd)]) rfl underlying24 rfl yao ⟨Row.cell (hS.bx 1 rfl) (i:=0) rfl,Row.cell (hS.bx 1 rfl) (i:=1) rfl,trivial⟩) (zn (yam rfl (am2 rfl rfl) enter_42 ((ylf h (yaB _) (hS.rdr 0 rfl)).mono ?_)))))))))));rintro _ w8 ⟨r11,r12,Ar3,lr3,cr3,rfl,hC,h⟩;replace hS:=hS.call1 (hC.widen (yde (ya0 (fP (fI .i64) (fP (fI .i64) (fI .i64))) _ _ _ _ _) ydA) hS.blt) 4 0 rfl;clear hC;refine ⟨_,rfl,?_⟩;refine zb (zn (yam rfl (am1 rfl) enter_41 ((pok_r08_Genus h (yaB _) (hS.rdo 4 rfl)).mono ?_)));rintro _ w9 ⟨r13,rfl,hC,h⟩;replace hS:=hS.pur hC.pure;clear hC;refine ⟨_,rfl,?_⟩;refine zb (zQ (ii r13) (yaa (zs (zM (ii r4) (zM (ii r6) ?_)))));obtain ⟨hi,h⟩:=h;refine zq (zA hi) (zM (ii r8) ?_);obtain ⟨hi2,h⟩:=h;refine zq (zA hi2) (zM (ii r10) ?_);obtain ⟨hi3,h⟩:=h;refine zq (zA hi3) (zq zE (zM (.bool (decide ((((r4+r6)+r8)+r10)=0))) ?_));by_cases hp2:(((r4+r6)+r8)+r10)=0
    · replace h:=h.1 hp2;refine zW rfl rfl (zT hp2) (zm (ii r2)) (zW rfl rfl (zT hp2) zE (zW rfl rfl (zT hp2) (zm (ii r13)) (zW rfl rfl (zT hp2) zE (zW rfl rfl (zT hp2) (v_beql rfl rfl underlying4) (zq (yas (v:=(.bool ((decide (r2=1)==decide (r13=0))))) (zT hp2) rfl) (zM (.bool ((decide (r2=1)==decide (r13=0)))) ?_))))));by_cases hp3:(decide (r2=1)==decide (r13=0))=true
      · replace h:=h.1 hp3;refine zW rfl rfl (zC hp3) (zm (ii r2)) (zW rfl rfl (zC hp3) (zm (ii r13)) ?_);obtain ⟨hi4,h⟩:=h;refine zW rfl rfl (zC hp3) (zA hi4) ?_;obtain ⟨hz,h⟩:=h;obtain ⟨hi5,h⟩:=h;refine zW rfl rfl (zC hp3) (v_quo rfl rfl hz hi5) (zW rfl rfl (zC hp3) (v_leq rfl rfl) (zq (yas (v:=(.bool (decide (r2≤((r13+3).tdiv 2))))) (zC hp3) rfl) (zM (.bool (decide (r2≤((r13+3).tdiv 2)))) ?_)));by_cases hp4:r2≤((r13+3).tdiv 2)
        · replace h:=h.1 hp4;refine zW rfl rfl (zT hp4) (zm (.bool (r9))) (zW rfl rfl (zT hp4) (zm (ii r7)) (zW rfl rfl (zT hp4) (zm (ii r2)) (zW rfl rfl (zT hp4) (yiF rfl rfl) (zW rfl rfl (zT hp4) (v_beql rfl rfl underlying4) (zq (yas (v:=(.bool ((r9==decide (r2≤r7))))) (zT hp4) rfl) (zM (.bool ((r9==decide (r2≤r7)))) ?_))))));by_cases hp5:(r9==decide (r2≤r7))=true
          · replace h:=h.1 hp5;refine rl_n (yae rfl (yac rfl (zC hp5))) rfl rfl rfl (yam rfl (am0) ykH ((yfW h (yaB _)).mono ?_));rintro _ w10 ⟨r14,rfl,hC,h⟩;replace hS:=hS.pur hC.pure;clear hC;refine ⟨_,rfl,?_⟩;exact zb (zq (yas (v:=(.bool (r14))) (zC hp5) rfl) (zQ (.bool (r14)) (yaa (yak rfl rfl ⟨_,rfl,(hS.sel []),h⟩))))
          · replace h:=h.2 hp5;exact zV rfl rfl (zC (zI hp5)) (zq (yal (v:=(.bool (false))) (zC (zI hp5)) rfl) (zQ (.bool (false)) (yaa (yak rfl rfl ⟨_,rfl,(hS.sel []),h⟩))))
        · replace h:=h.2 hp4;exact zV rfl rfl (zF hp4) (zV rfl rfl (zF hp4) (zV rfl rfl (zF hp4) (zV rfl rfl (zF hp4) (zV rfl rfl (zF hp4) (zq (yal (v:=(.bool (false))) (zF hp4) rfl) (zM (.bool (false)) (zU (zq (yal (v:=(.bool (false))) rfl rfl) (zQ (.bool (false)) (yaa (yak rfl rfl ⟨_,rfl,(hS.sel []),h⟩)))))))))))
      · replace h:=h.2 hp3;exact zV rfl rfl (zC (zI hp3)) (zV rfl rfl (zC (zI hp3)) (zV rfl rfl (zC (zI hp3)) (zV rfl rfl (zC (zI hp3)) (zV rfl rfl (zC (zI hp3)) (zq (yal (v:=(.bool (false))) (zC (zI hp3)) rfl) (zM (.bool (false)) (zU (zU (zU (zU (zU (zq (yal (v:=(.bool (false))) rfl rfl) (zM (.bool (false)) (zU (zq (yal (v:=(.bool (false))) rfl rfl) (zQ (.bool (false)) (yaa (yak rfl rfl ⟨_,rfl,(hS.sel []),h⟩))))))))))))))))))
    · replace h:=h.2 hp2;exact zV rfl rfl (zF hp2) (zV rfl rfl (zF hp2) (zV rfl rfl (zF hp2) (zV rfl rfl (zF hp2) (zV rfl rfl (zF hp2) (zq (yal (v:=(.bool (false))) (zF hp2) rfl) (zM (.bool (false)) (zU (zU (zU (zU (zU (zq (yal (v:=(.bool (false))) rfl rfl) (zM (.bool (false)) (zU (zU (zU (zU (zU (zq (yal (v:=(.bool (false))) rfl rfl) (zM (.bool (false)) (zU (zq (yal (v:=(.bool (false))) rfl rfl) (zQ (.bool (false)) (yaa (yak rfl rfl ⟨_,rfl,(hS.sel []),h⟩)))))))))))))))))))))))))
  · replace h:=h.2 hp;refine yar (zC (zB (zI hp))) (zs (zn (yam rfl (am0) ykH ((yfW h (yaB _)).mono ?_))));rintro _ w11 ⟨r15,rfl,hC,h⟩;replace hS:=hS.pur hC.pure;clear hC;refine ⟨_,rfl,?_⟩;exact zb (zQ (.bool (r15)) (yaa (yak rfl rfl ⟨_,rfl,(hS.sel []),h⟩)))
end Go.Proofs.YtadpnlimiblniaaGreat

/- Layer 40: the fixed examples; the laws that compare with the reference. -/
namespace Go.Proofs.YtadpnlimiblniaaGreat
open Go Go.RowKit Go.Shelf Go.Proofs.Tryz
def pth3:List E3:=[(0,1,1),(1,2,1)]
theorem pth_ok:GOk 3 pth3:=⟨by decide,by decide +kernel,by decide,by decide,by decide,by decide⟩
theorem eff3{e:List Int}(h:Eff 3 e 1):e=[0,0,1]∨e=[0,1,0]∨e=[1,0,0]:=by
  have:e∈ycp 3 1:=eff_list (n:=2) (k:=1) h
  have h2:ycp 3 1=[[0,0,1],[0,1,0],[1,0,0]]:=by decide
  rw [h2] at this
  simpa using this
theorem win3{es:List E3}{x:List Int}(s0 s1 s2:Int)(h:∀ v,v<3→0≤gi x v-Lp 3 es (fun i=>if i=0 then s0 else if i=1 then s1 else s2) v):Win 3 es x:=⟨_,h⟩
theorem gon_tri:GonOk 3 tri 2 [0,0,2]:=by
  have w01:W tri 0 1=1:=by decide
  have w02:W tri 0 2=1:=by decide
  have w12:W tri 1 2=1:=by decide
  refine ⟨by omega,⟨0,by decide,by decide,fun j hj=>by omega⟩,fun e he=>?_,fun k' h1 h2 y hy hal=>?_⟩
  · rcases eff3 he with rfl | rfl | rfl
    · exact win3 0 0 0 (by decide)
    · exact win3 0 0 1 (by decide)
    · exact win3 0 0 1 (by decide)
  · have e:k'=1:=by omega
    subst e
    have lose:∀ x:List Int,(gi x 0+gi x 1+gi x 2=0)→(gi x 1+2*gi x 2) % 3≠0→¬Win 3 tri x:=by
      rintro x h0 h1 ⟨s,hs⟩
      have a0:=hs 0 (by omega);have a1:=hs 1 (by omega);have a2:=hs 2 (by omega)
      simp only [Lp,sm] at a0 a1 a2
      rw [yhC,w01,w02] at a0
      rw [yhC,ye0 tri 1 0,w01,w12] at a1
      rw [yhC,ye0 tri 2 0,ye0 tri 2 1,w02,w12] at a2
      omega
    have u:∀ v,v<3→Eff 3 (yfw (List.replicate 3 0) v 1) 1:=fun v hv=>by
      have:=(yfe 3).add (v:=v) hv (k:=1) (by have:=(yfe 3).pos v hv;omega)
      rwa [Int.zero_add] at this
    have hy2:y∈[[0,0,1],[0,1,0],[1,0,0]]:=by
      have h2:ycp 3 1=[[0,0,1],[0,1,0],[1,0,0]]:=by decide
      rwa [←h2]
    simp only [List.mem_cons,List.not_mem_nil,or_false] at hy2
    rcases hy2 with rfl | rfl | rfl
    · exact lose _ (by decide) (by decide) (hal _ (u 0 (by omega)))
    · exact lose _ (by decide) (by decide) (hal _ (u 0 (by omega)))
    · exact lose _ (by decide) (by decide) (hal _ (u 1 (by omega)))
theorem gon_pth:GonOk 3 pth3 1 [0,0,1]:=by
  refine ⟨by omega,⟨0,by decide,by decide,fun j hj=>by omega⟩,fun e he=>?_,fun k' h1 h2=>by omega⟩
  rcases eff3 he with rfl | rfl | rfl
  · exact win3 0 0 0 (by decide)
  · exact win3 0 0 1 (by decide)
  · exact win3 0 1 2 (by decide)
theorem chk_tri:chkE 3 tri (ptsF 3)=0:=by decide +kernel
theorem chk_pth:chkE 3 pth3 (prsF pth3)=0:=by decide +kernel
theorem sep_tri:sepF 3 tri (ptsF 3)=(2,[0]):=by decide +kernel
theorem ord_tri:ordF 3 tri (ptsF 3)=2:=by decide +kernel
theorem hit_pth:hitF 3 (prsF pth3)=(1,[1]):=by decide +kernel
theorem j_tri:yaS 3 tri=0:=by decide +kernel
theorem j_pth:yaS 3 pth3=0:=by decide +kernel
theorem yhq{R:Bool→Prop}(h:R true):ycS R:=by
  unfold ycS ydQ
  have e:([(0,1,1),(0,2,1),(1,2,1)]:List (Int×Int×Int))=tri:=rfl
  have e2:([(0,1,1),(1,2,1)]:List (Int×Int×Int))=pth3:=rfl
  rw [e,e2]
  clear e e2
  refine yeY (by decide) (fun q=>absurd j_tri q) fun _=>⟨3,rfl,tri_ok,fun j d hd=>?_⟩
  obtain ⟨rfl,rfl⟩:=hd.eq gon_tri
  refine yih (by decide) ?_
  rw [show yj5 3 tri=ptsF 3 by unfold yj5;rw [if_pos j_tri];rfl,j_tri]
  refine yft (by decide) (fun q=>absurd chk_tri q) fun k hk _=>?_
  obtain rfl:k=3:=by omega
  rw [sep_tri]
  refine ygg (by decide) (fun q=>absurd chk_tri q) fun k hk _=>?_
  obtain rfl:k=3:=by omega
  rw [ord_tri]
  refine yeY (by decide) (fun q=>absurd j_pth q) fun _=>⟨3,rfl,pth_ok,fun j d hd=>?_⟩
  obtain ⟨rfl,rfl⟩:=hd.eq gon_pth
  refine yiJ (by decide) ?_
  rw [show pairE 3 pth3=prsF pth3 by unfold pairE;rw [if_pos j_pth],j_pth]
  refine ydJ (by decide) (fun q=>absurd chk_pth q) fun k hk _=>?_
  obtain rfl:k=3:=by omega
  rw [hit_pth]
  refine ⟨i64 (by omega),i64 (by omega),i64 (by omega),i64 (by omega),i64 (by omega),i64 (by omega),fun _=>⟨fun _=>?_,fun q=>absurd rfl q⟩,fun q=>absurd rfl q⟩
  refine ydW (by decide) ⟨fun _=>⟨fun _=>?_,fun q=>absurd rfl q⟩,fun q=>absurd (by decide) q⟩
  refine yeW (by decide) ⟨fun _=>⟨fun _=>⟨fun _=>?_,fun q=>absurd rfl q⟩,fun q=>absurd rfl q⟩,fun q=>absurd (by decide) q⟩
  refine ydW (by decide) ⟨fun _=>⟨fun _=>?_,fun q=>absurd rfl q⟩,fun q=>absurd (by decide) q⟩
  exact yeW (by decide) h
theorem small_getI{n:Int}{es:List E3}{a b:Int}(h:yi8 n es a b=true):es.length≤40∧(yav n es=0→n≤a∧(es.map (·.2.2)).sum≤b):=of_decide_eq_true h
theorem ykv{n:Int}{es:List E3}{R:Bool→Prop}(h:R (yi8 n es 5 7)):ykc n es R:=p_r08_small h
section
variable {n : Int} {es : List E3} {s : List (List Int)} (hl : es.length ≤ 40) (h6 : yav n es = 0 → n ≤ 6)
include hl h6
end
theorem pts_len(n:Nat):(ptsF n).length=n:=by simp [ptsF]
theorem gok_small{n:Int}{es:List E3}(hs:yi8 n es 5 7=true)(hj:yaS n es=0):∃ k:Nat,n=k∧GOk k es:=by
  obtain ⟨k,rfl,_,_⟩:=ycH (ybn hj).1
  exact ⟨k,rfl,gok_of hs (ybn hj).1 (ybn hj).2⟩
end Go.Proofs.YtadpnlimiblniaaGreat

/- Layer 40: the laws GonalityProves, GonalityBounds and GonalityEggs. -/
namespace Go.Proofs.YtadpnlimiblniaaGreat
open Go Go.RowKit Go.Shelf Go.Proofs.Tryz
theorem hit_is{n:Nat}(hn:n≤6)(s:List (List Int)):((∀ y∈yeV n,hitB s y=false)∧hitF n s=(-1,[]))∨∃ m,m∈yeV n∧hitB s m=true∧(∀ y∈yeV n,hitB s y=true→(m.length:Int)≤(y.length:Int))∧hitF n s=((m.length:Int),m) :=
  lst_is hn (fun y=>(y.length:Int)) (hitB s) fun y=>Int.natCast_nonneg _
theorem ord_le1{n:Nat}{es:List E3}{s:List (List Int)} : ordF n es s≤(hitF n s).1:=by
  unfold ordF mnF
  split
  · exact Int.le_refl _
  · split <;> omega
theorem ord_n{n:Nat}{es:List E3}{s:List (List Int)}(hn:n≤6):ordF n es s≤n:=by
  have h1:=ord_le1 (n:=n) (es:=es) (s:=s)
  rcases hit_is hn s with ⟨_,h2⟩ | ⟨m,hm,_,_,h2⟩
  · rw [h2] at h1;have h1:ordF n es s ≤ -1:=h1;omega
  · have:=(yjA hm).len
    rw [h2] at h1;have h1:ordF n es s≤(m.length:Int):=h1;omega
noncomputable def verB (n:Nat) (es:List E3) (k:Int) (d:List Int) (s:List (List Int)):Bool:=@decide (dg d=k∧k≤ordF n es s∧AL n es d 1) (Classical.propDecidable _)
theorem verB_t{n:Nat}{es:List E3}{k:Int}{d:List Int}{s:List (List Int)}(h:dg d=k∧k≤ordF n es s∧AL n es d 1):verB n es k d s=true:=@decide_eq_true _ (Classical.propDecidable _) h
theorem verB_f{n:Nat}{es:List E3}{k:Int}{d:List Int}{s:List (List Int)}(h:¬(dg d=k∧k≤ordF n es s∧AL n es d 1)):verB n es k d s=false:=@decide_eq_false _ (Classical.propDecidable _) h
section
variable {n k : Int} {es : List E3} {d : List Int} {s : List (List Int)} (hl : es.length ≤ 40) (hs : yaS n es = 0 → ∃ k : Nat, n = k ∧ GOk k es) (hb : yaS n es = 0 → ybf d n = 0 → ∀ v, v < d.length → -100 ≤ gi d v ∧ gi d v ≤ 100)
include hl hs hb
theorem yk4{R:Bool→Int→Prop}(h1:yaS n es≠0→R false (yaS n es))(h2:yaS n es=0→ybf d n≠0→R false (ybf d n))(h3:yaS n es=0→ybf d n=0→ylc n es s≠0→R false (ylc n es s))
    (h4:yaS n es=0→ybf d n=0→ylc n es s=0→R (verB n.toNat es k d s) 0):ykV n es k d s R:=by
  refine ycg (by omega) ⟨fun c=>?_,fun c=>h1 c⟩
  obtain ⟨n,rfl,hG⟩:=hs c
  have hn5:=hG.n5;have hn1:=hG.n1
  rw [Int.toNat_natCast] at h4
  refine yh3 ⟨fun c2=>?_,fun c2=>h2 c c2⟩
  obtain ⟨hdl,_,_,_⟩:=yjI c2
  have hbv:=hb c c2
  have hch:chkE n es s=ylc n es s:=by unfold chkE;rw [if_pos c]
  refine ygg hl (fun c3=>⟨fun q=>absurd q c3,fun _=>by rw [hch] at c3 ⊢;exact h3 c c2 c3⟩) fun k' hk' hS=>⟨fun _=>?_,fun q=>absurd rfl q⟩
  obtain rfl:k'=n:=by omega
  have he:ylc k' es s=0:=by rw [←hch];exact hS.chk
  have h4:=h4 c c2 he
  have hg:ybo k' es 0 d=0:=by rw [given0,if_pos c];exact c2
  refine yk0 (by omega) hdl (fun j hj=>by have:=hbv j (by omega);omega) ⟨fun _=>⟨dg d=k∧k≤ordF k' es s,fun hJ=>?_,fun q=>⟨fun lt=>?_,fun ge=>⟨q,by omega⟩⟩,fun q=>?_⟩,fun q=>absurd rfl q⟩
  · have hord:=ord_n (n:=k') (es:=es) (s:=s) (by omega)
    refine p_AtLeast1 ⟨hG,fun v hv=>by have:=hbv v (by omega);omega,by omega⟩ hg (fun hal=>?_) fun hal=>?_
    · rw [verB_t ⟨hJ.1,hJ.2,hal⟩] at h4;exact h4
    · rw [verB_f fun z=>hal z.2.2] at h4;exact h4
  · rw [verB_f fun z=>by have:=z.2.1;omega] at h4;exact h4
  · rw [verB_f fun z=>q z.1] at h4;exact h4
end
theorem p_l40_right{n:Int}{es:List E3}{R:Bool→Prop}(h1:∀ k:Nat,n=k→GOk k es→yaS k es=0→(es.map (·.2.2)).sum≤7→R true)(h2:R false):ykE n es R:=by
  refine ykv ⟨fun hs=>?_,fun _=>h2⟩
  obtain ⟨hl,h5⟩:=small_getI hs
  refine yj7 (by omega) ?_
  by_cases c:yaS n es=0
  · rw [decide_eq_true c]
    obtain ⟨k,rfl,hG⟩:=gok_small hs c
    exact h1 k rfl hG c (h5 hG.g).2
  · rw [decide_eq_false c];exact h2
end Go.Proofs.YtadpnlimiblniaaGreat

/- Layer 40: the law GonalityTrees: by Riemann and Roch, and four vertices by a finite check. -/
namespace Go.Proofs.YtadpnlimiblniaaGreat
open Go Go.RowKit Go.Shelf Go.Proofs.Tryz
theorem yle{n:Nat}{es:List E3}{d:List Int}(hn:1≤n)(hd:d.length=n):∃ k,RkOk n es d k:=by
  by_cases hw:Win n es d
  · have h0:=win_dg hd hw
    have htop:¬AL n es d (dg d+1):=fun h=>by
      have:=win_dg (ygG n d _) (h _ (ykY hn (by omega)))
      rw [ylg hd (ykY hn (k:=dg d+1) (by omega)).len,(ykY hn (k:=dg d+1) (by omega)).deg] at this
      omega
    obtain ⟨i,_,h1,h2⟩:=last_step (fun i:Nat=>AL n es d (i:Int)) (dg d+1).toNat (yk5.2 hw) (by show ¬AL n es d ((dg d+1).toNat:Int);rw [Int.toNat_of_nonneg (by omega)];exact htop)
    exact ⟨i,by omega,h1,by have h2:¬AL n es d ((i+1:Nat):Int):=h2;rwa [show ((i+1:Nat):Int)=(i:Int)+1 by omega] at h2⟩
  · exact ⟨-1,rk_lose hw⟩
theorem eff_splitI{n:Nat} : ∀ (r:Nat) {s:Int} {e:List Int},0≤s→Eff n e ((r:Int)+s)→∃ a b,Eff n a (r:Int)∧Eff n b s∧∀ v,v<n→gi e v=gi a v+gi b v
  | 0,s,e,hs,he=>⟨List.replicate n 0,e,yfe n,by simpa using he,fun v hv=>by rw [yhs hv];omega⟩
  | r+1,s,e,hs,he=>by
    obtain ⟨a,b,ha,hb,hab⟩:=eff_splitI r (s:=s+1) (e:=e) (by omega) (by rw [show (r:Int)+(s+1)=((r+1:Nat):Int)+s by omega];exact he)
    have hpos:∃ u,u<n∧1≤gi b u:=by
      apply Classical.byContradiction
      intro q
      have:dg b≤0:=by
        rw [dg_n hb.len,←ybJ n]
        exact ydh fun u hu=>Int.not_lt.1 fun lt=>q ⟨u,hu,lt⟩
      have:=hb.deg
      omega
    obtain ⟨u,hu,hu1⟩:=hpos
    refine ⟨yfw a u 1,yfw b u (-1),?_,?_,fun v hv=>?_⟩
    · have:=ha.add hu (k:=1) (by have:=ha.pos u hu;omega)
      rwa [show (r:Int)+1=((r+1:Nat):Int) by omega] at this
    · have:=hb.add hu (k := -1) (by omega)
      rwa [show s+1 + -1=s by omega] at this
    · rw [yd5 (by rw [ha.len];exact hu),yd5 (by rw [hb.len];exact hu),hab v hv]
      split
      · rename_i e;subst e;omega
      · rfl
theorem al_addI{n:Nat}{es:List E3}{a b c:List Int}(hc:∀ v,v<n→gi c v=gi a v+gi b v){r s:Int}(hr:0≤r)(hs:0≤s)(ha:AL n es a r)(hb:AL n es b s):AL n es c (r+s):=fun e he=>by
  obtain ⟨r,rfl⟩:∃ r':Nat,r=(r':Int):=⟨r.toNat,by omega⟩
  obtain ⟨x,y,hx,hy,hxy⟩:=eff_splitI r hs he
  obtain ⟨t,ht⟩:=ha x hx
  obtain ⟨u,hu⟩:=hb y hy
  refine ⟨fun i=>t i+u i,fun v hv=>?_⟩
  have h1:=ht v hv
  have h2:=hu v hv
  rw [ygA hv] at h1 h2
  rw [ygJ t u,ygA hv,hc v hv,hxy v hv]
  omega
section
variable {n : Nat} {es : List E3} (G : GOk n es)
include G
theorem al_many{d:List Int}(hd:d.length=n)(hb:∀ v,v<n → -500≤gi d v∧gi d v≤500)(h:yc9 es+1-n+1≤dg d):AL n es d 1:=fun e he=>by
  have hn5:=G.n5
  refine yk9 G.g G.C (by omega) (ygG n d e) (fun v hv=>?_) ?_
  · rw [ygA hv];have:=hb v hv;have:=he.pos v hv;have:=he.le hv;omega
  · rw [ylg hd he.len,he.deg];omega
theorem pm9:0≤yc9 es∧yc9 es≤9:=by
  have h1:=yh1 G.E
  have h2:=G.tot
  have h3:0≤tot n es:=ya5 fun v _=>ya5 fun u _=>ya2 G.E v u
  omega
theorem can_dg:dg (canF n es)=2*(yc9 es+1-n)-2:=by rw [canF_dg G.E];omega
theorem yk8:RkOk n es (canF n es) (yc9 es+1-n-1):=by
  have hn1:=G.n1;have hn5:=G.n5
  have h0:RkOk n es (List.replicate n 0) 0:=by
    refine ⟨by omega,yk5.2 ⟨fun _=>0,fun v hv=>by rw [yfl,yhs hv];exact Int.le_refl _⟩,fun h=>?_⟩
    have:=win_dg (ygG n _ _) (h _ (ykY hn1 (by omega)))
    rw [ylg (by simp) (ykY hn1 (k:=0+1) (by omega)).len,(ykY hn1 (k:=0+1) (by omega)).deg,(yfe n).deg] at this
    omega
  obtain ⟨k,hk⟩:=yle (es:=es) hn1 (ykU n es)
  have hk2:RkOk n es (sb n (canF n es) (List.replicate n 0)) k:=(rk_eqv (s:=fun _=>0) fun v hv=>by rw [yfl,ygA hv,yhs hv]).1 hk
  have hpm:=pm9 G
  have hk400:k≤400:=by
    have:=hk.few hn1 (ykU n es)
    rw [can_dg G] at this;omega
  have h:=rr G.g G.C hn1 (by omega) (by simp) (fun v hv=>by rw [yhs hv];omega) G.tot h0 (by omega) hk2 hk400
  rw [(yfe n).deg] at h
  rwa [show yc9 es+1-n-1=k by omega]
theorem one_tree{d:List Int}(hd:Eff n d 1)(hal:AL n es d 1):yc9 es+1-n≤0:=by
  have hn1:=G.n1;have hn5:=G.n5
  apply Int.not_lt.1
  intro hg
  obtain ⟨k,hk⟩:=yle (es:=es) hn1 hd.len
  obtain ⟨k',hk'⟩:=yle (es:=es) (d:=sb n (canF n es) d) hn1 (ygG n _ _)
  have hpm:=pm9 G
  have h1:1≤k:=(hk.ge hn1).2 hal
  have h2:=hk.few hn1 hd.len
  rw [hd.deg] at h2
  have h3:=hk'.few hn1 (ygG n _ _)
  rw [ylg (ykU n es) hd.len,can_dg G,hd.deg] at h3
  have h:=rr G.g G.C hn1 (by omega) hd.len (fun v hv=>by have:=hd.pos v hv;have:=hd.le hv;omega) G.tot hk (by omega) hk' (by omega)
  rw [hd.deg] at h
  refine (yk8 G).no ?_
  have h4:=al_addI (es:=es) (a:=d) (b:=sb n (canF n es) d) (c:=canF n es) (fun v hv=>by rw [ygA hv];omega) (r:=1) (s:=k') (by omega) (by omega) hal hk'.al
  rwa [show yc9 es+1-n-1+1=1+k' by omega]
theorem eff_rep{d:List Int}(hd:d.length=n){r:Int}(hr:0≤r)(hal:AL n es d r):∃ x,Eff n x (dg d)∧AL n es x r:=by
  have hn1:=G.n1
  obtain ⟨s,hs⟩:=yk5.1 (yhD hn1 hr hal)
  have hl:(tab (fun v=>gi d v-Lp n es s v) n).length=n:=yc6 _ n
  have hg:∀ v,v<n→gi (tab (fun v=>gi d v-Lp n es s v) n) v=gi d v-Lp n es s v:=fun v hv=>ygt _ hv
  exact ⟨_,⟨hl,fun v hv=>by rw [hg v hv];exact hs v hv,dg_lp hl hd hg⟩,(al_eqv hg).1 hal⟩
end
section
variable {n : Nat} {es : List E3} {j : Nat} {d : List Int} (G : GOk n es) (hd : GonOk n es j d)
include G hd
omit G in
theorem gon_le{q:Nat}{x:List Int}(hq:1≤q)(hx:Eff n x q)(hal:AL n es x 1):j≤q:=by
  obtain ⟨N,rfl⟩:∃ N,n=N+1:=⟨n-1,by have:=hd.k1;omega⟩
  exact Nat.not_lt.1 fun lt=>hd.no q hq lt x (eff_list hx) hal
theorem gon_one:j=1↔yc9 es+1-n=0:=by
  have hn1:=G.n1;have hn5:=G.n5
  have hpm:=pm9 G
  -- a connected graph has edges enough
  have hg0:0≤yc9 es+1-n:=by
    have h:=(yk8 G).lo
    omega
  constructor
  · rintro rfl
    have:=one_tree G (by have:=hd.eff;exact this) hd.al
    omega
  · intro h
    have h1:=gon_le hd (q:=1) (Nat.le_refl _) (ykY hn1 (k:=1) (by omega)) (al_many G (ykY hn1 (k:=1) (by omega)).len (fun v hv=>by have h1:=(ykY hn1 (k:=1) (by omega)).pos v hv;have h2:=(ykY hn1 (k:=1) (by omega)).le hv;omega) (by rw [(ykY hn1 (k:=1) (by omega)).deg];omega))
    have:=hd.k1
    omega
theorem gon_half(h7:yc9 es≤7):(j:Int)≤(yc9 es+1-n+3) / 2:=by
  have hn1:=G.n1;have hn5:=G.n5
  have hpm:=pm9 G
  have hk1:=hd.k1
  have hcr:=yk8 G
  have hg0:0≤yc9 es+1-n:=by have h:=hcr.lo;omega
  by_cases g0:yc9 es+1-n=0
  · have:=(gon_one G hd).2 g0
    omega
  by_cases n2:n≤2
  · omega
  by_cases g1:yc9 es+1-n=1
  · have e2:=ykY hn1 (k:=2) (by omega)
    have:=gon_le hd (q:=2) (by omega) e2 (al_many G e2.len (fun v hv=>by have h1:=e2.pos v hv;have h2:=e2.le hv;omega) (by rw [e2.deg];omega))
    omega
  by_cases g2:yc9 es+1-n=2
  · obtain ⟨x,hx,hxa⟩:=eff_rep G (ykU n es) (r:=1) (by omega) (yhD hn1 (by omega) hcr.al)
    rw [can_dg G] at hx
    have:=gon_le hd (q:=2) (by omega) (by rwa [show ((2:Nat):Int)=2*(yc9 es+1-n)-2 by omega]) hxa
    omega
  by_cases g3:yc9 es+1-n=3
  · have hal2:AL n es (canF n es) 2:=yhD hn1 (by omega) hcr.al
    have hal1:AL n es (yfw (canF n es) 0 (-1)) 1:=fun e he=>by
      have h:=hal2 _ (he.add (v:=0) (k:=1) (by omega) (by have:=he.pos 0 (by omega);omega))
      refine yhY (fun v hv=>?_) h
      rw [ygA hv,ygA hv,yd5 (by rw [he.len];omega),yd5 (by rw [ykU];omega)]
      split
      · rename_i e;subst e;omega
      · omega
    obtain ⟨x,hx,hxa⟩:=eff_rep G (by rw [yfa,ykU]) (r:=1) (by omega) hal1
    rw [ykM (by rw [ykU];omega),can_dg G] at hx
    have:=gon_le hd (q:=3) (by omega) (by rwa [show ((3:Nat):Int)=2*(yc9 es+1-n)-2 + -1 by omega]) hxa
    omega
  by_cases n3:n≤3
  · omega
  have n4:n=4:=by omega
  subst n4
  have htot:=yh1 G.E
  have e7:yc9 es=7:=by omega
  have hs:W es 0 1+W es 0 2+W es 0 3+W es 1 2+W es 1 3+W es 2 3=7:=by
    rw [e7] at htot
    simp only [tot,sm] at htot
    rw [yhC,yhC,yhC,yhC,ye0 es 1 0,ye0 es 2 0,ye0 es 2 1,ye0 es 3 0,ye0 es 3 1,ye0 es 3 2] at htot
    omega
  obtain ⟨x,hx,hxa⟩:=four_three G.E (G.C 0 (by omega)) hs
  have:=gon_le hd (q:=3) (by omega) hx hxa
  omega
end
theorem conn_point{es:List E3}(hg:yav 1 es=0):ydD 1 es=true:=by
  obtain ⟨hE,_,_⟩:=ybW (n:=1) hg
  refine (yi7 (n:=1) hE (by omega) (by omega) (q:=0) (by omega)).2 ?_
  rintro S h0 ⟨v,hv,hS⟩
  obtain rfl:v=0:=by omega
  rw [h0] at hS;cases hS
theorem egg_point{n:Nat}{es:List E3}(hN:NrmE n es)(hn:n≤12){v:Nat}(hv:v<n):eggE n es [(v:Int)]=0:=by
  have hs:SetOk n [(v:Int)]:=⟨fun k hk=>by
    have:k=0:=by simpa using hk
    subst this;show 0≤(v:Int)∧(v:Int)<n;omega,fun j k hjk hk=>by
    have:k=0:=by simpa using hk
    omega⟩
  unfold eggE
  rw [if_pos (setOk_sub hs),if_neg (by simp)]
  rw [if_pos]
  exact conn_point (ind_ok hs hN hn (by simp))
theorem pts_ok{n:Nat}{es:List E3}(hj:yaS n es=0):ScrOk n es (ptsF n):=by
  obtain ⟨k,hk,h1,h12⟩:=ycH (ybn hj).1
  refine ⟨hj,by rw [pts_len];omega,fun x hx=>?_⟩
  unfold ptsF at hx
  obtain ⟨v,hv,rfl⟩:=List.mem_map.1 hx
  exact egg_point (nrm_of (ybn hj).1) (by omega) (List.mem_range.1 hv)
theorem p_r08_Limited{n:Int}{es:List E3}{R:Int→List E3→Prop}(hl:es.length≤40)(hE:∀ x∈es,x.2.2≤50)(h:R n (yfy es)):ykX n es 50 R:=by
  refine ⟨fun m i out=>∃ k:Nat,i=k∧k+m=es.length∧out.length≤k∧out=yfy (es.take k),⟨es.length,0,rfl,by omega,by simp,rfl⟩,?_⟩
  rintro m i out ⟨k,rfl,hm,ho,rfl⟩
  refine ⟨fun hlt=>?_,fun hge=>?_⟩
  · have hk:k<es.length:=by omega
    have hT:=yjz hk
    have hx:=hE (ge es k) (by rw [yc4 hk];exact List.getElem_mem hk)
    rw [Int.toNat_natCast]
    refine ⟨⟨by omega,hlt⟩,fun c=>⟨⟨by omega,by omega⟩,m-1,by omega,k+1,by omega,by omega,by omega,?_⟩,fun c=>⟨by omega,⟨by omega,by omega⟩,m-1,by omega,k+1,by omega,by omega,by simp;omega,?_⟩⟩
    · rw [hT,if_pos c,List.append_nil]
    · rw [hT,if_neg c,show mnF (ge es k).2.2 50=(ge es k).2.2 by unfold mnF;split <;> omega]
  · have:k=es.length:=by omega
    rw [this,List.take_length];exact h
theorem p_r08_GenusI{n:Nat}{es:List E3}{R:Int→Prop}(G:GOk n es)(h:R (yc9 es+1-n)):ykZ (n:Int) (yfy es) R:=by
  have hg:=yk7 G.g
  have hE:=(ybW hg).1
  have hn1:=G.n1;have hn5:=G.n5
  have hel:=G.el
  have hpl:(yfy es).length≤40:=Nat.le_trans (List.length_filter_le _ _) hel
  have hpm:=pm9 G
  have hc:ydD n (yfy es)=true:=by
    refine (yi7 hE hn1 (by omega) (q:=0) (by omega)).2 fun S h0 hS=>?_
    obtain ⟨v,u,h1,h2,h3,h4,h5⟩:=G.C 0 (by omega) S h0 hS
    exact ⟨v,u,h1,h2,h3,h4,by rw [yla];exact h5⟩
  refine p_r08_Size (by omega) (fun x hx=>by have:=hE x hx;omega) ?_
  rw [yk3]
  refine ⟨i64 (by omega),ylb (by omega) hg fun k hk=>?_⟩
  rw [hk.2 hc]
  refine ⟨i64 (by omega),?_⟩
  rwa [show yc9 es-n+1=yc9 es+1-n by omega]
theorem plain_le{n:Nat}{es:List E3}(hE:EOk n es):yc9 es≤(es.map (·.2.2)).sum:=by
  unfold yc9
  induction es with
  | nil=>exact Int.le_refl _
  | cons x t ih =>
    have:=ih fun y hy=>hE y (by simp [hy])
    have:=hE x (by simp)
    simp only [List.map_cons,List.sum_cons]
    split <;> omega
theorem p_gonalitytrees{n:Int}{es:List E3} : ykW n es (fun b=>b=true):=by
  refine p_l40_right (fun k hk G hj h7=>⟨fun _=>?_,fun q=>absurd rfl q⟩) ⟨fun q=>(by cases q),fun _=>yhq rfl⟩
  subst hk
  revert G hj
  generalize k=n
  intro G hj
  have hn1:=G.n1;have hn5:=G.n5;have hl:=G.el
  have hpm:=pm9 G
  refine yeY hl (fun c=>absurd hj c) fun _=>⟨n,rfl,G,fun j d hd=>?_⟩
  refine yih hl ?_
  rw [show yj5 n es=ptsF n by unfold yj5;rw [if_pos hj,Int.toNat_natCast],hj]
  have hS:=pts_ok hj
  refine ygg hl (fun c=>absurd hS.chk c) fun k' hk' _=>?_
  obtain rfl:n=k':=by omega
  have he:=hd.eff
  have hk1:=hd.k1
  have hck:ybf d n=0:=yfE he.len hn1 (by omega) fun i hi=>by have:=he.pos i hi;have:=he.le hi;omega
  have heg:ylc n es (ptsF n)=0:=by have:=hS.chk;unfold chkE at this;rwa [if_pos hj] at this
  refine yk4 hl (fun _=>⟨n,rfl,G⟩) (fun _ _ v hv=>by rw [he.len] at hv;have:=he.pos v hv;have:=he.le hv;omega) (fun c=>absurd hj c) (fun _ c=>absurd hck c) (fun _ _ c=>absurd heg c) fun _ _ _=>?_
  rw [Int.toNat_natCast]
  refine p_r08_Limited hl (fun x hx=>by have:=G.E x hx;omega) (p_r08_GenusI G ⟨i64 (by omega),i64 (by omega),i64 (by omega),fun _=>⟨fun _=>?_,fun q=>absurd ?_ q⟩,fun q=>absurd rfl q⟩)
  · have h1:=gon_half G hd (Int.le_trans (plain_le G.E) h7)
    have hg0:0≤yc9 es+1-n:=by have h:=(yk8 G).lo;omega
    have e:(yc9 es+1-n+3).tdiv 2=(yc9 es+1-n+3) / 2:=Int.tdiv_eq_ediv_of_nonneg (by omega)
    rw [e]
    refine ⟨i64 (by omega),by omega,i64 (by omega),fun _=>⟨fun _=>yhq rfl,fun q=>absurd ?_ q⟩,fun q=>absurd h1 q⟩
    by_cases c:(j:Int)≤ordF n es (ptsF n)
    · rw [verB_t ⟨he.deg,c,hd.al⟩,decide_eq_true c];rfl
    · rw [verB_f fun z=>c z.2.1,decide_eq_false c];rfl
  · have h1:=gon_one G hd
    by_cases c:j=1
    · rw [decide_eq_true (by omega:(j:Int)=1),decide_eq_true (h1.1 c)];rfl
    · rw [decide_eq_false (by omega:¬(j:Int)=1),decide_eq_false fun z=>c (h1.2 z)];rfl
end Go.Proofs.YtadpnlimiblniaaGreat
