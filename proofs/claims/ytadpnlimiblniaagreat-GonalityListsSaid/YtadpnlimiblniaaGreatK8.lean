/- Texts laid together: Lea, Ggn, PGd, Lg. -/
import Derived.Test.YtadpnlimiblniaaGreatK7
set_option linter.unusedVariables false
set_option linter.unusedSimpArgs false
set_option linter.unusedSectionVars false
/- Check, Hitting, Cut and Order of scrambles: the program and the reference. -/
namespace Go.Proofs.YtadpnlimiblniaaGreat
open Go Go.RowKit Go.Shelf Go.Proofs.Tryz
def eggE(n:Int)(es:List E3)(l:List Int):Int :=
  if subF n l=0 then (if l=[] then 14 else if ydD (l.length:Nat) (made l.length (indL es l))=true then 0 else 13) else subF n l
def yjn(n:Int)(es:List E3):List (List Int)→Int
  | []=>0
  | l::t=>if eggE n es l=0 then yjn n es t else eggE n es l
def eggsF(n:Int)(es:List E3)(s:List (List Int)):Int:=if 256<s.length then 5 else yjn n es s
def chkE(n:Int)(es:List E3)(s:List (List Int)):Int:=if yaS n es=0 then eggsF n es s else yaS n es
theorem yid{n:Int}{es:List E3} : ∀ {s:List (List Int)},yjn n es s=0↔∀ l∈s,eggE n es l=0
  | []=>by simp [yjn]
  | l::t=>by
    rw [yjn]
    by_cases c:eggE n es l=0
    · rw [if_pos c,yid];simp [c]
    · rw [if_neg c];simp [c]
theorem ybn{n:Int}{es:List E3}(h:yaS n es=0):yav n es=0∧ydD n es=true:=by
  unfold yaS at h
  split at h
  · rename_i c
    split at h
    · rename_i c2;exact ⟨c,c2⟩
    · cases h
  · rename_i c;exact absurd h c
theorem ycH{n:Int}{es:List E3}(h:yav n es=0):∃ k:Nat,n=k∧1≤k∧k≤12:=by
  have hn:(1:Int)≤n∧n≤12:=by
    unfold yav at h;split at h
    · assumption
    · cases h
  exact ⟨n.toNat,by omega,by omega,by omega⟩
theorem ycg{n:Int}{es:List E3}{R:Int→Prop}(hl:es.length≤1000000000)(h:R (yaS n es)):ybd n es R:=by
  refine ⟨hl,fun c=>⟨fun q=>?_,fun q=>?_⟩,fun c=>?_⟩
  · have q:=of_decide_eq_true q
    unfold yaS at h;rw [if_pos q.1,if_pos q.2] at h;exact h
  · unfold yaS at h;rw [if_pos c,if_neg (fun z=>q (decide_eq_true ⟨c,z⟩))] at h;exact h
  · unfold yaS at h;rw [if_neg c] at h;exact h
theorem yj7{n:Int}{es:List E3}{R:Int→Prop}(hl:es.length≤1000000000)(h:R (yaS n es)):yeH n es R:=by
  refine yjC hl ⟨fun c=>?_,fun c=>?_⟩
  · obtain ⟨k,rfl,_,_⟩:=ycH c
    refine ygT hl c ⟨fun q=>?_,fun q=>?_⟩
    · unfold yaS at h;rw [if_pos c,if_pos q] at h;exact h
    · unfold yaS at h;rw [if_pos c,if_neg q] at h;exact h
  · unfold yaS at h;rw [if_neg c] at h;exact h
theorem joined_ind{n:Nat}{es:List E3}{l:List Int}(hN:NrmE n es)(hn:n≤12)(hs:SetOk n l)(hne:l≠[]):yaS (l.length:Nat) (made l.length (indL es l))=if ydD (l.length:Nat) (made l.length (indL es l))=true then 0 else 13:=by
  unfold yaS;rw [if_pos (ind_ok hs hN hn hne)]
theorem made_len{d:Nat}{L:List (Int×Int)}(hd:d≤12):(made d L).length≤1000:=by
  have:(yf2 d (tabE d L)).length≤d*d:=by
    unfold yf2
    have:∀ m,((List.range m).flatMap (rowJ d (tabE d L))).length≤m*d:=fun m=>by
      induction m with
      | zero=>simp
      | succ m ih =>
        rw [List.range_succ,List.flatMap_append,List.length_append]
        have:((List.flatMap (rowJ d (tabE d L)) [m])).length≤d:=by
          rw [List.flatMap_singleton]
          unfold rowJ
          refine Nat.le_trans (List.length_filterMap_le _ _) ?_
          rw [List.length_range];omega
        rw [Nat.add_mul];omega
    exact this d
  have h2:d*d≤12*12:=Nat.mul_le_mul hd hd
  show (yf2 d (tabE d L)).length≤1000
  omega
theorem yer{n:Int}{es:List E3}{s:List (List Int)}{R:Int→Prop}(hl:es.length≤40)(h:R (chkE n es s)):ybN n es s R:=by
  refine ycg (by omega) ⟨fun c=>⟨fun q=>?_,fun q=>?_⟩,fun c=>?_⟩
  · unfold chkE eggsF at h;rw [if_pos c,if_pos (by omega)] at h;exact h
  · unfold chkE eggsF at h;rw [if_pos c,if_neg (by omega)] at h
    obtain ⟨k,rfl,hk1,hk12⟩:=ycH (ybn c).1
    have hN:=nrm_of (ybn c).1
    refine ⟨fun m v=>∃ i:Nat,v=i∧i+m=s.length∧yjn k es s=yjn k es (s.drop i),⟨s.length,0,rfl,by omega,rfl⟩,?_⟩
    rintro m v ⟨i,rfl,hm,he⟩
    refine ⟨fun hlt=>?_,fun hge=>?_⟩
    · have hi:i<s.length:=by omega
      rw [List.drop_eq_getElem_cons hi,yjn,←yc3 hi] at he
      rw [Int.toNat_natCast]
      refine ⟨⟨by omega,hlt⟩,p_graph_Subset' (by omega) (by omega) hN.g ⟨fun c1=>?_,fun c1=>?_⟩⟩
      · have hs:=yiY c1
        refine yjE hN hk12 hl (fun q=>absurd c1 q) (fun _ e=>?_) (fun _ hne=>?_)
        · refine ⟨fun z=>by omega,fun _=>?_⟩
          have e2:eggE k es (gx s i)=14:=by unfold eggE;rw [if_pos c1,if_pos e]
          rw [he,e2] at h;exact h
        · have hlen:=hs.len
          refine ⟨fun _=>ycg (by have:=made_len (d:=(gx s i).length) (L:=indL es (gx s i)) (by omega);omega) ?_,fun z=>by omega⟩
          rw [joined_ind hN hk12 hs hne]
          have e2:eggE k es (gx s i)=if ydD ((gx s i).length:Nat) (made (gx s i).length (indL es (gx s i)))=true then 0 else 13:=by unfold eggE;rw [if_pos c1,if_neg hne]
          rw [e2] at he
          refine ⟨fun z=>?_,fun z=>?_⟩
          · rw [if_pos z] at he
            exact ⟨⟨by omega,by omega⟩,m-1,by omega,i+1,by omega,by omega,he⟩
          · rw [if_neg z] at he
            rw [he] at h;exact h
      · have e2:eggE k es (gx s i)=subF k (gx s i):=by unfold eggE;rw [if_neg c1]
        rw [e2,if_neg c1] at he
        rw [he] at h;exact h
    · have:i=s.length:=by omega
      rw [he,this,List.drop_length] at h;exact h
  · unfold chkE at h;rw [if_neg c] at h;exact h
structure ScrOk(n:Nat)(es:List E3)(s:List (List Int)):Prop where
  j:yaS n es=0
  l:s.length≤256
  e:∀ x∈s,eggE n es x=0
theorem yiy{n:Nat}{es:List E3}{s:List (List Int)}(h:chkE n es s=0):ScrOk n es s:=by
  unfold chkE at h
  split at h
  · rename_i c
    unfold eggsF at h
    split at h
    · cases h
    · rename_i c2;exact ⟨c,by omega,yid.1 h⟩
  · rename_i c;exact absurd h c
theorem ScrOk.chk{n:Nat}{es:List E3}{s:List (List Int)}(h:ScrOk n es s):chkE n es s=0:=by
  unfold chkE eggsF
  have:=h.l
  rw [if_pos h.j,if_neg (by omega)];exact yid.2 h.e
theorem egg_zero{n:Nat}{es:List E3}{l:List Int}(h:eggE n es l=0):SetOk n l∧l≠[]∧ydD (l.length:Nat) (made l.length (indL es l))=true:=by
  unfold eggE at h
  split at h
  · rename_i c
    split at h
    · cases h
    · rename_i c2
      split at h
      · rename_i c3;exact ⟨yiY c,c2,c3⟩
      · cases h
  · rename_i c;exact absurd h c
theorem ScrOk.len{n:Nat}{es:List E3}{s:List (List Int)}(h:ScrOk n es s):∀ x∈s,x.length≤n:=fun x hx=>(egg_zero (h.e x hx)).1.len
theorem ScrOk.n12{n:Nat}{es:List E3}{s:List (List Int)}(h:ScrOk n es s):1≤n∧n≤12:=by
  obtain ⟨k,e,h1,h2⟩:=ycH (ybn h.j).1
  omega
theorem ScrOk.nrm{n:Nat}{es:List E3}{s:List (List Int)}(h:ScrOk n es s):NrmE n es:=nrm_of (ybn h.j).1
theorem vset_ok(n:Nat)(U:Nat→Bool):SetOk n (ykF n U):=by
  refine ⟨fun k hk=>?_,fun j k hjk hk=>?_⟩
  · have:gi (ykF n U) k∈ykF n U:=yjo hk
    obtain ⟨v,h1,_,h3⟩:=ykO.1 this
    omega
  · rw [yaN (by omega),yaN hk]
    exact List.pairwise_iff_getElem.1 (vsetL_sorted n U) j k (by omega) hk hjk
theorem yjA{n:Nat}{y:List Int}(h:y∈yeV n):SetOk n y:=by
  obtain ⟨U,rfl⟩:=sets_is h
  exact vset_ok n U
def hitF(n:Nat)(s:List (List Int)):Int×List Int:=lstF (fun y=>((y.length:Int),hitB s y)) (yeV n) (-1,[])
def sepF(n:Nat)(es:List E3)(s:List (List Int)):Int×List Int:=lstF (fun y=>((cutN es y:Int),parB s y)) (yeV n) (-1,[])
theorem ydJ{n:Int}{es:List E3}{s:List (List Int)}{R:Int→List Int→Int→Prop}(hl:es.length≤40)(h0:chkE n es s≠0→R 0 [] (chkE n es s))(h1:∀ k:Nat,n=k→ScrOk k es s→R (hitF k s).1 (hitF k s).2 0):ybh n es s R:=by
  refine yer hl ⟨fun c=>?_,fun c=>h0 c⟩
  have hj:yaS n es=0:=by
    unfold chkE at c;split at c
    · assumption
    · exact c
  obtain ⟨k,rfl,_,_⟩:=ycH (ybn hj).1
  have hS:=yiy c
  have:=hS.n12
  have hsl:=hS.l
  refine p_least (by omega) (val:=fun y=>((y.length:Int),hitB s y)) (fun y hy=>?_) (h1 k rfl hS)
  have:=(yjA hy).len
  exact ⟨by omega,fun R' h'=>p_Hitting_1 (by omega) (by omega) (fun e he=>by have:=hS.len e he;omega) h'⟩
theorem p_Cut_1{n:Nat}{es:List E3}{s:List (List Int)}(hS:ScrOk n es s)(hl:es.length≤40){y:List Int}(hy:SetOk n y){R:Int→Bool→Int→Prop}(h1:parB s y=true→R (cutN es y:Nat) true 0)(h2:parB s y=false→R 0 false 0):yce y s (n:Int) es 0 R:=by
  have hn:=hS.n12
  have hsl:=hS.l
  have hyl:=hy.len
  have hel:∀ e∈s,e.length≤1000000000:=fun e he=>by have:=hS.len e he;omega
  refine p_anySS (p:=fun egg=>covB y egg) (by omega) (fun x hx R' h'=>yib (by omega) (hel x hx) h') ?_
  refine p_anySS (p:=fun egg=>!ygL egg y) (by omega) (fun x hx R' h'=>ygf (by omega) (hel x hx) h') ?_
  refine ⟨parB s y=true,fun z=>p_graph_Cut hS.nrm hn.2 hl hy fun out ho=>?_,fun za=>⟨fun zb=>?_,fun zb=>h2 ?_⟩,fun za=>h2 ?_⟩
  · rw [ho];exact ⟨fun _=>h1 z,fun q=>absurd rfl q⟩
  · unfold parB;rw [za,zb];rfl
  · unfold parB;rw [Bool.eq_false_iff.2 zb,Bool.and_false]
  · unfold parB;rw [Bool.eq_false_iff.2 za,Bool.false_and]
theorem p_least_v2{n:Nat}{es:List E3}{s:List (List Int)}(hS:ScrOk n es s)(hl:es.length≤40){R:Int→List Int→Int→Prop}(h:R (sepF n es s).1 (sepF n es s).2 0):ycd (n:Int) s (n:Int) es 0 R:=by
  have hn:=hS.n12
  show ∃ Pr Rr:List (List Int)→Prop,_
  refine ⟨_,_,p_sets_1 (by omega),fun pre v best first=>v=0∧(best,first)=lstF (fun y=>((cutN es y:Int),parB s y)) pre (-1,[]),⟨rfl,rfl⟩,?_,?_⟩
  · rintro pre y v best first ⟨rfl,hI⟩ hPr
    have hy:SetOk n y:=yjA (hPr.subset (by simp))
    have hyl:=hy.len
    have hs:=yhX (fun y=>((cutN es y:Int),parB s y)) pre y (-1,[])
    rw [←hI] at hs
    refine p_Cut_1 hS hl hy (fun c=>⟨fun _=>⟨fun q2=>yhZ (by omega) ⟨rfl,?_⟩,fun q2=>⟨fun q3=>yhZ (by omega) ⟨rfl,?_⟩,fun q3=>⟨rfl,?_⟩⟩⟩,fun q=>absurd rfl q⟩) (fun c=>⟨fun q=>(by cases q),fun _=>⟨rfl,?_⟩⟩)
    · exact (hs.trans (if_pos ⟨c, .inl q2⟩)).symm
    · exact (hs.trans (if_pos ⟨c, .inr q3⟩)).symm
    · exact (hs.trans (if_neg (fun z=>z.2.elim q2 q3))).symm
    · exact (hs.trans (if_neg (fun z=>by rw [c] at z;cases z.1))).symm
  · rintro ys v best first ⟨rfl,hI⟩ hR
    have hR:ys=yeV n:=hR
    subst hR
    unfold sepF at h
    rw [←hI] at h
    exact h
theorem yft{n:Int}{es:List E3}{s:List (List Int)}{R:Int→List Int→Int→Prop}(hl:es.length≤40)(h0:chkE n es s≠0→R 0 [] (chkE n es s))(h1:∀ k:Nat,n=k→ScrOk k es s→R (sepF k es s).1 (sepF k es s).2 0):ybO n es s R:=by
  refine yer hl ⟨fun c=>?_,fun c=>h0 c⟩
  have hj:yaS n es=0:=by
    unfold chkE at c;split at c
    · assumption
    · exact c
  obtain ⟨k,rfl,_,_⟩:=ycH (ybn hj).1
  have hS:=yiy c
  exact p_least_v2 hS hl ⟨fun _=>h1 k rfl hS,fun q=>absurd rfl q⟩
def ordF(n:Nat)(es:List E3)(s:List (List Int)):Int:=if (sepF n es s).1<0 then (hitF n s).1 else mnF (hitF n s).1 (sepF n es s).1
theorem ygg{n:Int}{es:List E3}{s:List (List Int)}{R:Int→Int→Prop}(hl:es.length≤40)(h0:chkE n es s≠0→R 0 (chkE n es s))(h1:∀ k:Nat,n=k→ScrOk k es s→R (ordF k es s) 0):ybM n es s R:=by
  refine ydJ hl (fun c=>⟨fun q=>absurd q c,fun _=>h0 c⟩) fun k hk hS=>⟨fun _=>?_,fun q=>absurd rfl q⟩
  refine yft hl (fun c=>absurd (by rw [hk];exact hS.chk) c) fun k' hk' _=>⟨fun _=>?_,fun q=>absurd rfl q⟩
  have e:k'=k:=by omega
  subst e
  have h:=h1 k' hk hS
  unfold ordF at h
  exact ⟨fun c=>by rw [if_pos c] at h;exact h,fun c=>by rw [if_neg c] at h;exact h⟩
section
variable {n : Nat} {es : List E3} {s : List (List Int)} (hS : ScrOk n es s) (hl : es.length ≤ 40) (hn6 : n ≤ 6)
include hS hl hn6
end
end Go.Proofs.YtadpnlimiblniaaGreat

/- Gonality: the first effective divisor of the least degree whose rank is at least 1; the program and the reference. -/
namespace Go.Proofs.YtadpnlimiblniaaGreat
open Go Go.RowKit Go.Shelf Go.Proofs.Tryz
theorem first_setG(N:Nat)(k:Int):(List.replicate (N+1) (0:Int)).set N k=ydX (N+1) k:=by
  refine ygi (by rw [List.length_set,List.length_replicate,yhO (by omega)]) fun i hi=>?_
  rw [List.length_set,List.length_replicate] at hi
  rw [ycQ (by rw [List.length_replicate];omega),gi_firstF,yhs hi]
  rfl
theorem yju{N k:Nat}(hN:N≤4)(hk:k≤6):ybX (ydX (N+1) (k:Int)) (fun p=>p <+: ycp (N+1) k) (fun p=>p=ycp (N+1) k):=by
  unfold ybX
  obtain ⟨⟨B0,hB0⟩,hst⟩:=yhl N k
  have hmem:∀ x∈ycp (N+1) k,x.length=N+1∧∀ j,j<N+1 → -1000000≤gi x j∧gi x j≤1000000:=fun x hx=>by
    obtain ⟨h1,h2,h3⟩:=(yed N k x).1 hx
    exact ⟨h1,fun j hj=>by have:=dg_entry h2 (j:=j) (by omega);omega⟩
  generalize ycp (N+1) k=L at hB0 hst hmem ⊢
  refine ⟨fun q pre more v=>∃ B,L=pre++B∧q=B.length∧(more=true→∃ B',B=v::B')∧(more=false→B=[]),⟨L.length,L,rfl,rfl,fun _=>⟨B0,hB0⟩,fun q=>(by cases q)⟩,?_⟩
  rintro q pre more v ⟨B,hL,rfl,hm,hn⟩
  refine ⟨fun hmt=>?_,fun hmf=>?_⟩
  · obtain ⟨B',rfl⟩:=hm hmt
    obtain ⟨hvl,hvb⟩:=hmem v (by rw [hL];simp)
    have hL2:L=(pre++[v])++B':=by rw [hL];simp
    have hat:=(show ygn (pre++v::B') none by rw [←hL];exact hst).at_
    refine ygo (by omega) ⟨⟨B',hL2.symm⟩,?_,trivial⟩
    refine p_chips_step (by omega) (by omega) (fun j hj=>hvb j (by omega)) (fun y hy=>⟨B'.length,by simp,B',hL2,rfl,fun _=>?_,fun q=>(by cases q)⟩) (fun hno=>?_)
    · rw [hy] at hat
      cases B' with
      | nil=>simp at hat
      | cons z B'=>simp at hat;exact ⟨B',by rw [hat]⟩
    · rw [hno] at hat
      refine ⟨B'.length,by simp,B',hL2,rfl,fun q=>(by cases q),fun _=>?_⟩
      cases B' with
      | nil=>rfl
      | cons z B'=>simp at hat
  · have hB:=hn (by simpa using hmf)
    rw [hB,List.append_nil] at hL
    exact hL.symm
def cntG(k:Nat):Nat→Int
  | 0=>1
  | i+1=>if i=0 then 1 else (cntG k i*((k:Int)+i)).tdiv i
theorem cntG_ok:∀ k,k<6→∀ j,j<5→0<j→(0≤cntG k j∧cntG k j≤1000)∧(0≤cntG k j*((k:Int)+j)∧cntG k j*((k:Int)+j)≤10000)∧(cntG k j*((k:Int)+j)).tdiv (j:Int)=cntG k (j+1)∧(0≤cntG k (j+1)∧cntG k (j+1)≤1000):=by decide
theorem p_chips_AllG{N k:Nat}{R:List (List Int)→Int→Prop}(hN:N≤4)(hk:k≤5)(h:R (ycp (N+1) k) 0):yeg ((N+1:Nat):Int) (k:Int) R:=by
  unfold yeg
  have hv:∀ {R':Int→Prop},R' 0→ybu ((N+1:Nat):Int) R':=fun h=>by
    unfold ybu
    exact ⟨fun q=>by omega,fun _=>⟨fun q=>by omega,fun _=>h⟩⟩
  refine hv ⟨fun _=>?_,fun q=>absurd rfl q⟩
  · refine ⟨True,fun _=>?_,fun q=>by omega,fun _=>⟨fun q=>by omega,fun _=>trivial⟩⟩
    refine ⟨fun q c i=>∃ j:Nat,i=(j:Int)∧1≤j∧j≤N+1∧q=N+1-j∧c=cntG k j,⟨N,1,rfl,by omega,by omega,by omega,rfl⟩,?_⟩
    rintro q c _ ⟨j,rfl,h1,hj,rfl,rfl⟩
    refine ⟨fun hlt=>?_,fun hge=>?_⟩
    · obtain ⟨k1,k2,k3,k4⟩:=cntG_ok k (by omega) j (by omega) (by omega)
      rw [k3]
      exact ⟨i64 (by omega),i64 (by omega),by omega,i64 (by omega),fun q=>by omega,fun _=>⟨i64 (by omega),N+1-(j+1),by omega,j+1,rfl,by omega,by omega,rfl,rfl⟩⟩
    · have e1:(((N+1:Nat):Int)-1).toNat=N:=by omega
      rw [e1,Int.toNat_natCast,first_setG]
      refine ⟨by omega,i64 (by omega),by simp;omega,?_⟩
      unfold yeP ybg yaM
      have hlen:=list_few (n:=N) (k:=k) (by omega) (by omega)
      refine ⟨fun p=>p <+: ycp (N+1) k,fun p=>p=ycp (N+1) k,yju hN (by omega),fun p s=>s=p,rfl,fun pre y s hs hp=>⟨?_,by rw [hs]⟩,fun ys s hs hys=>by rw [hs,hys];exact h⟩
      have:=hp.length_le
      rw [List.length_append,List.length_singleton] at this
      rw [hs];omega
theorem p_graph_EndsI{n:Nat}{es:List E3}{R:List (Int×Int)→Int→Prop}(hl:es.length≤100)(q:yav n es=0)(h:R (yeK es) 0):yeI (n:Int) es R:=by
  refine ydK (by omega) ⟨fun q=>?_,fun c=>absurd q c⟩
  obtain ⟨hE,hn1,hn12⟩:=ybW q
  show ∃ Pr Rr:List (Int×Int×Int)→Prop,_
  refine ⟨_,_,yd3 hE (by omega),fun pre out=>out=pre.map fun y=>(y.2.1,y.2.2),rfl,?_,?_⟩
  · rintro pre e a b out rfl hPr
    have hPr:(pre++[(e,a,b)]).map gmap <+: sF es:=hPr
    have h2:=hPr.length_le
    have h3:=sF_few hE
    rw [List.length_map,List.length_append] at h2
    simp only [List.length_singleton] at h2
    refine ⟨by rw [List.length_map];omega,?_⟩
    show _=List.map _ _
    rw [List.map_append];rfl
  · rintro ys out rfl hR
    have hR:ys.map gmap=sF es:=hR
    have e:ys.map (fun y=>(y.2.1,y.2.2))=yeK es:=by
      rw [←sF_endsI,←hR,List.map_map];rfl
    rw [e];exact h
theorem p_graph_SizeI{n:Nat}{es:List E3}{R:Int→Int→Prop}(hl:es.length≤100)(q:yav n es=0)(h:R ((es.map (·.2.2)).sum) 0):yeL (n:Int) es R:=by
  refine p_graph_EndsI hl q ?_
  rw [(ye6 es (fun x hx=>by have:=(ybW q).1 x hx;omega)).1];exact h
theorem p_AtLeast1{n:Nat}{es:List E3}{d:List Int}{R:Bool→Int→Prop}(hD:DOk n es d)(hg:ybo n es 0 d=0)(h1:AL n es d 1→R true 0)(h2:¬AL n es d 1→R false 0):ycl (n:Int) es d 1 R:=by
  have hel:=hD.G.el
  refine p_rank_AtLeast (by omega) (fun q=>absurd hg q) (fun _ q=>by omega) fun _ _=>⟨hD,fun k hk=>?_⟩
  have hk:RkOk n es d k:=hk
  by_cases c:(1:Int)≤k
  · rw [decide_eq_true c];exact h1 ((hk.ge hD.G.n1).1 c)
  · rw [decide_eq_false c];exact h2 fun q=>c ((hk.ge hD.G.n1).2 q)
structure GonOk(n:Nat)(es:List E3)(k:Nat)(d:List Int):Prop where
  k1:1≤k∧k≤n
  at_:∃ i,i<(ycp n k).length∧gx (ycp n k) i=d∧∀ j,j<i→¬AL n es (gx (ycp n k) j) 1
  al:AL n es d 1
  no:∀ k',1≤k'→k'<k→∀ y∈ycp n k',¬AL n es y 1
theorem GonOk.mem{n:Nat}{es:List E3}{k:Nat}{d:List Int}(h:GonOk n es k d):d∈ycp n k:=by
  obtain ⟨i,hi,rfl,_⟩:=h.at_
  exact ygu hi
theorem GonOk.eq{n:Nat}{es:List E3}{k k':Nat}{d d':List Int}(h:GonOk n es k d)(h':GonOk n es k' d'):k=k'∧d=d':=by
  have e:k=k':=by
    rcases Nat.lt_trichotomy k k' with q | q | q
    · exact absurd h.al (h'.no k h.k1.1 q d h.mem)
    · exact q
    · exact absurd h'.al (h.no k' h'.k1.1 q d' h'.mem)
  subst e
  refine ⟨rfl,?_⟩
  obtain ⟨i,hi,e1,h1⟩:=h.at_;obtain ⟨j,hj,e2,h2⟩:=h'.at_
  rcases Nat.lt_trichotomy i j with q | q | q
  · exact absurd (by rw [e1];exact h.al) (h2 i q)
  · rw [←e1,←e2,q]
  · exact absurd (by rw [e2];exact h'.al) (h1 j q)
theorem al_ones{n:Nat}{es:List E3}(hn:1≤n):AL n es (List.replicate n 1) 1:=fun e he=>⟨fun _=>0,fun v hv=>by
  have:=he.le hv
  rw [yfl,ygA hv,yaN (by simpa using hv)];simp;omega⟩
theorem ones_mem(N:Nat):List.replicate (N+1) (1:Int)∈ycp (N+1) (N+1):=by
  refine (yed N (N+1) _).2 ⟨by simp,fun a ha=>by rw [(List.mem_replicate.1 ha).2];omega,?_⟩
  have:∀ m:Nat,(List.replicate m (1:Int)).sum=m:=fun m=>by
    induction m with
    | zero=>rfl
    | succ m ih=>rw [List.replicate_succ,List.sum_cons,ih];omega
  exact this _
theorem gok_dok{N:Nat}{es:List E3}(hG:GOk (N+1) es){k:Nat}(hk:k≤5){y:List Int}(hy:y∈ycp (N+1) k):DOk (N+1) es y∧ybo ((N+1:Nat):Int) es 0 y=0∧y.length=N+1:=by
  have he:=yku hy
  have hb:∀ v,v<N+1→0≤gi y v∧gi y v≤5:=fun v hv=>by have:=he.pos v hv;have:=he.le hv;omega
  refine ⟨⟨hG,fun v hv=>by have:=hb v hv;omega,by rw [he.deg];omega⟩,?_,he.len⟩
  rw [given0]
  have hj:yaS ((N+1:Nat):Int) es=0:=by unfold yaS;rw [if_pos hG.g,if_pos hG.c]
  have:=hG.n5
  rw [if_pos hj]
  exact yfE he.len (by omega) (by omega) fun j hj=>by have:=hb j hj;omega
theorem yeY{n:Int}{es:List E3}{R:Int→List Int→Int→Prop}(hl:es.length≤40)(h0:yaS n es≠0→R 0 [] (yaS n es))(h1:yaS n es=0→∃ k:Nat,n=k∧GOk k es∧∀ j d,GonOk k es j d→R j d 0):ybG n es R:=by
  refine ycg (by omega) ⟨fun c=>?_,fun c=>h0 c⟩
  obtain ⟨n,rfl,hG,hR⟩:=h1 c
  have hn1:=hG.n1;have hn5:=hG.n5;have hsu:=hG.su
  obtain ⟨N,rfl⟩:∃ N,n=N+1:=⟨n-1,by omega⟩
  refine p_graph_SizeI (by omega) hG.g ⟨True,fun _=>?_,fun _=>⟨fun q=>by omega,fun _=>⟨fun q=>by omega,fun _=>trivial⟩⟩,fun q=>absurd rfl q⟩
  refine ⟨fun m v=>∃ k:Nat,v=k∧1≤k∧k+m=N+2∧∀ k',1≤k'→k'<k→∀ y∈ycp (N+1) k',¬AL (N+1) es y 1,⟨N+1,1,rfl,by omega,by omega,fun k' h1 h2=>by omega⟩,?_⟩
  rintro m v ⟨k,rfl,hk1,hm,hno⟩
  refine ⟨fun hle=>?_,fun hgt=>?_⟩
  · refine p_chips_AllG (by omega) (by omega) ⟨fun _=>?_,fun q=>absurd rfl q⟩
    have hfew:=list_few (n:=N) (k:=k) (by omega) (by omega)
    refine ⟨fun m v=>∃ i:Nat,v=i∧i+m=(ycp (N+1) k).length∧∀ j,j<i→¬AL (N+1) es (gx (ycp (N+1) k) j) 1,⟨_,0,rfl,Nat.zero_add _,fun j hj=>by omega⟩,?_⟩
    rintro m' v ⟨i,rfl,hm',hi⟩
    refine ⟨fun hlt=>?_,fun hge=>?_⟩
    · have hil:i<(ycp (N+1) k).length:=by omega
      obtain ⟨hD,hg,hlen⟩:=gok_dok hG (k:=k) (by omega) (ygu hil)
      rw [Int.toNat_natCast]
      refine ⟨⟨by omega,hlt⟩,p_AtLeast1 hD hg (fun hal=>⟨fun _=>⟨fun _=>hR k _ ⟨⟨hk1,by omega⟩,⟨i,hil,rfl,hi⟩,hal,hno⟩,fun q=>absurd rfl q⟩,fun q=>absurd rfl q⟩) fun hal=>⟨fun _=>⟨fun q=>(by cases q),fun _=>⟨⟨by omega,by omega⟩,m'-1,by omega,i+1,by omega,by omega,fun j hj=>?_⟩⟩,fun q=>absurd rfl q⟩⟩
      by_cases e:j=i
      · rw [e];exact hal
      · exact hi j (by omega)
    · refine ⟨⟨by omega,by omega⟩,m-1,by omega,k+1,by omega,by omega,by omega,fun k' h1 h2 y hy=>?_⟩
      by_cases e:k'=k
      · subst e
        obtain ⟨j,hj,ej⟩:=List.mem_iff_getElem.1 hy
        rw [←ej,←yc3 hj]
        exact hi j (by omega)
      · exact hno k' h1 (by omega) y hy
  · exact absurd (al_ones hn1) (hno (N+1) (by omega) (by omega) _ (ones_mem N))
def ptsF(n:Nat):List (List Int):=(List.range n).map fun v:Nat=>[(v:Int)]
def prsF:List E3→List (List Int)
  | []=>[]
  | x::t=>(if x.1=x.2.1 then [] else [[x.1,x.2.1]])++prsF t
theorem prsF_app:∀ a b:List E3,prsF (a++b)=prsF a++prsF b
  | [],b=>rfl
  | x::t,b=>by rw [List.cons_append,prsF,prsF,prsF_app t b,List.append_assoc]
theorem prsF_len:∀ a:List E3,(prsF a).length≤a.length
  | []=>Nat.le_refl _
  | x::t=>by
    have:=prsF_len t
    rw [prsF,List.length_append,List.length_cons]
    split <;> simp <;> omega
theorem prsF_take{es:List E3}{k:Nat}(hk:k<es.length):prsF (es.take (k+1))=prsF (es.take k)++if (ge es k).1=(ge es k).2.1 then [] else [[(ge es k).1,(ge es k).2.1]]:=by
  rw [List.take_add_one,List.getElem?_eq_getElem hk,←yc4 hk,prsF_app]
  simp [prsF]
def pairE(n:Int)(es:List E3):List (List Int):=if yaS n es=0 then prsF es else []
def yj5(n:Int)(es:List E3):List (List Int):=if yaS n es=0 then ptsF n.toNat else []
theorem loop_pts{n:Nat}(hn:n≤12){R:List (List Int)→Int→Prop}(h:R (ptsF n) 0):(∃ I2:Nat→(List (List Int))→Int→Prop,(∃ m0,I2 m0 ([]) 0)∧∀ (m2:Nat) (out:List (List Int)) (v:Int),I2 m2 out v → 
((v<(n:Int) →
(out.length+1≤1000000000 ∧
(In64 (v+1) ∧
∃ m3,m3<m2∧I2 m3 (out++[[v]]) (v+1)))) ∧
(¬(v<(n:Int)) →
R out 0))):=by
  refine ⟨fun m out v=>∃ k:Nat,v=k∧k+m=n∧out=ptsF k,⟨n,0,rfl,by omega,rfl⟩,?_⟩
  rintro m out v ⟨k,rfl,hm,rfl⟩
  refine ⟨fun hlt=>⟨by simp [ptsF];omega,⟨by omega,by omega⟩,m-1,by omega,k+1,by omega,by omega,?_⟩,fun hge=>?_⟩
  · unfold ptsF;rw [List.range_succ,List.map_append];rfl
  · have:k=n:=by omega
    rw [this];exact h
theorem yih{n:Int}{es:List E3}{R:List (List Int)→Int→Prop}(hl:es.length≤40)(h:R (yj5 n es) (yaS n es)):ycL n es R:=by
  unfold yj5 at h
  refine ycg (by omega) ⟨fun c=>?_,fun c=>by rw [if_neg c] at h;exact h⟩
  rw [if_pos c,c] at h
  obtain ⟨k,rfl,_,h12⟩:=ycH (ybn c).1
  exact loop_pts h12 h
theorem p_r40_Points{n:Int}{es:List E3}{R:List (List Int)→Int→Prop}(hl:es.length≤40)(h:R (yj5 n es) (yaS n es)):yjZ n es R:=by
  unfold yj5 at h
  refine yj7 (by omega) ⟨fun c=>?_,fun c=>by rw [if_neg c] at h;exact h⟩
  rw [if_pos c,c] at h
  obtain ⟨k,rfl,_,h12⟩:=ycH (ybn c).1
  exact loop_pts h12 h
theorem loop_prs{es:List E3}(hl:es.length≤40){R:List (List Int)→Int→Prop}(h:R (prsF es) 0):(∃ I2:Nat→(List (List Int))→Int→Prop,(∃ m0,I2 m0 ([]) 0)∧∀ (m2:Nat) (out:List (List Int)) (v:Int),I2 m2 out v → 
((v<((es.length:Nat):Int) →
((0≤v∧v<((es.length:Nat):Int)) ∧
((((ge es v.toNat).1)=((ge es v.toNat).2.1) →
(In64 (v+1) ∧
∃ m3,m3<m2∧I2 m3 out (v+1))) ∧
(¬(((ge es v.toNat).1)=((ge es v.toNat).2.1)) →
(out.length+1≤1000000000 ∧
(In64 (v+1) ∧
∃ m4,m4<m2∧I2 m4 (out++[[(ge es v.toNat).1,(ge es v.toNat).2.1]]) (v+1))))))) ∧
(¬(v<((es.length:Nat):Int)) →
R out 0))):=by
  refine ⟨fun m out v=>∃ k:Nat,v=k∧k+m=es.length∧out=prsF (es.take k),⟨es.length,0,rfl,by omega,rfl⟩,?_⟩
  rintro m out v ⟨k,rfl,hm,rfl⟩
  refine ⟨fun hlt=>⟨⟨by omega,hlt⟩,fun c=>⟨⟨by omega,by omega⟩,m-1,by omega,k+1,by omega,by omega,?_⟩,fun c=>⟨?_,⟨by omega,by omega⟩,m-1,by omega,k+1,by omega,by omega,?_⟩⟩,fun hge=>?_⟩
  · rw [Int.toNat_natCast] at c
    rw [prsF_take (by omega),if_pos c,List.append_nil]
  · have:=prsF_len (es.take k)
    rw [List.length_take] at this;omega
  · rw [Int.toNat_natCast] at c ⊢
    rw [prsF_take (by omega),if_neg c]
  · have:k=es.length:=by omega
    rw [this,List.take_length];exact h
theorem yiJ{n:Int}{es:List E3}{R:List (List Int)→Int→Prop}(hl:es.length≤40)(h:R (pairE n es) (yaS n es)):yc7 n es R:=by
  unfold pairE at h
  refine ycg (by omega) ⟨fun c=>?_,fun c=>by rw [if_neg c] at h;exact h⟩
  rw [if_pos c,c] at h
  exact loop_prs hl h
theorem p_r40_Pairs{n:Int}{es:List E3}{R:List (List Int)→Int→Prop}(hl:es.length≤40)(h:R (pairE n es) (yaS n es)):yj1 n es R:=by
  unfold pairE at h
  refine yj7 (by omega) ⟨fun c=>?_,fun c=>by rw [if_neg c] at h;exact h⟩
  rw [if_pos c,c] at h
  exact loop_prs hl h
end Go.Proofs.YtadpnlimiblniaaGreat

/- Pure forms of functions, made by program (pf.py), each with the proof that the code does so. -/
namespace Go.Proofs.YtadpnlimiblniaaGreat
open Go Go.RowKit Go.Shelf Go.Proofs.Tryz
set_option maxRecDepth 100000
set_option maxHeartbeats 8000000
def ycS(R:Bool→Prop):Prop :=
ydQ (fun r r2 =>
ybG r r2 (fun r3 r4 r5 =>
ycL r r2 (fun r6 r7 =>
ybO r r2 r6 (fun r8 r9 r10 =>
ybM r r2 r6 (fun r11 r12 =>
ybG 3 ([(0,1,1),(1,2,1)]) (fun r13 r14 r15 =>
yc7 3 ([(0,1,1),(1,2,1)]) (fun r16 r17 =>
ybh 3 ([(0,1,1),(1,2,1)]) r16 (fun r18 r19 r20 =>
(In64 (r5+r7) ∧
(In64 ((r5+r7)+r10) ∧
(In64 (((r5+r7)+r10)+r12) ∧
(In64 ((((r5+r7)+r10)+r12)+r15) ∧
(In64 (((((r5+r7)+r10)+r12)+r15)+r17) ∧
(In64 ((((((r5+r7)+r10)+r12)+r15)+r17)+r20) ∧
((((((((r5+r7)+r10)+r12)+r15)+r17)+r20)=0 →
((r3=2 →
ybb r4 ([0,0,2]) (fun r21 =>
((r21=true →
((r8=2 →
ybr r9 ([0]) (fun r22 =>
((r22=true →
((r11=2 →
((r13=1 →
ybb r14 ([0,0,1]) (fun r23 =>
((r23=true →
((r18=1 →
ybr r19 ([1]) (fun r24 =>
R r24)) ∧
(¬(r18=1) →
R false))) ∧
(¬(r23=true) →
R false)))) ∧
(¬(r13=1) →
R false))) ∧
(¬(r11=2) →
R false))) ∧
(¬(r22=true) →
R false)))) ∧
(¬(r8=2) →
R false))) ∧
(¬(r21=true) →
R false)))) ∧
(¬(r3=2) →
R false))) ∧
(¬(((((((r5+r7)+r10)+r12)+r15)+r17)+r20)=0) →
R false))))))))))))))))
theorem yfW{O:Nat→Prop}{w:World}{R:Bool→Prop}(h:ycS R)(hO:∀ k,O k→k<w.heap.size) :
    Calls Tryz.prog 13 #[] w fun e w'=>∃ r25,e = .returned (.bool (r25))∧Sep w no O w' (rl [])∧R r25:=by
  unfold ycS at h;have hS:Sep w no O w (rl []):=Sep.start w hO;refine yap (l:=[]) func13 rfl ntmps13 zY (zs (zQ (.bool (false)) (yaa (zs (zn (yam rfl (am0) enter_53 ((yiH h (yaB _)).mono ?_)))))));rintro _ w2 ⟨r,r2,Ar,lr,cr,rfl,hC,h⟩;replace hS:=hS.call1 (hC.widen (yde (ya0 (fP (fI .i64) (fP (fI .i64) (fI .i64))) _ _ _ _ _) ydA) hS.blt) 0 0 rfl;clear hC;refine ⟨_,rfl,?_⟩;refine zb (zn (yaO yao ?_));intro g w3 hN;replace hS:Sep w no O w3 (stl _ 1 (Res.box 24 g [(ii 0),(.slice none 0 0)])):=hS.new 1 rfl hN;clear hN;refine zb (zo (yaV (b:=g) (o:=0) (cells:=#[(ii r),(.slice Ar lr cr)]) rfl rfl yao rfl rfl (yaI (hS.bx 1 rfl) zY) ?_));intro w4 e1;replace hS:=hS.bstn 1 rfl 0 [(ii r),(.slice Ar lr cr)] e1;clear e1;refine zb (yaa (zs (zn (yck (l:=[(0,(ii 0)),(1,(ii 1)),(2,(ii 1))]) (cells:=[(ii 0),(ii 1),(ii 1)]) (places:=[(0,1),(1,1),(2,1)]) (bp3 rfl rfl rfl) underlying79 yaK (by kernel_rfl) rfl ?_))));refine zb (zn (yck (l:=[(0,(ii 1)),(1,(ii 2)),(2,(ii 1))]) (cells:=[(ii 1),(ii 2),(ii 1)]) (places:=[(0,1),(1,1),(2,1)]) (bp3 rfl rfl rfl) underlying79 yaK (by kernel_rfl) rfl ?_));refine zb (zn (yaX (l:=[(0,(.agg #[(ii 0),(ii 1),(ii 1)])),(1,(.agg #[(ii 1),(ii 2),(ii 1)]))]) (cells:=[(ii 0),(ii 1),(ii 1),(ii 1),(ii 2),(ii 1)]) (bp2 rfl rfl) underlying22 yaK rfl rfl ?_));intro g2 w5 hN;replace hS:=hS.litf (n:=2) 2 rfl (fP (fI .i64) (fP (fI .i64) (fI .i64))) hN ([(0,1,1),(1,2,1)]:List E3) rfl (by decide) rfl;clear hN;refine zb (zn (yck (l:=[(0,(ii 3)),(1,(.slice (some ⟨g2,0,none⟩) 2 2))]) (cells:=[(ii 3),(.slice (some ⟨g2,0,none⟩) 2 2)]) (places:=[(0,1),(1,1)]) (bp2 rfl rfl) underlying24 yao (by kernel_rfl) rfl ?_));refine zb (zn (yaO yao ?_));intro g3 w6 hN;replace hS:Sep w no O w6 (stl _ 3 (Res.box 24 g3 [(ii 0),(.slice none 0 0)])):=hS.new 3 rfl hN;clear hN;refine zb (zo (yaV (b:=g3) (o:=0) (cells:=#[(ii 3),(.slice (some ⟨g2,0,none⟩) 2 2)]) rfl rfl yao rfl rfl (yaI (hS.bx 3 rfl) zY) ?_));intro w7 e1;replace hS:=hS.bstn 3 rfl 0 [(ii 3),(.slice (some ⟨g2,0,none⟩) 2 2)] e1;clear e1;refine zb (yaa (zs (zq (yaq (vs:=[(ii r),(.slice Ar lr cr)]) rfl underlying24 rfl yao ⟨Row.cell (hS.bx 1 rfl) (i:=0) rfl,Row.cell (hS.bx 1 rfl) (i:=1) rfl,trivial⟩) ?_)));replace hS:=hS.frz 0 rfl;refine zn (yam rfl (am1 rfl) enter_24 ((yee h hS.blt (hS.ro 0 rfl)).mono ?_));rintro _ w8 ⟨r3,r4,r5,Ar2,lr2,cr2,rfl,hC,h⟩;replace hS:=hS.call1 hC 4 0 rfl;clear hC;refine ⟨_,rfl,?_⟩;refine zb (zM (.tuple #[(ii r3),(.slice Ar2 lr2 cr2),(ii r5)]) (zq (zx (ii r3)) (zq (zx (.slice Ar2 lr2 cr2)) (zq (zx (ii r5)) (zQ (ii r3) (zQ (.slice Ar2 lr2 cr2) (zQ (ii r5) (yaa (zs (zq (yaq (vs:=[(ii r),(.slice Ar lr cr)]) rfl underlying24 rfl yao ⟨Row.cell (hS.bx 1 rfl) (i:=0) rfl,Row.cell (hS.bx 1 rfl) (i:=1) rfl,trivial⟩) (zn (yam rfl (am1 rfl) enter_33 ((yho h hS.blt (hS.ro 0 rfl)).mono ?_)))))))))))));rintro _ w9 ⟨r6,r7,Ar3,lr3,cr3,rfl,hC,h⟩;replace hS:=hS.call1 hC 5 0 rfl;clear hC;refine ⟨_,rfl,?_⟩;refine zb (zM (.tuple #[(.slice Ar3 lr3 cr3),(ii r7)]) (zq (zx (.slice Ar3 lr3 cr3)) (zq (zx (ii r7)) (zQ (.slice Ar3 lr3 cr3) (zQ (ii r7) (yaa (zs (zq (yaq (vs:=[(ii r),(.slice Ar lr cr)]) rfl underlying24 rfl yao ⟨Row.cell (hS.bx 1 rfl) (i:=0) rfl,Row.cell (hS.bx 1 rfl) (i:=1) rfl,trivial⟩) (zM (.slice Ar3 lr3 cr3) (zn (yam rfl (am2 rfl rfl) enter_16 ((yev h (yaB _) (hS.rdr 0 rfl) (hS.rdo 5 rfl)).mono ?_))))))))))));rintro _ w10 ⟨r8,r9,r10,Ar4,lr4,cr4,rfl,hC,h⟩;replace hS:=hS.call1 (hC.widen (yde (ya0 (fI .i64) _ _ _ _ _) ydA) hS.blt) 6 0 rfl;clear hC;refine ⟨_,rfl,?_⟩;refine zb (zM (.tuple #[(ii r8),(.slice Ar4 lr4 cr4),(ii r10)]) (zq (zx (ii r8)) (zq (zx (.slice Ar4 lr4 cr4)) (zq (zx (ii r10)) (zQ (ii r8) (zQ (.slice Ar4 lr4 cr4) (zQ (ii r10) (yaa (zs (zq (yaq (vs:=[(ii r),(.slice Ar lr cr)]) rfl underlying24 rfl yao ⟨Row.cell (hS.bx 1 rfl) (i:=0) rfl,Row.cell (hS.bx 1 rfl) (i:=1) rfl,trivial⟩) (zM (.slice Ar3 lr3 cr3) (zn (yam rfl (am2 rfl rfl) enter_18 ((yff h (yaB _) (hS.rdr 0 rfl) (hS.rdo 5 rfl)).mono ?_))))))))))))));rintro _ w11 ⟨r11,r12,rfl,hC,h⟩;replace hS:=hS.pur hC.pure;clear hC;refine ⟨_,rfl,?_⟩;refine zb (zM (.tuple #[(ii r11),(ii r12)]) (zq (zx (ii r11)) (zq (zx (ii r12)) (zQ (ii r11) (zQ (ii r12) (yaa (zs (zq (yaq (vs:=[(ii 3),(.slice (some ⟨g2,0,none⟩) 2 2)]) rfl underlying24 rfl yao ⟨Row.cell (hS.bx 3 rfl) (i:=0) rfl,Row.cell (hS.bx 3 rfl) (i:=1) rfl,trivial⟩) ?_))))))));replace hS:=hS.frz 2 rfl;refine zn (yam rfl (am1 rfl) enter_24 ((yee h hS.blt (hS.ro 2 rfl)).mono ?_));rintro _ w12 ⟨r13,r14,r15,Ar5,lr5,cr5,rfl,hC,h⟩;replace hS:=hS.call1 hC 7 0 rfl;clear hC;refine ⟨_,rfl,?_⟩;refine zb (zM (.tuple #[(ii r13),(.slice Ar5 lr5 cr5),(ii r15)]) (zq (zx (ii r13)) (zq (zx (.slice Ar5 lr5 cr5)) (zq (zx (ii r15)) (zQ (ii r13) (zQ (.slice Ar5 lr5 cr5) (zQ (ii r15) (yaa (zs (zq (yaq (vs:=[(ii 3),(.slice (some ⟨g2,0,none⟩) 2 2)]) rfl underlying24 rfl yao ⟨Row.cell (hS.bx 3 rfl) (i:=0) rfl,Row.cell (hS.bx 3 rfl) (i:=1) rfl,trivial⟩) (zn (yam rfl (am1 rfl) enter_35 ((yhV h hS.blt (hS.ro 2 rfl)).mono ?_)))))))))))));rintro _ w13 ⟨r16,r17,Ar6,lr6,cr6,rfl,hC,h⟩;replace hS:=hS.call1 hC 8 0 rfl;clear hC;refine ⟨_,rfl,?_⟩
  refine zb (zM (.tuple #[(.slice Ar6 lr6 cr6),(ii r17)]) (zq (zx (.slice Ar6 lr6 cr6)) (zq (zx (ii r17)) (zQ (.slice Ar6 lr6 cr6) (zQ (ii r17) (yaa (zs (zq (yaq (vs:=[(ii 3),(.slice (some ⟨g2,0,none⟩) 2 2)]) rfl underlying24 rfl yao ⟨Row.cell (hS.bx 3 rfl) (i:=0) rfl,Row.cell (hS.bx 3 rfl) (i:=1) rfl,trivial⟩) (zM (.slice Ar6 lr6 cr6) (zn (yam rfl (am2 rfl rfl) enter_14 ((ydd h (yaB _) (hS.rdr 2 rfl) (hS.rdo 8 rfl)).mono ?_))))))))))));rintro _ w14 ⟨r18,r19,r20,Ar7,lr7,cr7,rfl,hC,h⟩;replace hS:=hS.call1 (hC.widen (yde (ya0 (fI .i64) _ _ _ _ _) ydA) hS.blt) 9 0 rfl;clear hC;refine ⟨_,rfl,?_⟩;refine zb (zM (.tuple #[(ii r18),(.slice Ar7 lr7 cr7),(ii r20)]) (zq (zx (ii r18)) (zq (zx (.slice Ar7 lr7 cr7)) (zq (zx (ii r20)) (zQ (ii r18) (zQ (.slice Ar7 lr7 cr7) (zQ (ii r20) (yaa (zs (zM (ii r5) (zM (ii r7) ?_)))))))))));obtain ⟨hi,h⟩:=h;refine zq (zA hi) (zM (ii r10) ?_);obtain ⟨hi2,h⟩:=h;refine zq (zA hi2) (zM (ii r12) ?_);obtain ⟨hi3,h⟩:=h;refine zq (zA hi3) (zM (ii r15) ?_);obtain ⟨hi4,h⟩:=h;refine zq (zA hi4) (zM (ii r17) ?_);obtain ⟨hi5,h⟩:=h;refine zq (zA hi5) (zM (ii r20) ?_);obtain ⟨hi6,h⟩:=h;refine zq (zA hi6) (zq zE (zM (.bool (decide (((((((r5+r7)+r10)+r12)+r15)+r17)+r20)=0))) ?_));by_cases hp:((((((r5+r7)+r10)+r12)+r15)+r17)+r20)=0
  · replace h:=h.1 hp;refine zW rfl rfl (zT hp) (zm (ii r3)) (zW rfl rfl (zT hp) zE (zq (yas (v:=(.bool (decide (r3=2)))) (zT hp) rfl) (zM (.bool (decide (r3=2))) ?_)));by_cases hp2:r3=2
    · replace h:=h.1 hp2;refine zW rfl rfl (zT hp2) (zm (.slice Ar2 lr2 cr2)) (rl_n (yae rfl (yac rfl (zT hp2))) rfl rfl rfl (yaX (l:=[(0,(ii 0)),(1,(ii 0)),(2,(ii 2))]) (cells:=[(ii 0),(ii 0),(ii 2)]) (bp3 rfl rfl rfl) underlying43 yaj rfl rfl ?_));intro g4 w15 hN;replace hS:=hS.litf (n:=3) 10 rfl (fI .i64) hN ([0,0,2]:List Int) rfl (by decide) rfl;clear hN;refine zb (rl_n (yae rfl (yac rfl (zT hp2))) rfl rfl rfl (yam rfl (am2 rfl rfl) enter_54 ((ydz h (yaB _) (hS.rdr 4 rfl) (hS.rdo 10 rfl)).mono ?_)));rintro _ w16 ⟨r21,rfl,hC,h⟩;replace hS:=hS.pur hC.pure;clear hC;refine ⟨_,rfl,?_⟩;refine zb (zq (yas (v:=(.bool (r21))) (zT hp2) rfl) (zM (.bool (r21)) ?_));by_cases hp3:r21=true
      · replace h:=h.1 hp3;refine zW rfl rfl (zC hp3) (zm (ii r8)) (zW rfl rfl (zC hp3) zE (zq (yas (v:=(.bool (decide (r8=2)))) (zC hp3) rfl) (zM (.bool (decide (r8=2))) ?_)));by_cases hp4:r8=2
        · replace h:=h.1 hp4;refine zW rfl rfl (zT hp4) (zm (.slice Ar4 lr4 cr4)) (rl_n (yae rfl (yac rfl (zT hp4))) rfl rfl rfl (yaX (l:=[(0,(ii 0))]) (cells:=[(ii 0)]) (bp1 rfl) underlying29 yaj rfl rfl ?_));intro g5 w17 hN;replace hS:=hS.litf (n:=1) 11 rfl (fI .i64) hN ([0]:List Int) rfl (by decide) rfl;clear hN;refine zb (rl_n (yae rfl (yac rfl (zT hp4))) rfl rfl rfl (yam rfl (am2 rfl rfl) enter_55 ((yec h (yaB _) (hS.rdo 6 rfl) (hS.rdo 11 rfl)).mono ?_)));rintro _ w18 ⟨r22,rfl,hC,h⟩;replace hS:=hS.pur hC.pure;clear hC;refine ⟨_,rfl,?_⟩;refine zb (zq (yas (v:=(.bool (r22))) (zT hp4) rfl) (zM (.bool (r22)) ?_));by_cases hp5:r22=true
          · replace h:=h.1 hp5;refine zW rfl rfl (zC hp5) (zm (ii r11)) (zW rfl rfl (zC hp5) zE (zq (yas (v:=(.bool (decide (r11=2)))) (zC hp5) rfl) (zM (.bool (decide (r11=2))) ?_)));by_cases hp6:r11=2
            · replace h:=h.1 hp6;refine zW rfl rfl (zT hp6) (zm (ii r13)) (zW rfl rfl (zT hp6) zE (zq (yas (v:=(.bool (decide (r13=1)))) (zT hp6) rfl) (zM (.bool (decide (r13=1))) ?_)));by_cases hp7:r13=1
              · replace h:=h.1 hp7;refine zW rfl rfl (zT hp7) (zm (.slice Ar5 lr5 cr5)) (rl_n (yae rfl (yac rfl (zT hp7))) rfl rfl rfl (yaX (l:=[(0,(ii 0)),(1,(ii 0)),(2,(ii 1))]) (cells:=[(ii 0),(ii 0),(ii 1)]) (bp3 rfl rfl rfl) underlying43 yaj rfl rfl ?_));intro g6 w19 hN;replace hS:=hS.litf (n:=3) 12 rfl (fI .i64) hN ([0,0,1]:List Int) rfl (by decide) rfl;clear hN;refine zb (rl_n (yae rfl (yac rfl (zT hp7))) rfl rfl rfl (yam rfl (am2 rfl rfl) enter_54 ((ydz h (yaB _) (hS.rdr 7 rfl) (hS.rdo 12 rfl)).mono ?_)));rintro _ w20 ⟨r23,rfl,hC,h⟩;replace hS:=hS.pur hC.pure;clear hC;refine ⟨_,rfl,?_⟩;refine zb (zq (yas (v:=(.bool (r23))) (zT hp7) rfl) (zM (.bool (r23)) ?_));by_cases hp8:r23=true
                · replace h:=h.1 hp8;refine zW rfl rfl (zC hp8) (zm (ii r18)) (zW rfl rfl (zC hp8) zE (zq (yas (v:=(.bool (decide (r18=1)))) (zC hp8) rfl) (zM (.bool (decide (r18=1))) ?_)));by_cases hp9:r18=1
                  · replace h:=h.1 hp9;refine zW rfl rfl (zT hp9) (zm (.slice Ar7 lr7 cr7)) (rl_n (yae rfl (yac rfl (zT hp9))) rfl rfl rfl (yaX (l:=[(0,(ii 1))]) (cells:=[(ii 1)]) (bp1 rfl) underlying29 yaj rfl rfl ?_));intro g7 w21 hN;replace hS:=hS.litf (n:=1) 13 rfl (fI .i64) hN ([1]:List Int) rfl (by decide) rfl;clear hN;refine zb (rl_n (yae rfl (yac rfl (zT hp9))) rfl rfl rfl (yam rfl (am2 rfl rfl) enter_55 ((yec h (yaB _) (hS.rdo 9 rfl) (hS.rdo 13 rfl)).mono ?_)));rintro _ w22 ⟨r24,rfl,hC,h⟩;replace hS:=hS.pur hC.pure;clear hC;refine ⟨_,rfl,?_⟩;exact zb (zq (yas (v:=(.bool (r24))) (zT hp9) rfl) (zQ (.bool (r24)) (yaa (yak rfl rfl ⟨_,rfl,(hS.sel []),h⟩))))
                  · replace h:=h.2 hp9;exact zV rfl rfl (zF hp9) (zV rfl rfl (zF hp9) (zV rfl rfl (zF hp9) (zq (yal (v:=(.bool (false))) (zF hp9) rfl) (zQ (.bool (false)) (yaa (yak rfl rfl ⟨_,rfl,(hS.sel []),h⟩))))))
                · replace h:=h.2 hp8;exact zV rfl rfl (zC (zI hp8)) (zV rfl rfl (zC (zI hp8)) (zq (yal (v:=(.bool (false))) (zC (zI hp8)) rfl) (zM (.bool (false)) (zU (zU (zU (zq (yal (v:=(.bool (false))) rfl rfl) (zQ (.bool (false)) (yaa (yak rfl rfl ⟨_,rfl,(hS.sel []),h⟩))))))))))
              · replace h:=h.2 hp7;exact zV rfl rfl (zF hp7) (zV rfl rfl (zF hp7) (zV rfl rfl (zF hp7) (zq (yal (v:=(.bool (false))) (zF hp7) rfl) (zM (.bool (false)) (zU (zU (zq (yal (v:=(.bool (false))) rfl rfl) (zM (.bool (false)) (zU (zU (zU (zq (yal (v:=(.bool (false))) rfl rfl) (zQ (.bool (false)) (yaa (yak rfl rfl ⟨_,rfl,(hS.sel []),h⟩)))))))))))))))
            · replace h:=h.2 hp6;exact zV rfl rfl (zF hp6) (zV rfl rfl (zF hp6) (zq (yal (v:=(.bool (false))) (zF hp6) rfl) (zM (.bool (false)) (zU (zU (zU (zq (yal (v:=(.bool (false))) rfl rfl) (zM (.bool (false)) (zU (zU (zq (yal (v:=(.bool (false))) rfl rfl) (zM (.bool (false)) (zU (zU (zU (zq (yal (v:=(.bool (false))) rfl rfl) (zQ (.bool (false)) (yaa (yak rfl rfl ⟨_,rfl,(hS.sel []),h⟩)))))))))))))))))))
          · replace h:=h.2 hp5;exact zV rfl rfl (zC (zI hp5)) (zV rfl rfl (zC (zI hp5)) (zq (yal (v:=(.bool (false))) (zC (zI hp5)) rfl) (zM (.bool (false)) (zU (zU (zq (yal (v:=(.bool (false))) rfl rfl) (zM (.bool (false)) (zU (zU (zU (zq (yal (v:=(.bool (false))) rfl rfl) (zM (.bool (false)) (zU (zU (zq (yal (v:=(.bool (false))) rfl rfl) (zM (.bool (false)) (zU (zU (zU (zq (yal (v:=(.bool (false))) rfl rfl) (zQ (.bool (false)) (yaa (yak rfl rfl ⟨_,rfl,(hS.sel []),h⟩)))))))))))))))))))))))
        · replace h:=h.2 hp4;exact zV rfl rfl (zF hp4) (zV rfl rfl (zF hp4) (zV rfl rfl (zF hp4) (zq (yal (v:=(.bool (false))) (zF hp4) rfl) (zM (.bool (false)) (zU (zU (zq (yal (v:=(.bool (false))) rfl rfl) (zM (.bool (false)) (zU (zU (zq (yal (v:=(.bool (false))) rfl rfl) (zM (.bool (false)) (zU (zU (zU (zq (yal (v:=(.bool (false))) rfl rfl) (zM (.bool (false)) (zU (zU (zq (yal (v:=(.bool (false))) rfl rfl) (zM (.bool (false)) (zU (zU (zU (zq (yal (v:=(.bool (false))) rfl rfl) (zQ (.bool (false)) (yaa (yak rfl rfl ⟨_,rfl,(hS.sel []),h⟩))))))))))))))))))))))))))))
      · replace h:=h.2 hp3;exact zV rfl rfl (zC (zI hp3)) (zV rfl rfl (zC (zI hp3)) (zq (yal (v:=(.bool (false))) (zC (zI hp3)) rfl) (zM (.bool (false)) (zU (zU (zU (zq (yal (v:=(.bool (false))) rfl rfl) (zM (.bool (false)) (zU (zU (zq (yal (v:=(.bool (false))) rfl rfl) (zM (.bool (false)) (zU (zU (zq (yal (v:=(.bool (false))) rfl rfl) (zM (.bool (false)) (zU (zU (zU (zq (yal (v:=(.bool (false))) rfl rfl) (zM (.bool (false)) (zU (zU (zq (yal (v:=(.bool (false))) rfl rfl) (zM (.bool (false)) (zU (zU (zU (zq (yal (v:=(.bool (false))) rfl rfl) (zQ (.bool (false)) (yaa (yak rfl rfl ⟨_,rfl,(hS.sel []),h⟩))))))))))))))))))))))))))))))))
    · replace h:=h.2 hp2;exact zV rfl rfl (zF hp2) (zV rfl rfl (zF hp2) (zV rfl rfl (zF hp2) (zq (yal (v:=(.bool (false))) (zF hp2) rfl) (zM (.bool (false)) (zU (zU (zq (yal (v:=(.bool (false))) rfl rfl) (zM (.bool (false)) (zU (zU (zU (zq (yal (v:=(.bool (false))) rfl rfl) (zM (.bool (false)) (zU (zU (zq (yal (v:=(.bool (false))) rfl rfl) (zM (.bool (false)) (zU (zU (zq (yal (v:=(.bool (false))) rfl rfl) (zM (.bool (false)) (zU (zU (zU (zq (yal (v:=(.bool (false))) rfl rfl) (zM (.bool (false)) (zU (zU (zq (yal (v:=(.bool (false))) rfl rfl) (zM (.bool (false)) (zU (zU (zU (zq (yal (v:=(.bool (false))) rfl rfl) (zQ (.bool (false)) (yaa (yak rfl rfl ⟨_,rfl,(hS.sel []),h⟩)))))))))))))))))))))))))))))))))))))
  · replace h:=h.2 hp;exact zV rfl rfl (zF hp) (zV rfl rfl (zF hp) (zq (yal (v:=(.bool (false))) (zF hp) rfl) (zM (.bool (false)) (zU (zU (zU (zq (yal (v:=(.bool (false))) rfl rfl) (zM (.bool (false)) (zU (zU (zq (yal (v:=(.bool (false))) rfl rfl) (zM (.bool (false)) (zU (zU (zU (zq (yal (v:=(.bool (false))) rfl rfl) (zM (.bool (false)) (zU (zU (zq (yal (v:=(.bool (false))) rfl rfl) (zM (.bool (false)) (zU (zU (zq (yal (v:=(.bool (false))) rfl rfl) (zM (.bool (false)) (zU (zU (zU (zq (yal (v:=(.bool (false))) rfl rfl) (zM (.bool (false)) (zU (zU (zq (yal (v:=(.bool (false))) rfl rfl) (zM (.bool (false)) (zU (zU (zU (zq (yal (v:=(.bool (false))) rfl rfl) (zQ (.bool (false)) (yaa (yak rfl rfl ⟨_,rfl,(hS.sel []),h⟩)))))))))))))))))))))))))))))))))))))))))
def yjX(a:List Int)(b:List Int)(R:Bool→Prop):Prop :=
(((a.length:Int)=(b.length:Int) →
(∃ I2:Nat→Int→Prop,(∃ m0,I2 m0 0)∧∀ m2 i,I2 m2 i → 
((i<(a.length:Int) →
((0≤i∧i<(a.length:Int)) ∧
((0≤i∧i<(b.length:Int)) ∧
(((gi a i.toNat)=(gi b i.toNat) →
(In64 (i+1) ∧
∃ m3,m3<m2∧I2 m3 (i+1))) ∧
(¬((gi a i.toNat)=(gi b i.toNat)) →
R false))))) ∧
(¬(i<(a.length:Int)) →
R true)))) ∧
(¬((a.length:Int)=(b.length:Int)) →
R false))
theorem yj4{O:Nat→Prop}{w:World}{a b Aa la ca Ab lb cb}{R:Bool→Prop}(h:yjX a b R)(hO:∀ k,O k→k<w.heap.size)(hA0:(FP.sl cI Aa la ca a).P O w)(hA1:(FP.sl cI Ab lb cb b).P O w) :
    Calls Tryz.prog 22 #[(.slice Aa la ca),(.slice Ab lb cb)] w fun e w'=>∃ r,e = .returned (.bool (r))∧Sep w no O w' (rl [])∧R r:=by
  unfold yjX at h;have hS:Sep w no O w (rl [Res.ro (FP.sl cI Aa la ca a),Res.ro (FP.sl cI Ab lb cb b)]):=Sep.startl hO [(FP.sl cI Aa la ca a),(FP.sl cI Ab lb cb b)] ⟨hA0,hA1,trivial⟩;refine yap (l:=[(.slice Aa la ca),(.slice Ab lb cb)]) func22 rfl ntmps22 zY (zs (zQ (.bool (false)) (yaa (yaf (zs (zM (.slice Aa la ca) (zq (yaF (n:=a.length) rfl underlying29 (yaE (hS.rdr 0 rfl))) (zM (.slice Ab lb cb) (zq (yaF (n:=b.length) rfl underlying29 (yaE (hS.rdr 1 rfl))) (zq zN (yaa ?_)))))))))));by_cases hp:(a.length:Int)=(b.length:Int)
  · replace h:=h.1 hp;refine ze hp (yag (yaf (zs (zQ (ii 0) (yaa (yai ?_))))));obtain ⟨I2,⟨m0,h0⟩,hr⟩:=h;refine yaz (fun m E ds w'=>∃ i,I2 m i∧ds=[]∧E 0=(Value.slice Aa la ca)∧E 1=(Value.slice Ab lb cb)∧E 5=(ii i)∧Sep w no O w' (rl [Res.ro (FP.sl cI Aa la ca a),Res.ro (FP.sl cI Ab lb cb b)])) m0 ⟨_,h0,rfl,rfl,rfl,rfl,(hS.sel [0,1])⟩ ?_;clear h0 hS;rintro m2 E ds w2 ⟨i,h,rfl,H0,H1,H5,hS⟩ ag;replace h:=hr m2 i h;clear hr;refine yaf (zs (zq (yad H5) (zq (yad H0) (zq (yaF (n:=a.length) rfl underlying29 (yaE (hS.rdr 0 rfl))) (zq zL (yaa ?_))))));by_cases hp2:i<(a.length:Int)
    · replace h:=h.1 hp2;refine zc hp2 (yag (yaf (yai (yaf (yaT [0,1,2,3,4,5,6,7,8] st0 yaD (by kernel_rfl) (by kernel_rfl) ?_)))));replace hS:=hS.drew;refine zp (yad H0) (zp (yad H5) ?_);obtain ⟨hx,h⟩:=h;refine zp (zi underlying29 yaj (yaP (hS.rdr 0 rfl) hx)) (zp (yau (v:=(ii (gi a i.toNat))) rfl underlying3 rfl (rd_1 (hS.rdr 0 rfl) hx (fun q=>yaY q) rfl)) ?_);refine zp (yad H1) (zp (yad H5) ?_);obtain ⟨hx2,h⟩:=h;refine zp (zi underlying29 yaj (yaP (hS.rdr 1 rfl) hx2)) (zp (yau (v:=(ii (gi b i.toNat))) rfl underlying3 rfl (rd_1 (hS.rdr 1 rfl) hx2 (fun q=>yaY q) rfl)) ?_);refine zp zN (yaZ ?_);by_cases hp3:(gi a i.toNat)=(gi b i.toNat)
      · replace h:=h.1 hp3;refine ze hp3 (yag (yah (zr (zq (yad H5) ?_))));obtain ⟨hi,h⟩:=h;refine zq (zA hi) (zQ (ii (i+1)) (yaa ?_));obtain ⟨mq,hlt,h⟩:=h;exact ag mq _ _ _ ⟨_,h,rfl,H0,H1,rfl,(hS.sel [0,1])⟩ hlt
      · replace h:=h.2 hp3;exact zf hp3 (zs (zQ (.bool (false)) (yaa (yak rfl rfl ⟨_,rfl,(hS.sel []),h⟩))))
    · replace h:=h.2 hp2;exact zd hp2 (yax rfl (zs (zQ (.bool (true)) (yaa (yak rfl rfl ⟨_,rfl,(hS.sel []),h⟩)))))
  · replace h:=h.2 hp;exact zf hp (zs (zQ (.bool (false)) (yaa (yak rfl rfl ⟨_,rfl,(hS.sel []),h⟩))))
def yjW(a:List (List Int))(b:List (List Int))(R:Bool→Prop):Prop :=
yjV a b (fun x x2 R=>yjX x x2 R) (fun r =>
R r)
theorem yj2{O:Nat→Prop}{w:World}{a b Aa la ca Ab lb cb}{R:Bool→Prop}(h:yjW a b R)(hO:∀ k,O k→k<w.heap.size)(hA0:(FP.sl (cL cI) Aa la ca a).P O w)(hA1:(FP.sl (cL cI) Ab lb cb b).P O w) :
    Calls Tryz.prog 37 #[(.slice Aa la ca),(.slice Ab lb cb)] w fun e w'=>∃ r2,e = .returned (.bool (r2))∧Sep w no O w' (rl [])∧R r2:=by
  unfold yjW at h;have hS:Sep w no O w (rl [Res.ro (FP.sl (cL cI) Aa la ca a),Res.ro (FP.sl (cL cI) Ab lb cb b)]):=Sep.startl hO [(FP.sl (cL cI) Aa la ca a),(FP.sl (cL cI) Ab lb cb b)] ⟨hA0,hA1,trivial⟩;refine yap (l:=[(.slice Aa la ca),(.slice Ab lb cb)]) func37 rfl ntmps37 zY (zs (zQ (.bool (false)) (yaa (zs (zM (.slice Aa la ca) (zM (.slice Ab lb cb) (zn (yam rfl (am3 rfl rfl rfl) enter_82 ((yj0 h (yaB _) (hS.rdr 0 rfl) (hS.rdr 1 rfl) (fun w' hk=>⟨22,#[],rfl,enter_22,fun x x2 Ax lx cx Ax2 lx2 cx2 R hF hz0 hz1=>ya4 (by simp) (yj4 hF (yaB _) hz0 hz1)⟩)).mono ?_)))))))));rintro _ w2 ⟨r,rfl,hC,h⟩;replace hS:=hS.pur hC.pure;clear hC;refine ⟨_,rfl,?_⟩;exact zb (zQ (.bool (r)) (yaa (yak rfl rfl ⟨_,rfl,(hS.sel []),h⟩)))
def yjY(g:Int)(g2:List E3)(R:Bool→Prop):Prop :=
yg6 g g2 (fun r =>
((r=true →
ycL g g2 (fun r2 r3 =>
yjZ g g2 (fun r4 r5 =>
yc7 g g2 (fun r6 r7 =>
yj1 g g2 (fun r8 r9 =>
ycS (fun r10 =>
((r10=true →
yjW r2 r4 (fun r11 =>
((r11=true →
((r3=r5 →
yjW r6 r8 (fun r12 =>
((r12=true →
R (decide (r7=r9))) ∧
(¬(r12=true) →
R false)))) ∧
(¬(r3=r5) →
R false))) ∧
(¬(r11=true) →
R false)))) ∧
(¬(r10=true) →
R false)))))))) ∧
(¬(r=true) →
ycS (fun r13 =>
R r13))))
theorem pok_l40_GonalityLists{O:Nat→Prop}{w:World}{g g2 Ag lg cg}{R:Bool→Prop}(h:yjY g g2 R)(hO:∀ k,O k→k<w.heap.size)(hA0:(FP.sl c3 Ag lg cg g2).P O w) :
    Calls Tryz.prog 6 #[(.agg #[(ii g),(.slice Ag lg cg)])] w fun e w'=>∃ r14,e = .returned (.bool (r14))∧Sep w no O w' (rl [])∧R r14:=by
  unfold yjY at h;have hS:Sep w no O w (rl [Res.ro (FP.sl c3 Ag lg cg g2)]):=Sep.startl hO [(FP.sl c3 Ag lg cg g2)] ⟨hA0,trivial⟩;refine yap (l:=[(.agg #[(ii g),(.slice Ag lg cg)])]) func6 rfl ntmps6 zY (zs (zn (ya8 (v:=(.agg #[(ii g),(.slice Ag lg cg)])) rfl ?_)));intro g3 w2 hN;replace hS:Sep w no O w2 (stl _ 1 (Res.box 24 g3 [(ii g),(.slice Ag lg cg)])):=hS.new 1 rfl hN;clear hN;refine zb (zQ (.bool (false)) (yaa (yaf (zs (zq (yaq (vs:=[(ii g),(.slice Ag lg cg)]) rfl underlying24 rfl yao ⟨Row.cell (hS.bx 1 rfl) (i:=0) rfl,Row.cell (hS.bx 1 rfl) (i:=1) rfl,trivial⟩) (zn (yam rfl (am1 rfl) enter_11 ((pok_r08_Few h (yaB _) (hS.rdr 0 rfl)).mono ?_))))))));rintro _ w3 ⟨r,rfl,hC,h⟩;replace hS:=hS.pur hC.pure;clear hC;refine ⟨_,rfl,?_⟩;refine zb (zq (ycX rfl) (yaa ?_));by_cases hp:r=true
  · replace h:=h.1 hp;refine yat (zC (zB hp)) (yag (zs (zq (yaq (vs:=[(ii g),(.slice Ag lg cg)]) rfl underlying24 rfl yao ⟨Row.cell (hS.bx 1 rfl) (i:=0) rfl,Row.cell (hS.bx 1 rfl) (i:=1) rfl,trivial⟩) (zn (yam rfl (am1 rfl) enter_33 ((yho h hS.blt (hS.ro 0 rfl)).mono ?_))))));rintro _ w4 ⟨r2,r3,Ar,lr,cr,rfl,hC,h⟩;replace hS:=hS.call1 hC 2 0 rfl;clear hC;refine ⟨_,rfl,?_⟩;refine zb (zM (.tuple #[(.slice Ar lr cr),(ii r3)]) (zq (zx (.slice Ar lr cr)) (zq (zx (ii r3)) (zQ (.slice Ar lr cr) (zQ (ii r3) (yaa (zs (zq (yaq (vs:=[(ii g),(.slice Ag lg cg)]) rfl underlying24 rfl yao ⟨Row.cell (hS.bx 1 rfl) (i:=0) rfl,Row.cell (hS.bx 1 rfl) (i:=1) rfl,trivial⟩) (zn (yam rfl (am1 rfl) enter_34 ((pok_r40_Points h hS.blt (hS.ro 0 rfl)).mono ?_)))))))))));rintro _ w5 ⟨r4,r5,Ar2,lr2,cr2,rfl,hC,h⟩;replace hS:=hS.call1 hC 3 0 rfl;clear hC;refine ⟨_,rfl,?_⟩;refine zb (zM (.tuple #[(.slice Ar2 lr2 cr2),(ii r5)]) (zq (zx (.slice Ar2 lr2 cr2)) (zq (zx (ii r5)) (zQ (.slice Ar2 lr2 cr2) (zQ (ii r5) (yaa (zs (zq (yaq (vs:=[(ii g),(.slice Ag lg cg)]) rfl underlying24 rfl yao ⟨Row.cell (hS.bx 1 rfl) (i:=0) rfl,Row.cell (hS.bx 1 rfl) (i:=1) rfl,trivial⟩) (zn (yam rfl (am1 rfl) enter_35 ((yhV h hS.blt (hS.ro 0 rfl)).mono ?_)))))))))));rintro _ w6 ⟨r6,r7,Ar3,lr3,cr3,rfl,hC,h⟩;replace hS:=hS.call1 hC 4 0 rfl;clear hC;refine ⟨_,rfl,?_⟩;refine zb (zM (.tuple #[(.slice Ar3 lr3 cr3),(ii r7)]) (zq (zx (.slice Ar3 lr3 cr3)) (zq (zx (ii r7)) (zQ (.slice Ar3 lr3 cr3) (zQ (ii r7) (yaa (zs (zq (yaq (vs:=[(ii g),(.slice Ag lg cg)]) rfl underlying24 rfl yao ⟨Row.cell (hS.bx 1 rfl) (i:=0) rfl,Row.cell (hS.bx 1 rfl) (i:=1) rfl,trivial⟩) (zn (yam rfl (am1 rfl) enter_36 ((pok_r40_Pairs h hS.blt (hS.ro 0 rfl)).mono ?_)))))))))));rintro _ w7 ⟨r8,r9,Ar4,lr4,cr4,rfl,hC,h⟩;replace hS:=hS.call1 hC 5 0 rfl;clear hC;refine ⟨_,rfl,?_⟩;refine zb (zM (.tuple #[(.slice Ar4 lr4 cr4),(ii r9)]) (zq (zx (.slice Ar4 lr4 cr4)) (zq (zx (ii r9)) (zQ (.slice Ar4 lr4 cr4) (zQ (ii r9) (yaa (zs (zn (yam rfl (am0) ykH ((yfW h (yaB _)).mono ?_))))))))));rintro _ w8 ⟨r10,rfl,hC,h⟩;replace hS:=hS.pur hC.pure;clear hC;refine ⟨_,rfl,?_⟩;refine zb (zM (.bool (r10)) ?_);by_cases hp2:r10=true
    · replace h:=h.1 hp2;refine zW rfl rfl (zC hp2) (zm (.slice Ar lr cr)) (zW rfl rfl (zC hp2) (zm (.slice Ar2 lr2 cr2)) (rl_n (yae rfl (yac rfl (zC hp2))) rfl rfl rfl (yam rfl (am2 rfl rfl) enter_37 ((yj2 h (yaB _) (hS.rdo 2 rfl) (hS.rdo 3 rfl)).mono ?_))));rintro _ w9 ⟨r11,rfl,hC,h⟩;replace hS:=hS.pur hC.pure;clear hC;refine ⟨_,rfl,?_⟩;refine zb (zq (yas (v:=(.bool (r11))) (zC hp2) rfl) (zM (.bool (r11)) ?_));by_cases hp3:r11=true
      · replace h:=h.1 hp3;refine zW rfl rfl (zC hp3) (zm (ii r3)) (zW rfl rfl (zC hp3) (zm (ii r5)) (zW rfl rfl (zC hp3) zE (zq (yas (v:=(.bool (decide (r3=r5)))) (zC hp3) rfl) (zM (.bool (decide (r3=r5))) ?_))));by_cases hp4:r3=r5
        · replace h:=h.1 hp4;refine zW rfl rfl (zT hp4) (zm (.slice Ar3 lr3 cr3)) (zW rfl rfl (zT hp4) (zm (.slice Ar4 lr4 cr4)) (rl_n (yae rfl (yac rfl (zT hp4))) rfl rfl rfl (yam rfl (am2 rfl rfl) enter_37 ((yj2 h (yaB _) (hS.rdo 4 rfl) (hS.rdo 5 rfl)).mono ?_))));rintro _ w10 ⟨r12,rfl,hC,h⟩;replace hS:=hS.pur hC.pure;clear hC;refine ⟨_,rfl,?_⟩;refine zb (zq (yas (v:=(.bool (r12))) (zT hp4) rfl) (zM (.bool (r12)) ?_));by_cases hp5:r12=true
          · replace h:=h.1 hp5;exact zW rfl rfl (zC hp5) (zm (ii r7)) (zW rfl rfl (zC hp5) (zm (ii r9)) (zW rfl rfl (zC hp5) zE (zq (yas (v:=(.bool (decide (r7=r9)))) (zC hp5) rfl) (zQ (.bool (decide (r7=r9))) (yaa (yak rfl rfl ⟨_,rfl,(hS.sel []),h⟩))))))
          · replace h:=h.2 hp5;exact zV rfl rfl (zC (zI hp5)) (zV rfl rfl (zC (zI hp5)) (zV rfl rfl (zC (zI hp5)) (zq (yal (v:=(.bool (false))) (zC (zI hp5)) rfl) (zQ (.bool (false)) (yaa (yak rfl rfl ⟨_,rfl,(hS.sel []),h⟩))))))
        · replace h:=h.2 hp4;exact zV rfl rfl (zF hp4) (zV rfl rfl (zF hp4) (zV rfl rfl (zF hp4) (zq (yal (v:=(.bool (false))) (zF hp4) rfl) (zM (.bool (false)) (zU (zU (zU (zq (yal (v:=(.bool (false))) rfl rfl) (zQ (.bool (false)) (yaa (yak rfl rfl ⟨_,rfl,(hS.sel []),h⟩)))))))))))
      · replace h:=h.2 hp3;exact zV rfl rfl (zC (zI hp3)) (zV rfl rfl (zC (zI hp3)) (zV rfl rfl (zC (zI hp3)) (zq (yal (v:=(.bool (false))) (zC (zI hp3)) rfl) (zM (.bool (false)) (zU (zU (zU (zq (yal (v:=(.bool (false))) rfl rfl) (zM (.bool (false)) (zU (zU (zU (zq (yal (v:=(.bool (false))) rfl rfl) (zQ (.bool (false)) (yaa (yak rfl rfl ⟨_,rfl,(hS.sel []),h⟩))))))))))))))))
    · replace h:=h.2 hp2;exact zV rfl rfl (zC (zI hp2)) (zV rfl rfl (zC (zI hp2)) (zV rfl rfl (zC (zI hp2)) (zq (yal (v:=(.bool (false))) (zC (zI hp2)) rfl) (zM (.bool (false)) (zU (zU (zU (zq (yal (v:=(.bool (false))) rfl rfl) (zM (.bool (false)) (zU (zU (zU (zq (yal (v:=(.bool (false))) rfl rfl) (zM (.bool (false)) (zU (zU (zU (zq (yal (v:=(.bool (false))) rfl rfl) (zQ (.bool (false)) (yaa (yak rfl rfl ⟨_,rfl,(hS.sel []),h⟩)))))))))))))))))))))
  · replace h:=h.2 hp;refine yar (zC (zB (zI hp))) (zs (zn (yam rfl (am0) ykH ((yfW h (yaB _)).mono ?_))));rintro _ w11 ⟨r13,rfl,hC,h⟩;replace hS:=hS.pur hC.pure;clear hC;refine ⟨_,rfl,?_⟩;exact zb (zQ (.bool (r13)) (yaa (yak rfl rfl ⟨_,rfl,(hS.sel []),h⟩)))
end Go.Proofs.YtadpnlimiblniaaGreat

/- Layer 40: the fixed examples; the laws that compare with the reference. -/
namespace Go.Proofs.YtadpnlimiblniaaGreat
open Go Go.RowKit Go.Shelf Go.Proofs.Tryz
def pth3:List E3:=[(0,1,1),(1,2,1)]
theorem pth_ok:GOk 3 pth3:=⟨by decide,by decide +kernel,by decide,by decide,by decide,by decide⟩
theorem eff3{e:List Int}(h:Eff 3 e 1):e=[0,0,1]∨e=[0,1,0]∨e=[1,0,0]:=by
  have:e∈ycp 3 1:=eff_list (n:=2) (k:=1) h
  have h2:ycp 3 1=[[0,0,1],[0,1,0],[1,0,0]]:=by decide
  rw [h2] at this
  simpa using this
theorem win3{es:List E3}{x:List Int}(s0 s1 s2:Int)(h:∀ v,v<3→0≤gi x v-Lp 3 es (fun i=>if i=0 then s0 else if i=1 then s1 else s2) v):Win 3 es x:=⟨_,h⟩
theorem gon_tri:GonOk 3 tri 2 [0,0,2]:=by
  have w01:W tri 0 1=1:=by decide
  have w02:W tri 0 2=1:=by decide
  have w12:W tri 1 2=1:=by decide
  refine ⟨by omega,⟨0,by decide,by decide,fun j hj=>by omega⟩,fun e he=>?_,fun k' h1 h2 y hy hal=>?_⟩
  · rcases eff3 he with rfl | rfl | rfl
    · exact win3 0 0 0 (by decide)
    · exact win3 0 0 1 (by decide)
    · exact win3 0 0 1 (by decide)
  · have e:k'=1:=by omega
    subst e
    have lose:∀ x:List Int,(gi x 0+gi x 1+gi x 2=0)→(gi x 1+2*gi x 2) % 3≠0→¬Win 3 tri x:=by
      rintro x h0 h1 ⟨s,hs⟩
      have a0:=hs 0 (by omega);have a1:=hs 1 (by omega);have a2:=hs 2 (by omega)
      simp only [Lp,sm] at a0 a1 a2
      rw [yhC,w01,w02] at a0
      rw [yhC,ye0 tri 1 0,w01,w12] at a1
      rw [yhC,ye0 tri 2 0,ye0 tri 2 1,w02,w12] at a2
      omega
    have u:∀ v,v<3→Eff 3 (yfw (List.replicate 3 0) v 1) 1:=fun v hv=>by
      have:=(yfe 3).add (v:=v) hv (k:=1) (by have:=(yfe 3).pos v hv;omega)
      rwa [Int.zero_add] at this
    have hy2:y∈[[0,0,1],[0,1,0],[1,0,0]]:=by
      have h2:ycp 3 1=[[0,0,1],[0,1,0],[1,0,0]]:=by decide
      rwa [←h2]
    simp only [List.mem_cons,List.not_mem_nil,or_false] at hy2
    rcases hy2 with rfl | rfl | rfl
    · exact lose _ (by decide) (by decide) (hal _ (u 0 (by omega)))
    · exact lose _ (by decide) (by decide) (hal _ (u 0 (by omega)))
    · exact lose _ (by decide) (by decide) (hal _ (u 1 (by omega)))
theorem gon_pth:GonOk 3 pth3 1 [0,0,1]:=by
  refine ⟨by omega,⟨0,by decide,by decide,fun j hj=>by omega⟩,fun e he=>?_,fun k' h1 h2=>by omega⟩
  rcases eff3 he with rfl | rfl | rfl
  · exact win3 0 0 0 (by decide)
  · exact win3 0 0 1 (by decide)
  · exact win3 0 1 2 (by decide)
theorem chk_tri:chkE 3 tri (ptsF 3)=0:=by decide +kernel
theorem chk_pth:chkE 3 pth3 (prsF pth3)=0:=by decide +kernel
theorem sep_tri:sepF 3 tri (ptsF 3)=(2,[0]):=by decide +kernel
theorem ord_tri:ordF 3 tri (ptsF 3)=2:=by decide +kernel
theorem hit_pth:hitF 3 (prsF pth3)=(1,[1]):=by decide +kernel
theorem j_tri:yaS 3 tri=0:=by decide +kernel
theorem j_pth:yaS 3 pth3=0:=by decide +kernel
theorem yhq{R:Bool→Prop}(h:R true):ycS R:=by
  unfold ycS ydQ
  have e:([(0,1,1),(0,2,1),(1,2,1)]:List (Int×Int×Int))=tri:=rfl
  have e2:([(0,1,1),(1,2,1)]:List (Int×Int×Int))=pth3:=rfl
  rw [e,e2]
  clear e e2
  refine yeY (by decide) (fun q=>absurd j_tri q) fun _=>⟨3,rfl,tri_ok,fun j d hd=>?_⟩
  obtain ⟨rfl,rfl⟩:=hd.eq gon_tri
  refine yih (by decide) ?_
  rw [show yj5 3 tri=ptsF 3 by unfold yj5;rw [if_pos j_tri];rfl,j_tri]
  refine yft (by decide) (fun q=>absurd chk_tri q) fun k hk _=>?_
  obtain rfl:k=3:=by omega
  rw [sep_tri]
  refine ygg (by decide) (fun q=>absurd chk_tri q) fun k hk _=>?_
  obtain rfl:k=3:=by omega
  rw [ord_tri]
  refine yeY (by decide) (fun q=>absurd j_pth q) fun _=>⟨3,rfl,pth_ok,fun j d hd=>?_⟩
  obtain ⟨rfl,rfl⟩:=hd.eq gon_pth
  refine yiJ (by decide) ?_
  rw [show pairE 3 pth3=prsF pth3 by unfold pairE;rw [if_pos j_pth],j_pth]
  refine ydJ (by decide) (fun q=>absurd chk_pth q) fun k hk _=>?_
  obtain rfl:k=3:=by omega
  rw [hit_pth]
  refine ⟨i64 (by omega),i64 (by omega),i64 (by omega),i64 (by omega),i64 (by omega),i64 (by omega),fun _=>⟨fun _=>?_,fun q=>absurd rfl q⟩,fun q=>absurd rfl q⟩
  refine ydW (by decide) ⟨fun _=>⟨fun _=>?_,fun q=>absurd rfl q⟩,fun q=>absurd (by decide) q⟩
  refine yeW (by decide) ⟨fun _=>⟨fun _=>⟨fun _=>?_,fun q=>absurd rfl q⟩,fun q=>absurd rfl q⟩,fun q=>absurd (by decide) q⟩
  refine ydW (by decide) ⟨fun _=>⟨fun _=>?_,fun q=>absurd rfl q⟩,fun q=>absurd (by decide) q⟩
  exact yeW (by decide) h
theorem small_getI{n:Int}{es:List E3}{a b:Int}(h:yi8 n es a b=true):es.length≤40∧(yav n es=0→n≤a∧(es.map (·.2.2)).sum≤b):=of_decide_eq_true h
theorem yj6{a b:List Int}{R:Bool→Prop}(hl:a.length≤1000000000)(h:R (decide (a=b))):yjX a b R:=by
  refine ⟨fun e=>⟨fun m i=>∃ k:Nat,i=k∧k+m=a.length∧∀ j,j<k→gi a j=gi b j,⟨a.length,0,rfl,by omega,fun j hj=>by omega⟩,?_⟩,fun e=>?_⟩
  · rintro m i ⟨k,rfl,hm,hk⟩
    refine ⟨fun hlt=>⟨⟨by omega,hlt⟩,⟨by omega,by omega⟩,fun c=>⟨⟨by omega,by omega⟩,m-1,by omega,k+1,by omega,by omega,fun j hj=>?_⟩,fun c=>?_⟩,fun hge=>?_⟩
    · rw [Int.toNat_natCast] at c
      by_cases q:j=k
      · rw [q];exact c
      · exact hk j (by omega)
    · rw [decide_eq_false (by rintro rfl;exact c rfl)] at h;exact h
    · rw [decide_eq_true (ygi (by omega) fun j hj=>hk j (by omega))] at h;exact h
  · rw [decide_eq_false (by rintro rfl;exact e rfl)] at h;exact h
theorem yj8{a:List (List Int)}{R:Bool→Prop}(hl:a.length≤1000)(he:∀ x∈a,x.length≤1000)(h:R true):yjW a a R:=by
  refine ⟨fun _=>⟨fun m i=>∃ k:Nat,i=k∧k+m=a.length,⟨a.length,0,rfl,by omega⟩,?_⟩,fun q=>absurd rfl q⟩
  rintro m i ⟨k,rfl,hm⟩
  refine ⟨fun hlt=>⟨⟨by omega,hlt⟩,⟨by omega,hlt⟩,yj6 ?_ ⟨fun _=>⟨⟨by omega,by omega⟩,m-1,by omega,k+1,by omega,by omega⟩,fun q=>absurd (decide_eq_true rfl) q⟩⟩,fun _=>h⟩
  have:=he _ (ygu (s:=a) (k:=((k:Int)).toNat) (by omega));omega
section
variable {n : Int} {es : List E3} {s : List (List Int)} (hl : es.length ≤ 40) (h6 : yav n es = 0 → n ≤ 6)
include hl h6
end
theorem pts_len(n:Nat):(ptsF n).length=n:=by simp [ptsF]
theorem p_gonalitylists{n:Int}{es:List E3} : yjY n es (fun b=>b=true):=by
  refine p_r08_Few ⟨fun hs=>?_,fun _=>yhq rfl⟩
  obtain ⟨hl,h6⟩:=small_getI hs
  have h1:(yj5 n es).length≤1000∧∀ x∈yj5 n es,x.length≤1000:=by
    unfold yj5
    split
    · rename_i c
      have:=(h6 (ybn c).1).1
      refine ⟨by rw [pts_len];omega,fun x hx=>?_⟩
      unfold ptsF at hx
      obtain ⟨v,_,rfl⟩:=List.mem_map.1 hx
      simp
    · exact ⟨by simp,fun x hx=>by simp at hx⟩
  have h2:(pairE n es).length≤1000∧∀ x∈pairE n es,x.length≤1000:=by
    unfold pairE
    split
    · refine ⟨by have:=prsF_len es;omega,fun x hx=>?_⟩
      have:∀ l:List E3,x∈prsF l→x.length≤1000:=fun l=>by
        induction l with
        | nil=>intro h;simp [prsF] at h
        | cons y t ih =>
          intro h
          rw [prsF] at h
          rcases List.mem_append.1 h with h | h
          · split at h
            · simp at h
            · rw [List.mem_singleton] at h;rw [h];simp
          · exact ih h
      exact this es hx
    · exact ⟨by simp,fun x hx=>by simp at hx⟩
  refine yih hl (p_r40_Points hl (yiJ hl (p_r40_Pairs hl (yhq ⟨fun _=>?_,fun q=>absurd rfl q⟩))))
  exact yj8 h1.1 h1.2 ⟨fun _=>⟨fun _=>yj8 h2.1 h2.2 ⟨fun _=>decide_eq_true rfl,fun q=>absurd rfl q⟩,fun q=>absurd rfl q⟩,fun q=>absurd rfl q⟩
end Go.Proofs.YtadpnlimiblniaaGreat
