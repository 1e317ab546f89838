/- Texts laid together: Ne, Na, Nf, Ng, Nh. -/
import Derived.Test.YtjepipbkiadcpaaGreatK9
set_option linter.unusedVariables false
set_option linter.unusedSimpArgs false
set_option linter.unusedSectionVars false
/- Networks that are right; the network of rotors. -/
namespace Go.Proofs.YtjepipbkiadcpaaGreat
open Go Go.RowKit Go.Shelf Go.Proofs.Tryz
structure RuOk(n:Nat)(s:Int)(r:ycJ):Prop where
  next:0≤r.1∧r.1<s
  outl:r.2.length≤12
  out:∀ x∈r.2,0≤x.1∧x.1<(n:Int)∧x.2=0
structure PrOk(n:Nat)(p:Int×Int×List (List ycJ)):Prop where
  st:p.1=p.2.2.length
  s1:1≤p.1∧p.1≤16
  lt:p.2.1=1
  one:∀ s,s<p.2.2.length→(gx p.2.2 s).length=1
  ru:∀ s,s<p.2.2.length→RuOk n p.1 (gx (gx p.2.2 s) 0)
theorem netOk_of{n:Nat}{d:PrL}(hd:d.length=n)(h:∀ v,v<n→PrOk n (gx d v)):NetOk n (yaB d):=by
  have e:∀ p,p<n→gx (yaB d) p=(gx d p).2.2:=fun p hp=>yfu (by omega)
  refine ⟨by simpa [yaB] using hd,fun p hp s hs=>?_,fun p hp s hs=>?_,fun p hp s hs=>?_,fun p hp s hs=>?_⟩ <;> rw [e p hp] at hs ⊢
  · exact (h p hp).one s hs
  · have:=((h p hp).ru s hs).next;rw [(h p hp).st] at this;exact this
  · exact ((h p hp).ru s hs).outl
  · exact ((h p hp).ru s hs).out
theorem p_belowN{x b:Int}{R:Bool→Prop}(hx:0≤x∧x<b)(h:R true):ybM x b R:=by
  unfold ybM
  exact ⟨fun _=>by rw [decide_eq_true hx.2];exact h,fun q=>absurd hx.1 q⟩
theorem p_sentN{n:Nat}{l:List (Int×Int)}(hl:l.length≤100000)(h:∀ x∈l,0≤x.1∧x.1<(n:Int)∧x.2=0){R:Int→Prop}(hR:R 0):ycw l (n:Int) R:=by
  unfold ycw
  refine ⟨Cnt l.length (fun _=>True),Cnt.start trivial,?_⟩
  rintro m _ ⟨k,rfl,rfl,hk, -⟩
  simp only [Int.toNat_natCast]
  refine ⟨fun hlt=>?_,fun hge=>hR⟩
  have hx:=h (gx l k) (by rw [ybx (by omega)];exact List.getElem_mem _)
  exact ⟨by omega,p_belowN (by omega) ⟨fun _=>p_belowN (by omega) ⟨fun _=>Cnt.next (by omega) (by omega) trivial,fun q=>absurd rfl q⟩,fun q=>absurd rfl q⟩⟩
theorem p_procN{n:Nat}(hn:1≤n∧n≤12){p:Int×Int×List (List ycJ)}(h:PrOk n p){R:Int→Prop}(hR:R 0):ycp p.1 p.2.1 p.2.2 (n:Int) R:=by
  obtain ⟨a,b,c⟩:=p
  obtain ⟨h1,h2,h3,h4,h5⟩:=h
  simp only at h1 h2 h3 h4 h5 ⊢
  unfold ycp
  refine ⟨True,fun _=>?_,True,fun _=>⟨True,fun _=>trivial,True,fun _=>⟨fun _=>trivial,fun q=>absurd h1.symm q⟩,fun q=>absurd q (by omega),fun _=>⟨fun q=>absurd q (by omega),fun _=>⟨fun q=>absurd q (by omega),fun _=>⟨fun q=>absurd q (by omega),fun _=>trivial⟩⟩⟩⟩,fun q=>absurd q (by omega),fun _=>⟨fun q=>absurd q (by omega),fun _=>trivial⟩⟩
  refine ⟨Cnt c.length (fun _=>True),Cnt.start trivial,?_⟩
  rintro m _ ⟨k,rfl,rfl,hk, -⟩
  simp only [Int.toNat_natCast]
  refine ⟨fun hlt=>⟨by omega,fun _=>?_,fun q=>absurd (by have:=h4 k (by omega);omega) q⟩,fun hge=>hR⟩
  have hk2:k<c.length:=by omega
  refine ⟨Cnt 1 (fun _=>True),Cnt.start trivial,?_⟩
  rintro m _ ⟨j,rfl,rfl,hj, -⟩
  simp only [Int.toNat_natCast]
  rw [h4 k hk2]
  refine ⟨fun hlt=>?_,fun hge=>Cnt.next hk2 (by omega) trivial⟩
  have hj0:j=0:=by omega
  subst hj0
  have hr:=h5 k hk2
  have hol:=hr.outl
  unfold yc3
  exact ⟨by omega,p_belowN hr.next ⟨fun _=>⟨fun q=>absurd q (by omega),fun _=>p_sentN (by omega) hr.out ⟨fun _=>Cnt.next (by omega) (by omega) trivial,fun q=>absurd rfl q⟩⟩,fun q=>absurd rfl q⟩⟩
theorem p_understoodN{n:Nat}{d:PrL}{st:List Int}{wt:List (List Int)}(hn:1≤n∧n≤12)(hd:d.length=n)(hp:∀ v,v<n→PrOk n (gx d v)){v:Nat}(hv:v<n){R:Bool→Prop}(hR:R true):ybT d st wt (gx d v).1 (gx d v).2.1 (gx d v).2.2 R:=by
  have h:=hp v hv
  have hst:=h.st
  have hs1:=h.s1
  unfold ybT
  refine ⟨Cnt (gx d v).2.2.length (fun _=>True),Cnt.start trivial,?_⟩
  rintro m _ ⟨k,rfl,rfl,hk, -⟩
  simp only [Int.toNat_natCast]
  refine ⟨fun hlt=>⟨by omega,?_⟩,fun hge=>hR⟩
  have hk2:k<(gx d v).2.2.length:=by omega
  refine ⟨Cnt 1 (fun _=>True),Cnt.start trivial,?_⟩
  rintro m _ ⟨j,rfl,rfl,hj, -⟩
  simp only [Int.toNat_natCast]
  rw [h.one k hk2]
  refine ⟨fun hlt=>⟨by omega,?_⟩,fun hge=>Cnt.next hk2 (by omega) trivial⟩
  have hj0:j=0:=by omega
  subst hj0
  have hr:=h.ru k hk2
  have hol:=hr.outl
  refine ⟨Cnt (gx (gx (gx d v).2.2 k) 0).2.length (fun _=>True),Cnt.start trivial,?_⟩
  rintro m _ ⟨i,rfl,rfl,hi, -⟩
  simp only [Int.toNat_natCast]
  refine ⟨fun hlt=>?_,fun hge=>Cnt.next (by omega) (by omega) trivial⟩
  have hx:=hr.out (gx (gx (gx (gx d v).2.2 k) 0).2 i) (gx_mem (by omega))
  have hl:=(hp (gx (gx (gx (gx d v).2.2 k) 0).2 i).1.toNat (by omega)).lt
  exact ⟨by omega,by omega,fun q=>absurd q (by omega),fun _=>Cnt.next (by omega) (by omega) trivial⟩
theorem ygy{n:Nat}{d:PrL}{st:List Int}{wt:List (List Int)}(hn:1≤n∧n≤12)(hd:d.length=n)(hp:∀ v,v<n→PrOk n (gx d v))(hst:st.length=n)(hs:∀ v,v<n→0≤gi st v∧gi st v<(gx d v).1)
    (hwl:wt.length=n) (hw:∀ v,v<n→(gx wt v).length=1∧0≤gi (gx wt v) 0∧gi (gx wt v) 0≤1048576) {R:Int→Prop} (hR:R 0):ybu d st wt R:=by
  unfold ybu yc7
  refine ⟨True,fun _=>?_,fun q=>absurd q (by omega),fun _=>⟨fun q=>absurd q (by omega),fun _=>trivial⟩⟩
  refine ⟨Cnt n (fun _=>True),Cnt.start trivial,?_⟩
  rintro m _ ⟨k,rfl,rfl,hk, -⟩
  simp only [Int.toNat_natCast]
  rw [hd]
  refine ⟨fun hlt=>⟨by omega,p_procN hn (hp k (by omega)) ⟨fun _=>Cnt.next (by omega) (by omega) trivial,fun q=>absurd rfl q⟩⟩,fun hge=>?_⟩
  refine ⟨Cnt n (fun _=>True),Cnt.start trivial,?_⟩
  rintro m _ ⟨k,rfl,rfl,hk, -⟩
  simp only [Int.toNat_natCast]
  refine ⟨fun hlt=>⟨by omega,p_understoodN hn hd hp (by omega) ⟨fun _=>Cnt.next (by omega) (by omega) trivial,fun q=>absurd rfl q⟩⟩,fun hge=>⟨fun _=>?_,fun q=>absurd (by omega) q⟩⟩
  refine ⟨Cnt n (fun _=>True),Cnt.start trivial,?_⟩
  rintro m _ ⟨k,rfl,rfl,hk, -⟩
  simp only [Int.toNat_natCast]
  rw [hst]
  refine ⟨fun hlt=>?_,fun hge=>⟨fun _=>?_,fun q=>absurd (by omega) q⟩⟩
  · have:=hs k (by omega)
    exact ⟨by omega,fun q=>absurd q (by omega),fun _=>⟨by omega,fun q=>absurd q (by omega),fun _=>Cnt.next (by omega) (by omega) trivial⟩⟩
  · refine ⟨Cnt n (fun _=>True),Cnt.start trivial,?_⟩
    rintro m _ ⟨k,rfl,rfl,hk, -⟩
    simp only [Int.toNat_natCast]
    rw [hwl]
    refine ⟨fun hlt=>?_,fun hge=>⟨fun _=>?_,fun q=>absurd trivial q⟩⟩
    · have h1:=(hw k (by omega)).1
      have h2:=(hp k (by omega)).lt
      exact ⟨by omega,by omega,fun _=>Cnt.next (by omega) (by omega) trivial,fun q=>absurd (by omega) q⟩
    · refine ⟨Cnt n (fun _=>True),Cnt.start trivial,?_⟩
      rintro m _ ⟨k,rfl,rfl,hk, -⟩
      simp only [Int.toNat_natCast]
      refine ⟨fun hlt=>⟨by omega,?_⟩,fun hge=>hR⟩
      obtain ⟨h1,h2,h3⟩:=hw k (by omega)
      refine ⟨Cnt 1 (fun _=>True),Cnt.start trivial,?_⟩
      rintro m _ ⟨j,rfl,rfl,hj, -⟩
      simp only [Int.toNat_natCast]
      rw [h1]
      refine ⟨fun hlt=>?_,fun hge=>Cnt.next (by omega) (by omega) trivial⟩
      have hj0:j=0:=by omega
      subst hj0
      exact ⟨by omega,fun q=>absurd q (by omega),fun _=>⟨fun q=>absurd q (by omega),fun _=>Cnt.next (by omega) (by omega) trivial⟩⟩
def oph(E:List (Int×Int))(h:Int):Int:=if h.tmod 2=0 then (gx E (h.tdiv 2).toNat).2 else (gx E (h.tdiv 2).toNat).1
def toL(E:List (Int×Int))(l:List Int):List Int:=l.map (oph E)
def yeY(to:List Int):List (List ycJ):=(List.range to.length).map fun s:Nat=>[((((s+1) % to.length:Nat):Int),[(gi to ((s+1) % to.length),0)])]
def sinkP:Int×Int×List (List ycJ):=(1,1,[[(0,[])]])
def yb5(n q:Nat)(E:List (Int×Int))(ar:List (List Int)):PrL:=(List.range n).map fun v:Nat=>if v=q then sinkP else (((gx ar v).length:Int),1,yeY (toL E (gx ar v)))
def wtR(n q:Nat)(d:List Int):List (List Int):=(List.range n).map fun v:Nat=>[if v=q then 0 else gi d v]
theorem yfc(n q:Nat)(E:List (Int×Int))(ar:List (List Int)):(yb5 n q E ar).length=n:=by simp [yb5]
theorem yfq{n q:Nat}{E:List (Int×Int)}{ar:List (List Int)}{v:Nat}(hv:v<n):gx (yb5 n q E ar) v=if v=q then sinkP else (((gx ar v).length:Int),1,yeY (toL E (gx ar v))):=by
  rw [ybx (by rw [yfc];exact hv)];simp [yb5]
theorem gx_wtR{n q:Nat}{d:List Int}{v:Nat}(hv:v<n):gx (wtR n q d) v=[if v=q then 0 else gi d v]:=by
  rw [ybx (by simp [wtR];exact hv)];simp [wtR]
theorem p_turnerN{to:List Int}{R:Int→Int→List (List ycJ)→Int→Prop}(h12:16<to.length→R 0 0 [] 12)(h:to.length≤16→R to.length 1 (yeY to) 0):ycy to R:=by
  unfold ycy
  refine ⟨fun q=>h12 (by omega),fun q=>?_⟩
  refine ⟨fun m v p=>Cnt to.length (fun k=>p=(yeY to).take k) m v,Cnt.start rfl,?_⟩
  rintro m _ _ ⟨k,rfl,rfl,hk,rfl⟩
  refine ⟨fun hlt=>?_,fun hge=>?_⟩
  · have hk2:k<to.length:=by omega
    have e:((k:Int)+1).tmod (to.length:Int)=(((k+1) % to.length:Nat):Int):=by
      rw [Int.tmod_eq_emod_of_nonneg (by omega)];push_cast;rfl
    have hm:=Nat.mod_lt (k+1) (show 0<to.length by omega)
    have htl:=List.length_take_le k (yeY to)
    have hlen:(yeY to).length=to.length:=by simp [yeY]
    rw [e]
    simp only [Int.toNat_natCast]
    refine ⟨i64 (by omega),by omega,by omega,by omega,Cnt.next' hk2 ?_⟩
    rw [List.take_add_one,List.getElem?_eq_getElem (by omega)]
    simp [yeY]
  · have e:k=to.length:=by omega
    subst e
    rw [List.take_of_length_le (by simp [yeY])]
    exact h (by omega)
theorem ye7{n q:Nat}{d:List Int}(hd:d.length=n)(hn:n≤1000){R:List (List Int)→Prop}(h:R (wtR n q d)):ybn d (q:Int) R:=by
  unfold ybn
  refine ⟨fun m out v=>Cnt n (fun k=>out=(wtR n q d).take k) m v,Cnt.start rfl,?_⟩
  rintro m _ _ ⟨k,rfl,rfl,hk,rfl⟩
  rw [hd]
  simp only [Int.toNat_natCast]
  have hlen:(wtR n q d).length=n:=by simp [wtR]
  refine ⟨fun hlt=>?_,fun hge=>?_⟩
  · have hk2:k<n:=by omega
    have htl:=List.length_take_le k (wtR n q d)
    refine ⟨by omega,fun x=>x=if k=q then 0 else gi d k,fun x hx=>⟨by omega,Cnt.next hk2 (by omega) ?_⟩,fun e=>by rw [if_pos (by omega)],fun e=>by rw [if_neg (by omega)]⟩
    rw [List.take_add_one,yaY (by omega),gx_wtR hk2,hx];rfl
  · have e:k=n:=by omega
    subst e
    rw [List.take_of_length_le (by omega)];exact h
theorem oph_cast{E:List (Int×Int)}(x:Nat):oph E (x:Int)=if x % 2=0 then (gx E (x / 2)).2 else (gx E (x / 2)).1:=by
  obtain ⟨e1,e2⟩:=ygD x
  unfold oph
  rw [e1,e2,Int.toNat_natCast]
  by_cases c:x % 2=0
  · rw [if_pos (by omega),if_pos c]
  · rw [if_neg (by omega),if_neg c]
section
variable {n q : Nat} {es : List E3} {ar : List (List Int)} {rot d : List Int}
theorem ar_half(hB:RbOk n es ar){v:Nat}(hv:v<n){x:Int}(hx:x∈gx ar v):∃ h:Nat,x=h∧h<2*(yaW es).length:=by
  obtain ⟨h,e,h1,_⟩:=ownH_mem.1 ((hB.ar v hv).sub x hx)
  exact ⟨h,e,h1⟩
theorem p_RouterN(hB:RbOk n es ar)(hR:RoOk n q ar rot)(hD:DvOk n q d)(hal:∀ v,v<n→(gx ar v).length≤1000){R:PrL→List Int→List (List Int)→Int→Prop}(h12:R [] [] [] 12)
    (h:(∀ v,v<n→v≠q→(gx ar v).length≤16)→R (yb5 n q (yaW es) ar) rot (wtR n q d) 0):ycz (n:Int) es ar (q:Int) rot d R:=by
  have hf:=hB.G.few
  have hel:=hB.el
  have hdl:=hD.l
  have harl:=hB.arl
  have hrl:=hR.rl
  have hEl:=hB.G.len
  unfold ycz
  refine ygk hB hR ⟨fun _=>yfo ⟨fun _=>?_,fun q=>absurd hD.c q⟩,fun q=>absurd rfl q⟩
  refine ⟨Cnt n (fun _=>True),Cnt.start trivial,?_⟩
  rintro m _ ⟨k,rfl,rfl,hk, -⟩
  rw [hdl]
  simp only [Int.toNat_natCast]
  refine ⟨fun hlt=>⟨by omega,fun _=>Cnt.next (by omega) (by omega) trivial,fun e=>⟨fun c=>absurd c (by have:=hD.nn k (by omega) (by omega);omega),fun _=>Cnt.next (by omega) (by omega) trivial⟩⟩,fun hge=>?_⟩
  refine yfV (by omega) (fun q=>absurd hB.G.g q) fun _=>⟨fun _=>yhQ (by omega) (ye7 hdl (by omega) ?_),fun q=>absurd rfl q⟩
  unfold ybK
  refine ⟨fun m i v3=>Cnt n (fun k=>v3=(yb5 n q (yaW es) ar).take k∧∀ v,v<k→v≠q→(gx ar v).length≤16) m i,Cnt.start ⟨rfl,fun v hv=>absurd hv (by omega)⟩,?_⟩
  rintro m _ _ ⟨k,rfl,rfl,hk,rfl,h16⟩
  rw [harl]
  simp only [Int.toNat_natCast]
  have hpl:=yfc n q (yaW es) ar
  refine ⟨fun hlt=>?_,fun hge=>?_⟩
  · have hk2:k<n:=by omega
    have htl:=List.length_take_le k (yb5 n q (yaW es) ar)
    refine ⟨by omega,fun a b c=>(a,b,c)=gx (yb5 n q (yaW es) ar) k∧(k≠q→(gx ar k).length≤16),fun a b c ⟨e,h6⟩=>⟨by omega,Cnt.next hk2 (by omega) ⟨?_,fun v hv hne=>?_⟩⟩,fun e=>⟨?_,fun c=>absurd (by omega) c⟩,fun e=>?_⟩
    · rw [List.take_add_one,yaY (by omega),e];rfl
    · by_cases q2:v=k
      · rw [q2] at hne ⊢;exact h6 hne
      · exact h16 v (by omega) hne
    · rw [yfq hk2,if_pos (by omega)];rfl
    · have hgl:=hal k hk2
      refine ⟨fun m l j=>Cnt (gx ar k).length (fun i=>l=(toL (yaW es) (gx ar k)).take i) m j,Cnt.start rfl,?_⟩
      rintro m _ _ ⟨i,rfl,rfl,hi,rfl⟩
      simp only [Int.toNat_natCast,Int.toNat_zero]
      have htl2:(toL (yaW es) (gx ar k)).length=(gx ar k).length:=by simp [toL]
      refine ⟨fun hlt2=>?_,fun hge2=>?_⟩
      · have hi2:i<(gx ar k).length:=by omega
        obtain ⟨x,hx,hxl⟩:=ar_half hB hk2 (x:=gi (gx ar k) i) (by rw [yba hi2];exact List.getElem_mem _)
        have htk:=List.length_take_le i (toL (yaW es) (gx ar k))
        obtain ⟨e1,e2⟩:=ygD x
        have hnx:(toL (yaW es) (gx ar k)).take (i+1)=(toL (yaW es) (gx ar k)).take i++[oph (yaW es) (x:Int)]:=by
          rw [List.take_add_one,List.getElem?_eq_getElem (by omega)]
          simp only [toL,List.getElem_map]
          rw [←hx,yba hi2];rfl
        rw [oph_cast] at hnx
        rw [hx,e1,e2]
        simp only [Int.toNat_natCast]
        refine ⟨by omega,by omega,i64 (by omega),i64 (by omega),by omega,by omega,fun c=>⟨by omega,by omega,Cnt.next hi2 (by omega) ?_⟩,fun c=>⟨by omega,by omega,Cnt.next hi2 (by omega) ?_⟩⟩
        · rw [hnx,if_neg (by omega)]
        · rw [hnx,if_pos (by omega)]
      · have ei:i=(gx ar k).length:=by omega
        rw [ei,List.take_of_length_le (by omega)]
        refine p_turnerN (fun _=>⟨fun c=>absurd c (by omega),fun _=>h12⟩) fun h6=>⟨fun _=>⟨?_,fun _=>by omega⟩,fun c=>absurd rfl c⟩
        rw [yfq hk2,if_neg (by omega),htl2]
  · have e:k=n:=by omega
    subst e
    rw [List.take_of_length_le (by omega)]
    exact h h16
end
end Go.Proofs.YtjepipbkiadcpaaGreat

/- What a network does over lines that lose, repeat and delay: each processor reads as often as in any other run. No program in sight. -/
namespace Go.Proofs.YtjepipbkiadcpaaGreat
open Go Go.Proofs.Tryz
def stS(rules:List (List (List ycJ)))(st0:List Int)(p:Nat):Nat→Int
  | 0=>gi st0 p
  | k+1=>(gx (gx (gx rules p) (stS rules st0 p k).toNat) 0).1
def nS(rules:List (List (List ycJ)))(st0:List Int)(p u:Nat):Nat→Nat
  | 0=>0
  | k+1=>nS rules st0 p u k+cntO (gx (gx (gx rules p) (stS rules st0 p k).toNat) 0).2 u
theorem nS_mono(rules:List (List (List ycJ)))(st0:List Int)(p u:Nat){a b:Nat}(h:a≤b):nS rules st0 p u a≤nS rules st0 p u b:=by
  induction b with
  | zero => have : a = 0 := by omega
            subst this;exact Nat.le_refl _
  | succ b ih =>
    rcases Nat.lt_or_ge a (b+1) with q | q
    · exact Nat.le_trans (ih (by omega)) (Nat.le_add_right _ _)
    · have:a=b+1:=by omega
      subst this;exact Nat.le_refl _
def cW(w:Wst)(p:Nat):Nat:=(gi (gx w.ct p) 0).toNat
def PkI(ln:List Ln):Pk→Prop
  | .lt i m _=>m≤(gx ln i).rem+(gx ln i).q.length
  | .rc i m=>m≤(gx ln i).acc
def accF(n:Nat)(ln:List Ln)(v u:Nat):Int:=if u=v then 0 else (gx ln (u*n+v)).acc
structure LnI(n i:Nat)(N:Nat)(l:Ln):Prop where
  ra:l.rem≤l.acc
  al:l.acc≤l.rem+l.q.length
  put:l.rem+l.q.length=if i / n=i % n then 0 else (N:Int)
structure RI(n:Nat)(rules:List (List (List ycJ)))(st0:List Int)(wt0:List (List Int))(w:Wst):Prop where
  st:∀ p,p<n→gi w.st p=stS rules st0 p (cW w p)
  ln:∀ i,i<n*n→LnI n i (nS rules st0 (i / n) (i % n) (cW w (i / n))) (gx w.ln i)
  fl:∀ a∈w.fl,PkI w.ln a.1
  wt:∀ v,v<n→gi (gx w.wt v) 0+cW w v=gi (gx wt0 v) 0+nS rules st0 v v (cW w v)+sm n (accF n w.ln v)
section
variable {n : Nat} {rules : List (List (List ycJ))} {W0 : Int} {v : Nat} {A : Int} {w : Wst} {fates : List Int} {st0 : List Int} {wt0 : List (List Int)}
theorem RI.send(h:RI n rules st0 wt0 w){p:Pk}(hp:PkI w.ln p):RI n rules st0 wt0 (yfz fates w p) :=
  ⟨h.st,h.ln,fun a ha=>by
    rcases List.mem_append.1 ha with q | q
    · exact h.fl a q
    · obtain ⟨d,_,rfl⟩:=List.mem_map.1 q;exact hp,h.wt⟩
theorem accF_set{ln:List Ln}(hl:ln.length=n*n){i:Nat}(hi:i<n*n){l:Ln}{v:Nat}(hv:v<n)(u:Nat)(hu:u<n):accF n (ln.set i l) v u=accF n ln v u+if u=i / n then (if v=i % n∧u≠v then l.acc-(gx ln i).acc else 0) else 0:=by
  unfold accF
  by_cases e:u=v
  · rw [if_pos e,if_pos e]
    split
    · rw [if_neg (by rintro ⟨_,q⟩;exact q e)];rfl
    · rfl
  · rw [if_neg e,if_neg e,ybm (by rw [hl];exact hi)]
    by_cases q:u*n+v=i
    · subst q
      rw [if_pos rfl,ix_div hv,if_pos rfl,ix_mod hv,if_pos ⟨rfl,e⟩];omega
    · rw [if_neg q]
      by_cases q1:u=i / n
      · rw [if_pos q1,if_neg]
        · omega
        · rintro ⟨q2,_⟩
          exact q (by rw [q1,q2];exact ix_eta)
      · rw [if_neg q1];omega
theorem yhR{ln ln':List Ln}(h:∀ i,(gx ln i).rem+(gx ln i).q.length≤(gx ln' i).rem+(gx ln' i).q.length∧(gx ln i).acc≤(gx ln' i).acc){p:Pk}(hp:PkI ln p):PkI ln' p:=by
  cases p with
  | lt i m k=>have hp:m≤_:=hp;exact Int.le_trans hp (h i).1
  | rc i m=>have hp:m≤_:=hp;exact Int.le_trans hp (h i).2
theorem sm_at1{n a:Nat}(ha:a<n){f g:Nat→Int}{c:Int}(h:∀ u,u<n→g u=f u+if u=a then c else 0):sm n g=sm n f+c:=by
  have e:sm n g=sm n (fun u=>f u+if u=a then c else 0):=ya0 h
  rw [e,yeQ,yhv c ha]
theorem RI.line(hS:SI n rules W0 v A w)(h:RI n rules st0 wt0 w){i:Nat}(hi:i<n*n){l:Ln}(h1:(gx w.ln i).rem+(gx w.ln i).q.length=l.rem+l.q.length)(h2:l.acc=(gx w.ln i).acc)(h3:l.rem≤l.acc):RI n rules st0 wt0 { w with ln:=w.ln.set i l }:=by
  have hL:=h.ln i hi
  refine ⟨h.st,fun j hj=>?_,fun a ha=>yhR (fun j=>?_) (h.fl a ha),fun x hx=>?_⟩
  · show LnI n j _ (gx (w.ln.set i l) j)
    rw [ybm (by rw [hS.lnl];exact hi)]
    by_cases e:j=i
    · rw [if_pos e,e]
      exact ⟨h3,by have:=hL.al;omega,by rw [←h1];exact hL.put⟩
    · rw [if_neg e];exact h.ln j hj
  · show _≤(gx (w.ln.set i l) j).rem+_∧_
    rw [ybm (by rw [hS.lnl];exact hi)]
    by_cases e:j=i
    · rw [if_pos e,e];omega
    · rw [if_neg e];omega
  · show gi (gx w.wt x) 0+cW w x=_+_+sm n (accF n (w.ln.set i l) x)
    rw [h.wt x hx]
    congr 1
    refine ya0 fun u hu=>?_
    rw [accF_set hS.lnl hi hx u hu]
    split
    · split
      · omega
      · omega
    · omega
theorem RI.hand(hS:SI n rules W0 v A w)(h:RI n rules st0 wt0 w){p:Pk}(hp:POk n p)(hI:PkI w.ln p):RI n rules st0 wt0 (yed fates w p):=by
  have hn:=hS.n6
  cases p with
  | rc i m =>
    have hi:i<n*n:=hp
    have hI:m≤(gx w.ln i).acc:=hI
    have hD:=ygM m (gx w.ln i).q.length (gx w.ln i)
    exact RI.line hS h hi hD.sum.symm hD.acc (by rw [hD.acc];have:=hD.max;have:=(h.ln i hi).ra;omega)
  | lt i m k =>
    obtain ⟨hi,rfl⟩:i<n*n∧k=0:=hp
    have hI:m≤(gx w.ln i).rem+(gx w.ln i).q.length:=hI
    have hL:=h.ln i hi
    have hacc:=(hS.ln i hi).acc
    by_cases he:m=(gx w.ln i).acc+1
    · have hne:i / n≠i % n:=by
        intro e
        have:=hL.put
        rw [if_pos e] at this
        omega
      have hmd:=mod_lt' (i:=i) hn.1
      rw [handF_t he,(hS.ln i hi).dst]
      have hs:=h.send (fates:=fates) (p := .rc i (gx w.ln i).acc) (Int.le_refl _)
      let w2:Wst:=yge { yfz fates w (.rc i (gx (w.ln.set i { gx w.ln i with acc:=(gx w.ln i).acc+1 }) i).acc) with ln:=w.ln.set i { gx w.ln i with acc:=(gx w.ln i).acc+1 } } ((i % n:Nat):Int) 0
      show RI n rules st0 wt0 w2
      have hmono:∀ j,(gx w.ln j).rem+(gx w.ln j).q.length≤(gx w2.ln j).rem+(gx w2.ln j).q.length∧(gx w.ln j).acc≤(gx w2.ln j).acc:=fun j=>by
        show _≤(gx (w.ln.set i { gx w.ln i with acc:=(gx w.ln i).acc+1 }) j).rem+((gx (w.ln.set i { gx w.ln i with acc:=(gx w.ln i).acc+1 }) j).q.length:Int)∧_≤(gx (w.ln.set i { gx w.ln i with acc:=(gx w.ln i).acc+1 }) j).acc
        rw [ybm (by rw [hS.lnl];exact hi)]
        by_cases e:j=i
        · rw [if_pos e,e];exact ⟨Int.le_refl _,by show _≤(gx w.ln i).acc+1;omega⟩
        · rw [if_neg e];exact ⟨Int.le_refl _,Int.le_refl _⟩
      refine ⟨h.st,fun j hj=>?_,fun a ha=>?_,fun x hx=>?_⟩
      · show LnI n j _ (gx (w.ln.set i { gx w.ln i with acc:=(gx w.ln i).acc+1 }) j)
        rw [ybm (by rw [hS.lnl];exact hi)]
        by_cases e:j=i
        · rw [if_pos e,e]
          exact ⟨by show (gx w.ln i).rem≤(gx w.ln i).acc+1;have:=hL.ra;omega,by show (gx w.ln i).acc+1≤_;show (gx w.ln i).acc+1≤(gx w.ln i).rem+(gx w.ln i).q.length;omega,hL.put⟩
        · rw [if_neg e];exact h.ln j hj
      · rcases List.mem_append.1 (show a∈w.fl++(delF fates w.sn).map fun d=>(Pk.rc i (gx (w.ln.set i { gx w.ln i with acc:=(gx w.ln i).acc+1 }) i).acc,w.tk+d) from ha) with q | q
        · exact yhR hmono (h.fl a q)
        · obtain ⟨d,_,rfl⟩:=List.mem_map.1 q
          exact Int.le_refl _
      · have ew:w2.wt=w.wt.set (i % n) ((gx w.wt (i % n)).set 0 (gi (gx w.wt (i % n)) 0+1)):=rfl
        have ec:cW w2 x=cW w x:=rfl
        have el:w2.ln=w.ln.set i { gx w.ln i with acc:=(gx w.ln i).acc+1 }:=rfl
        rw [ec,ew,el,ybm (by rw [hS.wtl];exact hmd)]
        have h0:=h.wt x hx
        have hdv:=ygV hi
        by_cases e:x=i % n
        · rw [if_pos e,ydh (by rw [(hS.wt _ hmd).1];omega),if_pos rfl]
          rw [e] at h0 ⊢
          have e2:sm n (accF n (w.ln.set i { gx w.ln i with acc:=(gx w.ln i).acc+1 }) (i % n))=sm n (accF n w.ln (i % n))+1:=by
            refine sm_at1 hdv fun u hu=>?_
            rw [accF_set hS.lnl hi hmd u hu]
            by_cases q:u=i / n
            · rw [if_pos q,if_pos q,if_pos ⟨rfl,by rw [q];exact hne⟩]
              show _+((gx w.ln i).acc+1-(gx w.ln i).acc)=_
              omega
            · rw [if_neg q,if_neg q]
          rw [e2];omega
        · rw [if_neg e,h0]
          congr 1
          refine ya0 fun u hu=>?_
          rw [accF_set hS.lnl hi hx u hu]
          split
          · rw [if_neg (by rintro ⟨q,_⟩;exact e q)];omega
          · omega
    · rw [handF_f he]
      exact h.send (p := .rc i (gx w.ln i).acc) (Int.le_refl _)
theorem PkI.hand(hS:SI n rules W0 v A w)(h:RI n rules st0 wt0 w){p q:Pk}(hp:POk n p)(hI:PkI w.ln p)(hq:PkI w.ln q):PkI (yed fates w p).ln q:=by
  refine yhR (fun j=>?_) hq
  cases p with
  | rc i m =>
    have hi:i<n*n:=hp
    have hD:=ygM m (gx w.ln i).q.length (gx w.ln i)
    show _≤(gx (w.ln.set i (yfD m (gx w.ln i).q.length (gx w.ln i))) j).rem+((gx (w.ln.set i (yfD m (gx w.ln i).q.length (gx w.ln i))) j).q.length:Int)∧_≤(gx (w.ln.set i (yfD m (gx w.ln i).q.length (gx w.ln i))) j).acc
    rw [ybm (by rw [hS.lnl];exact hi)]
    by_cases e:j=i
    · rw [if_pos e,e,hD.acc,hD.sum];exact ⟨Int.le_refl _,Int.le_refl _⟩
    · rw [if_neg e];exact ⟨Int.le_refl _,Int.le_refl _⟩
  | lt i m k =>
    obtain ⟨hi,rfl⟩:i<n*n∧k=0:=hp
    by_cases he:m=(gx w.ln i).acc+1
    · rw [handF_t he]
      show _≤(gx (w.ln.set i { gx w.ln i with acc:=(gx w.ln i).acc+1 }) j).rem+((gx (w.ln.set i { gx w.ln i with acc:=(gx w.ln i).acc+1 }) j).q.length:Int)∧_≤(gx (w.ln.set i { gx w.ln i with acc:=(gx w.ln i).acc+1 }) j).acc
      rw [ybm (by rw [hS.lnl];exact hi)]
      by_cases e:j=i
      · rw [if_pos e,e];exact ⟨Int.le_refl _,by show _≤(gx w.ln i).acc+1;omega⟩
      · rw [if_neg e];exact ⟨Int.le_refl _,Int.le_refl _⟩
    · rw [handF_f he];exact ⟨Int.le_refl _,Int.le_refl _⟩
theorem RI.hands(now:List (Pk×Int)):∀ {A:Int} {w:Wst},SI n rules W0 v A w→RI n rules st0 wt0 w→(∀ a∈now,POk n a.1)→(∀ a∈now,PkI w.ln a.1)→A+nlt now≤600000→RI n rules st0 wt0 (now.foldl (fun w a=>yed fates w a.1) w):=by
  induction now with
  | nil=>intro A w _ h _ _ _;exact h
  | cons a t ih =>
    intro A w hS h hP hI hA
    have e:(nlt (a::t):Int)=nlt t+(if a.1.isL=true then 1 else 0):=by
      unfold nlt;rw [List.countP_cons];split <;> simp
    rw [List.foldl_cons]
    have h1:=hS.hand (fates:=fates) (p:=a.1) (hP a (by simp)) (by rw [e] at hA;by_cases q:a.1.isL=true <;> simp only [q,if_true] at hA ⊢ <;> first | omega | (simp at hA ⊢;omega))
    exact ih h1 (RI.hand hS h (hP a (by simp)) (hI a (by simp))) (fun b hb=>hP b (by simp [hb])) (fun b hb=>PkI.hand hS h (hP a (by simp)) (hI a (by simp)) (hI b (by simp [hb]))) (by rw [e] at hA;omega)
theorem RI.arr(hS:SI n rules W0 v A w)(h:RI n rules st0 wt0 w):RI n rules st0 wt0 (arrF fates w):=by
  have h1:RI n rules st0 wt0 { w with fl:=w.fl.filter fun a=>decide (¬a.2=w.tk) }:=⟨h.st,h.ln,fun a ha=>h.fl a (List.mem_filter.1 ha).1,h.wt⟩
  exact RI.hands (w.fl.filter fun a=>decide (a.2=w.tk)) hS.later h1 (fun a ha=>hS.fl a (List.mem_filter.1 ha).1) (fun a ha=>h.fl a (List.mem_filter.1 ha).1) (by have:=hS.a6;omega)
theorem cW_read(hS:SI n rules W0 v A w){p:Nat}(hp:p<n){r:ycJ}{x:Wst}(hR:ReadOk n p r w x)(u:Nat)(hu:u<n):cW x u=cW w u+if u=p then 1 else 0:=by
  unfold cW
  have hc:=hS.ct p hp
  rw [hR.ct,ybm (by rw [hS.ctl];exact hp)]
  by_cases e:u=p
  · rw [if_pos e,if_pos e,e]
    show (gi (gx w.ct p) 0+1).toNat=_
    omega
  · rw [if_neg e,if_neg e];rfl
theorem RI.read(hS:SI n rules W0 v A w)(hN:NetOk n rules)(h:RI n rules st0 wt0 w){p:Nat}(hp:p<n):RI n rules st0 wt0 (ydw rules w p):=by
  by_cases hx:0<gi (gx w.wt p) 0
  · have hR:=read_ok hS hN hp hx
    have hc:=fun u hu=>cW_read hS hp hR u hu
    have hst:=h.st p hp
    have her:yfF rules w p=gx (gx (gx rules p) (stS rules st0 p (cW w p)).toNat) 0:=by unfold yfF;rw [hst]
    refine ⟨fun u hu=>?_,fun i hi=>?_,fun a ha=>?_,fun x hx2=>?_⟩
    · rw [hc u hu,hR.st,ydh (by rw [hS.stl];exact hp)]
      by_cases e:u=p
      · rw [if_pos e,if_pos e,e,her];rfl
      · rw [if_neg e,if_neg e];exact h.st u hu
    · have hL:=h.ln i hi
      rw [hR.ln i hi,hc _ (ygV hi)]
      refine ⟨hL.ra,?_,?_⟩
      · show (gx w.ln i).acc≤(gx w.ln i).rem+(((gx w.ln i).q++List.replicate _ 0).length:Int)
        rw [List.length_append];have:=hL.al;omega
      · show (gx w.ln i).rem+(((gx w.ln i).q++List.replicate _ 0).length:Int)=_
        rw [List.length_append,List.length_replicate]
        have h0:=hL.put
        by_cases e:i / n=p
        · by_cases e2:i / n=i % n
          · rw [if_pos e2] at h0 ⊢
            rw [if_neg (by rintro ⟨_,q⟩;exact q (by rw [←e2];exact e))];omega
          · rw [if_neg e2] at h0 ⊢
            rw [if_pos e,if_pos ⟨e,fun q=>e2 (by rw [q];exact e)⟩,her,←e]
            show _=((nS rules st0 (i / n) (i % n) (cW w (i / n))+cntO _ (i % n):Nat):Int)
            push_cast;omega
        · rw [if_neg (by rintro ⟨q,_⟩;exact e q),if_neg e]
          split at h0 <;> split <;> simp only [Nat.add_zero] <;> omega
    · rw [hR.fl] at ha
      refine yhR (fun j=>?_) (h.fl a ha)
      by_cases hj:j<n*n
      · rw [hR.ln j hj]
        refine ⟨?_,Int.le_refl _⟩
        show _≤(gx w.ln j).rem+(((gx w.ln j).q++List.replicate _ 0).length:Int)
        rw [List.length_append];omega
      · have e1:gx w.ln j=gx (ydw rules w p).ln j:=by
          unfold gx
          rw [List.getD_eq_getElem?_getD,List.getD_eq_getElem?_getD,List.getElem?_eq_none (by rw [hS.lnl];omega),List.getElem?_eq_none (by rw [hR.lnl];omega)]
        rw [e1];exact ⟨Int.le_refl _,Int.le_refl _⟩
    · have h0:=h.wt x hx2
      have es:sm n (accF n (ydw rules w p).ln x)=sm n (accF n w.ln x):=ya0 fun u hu=>by
        unfold accF
        split
        · rfl
        · rw [hR.ln _ (ix_lt hu hx2)]
      rw [es,hc x hx2,hR.wt,ybm (by rw [hS.wtl];exact hp)]
      by_cases e:x=p
      · subst e
        rw [if_pos rfl,if_pos rfl,her]
        show gi (gx w.wt x) 0-1+((cntO _ x:Nat):Int)+((cW w x+1:Nat):Int)=_+((nS rules st0 x x (cW w x)+cntO _ x:Nat):Int)+_
        push_cast;omega
      · rw [if_neg e,if_neg e]
        exact h0
  · rw [yfh (hS.wt p hp).1 hx];exact h
theorem RI.lineF(hS:SI n rules W0 v A w)(h:RI n rules st0 wt0 w){i:Nat}(hi:i<n*n)(hA:A+3≤600000):RI n rules st0 wt0 (lineF fates w i):=by
  by_cases hc:0<(gx w.ln i).q.length∧((gx w.ln i).snt=0∨4≤w.tk-(gx w.ln i).snt)
  · rw [yg0 hc]
    have hL:=h.ln i hi
    have hI:PkI w.ln (.lt i ((gx w.ln i).rem+1) (gi (gx w.ln i).q 0)):=by
      show (gx w.ln i).rem+1≤_;omega
    have h2:=h.send (fates:=fates) hI
    have hS2:=hS.send (fates:=fates) (p := .lt i ((gx w.ln i).rem+1) (gi (gx w.ln i).q 0)) ⟨hi,(hS.ln i hi).zer _ (gi_mem0 hc.1)⟩ hA
    exact RI.line hS2 h2 hi rfl rfl hL.ra
  · rw [lineF_f hc];exact h
theorem RI.reads(hS:SI n rules W0 0 A w)(hN:NetOk n rules)(h:RI n rules st0 wt0 w):∀ k,k≤n→RI n rules st0 wt0 ((List.range k).foldl (ydw rules) w)
  | 0,_=>h
  | k+1,hk=>by
    rw [ycU]
    exact RI.read (hS.reads hN k (by omega)).1 hN (RI.reads hS hN h k (by omega)) (by omega)
theorem RI.lines(hS:SI n rules W0 v A w)(h:RI n rules st0 wt0 w)(hA:A+3*(n*n:Nat)≤600000):∀ k,k≤n*n→RI n rules st0 wt0 ((List.range k).foldl (Go.Proofs.YtjepipbkiadcpaaGreat.lineF fates) w)
  | 0,_=>h
  | k+1,hk=>by
    rw [ycU]
    exact RI.lineF (hS.lines hA k (by omega)).1 (RI.lines hS h hA k (by omega)) (by omega) (by omega)
theorem RI.tick0(h:RI n rules st0 wt0 w):RI n rules st0 wt0 { w with tk:=w.tk+1 }:=⟨h.st,h.ln,h.fl,h.wt⟩
theorem RI.tick(hS:SI n rules W0 n A w)(hN:NetOk n rules)(h:RI n rules st0 wt0 w)(ht:w.tk+1≤5000)(hA:A+3*(n*n:Nat)≤600000):RI n rules st0 wt0 (yhX rules fates w):=by
  have h1:=(hS.tick0 ht).arr (fates:=fates)
  have h2:=h1.reads hN n (Nat.le_refl _)
  rw [yhJ hN.len h2.1.lnl]
  exact RI.lines h2.1 (RI.reads h1 hN (RI.arr (hS.tick0 ht) h.tick0) n (Nat.le_refl _)) hA _ (Nat.le_refl _)
def Compl(n:Nat)(rules:List (List (List ycJ)))(st0:List Int)(wt0:List (List Int))(q:Nat)(t:Nat→Nat):Prop :=
  ∀ v,v<n→v≠q→gi (gx wt0 v) 0+sm n (fun u=>(nS rules st0 u v (t u):Int))≤t v
def Sink(n:Nat)(rules:List (List (List ycJ)))(st0:List Int)(q:Nat):Prop:=∀ v k,v<n→nS rules st0 q v k=0
def Leg(n q:Nat)(t:Nat→Nat)(w:Wst):Prop:=∀ v,v<n→v≠q→cW w v≤t v
theorem Leg.of{x w:Wst}(h:∀ u,u<n→cW x u=cW w u){q:Nat}{t:Nat→Nat}(hl:Leg n q t w):Leg n q t x:=fun v hv hq=>by rw [h v hv];exact hl v hv hq
theorem Leg.read(hS:SI n rules W0 v A w)(hN:NetOk n rules)(h:RI n rules st0 wt0 w){q:Nat}{t:Nat→Nat}(ht:Compl n rules st0 wt0 q t)(hq:Sink n rules st0 q)(hl:Leg n q t w){p:Nat}(hp:p<n):Leg n q t (ydw rules w p):=by
  by_cases hx:0<gi (gx w.wt p) 0
  · have hR:=read_ok hS hN hp hx
    intro u hu huq
    rw [cW_read hS hp hR u hu]
    by_cases e:u=p
    · subst e
      rw [if_pos rfl]
      have h0:=h.wt u hu
      have h1:=ht u hu huq
      have h2:(nS rules st0 u u (cW w u):Int)+sm n (accF n w.ln u)≤sm n (fun x=>(nS rules st0 x u (t x):Int)):=by
        have e1:(nS rules st0 u u (cW w u):Int)+sm n (accF n w.ln u)=sm n (fun x=>if x=u then (nS rules st0 u u (cW w u):Int) else accF n w.ln u x):=by
          have:=sm_at1 (n:=n) hu (f:=accF n w.ln u) (g:=fun x=>if x=u then (nS rules st0 u u (cW w u):Int) else accF n w.ln u x) (c:=nS rules st0 u u (cW w u)) (fun x hx=>by
            by_cases e:x=u
            · rw [if_pos e,if_pos e];unfold accF;rw [if_pos e];omega
            · rw [if_neg e,if_neg e];omega)
          rw [this];omega
        rw [e1]
        refine yhc fun x hx=>?_
        have hcx:nS rules st0 x u (cW w x)≤nS rules st0 x u (t x):=by
          by_cases e:x=q
          · rw [e,hq u _ hu,hq u _ hu];exact Nat.le_refl _
          · exact nS_mono _ _ _ _ (hl x hx e)
        by_cases e:x=u
        · rw [if_pos e];rw [e] at hcx ⊢;omega
        · rw [if_neg e]
          unfold accF
          rw [if_neg e]
          have hL:=h.ln _ (ix_lt hx hu)
          have h3:=hL.put
          rw [ix_div hu,ix_mod hu,if_neg e] at h3
          have:=hL.al
          omega
      omega
    · rw [if_neg e];exact hl u hu huq
  · rw [yfh (hS.wt p hp).1 hx];exact hl
theorem Leg.tick(hS:SI n rules W0 n A w)(hN:NetOk n rules)(h:RI n rules st0 wt0 w){q:Nat}{t:Nat→Nat}(ht:Compl n rules st0 wt0 q t)(hq:Sink n rules st0 q)(hl:Leg n q t w)(htk:w.tk+1≤5000)(hA:A+3*(n*n:Nat)≤600000):Leg n q t (yhX rules fates w):=by
  have h0:=hS.tick0 htk
  have h1:=h0.arr (fates:=fates)
  have r1:=RI.arr (fates:=fates) h0 h.tick0
  have h2:=h1.reads hN n (Nat.le_refl _)
  have h3:=h2.1.lines (fates:=fates) hA (n*n) (Nat.le_refl _)
  rw [yhJ hN.len h2.1.lnl]
  have hk:∀ k,k≤n→Leg n q t ((List.range k).foldl (ydw rules) (arrF fates { w with tk:=w.tk+1 })):=by
    intro k
    induction k with
    | zero =>
      intro _
      refine Leg.of (w:=w) (fun u hu=>?_) hl
      show cW (arrF fates { w with tk:=w.tk+1 }) u=_
      unfold cW
      rw [(arrF_keep fates _).2.1]
    | succ k ih =>
      intro hk
      rw [ycU]
      exact Leg.read (h1.reads hN k (by omega)).1 hN (RI.reads h1 hN r1 k (by omega)) ht hq (ih (by omega)) (by omega)
  refine Leg.of (fun u hu=>?_) (hk n (Nat.le_refl _))
  unfold cW
  rw [h3.2.2.2.1]
theorem RI.beg(hN:NetOk n rules)(hn:1≤n)(hl:wt0.length=n)(h1:∀ p,p<n→(gx wt0 p).length=1):RI n rules st0 wt0 (begF rules st0 wt0):=by
  have hct:∀ p,p<n→gx (begF rules st0 wt0).ct p=[0]:=fun p hp=>by
    show gx (wt0.map fun r=>List.replicate r.length 0) p=_
    rw [ybx (by rw [List.length_map];omega)]
    simp only [List.getElem_map]
    have:=h1 p hp
    rw [ybx (by omega)] at this
    rw [this];rfl
  have hc:∀ p,p<n→cW (begF rules st0 wt0) p=0:=fun p hp=>by unfold cW;rw [hct p hp];rfl
  have hln:∀ i,i<n*n→gx (begF rules st0 wt0).ln i=(⟨[],0,0,((i / n:Nat):Int),((i % n:Nat):Int),0⟩:Ln):=fun i hi=>by
    have e:(begF rules st0 wt0).ln=yhH n n:=by
      show (List.range rules.length).flatMap _=_
      rw [hN.len];rfl
    rw [e];exact gx_flat hi
  refine ⟨fun p hp=>by rw [hc p hp];rfl,fun i hi=>?_,fun a ha=>(by cases ha),fun v hv=>?_⟩
  · rw [hln i hi,hc _ (ygV hi)]
    exact ⟨Int.le_refl _,Int.le_refl _,by show (0:Int)+((0:Nat):Int)=_;split <;> rfl⟩
  · rw [hc v hv]
    have:sm n (accF n (begF rules st0 wt0).ln v)=0:=by
      rw [←ydG n]
      refine ya0 fun u hu=>?_
      unfold accF
      split
      · rfl
      · rw [hln _ (ix_lt hu hv)]
    rw [this]
    show gi (gx wt0 v) 0+((0:Nat):Int)=gi (gx wt0 v) 0+((0:Nat):Int)+0
    omega
theorem quiet_compl(hS:SI n rules W0 v A w)(h:RI n rules st0 wt0 w)(hb:ygr w=false):∀ x,x<n→gi (gx wt0 x) 0+sm n (fun u=>(nS rules st0 u x (cW w u):Int))=cW w x:=by
  intro x hx
  unfold ygr at hb
  simp only [Bool.or_eq_false_iff] at hb
  obtain ⟨⟨_,hb2⟩,hb3⟩:=hb
  have hq:∀ i,i<n*n→(gx w.ln i).q=[]:=fun i hi=>by
    have hm:gx w.ln i∈w.ln:=by rw [ybx (by rw [hS.lnl];exact hi)];exact List.getElem_mem _
    have:=List.any_eq_false.1 hb2 _ hm
    simpa using this
  have hw:gi (gx w.wt x) 0=0:=by
    have hm:gx w.wt x∈w.wt:=by rw [ybx (by rw [hS.wtl];exact hx)];exact List.getElem_mem _
    have h2:=List.any_eq_false.1 hb3 _ hm
    simp only [Bool.not_eq_true,List.any_eq_false] at h2
    have:=h2 _ (gi_mem0 (by rw [(hS.wt x hx).1];omega))
    simpa using this
  have h0:=h.wt x hx
  rw [hw] at h0
  have e1:sm n (fun u=>(nS rules st0 u x (cW w u):Int))=sm n (accF n w.ln x)+(nS rules st0 x x (cW w x):Int):=by
    refine sm_at1 hx fun u hu=>?_
    by_cases e:u=x
    · rw [if_pos e];unfold accF;rw [if_pos e,e];omega
    · rw [if_neg e]
      unfold accF
      rw [if_neg e]
      have hL:=h.ln _ (ix_lt hu hx)
      have h3:=hL.put
      rw [ix_div hx,ix_mod hx,if_neg e] at h3
      have h4:=hq _ (ix_lt hu hx)
      have h5:=hL.ra
      have h6:=hL.al
      rw [h4] at h3 h6
      simp only [List.length_nil] at h3 h6
      omega
  rw [e1]
  omega
end
end Go.Proofs.YtjepipbkiadcpaaGreat

/- Rotor-routing: All ends with counts that are complete, and the least ones. -/
namespace Go.Proofs.YtjepipbkiadcpaaGreat
open Go Go.RowKit Go.Shelf Go.Proofs.Tryz
theorem yie(to:List Int):(yeY to).length=to.length:=by simp [yeY]
theorem gx_turnR{to:List Int}{s:Nat}(hs:s<to.length):gx (gx (yeY to) s) 0=((((s+1) % to.length:Nat):Int),[(gi to ((s+1) % to.length),0)]):=by
  rw [ybx (l:=yeY to) (by rw [yie];exact hs)]
  simp [yeY,gx]
def toB(E:List (Int×Int))(k:Nat):List Int:=(List.range k).map fun h:Nat=>oph E (h:Int)
theorem toB_len(E:List (Int×Int))(k:Nat):(toB E k).length=k:=by simp [toB]
theorem gi_toB{E:List (Int×Int)}{k h:Nat}(hh:h<k):gi (toB E k) h=oph E (h:Int):=by
  rw [yba (by rw [toB_len];exact hh)];simp [toB]
theorem oph_range{n:Nat}{E:List (Int×Int)}(hE:EndsOk n E){h:Nat}(hh:h<2*E.length):0≤oph E (h:Int)∧oph E (h:Int)<n:=by
  have hm:gx E (h / 2)∈E:=gx_mem (by omega)
  have:=hE _ hm
  rw [oph_cast]
  split
  · exact this.2
  · exact this.1
section
variable {n q : Nat} {es : List E3} {ar : List (List Int)} {rot d : List Int}
theorem toL_gi(hB:RbOk n es ar){v:Nat}(hv:v<n){j:Nat}(hj:j<(gx ar v).length):gi (toL (yaW es) (gx ar v)) j=oph (yaW es) (gi (gx ar v) j)∧∃ h:Nat,gi (gx ar v) j=h∧h<2*(yaW es).length:=by
  refine ⟨?_,ar_half hB hv (by rw [yba hj];exact List.getElem_mem _)⟩
  rw [yba (by simp [toL];exact hj),yba hj];simp [toL]
theorem rout_pr(hB:RbOk n es ar)(hR:RoOk n q ar rot)(h16:∀ v,v<n→v≠q→(gx ar v).length≤16):∀ v,v<n→PrOk n (gx (yb5 n q (yaW es) ar) v):=by
  intro v hv
  rw [yfq hv]
  by_cases e:v=q
  · rw [if_pos e]
    refine ⟨rfl,by show (1:Int)≤1∧(1:Int)≤16;omega,rfl,fun s hs=>?_,fun s hs=>?_⟩
    · have:s=0:=by simp [sinkP] at hs;omega
      subst this;rfl
    · have:s=0:=by simp [sinkP] at hs;omega
      subst this
      exact ⟨by show (0:Int)≤0∧(0:Int)<1;omega,by show 0≤12;omega,fun x hx=>by cases hx⟩
  · rw [if_neg e]
    have h1:=hR.lt v hv e
    have h2:=hR.nn v hv
    have h3:=h16 v hv e
    have htl:(toL (yaW es) (gx ar v)).length=(gx ar v).length:=by simp [toL]
    refine ⟨by show ((gx ar v).length:Int)=((yeY _).length:Int);rw [yie,htl],by show (1:Int)≤((gx ar v).length:Int)∧_≤(16:Int);omega,rfl,fun s hs=>?_,fun s hs=>?_⟩
    · have hs:s<(yeY (toL (yaW es) (gx ar v))).length:=hs
      show (gx (yeY _) s).length=1
      rw [ybx hs];simp [yeY]
    · have hs:s<(yeY (toL (yaW es) (gx ar v))).length:=hs
      rw [yie] at hs
      show RuOk n ((gx ar v).length:Int) (gx (gx (yeY _) s) 0)
      rw [gx_turnR hs]
      have hm:=Nat.mod_lt (s+1) (show 0<(toL (yaW es) (gx ar v)).length by omega)
      refine ⟨by show (0:Int)≤(((s+1) % _:Nat):Int)∧_;omega,by show 1≤12;omega,fun x hx=>?_⟩
      have hx:x=(gi (toL (yaW es) (gx ar v)) ((s+1) % (toL (yaW es) (gx ar v)).length),0):=by simpa using hx
      obtain ⟨g1,h,g2,g3⟩:=toL_gi hB hv (j:=(s+1) % (toL (yaW es) (gx ar v)).length) (by omega)
      rw [hx,g1,g2]
      have:=oph_range hB.G.ok g3
      exact ⟨this.1,this.2,rfl⟩
theorem rout_sink(hR:RoOk n q ar rot):Sink n (yaB (yb5 n q (yaW es) ar)) rot q:=by
  intro v k hv
  have hq:=hR.ql
  have e:gx (yaB (yb5 n q (yaW es) ar)) q=[[(0,[])]]:=by
    rw [yfu (by rw [yfc];exact hq),yfq hq,if_pos rfl];rfl
  have hs:∀ k,stS (yaB (yb5 n q (yaW es) ar)) rot q k=0:=by
    intro k
    induction k with
    | zero=>exact hR.z
    | succ k ih=>rw [stS,e,ih];rfl
  induction k with
  | zero=>rfl
  | succ k ih=>rw [nS,ih,e,hs k];rfl
theorem rout_rule(hR:RoOk n q ar rot){v:Nat}(hv:v<n)(hne:v≠q){s:Nat}(hs:s<(gx ar v).length):gx (gx (gx (yaB (yb5 n q (yaW es) ar)) v) s) 0=((((s+1) % (gx ar v).length:Nat):Int),[(gi (toL (yaW es) (gx ar v)) ((s+1) % (gx ar v).length),0)]):=by
  have htl:(toL (yaW es) (gx ar v)).length=(gx ar v).length:=by simp [toL]
  rw [yfu (by rw [yfc];exact hv),yfq hv,if_neg hne]
  show gx (gx (yeY (toL (yaW es) (gx ar v))) s) 0=_
  rw [gx_turnR (by omega),htl]
theorem p_boardN(hB:RbOk n es ar)(hR:RoOk n q ar rot){R0:Int→Prop}{R1:Int→List (List Int)→List Int→List Int→Int→Prop}(h:R1 q ar (toB (yaW es) (2*(yaW es).length)) rot 0):ycN (n:Int) es ar (q:Int) rot R0 R1:=by
  have hf:=hB.G.few
  have hel:=hB.el
  have hEl:=hB.G.len
  have hrl:=hR.rl
  unfold ycN
  refine ygk hB hR ⟨fun _=>yfV (by omega) (fun q=>absurd hB.G.g q) fun _=>⟨fun _=>yhQ (by omega) ?_,fun q=>absurd rfl q⟩,fun q=>absurd rfl q⟩
  refine ⟨fun m v b=>Cnt (yaW es).length (fun k=>b=toB (yaW es) (2*k)) m v,Cnt.start rfl,?_⟩
  rintro m _ _ ⟨k,rfl,rfl,hk,rfl⟩
  simp only [Int.toNat_natCast]
  rw [toB_len]
  refine ⟨fun hlt=>⟨by omega,by omega,by omega,by omega,Cnt.next (by omega) (by omega) ?_⟩,fun hge=>?_⟩
  · have e:2*(k+1)=2*k+1+1:=by omega
    unfold toB
    rw [e,List.range_succ,List.range_succ,List.map_append,List.map_append]
    simp only [List.map_cons,List.map_nil,oph_cast,List.append_assoc]
    rw [if_pos (by omega),if_neg (by omega),show 2*k / 2=k by omega,show (2*k+1) / 2=k by omega]
    rfl
  · have e:k=(yaW es).length:=by omega
    subst e;exact h
theorem p_givenN(hB:RbOk n es ar)(hR:RoOk n q ar rot)(hD:DvOk n q d){R0:Int→Prop}{R1:Int→List (List Int)→List Int→List Int→Int→Prop}(h:R1 q ar (toB (yaW es) (2*(yaW es).length)) rot 0):ydk (n:Int) es ar (q:Int) rot d R0 R1:=by
  have hf:=hB.G.few
  have hdl:=hD.l
  unfold ydk
  refine p_boardN hB hR ⟨fun _=>yfo ⟨fun _=>?_,fun q=>absurd hD.c q⟩,fun q=>absurd rfl q⟩
  refine ⟨Cnt n (fun _=>True),Cnt.start trivial,?_⟩
  rintro m _ ⟨k,rfl,rfl,hk, -⟩
  rw [hdl]
  simp only [Int.toNat_natCast]
  exact ⟨fun hlt=>⟨by omega,fun _=>Cnt.next (by omega) (by omega) trivial,fun e=>⟨fun c=>absurd c (by have:=hD.nn k (by omega) (by omega);omega),fun _=>Cnt.next (by omega) (by omega) trivial⟩⟩,fun hge=>h⟩
structure RtI(n q:Nat)(rules:List (List (List ycJ)))(rot:List Int)(wt0:List (List Int))(k:Nat)(rho D t:List Int):Prop where
  rl:rho.length=n
  dl:D.length=n
  tl:t.length=n
  tn:∀ v,v<n→0≤gi t v∧gi t v≤k
  dn:∀ v,v<n→v≠q→0≤gi D v
  db:∀ v,v<n → -2000000≤gi D v∧gi D v≤2000000+k
  ro:∀ v,v<n→gi rho v=stS rules rot v (gi t v).toNat
  eq:∀ v,v<n→v≠q→gi D v+gi t v=gi (gx wt0 v) 0+sm n (fun u=>(nS rules rot u v (gi t u).toNat:Int))
  leg:∀ c,Compl n rules rot wt0 q c→∀ v,v<n→v≠q→(gi t v).toNat≤c v
  tq:gi t q=0
structure AllOk(n q:Nat)(rules:List (List (List ycJ)))(rot:List Int)(wt0:List (List Int))(rho t:List Int):Prop where
  rl:rho.length=n
  tl:t.length=n
  tn:∀ v,v<n→0≤gi t v
  ro:∀ v,v<n→gi rho v=stS rules rot v (gi t v).toNat
  eq:∀ v,v<n→v≠q→gi t v=gi (gx wt0 v) 0+sm n (fun u=>(nS rules rot u v (gi t u).toNat:Int))
  leg:∀ c,Compl n rules rot wt0 q c→∀ v,v<n→v≠q→(gi t v).toNat≤c v
  tq:gi t q=0
theorem cntO_one(x u:Nat):cntO [((x:Int),0)] u=if u=x then 1 else 0:=by
  rw [ye6]
  have e:cntO [] u=0:=rfl
  rw [e]
  by_cases c:u=x
  · rw [if_pos (by rw [c]),if_pos c]
  · rw [if_neg (by show ¬((x:Int)=(u:Int));omega),if_neg c]
theorem RtI.step(hB:RbOk n es ar)(hR:RoOk n q ar rot){wt0:List (List Int)}{k:Nat}{rho D t:List Int}(h:RtI n q (yaB (yb5 n q (yaW es) ar)) rot wt0 k rho D t){v:Nat}(hv:v<n)(hne:v≠q)(hD:0<gi D v){u:Nat}(hu:u<n)
    (hlen:0<(gx ar v).length) (hrho:0≤gi rho v∧gi rho v<((gx ar v).length:Int)) (ht:gi (toL (yaW es) (gx ar v)) ((gi rho v+1).toNat % (gx ar v).length)=(u:Int)) :
    RtI n q (yaB (yb5 n q (yaW es) ar)) rot wt0 (k+1) (rho.set v (((gi rho v+1).toNat % (gx ar v).length:Nat):Int)) ((D.set v (gi D v-1)).set u (gi (D.set v (gi D v-1)) u+1)) (t.set v (gi t v+1)):=by
  have hrl:=h.rl
  have hdl:=h.dl
  have htl:=h.tl
  have htv:=h.tn v hv
  have hsink:=rout_sink (es:=es) (ar:=ar) hR
  have hro:=h.ro v hv
  have e0:(gi rho v+1).toNat=(gi rho v).toNat+1:=by omega
  have hrule:=rout_rule (es:=es) hR hv hne (s:=(gi rho v).toNat) (by omega)
  rw [e0] at ht ⊢
  rw [ht] at hrule
  have hT:∀ x,x<n→gi (t.set v (gi t v+1)) x=gi t x+if x=v then 1 else 0:=fun x hx=>by
    rw [ydh (by omega)]
    split
    · rename_i e;rw [e]
    · omega
  have hTn:∀ x,x<n→(gi (t.set v (gi t v+1)) x).toNat=(gi t x).toNat+if x=v then 1 else 0:=fun x hx=>by
    rw [hT x hx]
    have:=h.tn x hx
    split <;> omega
  have hDx:∀ x,x<n→gi ((D.set v (gi D v-1)).set u (gi (D.set v (gi D v-1)) u+1)) x=gi D x-(if x=v then 1 else 0)+if x=u then 1 else 0:=fun x hx=>by
    rw [ydh (by rw [List.length_set];omega),ydh (by omega),ydh (by omega)]
    by_cases c1:x=u <;> by_cases c2:x=v
    · rw [if_pos c1,if_pos (by omega),if_pos c2,if_pos c1,c2]
    · rw [if_pos c1,if_neg (by omega),if_neg c2,if_pos c1,c1];omega
    · rw [if_neg c1,if_pos c2,if_pos c2,if_neg c1,c2];omega
    · rw [if_neg c1,if_neg c2,if_neg c2,if_neg c1];omega
  have hS:∀ x,x<n→sm n (fun w=>(nS (yaB (yb5 n q (yaW es) ar)) rot w x (gi (t.set v (gi t v+1)) w).toNat:Int))=sm n (fun w=>(nS (yaB (yb5 n q (yaW es) ar)) rot w x (gi t w).toNat:Int))+if x=u then 1 else 0:=fun x hx=>by
    refine sm_at1 hv fun w hw=>?_
    rw [hTn w hw]
    by_cases c:w=v
    · subst c
      rw [if_pos rfl,if_pos rfl]
      have e1:nS (yaB (yb5 n q (yaW es) ar)) rot w x ((gi t w).toNat+1)=nS (yaB (yb5 n q (yaW es) ar)) rot w x (gi t w).toNat+if x=u then 1 else 0:=by
        rw [nS,←hro,hrule]
        show _+cntO [((u:Int),0)] x=_
        rw [cntO_one]
      rw [e1];split <;> push_cast <;> omega
    · rw [if_neg c,if_neg c];rfl
  refine ⟨by rw [List.length_set];exact hrl,by rw [List.length_set,List.length_set];exact hdl,by rw [List.length_set];exact htl,fun x hx=>?_,fun x hx hxq=>?_,fun x hx=>?_,fun x hx=>?_,fun x hx hxq=>?_,fun c hc x hx hxq=>?_,?_⟩
  · rw [hT x hx];have:=h.tn x hx;split <;> omega
  · rw [hDx x hx];have:=h.dn x hx hxq
    by_cases c:x=v
    · subst c;split <;> omega
    · rw [if_neg c];split <;> omega
  · rw [hDx x hx]
    have h1:=h.db x hx
    by_cases c:x=v
    · subst c;rw [if_pos rfl];split <;> omega
    · rw [if_neg c];split <;> omega
  · rw [hTn x hx,ydh (by omega)]
    by_cases c:x=v
    · subst c
      rw [if_pos rfl,if_pos rfl,stS,←hro,hrule]
    · rw [if_neg c,if_neg c];exact h.ro x hx
  · rw [hDx x hx,hT x hx,hS x hx]
    have:=h.eq x hx hxq
    omega
  · rw [hTn x hx]
    by_cases c1:x=v
    · subst c1
      rw [if_pos rfl]
      have h1:=h.eq x hx hxq
      have h2:=hc x hx hxq
      have h3:sm n (fun w=>(nS (yaB (yb5 n q (yaW es) ar)) rot w x (gi t w).toNat:Int))≤sm n (fun w=>(nS (yaB (yb5 n q (yaW es) ar)) rot w x (c w):Int)):=by
        refine yhc fun w hw=>?_
        by_cases e:w=q
        · rw [e,hsink x _ hx,hsink x _ hx];exact Int.le_refl _
        · have:=nS_mono (yaB (yb5 n q (yaW es) ar)) rot w x (h.leg c hc w hw e);omega
      omega
    · rw [if_neg c1];exact h.leg c hc x hx hxq
  · rw [hT q hR.ql,if_neg (fun e=>hne e.symm),h.tq];rfl
theorem gi_rep0(k v:Nat):gi (List.replicate k (0:Int)) v=0:=by
  unfold gi
  rw [List.getD_eq_getElem?_getD,List.getElem?_replicate]
  split <;> rfl
theorem p_rotorAllN(hB:RbOk n es ar)(hR:RoOk n q ar rot)(hD:DvOk n q d){R:List Int→List Int→Int→Prop}(h12:R [] [] 12)(h:∀ rho t,AllOk n q (yaB (yb5 n q (yaW es) ar)) rot (wtR n q d) rho t→R rho t 0):yd8 (n:Int) es ar (q:Int) rot d R:=by
  have hf:=hB.G.few
  have hdl:=hD.l
  have harl:=hB.arl
  have hql:=hR.ql
  have hchk:=(checkF_ok hD.c).2.2.2
  unfold yd8
  refine p_givenN hB hR hD ⟨fun _=>?_,fun q=>absurd rfl q⟩
  unfold ycv
  refine yfC (by omega) ⟨by omega,?_⟩
  refine ⟨fun m v to rho D t=>∃ k:Nat,m=1048576-k∧v=(k:Int)∧k≤1048576∧to=toB (yaW es) (2*(yaW es).length)∧RtI n q (yaB (yb5 n q (yaW es) ar)) rot (wtR n q d) k rho D t,⟨_,0,rfl,rfl,by omega,rfl,?_⟩,?_⟩
  · have hz:∀ v,v<n→gi (List.replicate d.length (0:Int)) v=0:=fun v hv=>gi_rep0 _ _
    rw [Int.toNat_natCast]
    refine ⟨hR.rl,hdl,by rw [List.length_replicate];exact hdl,fun v hv=>by rw [hz v hv];omega,fun v hv hne=>hD.nn v hv hne,fun v hv=>by have:=hchk v hv;omega,fun v hv=>by rw [hz v hv];rfl,fun v hv hne=>?_,fun c _ v hv _=>by rw [hz v hv];exact Nat.zero_le _,hz q hql⟩
    rw [hz v hv,gx_wtR hv,if_neg hne]
    have:sm n (fun u=>(nS (yaB (yb5 n q (yaW es) ar)) rot u v (gi (List.replicate d.length (0:Int)) u).toNat:Int))=0:=by
      exact Eq.trans (ya0 fun u hu=>by rw [hz u hu];rfl) (ydG n)
    rw [this];rfl
  · rintro m _ _ rho D t ⟨k,rfl,rfl,hk,rfl,hI⟩
    have hDl:=hI.dl
    have htl:=hI.tl
    have hrl:=hI.rl
    refine ⟨fun m l i=>Cnt n (fun j=>(∀ x∈l,∃ v:Nat,x=v∧v<n∧v≠q∧0<gi D v)∧(∀ v,v<j→v≠q→0<gi D v→0<l.length)∧l.length≤j) m i,Cnt.start ⟨fun x hx=>(by cases hx),fun v hv=>absurd hv (by omega),by simp⟩,?_⟩
    rintro m l _ ⟨j,rfl,rfl,hj,h1,h2,h3⟩
    rw [hDl]
    simp only [Int.toNat_natCast]
    refine ⟨fun hlt=>?_,fun hge=>?_⟩
    · have hj2:j<n:=by omega
      have hskip:(j=q∨¬0<gi D j)→(∀ x∈l,∃ v:Nat,x=v∧v<n∧v≠q∧0<gi D v)∧(∀ v,v<j+1→v≠q→0<gi D v→0<l.length)∧l.length≤j+1:=fun hc=>⟨h1,fun v hv hne hp=>by
        by_cases e:v=j
        · subst e;rcases hc with c | c
          · exact absurd c hne
          · exact absurd hp c
        · exact h2 v (by omega) hne hp,by omega⟩
      refine ⟨by omega,fun e=>Cnt.next hj2 (by omega) (hskip (.inl (by omega))),fun e=>⟨fun hp=>⟨by omega,Cnt.next hj2 (by omega) ⟨fun x hx=>?_,fun v hv hne hp=>by simp,by simp;omega⟩⟩,fun hp=>Cnt.next hj2 (by omega) (hskip (.inr hp))⟩⟩
      rcases List.mem_append.1 hx with c | c
      · exact h1 x c
      · have c:x=(j:Int):=by simpa using c
        exact ⟨j,c,hj2,by omega,hp⟩
    · have ej:j=n:=by omega
      subst ej
      refine ⟨fun hl=>?_,fun hl=>⟨fun _=>h12,fun hk2=>?_⟩⟩
      · refine h rho t ⟨hrl,htl,fun v hv=>(hI.tn v hv).1,hI.ro,fun v hv hne=>?_,hI.leg,hI.tq⟩
        have e1:=hI.eq v hv hne
        have e2:=hI.dn v hv hne
        have e3:¬0<gi D v:=fun c=>by have:=h2 v (by omega) hne c;omega
        omega
      · unfold ydf
        have hl0:0<l.length:=by omega
        obtain ⟨v,hv,hvn,hvq,hDv⟩:=h1 (gi l 0) (by rw [yba hl0];exact List.getElem_mem _)
        rw [Int.toNat_zero,hv]
        simp only [Int.toNat_natCast]
        have htv:=hI.tn v hvn
        have hdv:=hI.db v hvn
        have hlt0:=hR.lt v hvn hvq
        have hnn0:=hR.nn v hvn
        have hlen:0<(gx ar v).length:=by omega
        have hcap:=(hB.ar v hvn).len
        have hcap2:=ownH_le (yaW es) (2*(yaW es).length) (v:Int)
        have hcap3:=hB.G.len
        have hcap4:=hB.el
        -- the rotor is in range
        have hrange:0≤gi rho v∧gi rho v<((gx ar v).length:Int):=by
          rw [hI.ro v hvn]
          have key:∀ k,0≤stS (yaB (yb5 j q (yaW es) ar)) rot v k∧stS (yaB (yb5 j q (yaW es) ar)) rot v k<((gx ar v).length:Int):=by
            intro k
            induction k with
            | zero=>exact ⟨hnn0,hlt0⟩
            | succ k ih =>
              rw [stS,rout_rule (es:=es) hR hvn hvq (s:=(stS (yaB (yb5 j q (yaW es) ar)) rot v k).toNat) (by omega)]
              have:=Nat.mod_lt ((stS (yaB (yb5 j q (yaW es) ar)) rot v k).toNat+1) hlen
              show (0:Int)≤((_ % _:Nat):Int)∧_
              omega
          exact key _
        have em:(gi rho v+1).tmod ((gx ar v).length:Int)=(((gi rho v+1).toNat % (gx ar v).length:Nat):Int):=by
          rw [Int.tmod_eq_emod_of_nonneg (by omega)]
          have e:gi rho v+1=(((gi rho v+1).toNat:Nat):Int):=by omega
          conv=>lhs;rw [e]
          push_cast;rfl
        have hm:=Nat.mod_lt (gi rho v+1).toNat hlen
        obtain ⟨g1,x,g2,g3⟩:=toL_gi hB hvn hm
        have hox:=oph_range hB.G.ok g3
        obtain ⟨u,hu⟩:∃ u:Nat,oph (yaW es) (x:Int)=u:=⟨(oph (yaW es) (x:Int)).toNat,by omega⟩
        have hun:u<j:=by omega
        have hstep:=RtI.step hB hR hI hvn hvq hDv hun hlen hrange (by rw [g1,g2];exact hu)
        have hset:gi (rho.set v (((gi rho v+1).toNat % (gx ar v).length:Nat):Int)) v=(((gi rho v+1).toNat % (gx ar v).length:Nat):Int):=by rw [ydh (by omega),if_pos rfl]
        have hdu : -2000000≤gi (D.set v (gi D v-1)) u+1∧gi (D.set v (gi D v-1)) u+1≤4000000:=by
          have:=hI.db u hun
          rw [ydh (by omega)]
          split <;> omega
        unfold ycG
        simp only [Int.toNat_natCast]
        rw [em,hset]
        simp only [Int.toNat_natCast]
        rw [g2]
        simp only [Int.toNat_natCast]
        rw [gi_toB g3,hu,toB_len,List.length_set,List.length_set]
        simp only [Int.toNat_natCast]
        exact ⟨by omega,by omega,i64 (by omega),by omega,i64 (by omega),by omega,by omega,i64 (by omega),by omega,by omega,by omega,by omega,by omega,i64 (by omega),i64 (by omega),1048576-(k+1),by omega,k+1,rfl,rfl,by omega,trivial,hstep⟩
end
end Go.Proofs.YtjepipbkiadcpaaGreat

/- The fixed examples of top28: a letter that is lost once, and a sandpile of the triangle. -/
namespace Go.Proofs.YtjepipbkiadcpaaGreat
open Go Go.RowKit Go.Shelf Go.Proofs.Tryz
theorem p_bsE{x:List E3}{t1 t2:Int}{k:Nat}{R:Int→Bool→Prop}(hl:x.length≤1000)(hk:k<x.length)(hlt:∀ h,h<k→ygg (ge x h).1 (ge x h).2.1 t1 t2<0)(hge:∀ h,k≤h→h<x.length→¬ygg (ge x h).1 (ge x h).2.1 t1 t2<0)(heq:ygg (ge x k).1 (ge x k).2.1 t1 t2=0)(h:R k true) :
    ybb x t1 t2 (fun x x2 x3 x4 x5 R=>yco x x2 x3 x4 x5 R) R:=by
  have e2:(2:Int)^(1:Int).toNat=2:=by decide
  unfold ybb yco
  rw [e2]
  refine ⟨fun m i j=>∃ a b:Nat,i=(a:Int)∧j=(b:Int)∧m=b-a∧a≤k∧k≤b∧b≤x.length,⟨_,0,x.length,rfl,rfl,rfl,by omega,by omega,by omega⟩,?_⟩
  rintro m _ _ ⟨a,b,rfl,rfl,rfl,h1,h2,h3⟩
  refine ⟨fun hab=>?_,fun hab=>?_⟩
  · have hab:a<b:=by omega
    have em:((a:Int)+b) / 2=(((a+b) / 2:Nat):Int):=by omega
    rw [em]
    have hc:(a+b) / 2<x.length:=by omega
    simp only [Int.toNat_natCast]
    refine ⟨i64 (by omega),inU64 (by omega) (by omega),by omega,i64 (by omega),by omega,ye1 ⟨fun q=>?_,fun q=>?_⟩⟩
    · refine ⟨i64 (by omega),b-((a+b) / 2+1),by omega,(a+b) / 2+1,b,by omega,rfl,rfl,?_,h2,h3⟩
      rcases Nat.lt_or_ge ((a+b) / 2) k with c | c
      · omega
      · exact absurd q (hge _ c hc)
    · refine ⟨(a+b) / 2-a,by omega,a,(a+b) / 2,rfl,rfl,rfl,h1,?_,by omega⟩
      rcases Nat.lt_or_ge ((a+b) / 2) k with c | c
      · exact absurd (hlt _ c) q
      · exact c
  · have c:a=k:=by omega
    subst c
    simp only [Int.toNat_natCast]
    refine ⟨fun _=>⟨by omega,ye1 ?_⟩,fun q=>absurd (show ((a:Nat):Int)<x.length by omega) q⟩
    rw [heq];exact h
def triE:List E3:=[(0,1,1),(0,2,1),(1,2,1)]
theorem tri_g:yaZ 3 triE=0:=by decide +kernel
theorem tri_c:yg8 3 triE=true:=by decide +kernel
theorem p_atT{l:List Int}(hl:l.length≤100)(h:∀ x∈l,0≤x∧x<3){R:Int→Prop}(hR:R 0):yez 3 triE l R:=by
  unfold yez
  refine ygN (by decide) ⟨fun _=>?_,fun q=>absurd tri_g q⟩
  refine ⟨Cnt l.length (fun _=>True),Cnt.start trivial,?_⟩
  rintro m _ ⟨k,rfl,rfl,hk, -⟩
  simp only [Int.toNat_natCast]
  refine ⟨fun hlt=>?_,fun hge=>hR⟩
  have:=h (gi l k) (by rw [yba (by omega)];exact List.getElem_mem _)
  unfold ybU
  exact ⟨by omega,fun _=>⟨fun _=>Cnt.next (by omega) (by omega) trivial,fun q=>absurd (decide_eq_true this.2) q⟩,fun q=>absurd this.1 q⟩
theorem yf9{a b:Int}{k:Nat}(hab:0≤a∧a<3∧0≤b∧b<3)(hk:k<3)(h1:∀ h,h<k→ygg (ge triE h).1 (ge triE h).2.1 (mnF a b) (mxF a b)<0)(h2:∀ h,h<3→k≤h→¬ygg (ge triE h).1 (ge triE h).2.1 (mnF a b) (mxF a b)<0)(h3:ygg (ge triE k).1 (ge triE k).2.1 (mnF a b) (mxF a b)=0)(h4:(ge triE k).2.2=1){R:Int→Int→Prop}(hR:R 1 0):yce 3 triE a b R:=by
  unfold yce ydy
  refine p_atT (by simp) (fun x hx=>by simp at hx;omega) ⟨fun _=>p_bsE (k:=k) (by decide) hk h1 (fun h ha hb=>h2 h hb ha) h3 ⟨fun _=>⟨⟨by omega,by show (k:Int)<3;omega⟩,?_⟩,fun q=>absurd rfl q⟩,fun q=>absurd rfl q⟩
  rw [Int.toNat_natCast,h4];exact hR
theorem p_mulN{x y:Int}{R:Int→Int→Prop}(hx:0≤x∧x≤65535)(hy:0≤y∧y≤65535)(h:R 0 (x*y)):ycM x y R:=by
  unfold ycM ycS
  have e1:=and32 hx.1 hx.2
  have e2:=and32 hy.1 hy.2
  have hxy0:0≤x*y:=Int.mul_nonneg hx.1 hy.1
  have hxy1:x*y≤65535*65535:=Int.mul_le_mul hx.2 hy.2 hy.1 (by omega)
  have p32:(2:Int)^(32:Int).toNat=4294967296:=rfl
  have e3:x / 4294967296=0:=by omega
  have e4:y / 4294967296=0:=by omega
  have e5:x*y / 4294967296=0:=by omega
  have e6:=and32 (x:=0) (by omega) (by omega)
  simp only [e1,e2,p32,e3,e4,e5,Int.zero_mul,Int.mul_zero,Int.add_zero,Int.zero_add,e6]
  have z:InK .u64 0:=inU64 (by omega) (by omega)
  have zz:(0:Int) / 4294967296=0:=by omega
  simp only [zz,Int.add_zero,Int.zero_add]
  exact ⟨by omega,by omega,by omega,inU64 (by omega) (by omega),z,z,by omega,z,z,z,z,z,inU64 (by omega) (by omega),h⟩
theorem p_repeat1{x:Int×Int}{R:List (Int×Int)→Prop}(h:R [x]):ybF [x] 1 R:=by
  unfold ybF
  have e1:((([x]:List (Int×Int)).length:Nat):Int)=1:=rfl
  rw [e1]
  refine ⟨True,fun _=>⟨inU64 (by omega) (by omega),inU64 (by omega) (by omega),p_mulN (by omega) (by omega) ⟨True,fun _=>?_,fun q=>absurd q (by omega),fun _=>⟨fun q=>absurd q (by omega),fun _=>trivial⟩⟩⟩,fun q=>absurd q (by omega),fun _=>trivial⟩
  refine ⟨i64 (by omega),by omega,by simp,by omega,?_⟩
  refine ⟨fun m n ns=>n=1∧ns=[x],⟨0,rfl,rfl⟩,?_⟩
  rintro m _ _ ⟨rfl,rfl⟩
  exact ⟨fun q=>absurd q (by simp),fun _=>h⟩
def sentT(v:Nat)(k:Nat):List (Int×Int):=((List.range k).filter fun w=>decide (w≠v)).map fun w:Nat=>((w:Int),(0:Int))
def rowsT(l:List (Int×Int)):List (List ycJ):=[[(1,[])],[(0,l)]]
theorem p_topplerT{v:Nat}(hv:v=1∨v=2){R:Int→Int→List (List ycJ)→Int→Prop}(h:R 2 1 (rowsT (sentT v 3)) 0):ybz 3 triE (v:Int) R:=by
  unfold ybz
  have hlen:∀ k,k≤3→(sentT v k).length≤3:=by rcases hv with rfl | rfl <;> decide
  have hl3:(sentT v 3).length=2:=by rcases hv with rfl | rfl <;> decide
  refine ⟨fun m l i=>Cnt 3 (fun k=>l=sentT v k) m i,Cnt.start rfl,?_⟩
  rintro m _ _ ⟨k,rfl,rfl,hk,rfl⟩
  refine ⟨fun hlt=>⟨fun e=>Cnt.next (by omega) (by omega) ?_,fun e=>?_⟩,fun hge=>?_⟩
  · have e:k=v:=by omega
    subst e
    rcases hv with rfl | rfl <;> decide
  · have hgo:∀ {R':Int→Int→Prop},R' 1 0→yce 3 triE (v:Int) (k:Int) R':=by
      intro R' hR'
      have hk3:k=0∨k=1∨k=2:=by omega
      rcases hv with rfl | rfl <;> rcases hk3 with rfl | rfl | rfl
      · exact yf9 (k:=0) (by omega) (by omega) (by decide) (by decide) (by decide) (by decide) hR'
      · exact absurd rfl e
      · exact yf9 (k:=2) (by omega) (by omega) (by decide) (by decide) (by decide) (by decide) hR'
      · exact yf9 (k:=1) (by omega) (by omega) (by decide) (by decide) (by decide) (by decide) hR'
      · exact yf9 (k:=2) (by omega) (by omega) (by decide) (by decide) (by decide) (by decide) hR'
      · exact absurd rfl e
    have hl:=hlen k hk
    refine hgo ⟨fun _=>p_repeat1 ⟨by simp;omega,Cnt.next (by omega) (by omega) ?_⟩,fun q=>absurd rfl q⟩
    have hk3:k=0∨k=1∨k=2:=by omega
    rcases hv with rfl | rfl <;> rcases hk3 with rfl | rfl | rfl <;> first | rfl | exact absurd rfl e
  · have ek:k=3:=by omega
    subst ek
    rw [hl3]
    refine ⟨True,fun _=>?_,fun q=>absurd q (by omega),fun _=>trivial⟩
    refine ⟨fun m i l=>Cnt 2 (fun j=>l=(rowsT (sentT v 3)).take j) m i,Cnt.start rfl,?_⟩
    rintro m _ _ ⟨j,rfl,rfl,hj,rfl⟩
    refine ⟨fun hlt=>?_,fun hge=>?_⟩
    · have hj2:j=0∨j=1:=by omega
      rcases hj2 with rfl | rfl
      · refine ⟨i64 (by omega),by omega,i64 (by omega),fun l=>l=[],fun l hl=>⟨by simp [rowsT],1,by omega,1,rfl,rfl,by omega,by rw [hl];rfl⟩,fun q=>absurd q (by decide),fun _=>rfl⟩
      · refine ⟨i64 (by omega),by omega,i64 (by omega),fun l=>l=sentT v 3,fun l hl=>⟨by simp [rowsT],0,by omega,2,rfl,rfl,by omega,by rw [hl];rfl⟩,fun _=>rfl,fun q=>absurd (by decide) q⟩
    · have ej:j=2:=by omega
      subst ej
      exact h
def pileP:PrL:=[sinkP,(2,1,rowsT (sentT 1 3)),(2,1,rowsT (sentT 2 3))]
theorem pile_rules:yaB pileP=pileR:=by decide
theorem pile_pr:∀ v,v<3→PrOk 3 (gx pileP v):=by
  intro v hv
  have hv3:v=0∨v=1∨v=2:=by omega
  rcases hv3 with rfl | rfl | rfl
  · refine ⟨rfl,by decide,rfl,fun s hs=>?_,fun s hs=>?_⟩ <;> (have hs:s<1:=hs;have:s=0:=by omega) <;> subst this
    · rfl
    · exact ⟨by decide,by decide,by decide⟩
  all_goals
    refine ⟨rfl,by decide,rfl,fun s hs=>?_,fun s hs=>?_⟩ <;> (have hs:s<2:=hs;have:s=0∨s=1:=by omega) <;> rcases this with rfl | rfl
    · rfl
    · rfl
    · exact ⟨by decide,by decide,by decide⟩
    · exact ⟨by decide,by decide,by decide⟩
theorem p_sandpileT{R:PrL→List Int→List (List Int)→Int→Prop}(h:R pileP [0,0,0] [[0],[2],[1]] 0):yb9 3 triE 0 [0,2,1] R:=by
  unfold yb9 ycQ ycB yb2
  refine ⟨by decide,fun _=>⟨fun _=>⟨fun q=>absurd q (by omega),fun _=>⟨fun q=>absurd q (by omega),fun _=>⟨fun _=>yfo ⟨fun _=>?_,fun q=>absurd (by decide) q⟩,fun q=>absurd rfl q⟩⟩⟩,fun q=>absurd (decide_eq_true ⟨tri_g,tri_c⟩) q⟩,fun q=>absurd tri_g q⟩
  refine ⟨Cnt 3 (fun _=>True),Cnt.start trivial,?_⟩
  rintro m _ ⟨k,rfl,rfl,hk, -⟩
  have hd:(([0,2,1]:List Int).length:Int)=3:=rfl
  rw [hd]
  simp only [Int.toNat_natCast]
  refine ⟨fun hlt=>⟨by omega,fun _=>Cnt.next (by omega) (by omega) trivial,fun e=>⟨fun c=>?_,fun _=>Cnt.next (by omega) (by omega) trivial⟩⟩,fun hge=>⟨fun _=>?_,fun q=>absurd trivial q⟩⟩
  · have hk3:k=0∨k=1∨k=2:=by omega
    rcases hk3 with rfl | rfl | rfl <;> exact absurd c (by decide)
  · have hw:wtR 3 0 [0,2,1]=[[0],[2],[1]]:=by decide
    unfold ybK
    refine ⟨⟨by omega,ye7 (n:=3) (q:=0) rfl (by omega) ?_⟩,ye7 (n:=3) (q:=0) rfl (by omega) ⟨by omega,?_⟩,⟨by omega,ye7 (n:=3) (q:=0) rfl (by omega) ?_⟩,ye7 (n:=3) (q:=0) rfl (by omega) ⟨by omega,?_⟩⟩
    all_goals
      rw [hw]
      refine ⟨fun m i x=>Cnt 3 (fun k=>x=pileP.take k) m i,Cnt.start rfl,?_⟩
      rintro m _ _ ⟨k,rfl,rfl,hk,rfl⟩
      refine ⟨fun hlt=>?_,fun hge=>?_⟩
      · have hk3:k=0∨k=1∨k=2:=by omega
        refine ⟨fun a b c=>(a,b,c)=gx pileP k,fun a b c e=>⟨by have:=List.length_take_le k pileP;omega,Cnt.next (by omega) (by omega) (by rw [List.take_add_one,yaY (by show k<3;omega),e];rfl)⟩,fun e=>?_,fun e=>p_topplerT (v:=k) (by omega) ⟨fun _=>?_,fun q=>absurd rfl q⟩⟩
        · have:k=0:=by omega
          subst this;rfl
        · rcases hk3 with rfl | rfl | rfl
          · exact absurd rfl e
          · rfl
          · rfl
      · have ek:k=3:=by omega
        subst ek
        exact h
def pairP:PrL:=[(1,1,[[(0,[(1,0)])]]),(1,1,[[(0,[])]])]
theorem pair_rules:yaB pairP=pairR:=by decide
theorem pair_pr:∀ v,v<2→PrOk 2 (gx pairP v):=by
  intro v hv
  have hv3:v=0∨v=1:=by omega
  rcases hv3 with rfl | rfl <;> refine ⟨rfl,by decide,rfl,fun s hs=>?_,fun s hs=>?_⟩ <;> (have hs:s<1:=hs;have:s=0:=by omega) <;> subst this
  · rfl
  · exact ⟨by decide,by decide,by decide⟩
  · rfl
  · exact ⟨by decide,by decide,by decide⟩
theorem pair_ends:ygr (stK pairR [1] (begF pairR [0,0] [[1],[0]]) 7)=false:=by decide +kernel
theorem pair_on:∀ k,k<7→ygr (stK pairR [1] (begF pairR [0,0] [[1],[0]]) k)=true:=by decide +kernel
theorem pile_ends:ygr (stK pileR [3,2] (begF pileR [0,0,0] [[0],[2],[1]]) 9)=false:=by decide +kernel
theorem pile_on:∀ k,k<9→ygr (stK pileR [3,2] (begF pileR [0,0,0] [[0],[2],[1]]) k)=true:=by decide +kernel
theorem pile_st:(stK pileR [3,2] (begF pileR [0,0,0] [[0],[2],[1]]) 9).st=[0,1,0]:=by decide +kernel
theorem p_equalN{a b:List Int}{R:Bool→Prop}(hl:a.length≤1000000)(h:R (decide (a=b))):ybN a b R:=by
  unfold ybN
  refine ⟨fun hab=>?_,fun hab=>?_⟩
  · refine ⟨Cnt a.length (fun k=>∀ j,j<k→gi a j=gi b j),Cnt.start (fun j hj=>absurd hj (by omega)),?_⟩
    rintro m _ ⟨k,rfl,rfl,hk,hinv⟩
    simp only [Int.toNat_natCast]
    refine ⟨fun hlt=>⟨by omega,by omega,fun e=>Cnt.next (by omega) (by omega) fun j hj=>?_,fun e=>?_⟩,fun hge=>?_⟩
    · by_cases q:j=k
      · rw [q];exact e
      · exact hinv j (by omega)
    · rw [decide_eq_false (fun c=>e (by rw [c]))] at h;exact h
    · rw [decide_eq_true (gi_ext (by omega) fun i hi=>hinv i (by omega))] at h;exact h
  · rw [decide_eq_false (fun c=>hab (by rw [c]))] at h;exact h
theorem yh1{R:Bool→Prop}(h:R true):yaG R:=by
  unfold yaG yfm
  have hNp:=netOk_of (n:=2) (d:=pairP) rfl pair_pr
  have hw2:∀ p,p<2→(gx [[(1:Int)],[0]] p).length=1∧0≤gi (gx [[(1:Int)],[0]] p) 0∧gi (gx [[(1:Int)],[0]] p) 0≤1:=by decide
  have hw3:∀ p,p<3→(gx [[(0:Int)],[2],[1]] p).length=1∧0≤gi (gx [[(0:Int)],[2],[1]] p) 0∧gi (gx [[(0:Int)],[2],[1]] p) 0≤2:=by decide
  have hs2:∀ p,p<2→0≤gi [(0:Int),0] p∧gi [(0:Int),0] p<((gx (yaB pairP) p).length:Int):=by decide
  have hs3:∀ p,p<3→0≤gi [(0:Int),0,0] p∧gi [(0:Int),0,0] p<((gx (yaB pileP) p).length:Int):=by decide
  have hc2:∀ R':Int→Prop,R' 0→ybu pairP [0,0] [[1],[0]] R':=fun R' hR'=>ygy (n:=2) (by omega) rfl pair_pr rfl (by decide) rfl (fun v hv=>by have:=hw2 v hv;omega) hR'
  have hc3:∀ R':Int→Prop,R' 0→ybu pileP [0,0,0] [[0],[2],[1]] R':=fun R' hR'=>ygy (n:=3) (by omega) rfl pile_pr rfl (by decide) rfl (fun v hv=>by have:=hw3 v hv;omega) hR'
  refine p_wRun (d:=pairP) (n:=2) (W0:=1) (limit:=20) hNp (by omega) (by omega) hc2 rfl hs2 rfl hw2 (by decide) (by decide) (by omega) (by decide) (fun hb=>?_) fun k hk hb hbz y s=>?_
  · have:=hb 7 (by omega)
    rw [pair_rules,pair_ends] at this;cases this
  rw [pair_rules] at hb hbz ⊢
  have hk7:k=7:=by
    rcases Nat.lt_trichotomy k 7 with c | c | c
    · rw [pair_on k c] at hb;cases hb
    · exact c
    · have:=hbz 7 c
      rw [pair_ends] at this;cases this
  subst hk7
  unfold ybZ
  refine p_sandpileT ?_
  have hN3:=netOk_of (n:=3) (d:=pileP) rfl pile_pr
  refine p_wRun (d:=pileP) (n:=3) (W0:=2) (limit:=200) hN3 (by omega) (by omega) hc3 rfl hs3 rfl hw3 (by decide) (by decide) (by omega) (by decide) (fun hb3=>?_) fun k hk hb3 hbz3 y s=>?_
  · have:=hb3 9 (by omega)
    rw [pile_rules,pile_ends] at this;cases this
  rw [pile_rules] at hb3 hbz3 ⊢
  have hk9:k=9:=by
    rcases Nat.lt_trichotomy k 9 with c | c | c
    · rw [pile_on k c] at hb3;cases hb3
    · exact c
    · have:=hbz3 9 c
      rw [pile_ends] at this;cases this
  subst hk9
  refine ⟨i64 (by omega),i64 (by omega),fun _=>⟨fun _=>p_equalN ?_ ?_,fun q=>absurd rfl q⟩,fun q=>absurd rfl q⟩
  · rw [pile_st];decide
  · rw [pile_st];exact h
end Go.Proofs.YtjepipbkiadcpaaGreat

/- Chips that are routed by processors over lines that lose, repeat and delay packets end with the rotors of rotor.All, and its counts. -/
namespace Go.Proofs.YtjepipbkiadcpaaGreat
open Go Go.RowKit Go.Shelf Go.Proofs.Tryz
section
variable {n q : Nat} {es : List E3} {ar : List (List Int)} {rot d : List Int} {rules : List (List (List ycJ))} {W0 : Int} {fates : List Int} {st0 : List Int} {wt0 : List (List Int)}
theorem run_both{b:Wst}(hS:SI n rules W0 n 0 b)(hN:NetOk n rules)(hb:b.tk=0)(hI:RI n rules st0 wt0 b){t:Nat→Nat}(ht:Compl n rules st0 wt0 q t)(hq:Sink n rules st0 q)(hl:Leg n q t b):∀ k:Nat,k≤4096→RI n rules st0 wt0 (stK rules fates b k)∧Leg n q t (stK rules fates b k)
  | 0,_=>⟨hI,hl⟩
  | k+1,hk=>by
    obtain ⟨h1,h2⟩:=run_both hS hN hb hI ht hq hl k (by omega)
    obtain ⟨s1,s2⟩:=hS.run (fates:=fates) hN hb k (by omega)
    have hn6:=hS.n6
    have hnn:n*n≤36:=by
      have:n*n≤6*6:=Nat.mul_le_mul hn6.2 hn6.2
      omega
    exact ⟨RI.tick s1 hN h1 (by omega) (by omega),Leg.tick s1 hN h1 ht hq h2 (by omega) (by omega)⟩
theorem rout_stq(hR:RoOk n q ar rot)(k:Nat):stS (yaB (yb5 n q (yaW es) ar)) rot q k=0:=by
  have hq:=hR.ql
  have e:gx (yaB (yb5 n q (yaW es) ar)) q=[[(0,[])]]:=by
    rw [yfu (by rw [yfc];exact hq),yfq hq,if_pos rfl];rfl
  induction k with
  | zero=>exact hR.z
  | succ k ih=>rw [stS,e,ih];rfl
theorem pr_size{d:PrL}(hd:d.length≤1000)(hp:∀ v,v<d.length→PrOk n (gx d v)):d.length≤1000000∧∀ p∈d,p.2.2.length≤1000000∧∀ r∈p.2.2,r.length≤1000000∧∀ q∈r,q.2.length≤1000000:=by
  refine ⟨by omega,fun p hm=>?_⟩
  obtain ⟨v,hv,rfl⟩:=List.getElem_of_mem hm
  have h:=hp v hv
  rw [ybx hv] at h
  have h1:=h.st
  have h2:=h.s1
  refine ⟨by omega,fun r hr=>?_⟩
  obtain ⟨s,hs,rfl⟩:=List.getElem_of_mem hr
  have h3:=h.one s hs
  have h4:=(h.ru s hs).outl
  rw [ybx hs] at h3 h4
  refine ⟨by omega,fun x hx=>?_⟩
  obtain ⟨j,hj,rfl⟩:=List.getElem_of_mem hx
  have:j=0:=by omega
  subst this
  rw [ybx hj] at h4
  omega
theorem route_end(hB:RbOk n es ar)(hR:RoOk n q ar rot)(hn6:n≤6)(h16:∀ v,v<n→v≠q→(gx ar v).length≤16)(hD:DvOk n q d)(hds:∀ v,v<n → -60≤gi d v∧gi d v≤60)
    {rho t:List Int} (hA:AllOk n q (yaB (yb5 n q (yaW es) ar)) rot (wtR n q d) rho t) {k:Nat} (hk:k≤4096) {x:Wst} (hx:x=stK (yaB (yb5 n q (yaW es) ar)) fates (begF (yaB (yb5 n q (yaW es) ar)) rot (wtR n q d)) k) (hb:ygr x=false)
    (hS:SI n (yaB (yb5 n q (yaW es) ar)) 60 n (108*k) x) (hS0:SI n (yaB (yb5 n q (yaW es) ar)) 60 n 0 (begF (yaB (yb5 n q (yaW es) ar)) rot (wtR n q d))) (hN:NetOk n (yaB (yb5 n q (yaW es) ar))) :
    x.st=rho∧x.ct.length=n∧∀ v,v<n→(gx x.ct v).length=1∧(v≠q→gi (gx x.ct v) 0=gi t v):=by
  have hsink:=rout_sink (es:=es) (ar:=ar) hR
  have hwl:(wtR n q d).length=n:=by simp [wtR]
  have hw1:∀ p,p<n→(gx (wtR n q d) p).length=1:=fun p hp=>by rw [gx_wtR hp];rfl
  have hn1:=hB.G.one
  have hI0:=RI.beg (st0:=rot) (wt0:=wtR n q d) hN hn1 hwl hw1
  have hct0:∀ v,v<n→cW (begF (yaB (yb5 n q (yaW es) ar)) rot (wtR n q d)) v=0:=fun v hv=>by
    unfold cW
    have h2:=(hS0.ct v hv).2
    rw [if_pos hv] at h2
    have:(begF (yaB (yb5 n q (yaW es) ar)) rot (wtR n q d)).tk=0:=rfl
    omega
  have hT:Compl n (yaB (yb5 n q (yaW es) ar)) rot (wtR n q d) q (fun v=>(gi t v).toNat):=fun v hv hne=>by
    have h1:=hA.eq v hv hne
    have h2:=hA.tn v hv
    show _+sm n (fun u=>(nS (yaB (yb5 n q (yaW es) ar)) rot u v (gi t u).toNat:Int))≤(((gi t v).toNat:Nat):Int)
    omega
  have hboth:=run_both (fates:=fates) hS0 hN rfl hI0 hT hsink (fun v hv _=>by rw [hct0 v hv];exact Nat.zero_le _) k hk
  rw [←hx] at hboth
  obtain ⟨hI,hL⟩:=hboth
  have hquiet:=quiet_compl hS hI hb
  have hC:Compl n (yaB (yb5 n q (yaW es) ar)) rot (wtR n q d) q (cW x):=fun v hv _=>Int.le_of_eq (hquiet v hv)
  have heq:∀ v,v<n→v≠q→cW x v=(gi t v).toNat:=fun v hv hne=>Nat.le_antisymm (hL v hv hne) (hA.leg _ hC v hv hne)
  refine ⟨?_,hS.ctl,fun v hv=>⟨(hS.ct v hv).1,fun hne=>?_⟩⟩
  · refine gi_ext (by rw [hS.stl,hA.rl]) fun v hv=>?_
    rw [hS.stl] at hv
    rw [hI.st v hv,hA.ro v hv]
    by_cases e:v=q
    · rw [e,rout_stq hR,rout_stq hR]
    · rw [heq v hv e]
  · have h1:=heq v hv hne
    have h2:=(hS.ct v hv).2.1
    have h3:=hA.tn v hv
    unfold cW at h1
    omega
theorem p_topnetworksroute(d0:Int)(d2:List E3)(d3:List (List Int))(i:Int)(i2 i3 a:List Int):ybv d0 d2 d3 i i2 i3 a (fun r=>r=true):=by
  unfold ybv
  have cw:∀ {R:Bool→Prop},(fun r=>r=true)=R→yaG (fun r=>R r):=fun h=>by subst h;exact yh1 rfl
  have cW0:yaG (fun r:Bool=>r=true):=yh1 rfl
  refine ⟨∃ n q:Nat,d0=n∧i=q∧RbOk n d2 d3∧RoOk n q d3 i2∧DvOk n q i3∧smallF d0 d2 6 9=true∧(∀ v,v<d3.length→(gx d3 v).length≤40)∧(∀ v,v<i3.length → -60≤gi i3 v∧gi i3 v≤60)∧a.length≤60∧∀ x∈a,0≤x∧x≤3,?_,?_⟩
  · rintro ⟨n,q,rfl,rfl,hB,hR,hD,hsm,hal,hds,hfl,hf⟩
    have hsm2:=of_decide_eq_true hsm
    have hn6:n≤6:=by have:=(hsm2.2 hB.G.g).1;omega
    have hn1:=hB.G.one
    have hdl:=hD.l
    have harl:=hB.arl
    refine p_RouterN hB hR hD (fun v hv=>by have:=hal v (by omega);omega) ⟨fun q=>absurd q (by omega),fun _=>⟨fun _=>cW0,fun q=>absurd rfl q⟩⟩ fun h16=>⟨fun _=>?_,fun q=>absurd rfl q⟩
    have hpr:=rout_pr hB hR h16
    have hpl:=yfc n q (yaW d2) d3
    have hN:=netOk_of hpl hpr
    have hwl:(wtR n q i3).length=n:=by simp [wtR]
    have hw:∀ p,p<n→(gx (wtR n q i3) p).length=1∧0≤gi (gx (wtR n q i3) p) 0∧gi (gx (wtR n q i3) p) 0≤60:=fun p hp=>by
      rw [gx_wtR hp]
      have h1:=hds p (by omega)
      refine ⟨rfl,?_,?_⟩
      · show 0≤(if p=q then (0:Int) else gi i3 p)
        by_cases e:p=q
        · rw [if_pos e];exact Int.le_refl _
        · rw [if_neg e];exact hD.nn p hp e
      · show (if p=q then (0:Int) else gi i3 p)≤60
        split <;> omega
    have hst:∀ p,p<n→0≤gi i2 p∧gi i2 p<(gx (yb5 n q (yaW d2) d3) p).1:=fun p hp=>by
      rw [yfq hp]
      refine ⟨hR.nn p hp,?_⟩
      by_cases e:p=q
      · rw [if_pos e,e,hR.z];show (0:Int)<1;omega
      · rw [if_neg e];exact hR.lt p hp e
    have hst2:∀ p,p<n→0≤gi i2 p∧gi i2 p<((gx (yaB (yb5 n q (yaW d2) d3)) p).length:Int):=fun p hp=>by
      rw [yfu (by omega)]
      have h1:=hst p hp
      rw [(hpr p hp).st] at h1
      exact h1
    have hc:∀ R':Int→Prop,R' 0→ybu (yb5 n q (yaW d2) d3) i2 (wtR n q i3) R':=fun R' hR'=>ygy (by omega) hpl hpr hR.rl hst hwl (fun v hv=>by have:=hw v hv;omega) hR'
    have hsz:=pr_size (n:=n) (d:=yb5 n q (yaW d2) d3) (by omega) (fun v hv=>hpr v (by omega))
    have hS0:=SI.beg (W0:=60) hN ⟨hn1,hn6⟩ (by omega) hR.rl hst2 hwl hw
    refine p_rotorAllN hB hR hD ?_ fun rho t hA=>?_
    · refine p_wRun (W0:=60) (limit:=2000) hN ⟨hn1,hn6⟩ (by omega) hc hR.rl hst2 hwl hw (by omega) hf (by omega) hsz (fun _=>?_) fun k hk hb hbz y s=>?_
      · exact ⟨False,fun c=>c.elim,True,fun _=>⟨fun _=>cW0,fun c=>absurd rfl c⟩,fun c=>absurd c (by omega),fun _=>trivial⟩
      · exact ⟨False,fun c=>c.elim,True,fun _=>⟨fun _=>cW0,fun c=>absurd rfl c⟩,fun c=>absurd c (by omega),fun _=>trivial⟩
    · refine p_wRun (W0:=60) (limit:=2000) hN ⟨hn1,hn6⟩ (by omega) hc hR.rl hst2 hwl hw (by omega) hf (by omega) hsz (fun _=>?_) fun k hk hb hbz y s=>?_
      · exact ⟨False,fun c=>c.elim,True,fun _=>⟨fun c=>absurd c (by omega),fun _=>⟨fun _=>⟨fun _=>cW0,fun c=>absurd rfl c⟩,fun c=>absurd rfl c⟩⟩,fun _=>⟨fun c=>absurd c (by omega),fun _=>trivial⟩,fun c=>absurd rfl c⟩
      · have hSk:=(hS0.run (fates:=a) hN rfl k (by omega)).1
        have hend:=route_end (fates:=a) hB hR hn6 h16 hD (fun v hv=>hds v (by omega)) hA (by omega) rfl hb hSk hS0 hN
        generalize stK (yaB (yb5 n q (yaW d2) d3)) a (begF (yaB (yb5 n q (yaW d2) d3)) i2 (wtR n q i3)) k=x at *
        obtain ⟨e1,e2,e3⟩:=hend
        have htl:=hA.tl
        refine ⟨True,fun _=>?_,False,fun c=>c.elim,fun _=>⟨fun _=>trivial,fun c=>absurd rfl c⟩,fun c=>absurd rfl c⟩
        refine ⟨True,fun _=>?_,p_equalN (by rw [hSk.stl];omega) ?_⟩
        · refine ⟨Cnt n (fun _=>True),Cnt.start trivial,?_⟩
          rintro m _ ⟨j,rfl,rfl,hj, -⟩
          simp only [Int.toNat_natCast,Int.toNat_zero]
          rw [htl,e2]
          refine ⟨fun hlt=>?_,fun hge=>cW0⟩
          have hj2:j<n:=by omega
          obtain ⟨g1,g2⟩:=e3 j hj2
          refine ⟨fun _=>Cnt.next hj2 (by omega) trivial,fun hne=>⟨by omega,fun _=>⟨by omega,by omega,fun _=>Cnt.next hj2 (by omega) trivial,fun c=>absurd (g2 (by omega)) c⟩,fun c=>absurd (by omega) c⟩⟩
        · rw [decide_eq_true e1]
          exact ⟨fun _=>⟨fun _=>trivial,fun c=>absurd (by rw [e2,htl]) c⟩,fun c=>absurd rfl c⟩
  · refine p_r45_FewN ⟨fun c=>absurd c (by simp),fun _=>cW0⟩ fun hsm hal=>⟨fun _=>?_,fun c=>absurd rfl c⟩
    have hsm2:=of_decide_eq_true hsm
    unfold yf7
    refine ⟨fun hd=>?_,fun _=>cW0⟩
    have hd:=of_decide_eq_true hd
    refine p_r45_GivenN (by omega) (fun v hv=>by have:=hal v hv;omega) (by omega) (fun e he=>⟨fun c=>absurd c he,fun _=>cW0⟩) fun n q hn hq hB hR hD=>⟨fun _=>?_,fun c=>absurd rfl c⟩
    refine p_r17_SmallN (by omega) ⟨fun c=>absurd c (by simp),fun _=>cW0⟩ fun hds=>⟨fun _=>?_,fun c=>absurd rfl c⟩
    exact p_caseFatesN ⟨fun c=>absurd c (by simp),fun _=>cW0⟩ fun hfl hf=>⟨fun _=>⟨n,q,hn,hq,hB,hR,hD,hsm,hal,hds,hfl,hf⟩,fun c=>absurd rfl c⟩
end
end Go.Proofs.YtjepipbkiadcpaaGreat
