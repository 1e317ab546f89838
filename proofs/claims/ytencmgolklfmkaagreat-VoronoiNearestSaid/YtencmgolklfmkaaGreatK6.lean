/- Texts laid together: Vs, Vt, Vu, Vd, Co, Pt, Ve, Vf, Vg, IndV, Vh, Vi, Vj, Vk, Vl, PVd, Vm, Vo, Vp, Vr, Vw, Vx. -/
import Derived.Test.YtencmgolklfmkaaGreatK5
set_option linter.unusedVariables false
set_option linter.unusedSimpArgs false
set_option linter.unusedSectionVars false
/- The search of directed cycles: what the program's closure computes. -/
namespace Go.Proofs.YtencmgolklfmkaaGreat
open Go Go.Proofs.Tryz
theorem yiP{s:List Int}{R:List Int→Prop}(hl:s.length≤1000000000)(h:R s):ya1 s R:=by
  unfold ya1
  exact fun nil hn=>⟨fun q=>by rw [hn q] at h;exact h,fun q=>⟨by omega,h⟩⟩
def stp(E:List (Int×Int))(s v:Int)(go:Int→List Int→List Bool→List (List Int))(x:List Int)(seen:List Bool)(d:Dart):List (List Int) :=
  if dfr_ E d≠v∨dto E d<s then [] else if dto E d=s then [x.set d.1 (sg d.2)] else if gb seen (dto E d).toNat=true then [] else go (dto E d) (x.set d.1 (sg d.2)) (seen.set (dto E d).toNat true)
def edg(E:List (Int×Int))(s v:Int)(go:Int→List Int→List Bool→List (List Int))(x:List Int)(seen:List Bool)(e:Nat):List (List Int) :=
  if gi x e≠0 then [] else stp E s v go x seen (e,true)++stp E s v go x seen (e,false)
def ext(E:List (Int×Int))(s:Int):Nat→Int→List Int→List Bool→List (List Int)
  | 0,_,_,_=>[]
  | k+1,v,x,seen=>(List.range E.length).flatMap (edg E s v (ext E s k) x seen)
theorem stp_len{E:List (Int×Int)}{s v:Int}{go:Int→List Int→List Bool→List (List Int)}{x:List Int}{seen:List Bool}{B:Nat}(hB:1≤B)(h:∀ a b c,(go a b c).length≤B)(d:Dart):(stp E s v go x seen d).length≤B:=by
  unfold stp
  split
  · exact Nat.zero_le _
  · split
    · exact hB
    · split
      · exact Nat.zero_le _
      · exact h _ _ _
theorem yf1{α:Type}(f:Nat→List α){B:Nat}(h:∀ e,(f e).length≤B):∀ n,((List.range n).flatMap f).length≤n*B
  | 0=>by simp
  | n+1=>by
    rw [List.range_succ,List.flatMap_append,List.length_append,Nat.succ_mul]
    have:=yf1 f h n
    have:=h n
    have e:[n].flatMap f=f n:=by simp
    rw [e]
    omega
theorem ext_len{E:List (Int×Int)}{s:Int} : ∀ (k:Nat) (v:Int) (x:List Int) (seen:List Bool),(ext E s k v x seen).length≤(2*E.length+1)^k
  | 0,_,_,_=>by simp [ext]
  | k+1,v,x,seen=>by
    have h:=fun a b c=>ext_len (E:=E) (s:=s) k a b c
    have hp:1≤(2*E.length+1)^k:=Nat.one_le_pow _ _ (by omega)
    have h2:∀ e,(edg E s v (ext E s k) x seen e).length≤2*(2*E.length+1)^k:=fun e=>by
      unfold edg
      split
      · exact Nat.zero_le _
      · rw [List.length_append]
        have h3:=stp_len (E:=E) (s:=s) (v:=v) (x:=x) (seen:=seen) hp h (e,true)
        have h4:=stp_len (E:=E) (s:=s) (v:=v) (x:=x) (seen:=seen) hp h (e,false)
        omega
    have:=yf1 _ h2 E.length
    rw [ext,Nat.pow_succ,Nat.mul_comm _ (2*E.length+1),Nat.add_mul]
    have e:E.length*(2*(2*E.length+1)^k)=2*E.length*(2*E.length+1)^k:=by rw [←Nat.mul_assoc,Nat.mul_comm E.length 2]
    omega
theorem set_back{x:List Int}{e:Nat}{w:Int}(h:gi x e=0)(he:e<x.length):(x.set e w).set e 0=x:=by
  refine ygj (by simp) fun j hj=>?_
  rw [ycM (by simpa using he),ycM he]
  by_cases q:j=e
  · rw [if_pos q,q,h]
  · rw [if_neg q,if_neg q]
theorem set_backb{s:List Bool}{v:Nat}(h:gb s v=false)(hv:v<s.length):(s.set v true).set v false=s:=by
  refine gb_ext (by simp) fun j hj=>?_
  rw [ycX (by simpa using hv),ycX hv]
  by_cases q:j=v
  · rw [if_pos q,q,h]
  · rw [if_neg q,if_neg q]
theorem count_mark{s:List Bool}{v:Nat}(h:gb s v=false)(hv:v<s.length):(s.set v true).count false+1=s.count false:=by
  induction s generalizing v with
  | nil=>simp at hv
  | cons a t ih =>
    cases v with
    | zero =>
      have:a=false:=h
      subst this
      simp
    | succ v =>
      have:=ih (v:=v) h (by simpa using hv)
      rw [List.set_cons_succ,List.count_cons,List.count_cons,←this]
      omega
section
variable {E : List (Int × Int)} {n : Nat} {s : Int}
theorem p_unsee{S:List Bool}{v:Int}{R:List Bool→Prop}(hv:0≤v∧v<((S.length:Nat):Int))(h:R (S.set v.toNat false)):ya9 S v R:=⟨hv,h⟩
theorem p_walk(hE:ya6 n E)(hn:n≤12)(hm:E.length≤100):∀ (k:Nat) (v:Nat) (S:List Bool) (x:List Int) (out:List (List Int)) (R:List Bool→List Int→List (List Int)→Prop),v<n→S.length=n→gb S v=false→x.length=E.length→S.count false≤k →
    out.length+(2*E.length+1)^k≤1000000000→R S x (out++ext E s k v x (S.set v true))→ych k (v:Int) S E x s out R:=by
  intro k
  induction k with
  | zero =>
    intro v S x out R hv hS hf hx hc
    have:=count_mark hf (by omega)
    omega
  | succ k ih =>
    intro v S x out R hv hS hf hx hc hB hR
    have hcm:=count_mark hf (by omega)
    have hS1:(S.set v true).length=n:=by rw [List.length_set];exact hS
    have hpw:1≤(2*E.length+1)^k:=Nat.one_le_pow _ _ (by omega)
    have hB2:(2*E.length+1)^(k+1)=2*E.length*(2*E.length+1)^k+(2*E.length+1)^k:=by rw [Nat.pow_succ,Nat.mul_comm _ (2*E.length+1),Nat.add_mul];omega
    obtain ⟨F,hF⟩:∃ F,F=edg E s v (ext E s k) x (S.set v true):=⟨_,rfl⟩
    obtain ⟨T,hT⟩:∃ T,T=stp E s v (ext E s k) x (S.set v true):=⟨_,rfl⟩
    have hTl:∀ d,(T d).length≤(2*E.length+1)^k:=fun d=>by rw [hT];exact stp_len hpw (ext_len k) d
    have hFl:∀ e,(F e).length≤2*(2*E.length+1)^k:=fun e=>by
      rw [hF];unfold edg
      split
      · exact Nat.zero_le _
      · rw [List.length_append,←hT]
        have:=hTl (e,true)
        have:=hTl (e,false)
        omega
    show ybD _ _ _ _ _ _ _ _
    unfold ybD
    simp only [Int.toNat_natCast]
    refine ⟨by rw [hS];omega,fun m i a b c=>Cnt E.length (fun q=>a=S.set v true∧x=b∧c=out++(List.range q).flatMap F) m i,⟨_,0,rfl,rfl,Nat.zero_le _,rfl,rfl,by simp⟩,?_⟩
    rintro m _ a b c ⟨e,rfl,rfl,he,ha,hb,hcc⟩
    simp only [Int.toNat_natCast]
    subst ha hb hcc
    refine ⟨fun hlt=>⟨by omega,?_⟩,fun hge=>?_⟩
    · have hel:e<E.length:=by omega
      have hw:∀ b:Bool,(if b=true then (gx E e).1 else (gx E e).2)=dfr_ E (e,b):=fun b=>rfl
      refine ⟨gi x e=0,fun hxe=>?_,?_⟩
      · have hFe:F e=T (e,true)++T (e,false):=by rw [hF,hT];unfold edg;rw [if_neg (by omega)]
        refine ⟨fun m i a b c=>Cnt 2 (fun q=>a=S.set v true∧x=b∧c=out++(List.range e).flatMap F++(List.range q).flatMap fun j=>T (e,j==0)) m i,⟨_,0,rfl,rfl,by omega,rfl,rfl,by simp⟩,?_⟩
        rintro m' _ a b c ⟨j,rfl,rfl,hj,ha,hb,hcc⟩
        simp only [Int.toNat_natCast]
        subst ha hb hcc
        refine ⟨fun hlt2=>?_,fun hge2=>?_⟩
        · have hj2:j<2:=by simp at hlt2;omega
          refine ⟨by simp at hlt2 ⊢;omega,by omega,by omega,?_⟩
          have hg:gi [1, -1] j=sg (j==0):=by
            match j,hj2 with
            | 0,_=>rfl
            | 1,_=>rfl
          rw [hg]
          obtain ⟨b,hb⟩:∃ b,b=(j==0):=⟨_,rfl⟩
          rw [←hb]
          have hends:=hE.fr (d:=(e,b)) hel
          -- what has been found ya8 this dart
          have hnext:∀ o,o=out++(List.range e).flatMap F++((List.range j).flatMap fun j=>T (e,j==0))++T (e,b)→In64 ((j:Int)+1)∧∃ m4,m4<2-j∧Cnt 2 (fun q=>S.set v true=S.set v true∧x=x∧o=out++(List.range e).flatMap F++(List.range q).flatMap fun j=>T (e,j==0)) m4 ((j:Int)+1):=fun o ho =>
            Cnt.next hj2 (by omega) ⟨rfl,rfl,by rw [ho,List.range_succ,List.flatMap_append,List.append_assoc,List.append_assoc,List.append_assoc];simp [hb]⟩
          have hout:(out++(List.range e).flatMap F++(List.range j).flatMap fun j=>T (e,j==0)).length+(2*E.length+1)^k≤1000000000:=by
            have h1:=yf1 F hFl e
            have h2:=yf1 (fun j=>T (e,j==0)) (fun j=>hTl _) j
            rw [List.length_append,List.length_append]
            have h3:e*(2*(2*E.length+1)^k)+2*(2*E.length+1)^k≤2*E.length*(2*E.length+1)^k:=by
              have h4:=Nat.mul_le_mul_right (2*(2*E.length+1)^k) (show e+1≤E.length by omega)
              rw [Nat.add_mul,Nat.one_mul] at h4
              have h5:E.length*(2*(2*E.length+1)^k)=2*E.length*(2*E.length+1)^k:=by rw [←Nat.mul_assoc,Nat.mul_comm E.length 2]
              omega
            have h4:j*(2*E.length+1)^k≤1*(2*E.length+1)^k:=Nat.mul_le_mul_right _ (by omega)
            omega
          obtain ⟨o1,ho1⟩:∃ o1,o1=out++(List.range e).flatMap F++(List.range j).flatMap fun j=>T (e,j==0):=⟨_,rfl⟩
          rw [←ho1] at hout hnext ⊢
          refine ⟨fun a t=>a=dfr_ E (e,b)∧t=dto E (e,b),?_,?_⟩
          · rintro _ _ ⟨rfl,rfl⟩
            refine ⟨dfr_ E (e,b)=(v:Int)∧¬dto E (e,b)<s,fun ⟨hJ1,hJ2⟩=>⟨by omega,fun hts=>?_,fun hts=>⟨?_,fun hsn=>?_,fun hsn=>?_⟩⟩,?_⟩
            · refine yiP (by rw [List.length_set];omega) ?_
              refine ⟨by omega,by rw [List.length_set];omega,?_⟩
              rw [set_back hxe (by omega)]
              refine hnext _ ?_
              rw [hT];unfold stp;rw [if_neg (by rw [not_or];exact ⟨fun q=>q hJ1,hJ2⟩),if_pos hts]
            · rw [hS1];omega
            · refine ⟨by rw [List.length_set];omega,?_⟩
              rw [set_back hxe (by omega)]
              refine hnext _ ?_
              rw [hT];unfold stp;rw [if_neg (by rw [not_or];exact ⟨fun q=>q hJ1,hJ2⟩),if_neg hts,if_pos hsn];simp
            · obtain ⟨t,ht⟩:=Int.eq_ofNat_of_zero_le hends.2.1
              have htt:(dto E (e,b)).toNat=t:=by omega
              rw [htt] at hsn
              rw [ht]
              refine ih t (S.set v true) _ _ _ (by omega) hS1 (by simpa using hsn) (by rw [List.length_set];exact hx) (by omega) hout ?_
              refine ⟨by rw [List.length_set];omega,?_⟩
              rw [set_back hxe (by omega)]
              refine hnext _ ?_
              rw [hT];unfold stp;rw [if_neg (by rw [not_or];exact ⟨fun q=>q hJ1,hJ2⟩),if_neg hts,htt,if_neg hsn,ht]
            · refine ⟨fun h1=>⟨fun h2=>hnext _ ?_,fun h2=>⟨h1,h2⟩⟩,fun h1=>hnext _ ?_⟩
              · rw [hT];unfold stp;rw [if_pos (.inr h2)];simp
              · rw [hT];unfold stp;rw [if_pos (.inl h1)];simp
          · refine ⟨fun hn=>?_,fun hn=>?_⟩
            · have:b=false:=by cases b <;> simp [sg] at hn ⊢
              subst this;exact ⟨rfl,rfl⟩
            · have:b=true:=by cases b <;> simp [sg] at hn ⊢
              subst this;exact ⟨rfl,rfl⟩
        · have hj2:j=2:=by simp at hge2;omega
          subst hj2
          refine Cnt.next hel (by omega) ⟨rfl,rfl,?_⟩
          have e1:((List.range 2).flatMap fun j=>T (e,j==0))=F e:=by rw [hFe,show List.range 2=[0,1] from rfl];simp
          rw [e1,List.range_succ,List.flatMap_append,List.append_assoc]
          simp
      · refine ⟨by rw [hx];omega,fun hxe=>⟨by omega,fun h1=>hxe,fun h1=>⟨by omega,fun h2=>hxe,fun h2=>?_⟩⟩,fun hxe=>?_⟩
        · refine Cnt.next hel (by omega) ⟨rfl,rfl,?_⟩
          have:F e=[]:=by
            rw [hF];unfold edg stp
            rw [if_neg (by omega),if_pos (.inl h1),if_pos (.inl h2)];rfl
          rw [List.range_succ,List.flatMap_append];simp [this]
        · refine Cnt.next hel (by omega) ⟨rfl,rfl,?_⟩
          have:F e=[]:=by
            rw [hF];unfold edg
            rw [if_pos hxe]
          rw [List.range_succ,List.flatMap_append];simp [this]
    · have:e=E.length:=by omega
      subst this
      refine p_unsee (by rw [hS1];omega) ?_
      rw [Int.toNat_natCast,set_backb hf (by omega)]
      rw [hF];exact hR
end
end Go.Proofs.YtencmgolklfmkaaGreat

/- The search of directed cycles finds all of them, each once. -/
namespace Go.Proofs.YtencmgolklfmkaaGreat
open Go Go.Proofs.Tryz
def sets(x:List Int):List Dart→List Int
  | []=>x
  | d::p=>sets (x.set d.1 (sg d.2)) p
theorem sets_len:∀ (p:List Dart) (x:List Int),(sets x p).length=x.length
  | [],_=>rfl
  | d::p,x=>by rw [sets,sets_len p,List.length_set]
theorem gi_sets:∀ {p:List Dart} {x:List Int},(p.map Prod.fst).Nodup→(∀ d∈p,d.1<x.length∧gi x d.1=0)→∀ i,gi (sets x p) i=gi x i+vec p i
  | [],x,_,_,i=>by simp [sets,vec]
  | d::p,x,hn,h,i=>by
    rw [List.map_cons,List.nodup_cons] at hn
    have hd:=h d (by simp)
    rw [sets,gi_sets hn.2 (fun c hc=>⟨by rw [List.length_set];exact (h c (by simp [hc])).1,by
      rw [ycM hd.1,if_neg fun e=>hn.1 (by rw [←e];exact List.mem_map_of_mem hc)];exact (h c (by simp [hc])).2⟩),ycM hd.1]
    show _=gi x i+((if d.1=i then sg d.2 else 0)+vec p i)
    by_cases e:i=d.1
    · subst e;rw [if_pos rfl,if_pos rfl,hd.2];omega
    · rw [if_neg e,if_neg (fun q=>e q.symm)];omega
def Way(E:List (Int×Int))(s:Int):Int→List Int→List Bool→List Dart→Prop
  | _,_,_,[]=>False
  | v,x,seen,d::p=>d.1<E.length∧gi x d.1=0∧dfr_ E d=v∧s≤dto E d∧((dto E d=s∧p=[])∨(dto E d≠s∧gb seen (dto E d).toNat=false∧Way E s (dto E d) (x.set d.1 (sg d.2)) (seen.set (dto E d).toNat true) p))
section
variable {E : List (Int × Int)} {n : Nat} {s : Int}
theorem mem_edg{v:Int}{go:Int→List Int→List Bool→List (List Int)}{x:List Int}{seen:List Bool}{e:Nat}{y:List Int} : y∈edg E s v go x seen e↔gi x e=0∧∃ b,y∈stp E s v go x seen (e,b):=by
  unfold edg
  by_cases h:gi x e=0
  · rw [if_neg (by omega),List.mem_append]
    constructor
    · rintro (q | q)
      · exact ⟨h,true,q⟩
      · exact ⟨h,false,q⟩
    · rintro ⟨_,b,q⟩
      cases b
      · exact .inr q
      · exact .inl q
  · rw [if_pos h]
    simp [h]
theorem mem_stp{v:Int}{go:Int→List Int→List Bool→List (List Int)}{x:List Int}{seen:List Bool}{d:Dart}{y:List Int} : y∈stp E s v go x seen d ↔
    dfr_ E d=v∧s≤dto E d∧((dto E d=s∧y=x.set d.1 (sg d.2))∨(dto E d≠s∧gb seen (dto E d).toNat=false∧y∈go (dto E d) (x.set d.1 (sg d.2)) (seen.set (dto E d).toNat true))):=by
  unfold stp
  by_cases h1:dfr_ E d=v
  · by_cases h2:dto E d<s
    · rw [if_pos (.inr h2)]
      simp only [List.not_mem_nil,false_iff,not_and]
      intro _ h;omega
    · rw [if_neg (by rw [not_or];exact ⟨fun q=>q h1,h2⟩)]
      by_cases h3:dto E d=s
      · rw [if_pos h3,List.mem_singleton]
        constructor
        · exact fun q=>⟨h1,by omega, .inl ⟨h3,q⟩⟩
        · rintro ⟨_,_,q | q⟩
          · exact q.2
          · exact absurd h3 q.1
      · rw [if_neg h3]
        by_cases h4:gb seen (dto E d).toNat=true
        · rw [if_pos h4]
          simp only [List.not_mem_nil,false_iff]
          rintro ⟨_,_,q | q⟩
          · exact h3 q.1
          · rw [h4] at q;exact absurd q.2.1 (by decide)
        · rw [if_neg h4]
          constructor
          · exact fun q=>⟨h1,by omega, .inr ⟨h3,by simpa using h4,q⟩⟩
          · rintro ⟨_,_,q | q⟩
            · exact absurd q.1 h3
            · exact q.2.2
  · rw [if_pos (.inl h1)]
    simp [h1]
theorem mem_ext:∀ {k:Nat} {v:Int} {x:List Int} {seen:List Bool} {y:List Int},y∈ext E s k v x seen↔∃ p,p.length≤k∧Way E s v x seen p∧y=sets x p
  | 0,v,x,seen,y=>by
    rw [ext]
    constructor
    · intro h;cases h
    · rintro ⟨p,h,hw,_⟩
      rw [List.length_eq_zero_iff.1 (Nat.le_zero.1 h)] at hw
      exact hw.elim
  | k+1,v,x,seen,y=>by
    rw [ext,List.mem_flatMap]
    constructor
    · rintro ⟨e,he,h⟩
      rw [List.mem_range] at he
      obtain ⟨h0,b,h⟩:=mem_edg.1 h
      obtain ⟨h1,h2,⟨h3,h4⟩ | ⟨h3,h4,h5⟩⟩:=mem_stp.1 h
      · exact ⟨[(e,b)],by simp,⟨he,h0,h1,h2, .inl ⟨h3,rfl⟩⟩,h4⟩
      · obtain ⟨p,hp,hw,rfl⟩:=mem_ext.1 h5
        exact ⟨(e,b)::p,by simpa using hp,⟨he,h0,h1,h2, .inr ⟨h3,h4,hw⟩⟩,rfl⟩
    · rintro ⟨p,hp,hw,rfl⟩
      cases p with
      | nil=>exact hw.elim
      | cons d p =>
        obtain ⟨he,h0,h1,h2,h3⟩:=hw
        refine ⟨d.1,List.mem_range.2 he,mem_edg.2 ⟨h0,d.2,mem_stp.2 ⟨h1,h2,?_⟩⟩⟩
        rcases h3 with ⟨h3,rfl⟩ | ⟨h3,h4,h5⟩
        · exact .inl ⟨h3,rfl⟩
        · exact .inr ⟨h3,h4,mem_ext.2 ⟨p,by simpa using hp,h5,rfl⟩⟩
theorem gb_not_set{S:List Bool}{a b:Nat}(h:gb (S.set a true) b=false)(ha:a<S.length):b≠a∧gb S b=false:=by
  rw [ycX ha] at h
  by_cases e:b=a
  · rw [if_pos e] at h;cases h
  · rw [if_neg e] at h;exact ⟨e,h⟩
theorem ygR(hE:ya6 n E):∀ {p:List Dart} {v:Int} {x:List Int} {seen:List Bool},Way E s v x seen p→x.length=E.length→seen.length=n→gb seen v.toNat=true →
    Ch E v p s∧(∀ d∈p,d.1<E.length∧gi x d.1=0)∧(p.map Prod.fst).Nodup∧(p.map (dfr_ E)).Nodup∧∀ d∈p,dfr_ E d=v∨(gb seen (dfr_ E d).toNat=false∧s<dfr_ E d)
  | [],_,_,_,h,_,_,_=>h.elim
  | d::p,v,x,seen,h,hx,hs,hv=>by
    obtain ⟨h0,h1,h2,h3,⟨h4,rfl⟩ | ⟨h4,h5,h6⟩⟩:=h
    · exact ⟨⟨h2,h4⟩,fun c hc=>by rw [List.mem_singleton.1 hc];exact ⟨h0,h1⟩,by simp,by simp,fun c hc => .inl (by rw [List.mem_singleton.1 hc];exact h2)⟩
    · have hd:=hE.fr h0
      have ht:(dto E d).toNat<seen.length:=by omega
      obtain ⟨k1,k2,k3,k4,k5⟩:=ygR hE h6 (by rw [List.length_set];exact hx) (by rw [List.length_set];exact hs) (by rw [ycX ht,if_pos rfl])
      have k6:∀ c∈p,gb seen (dfr_ E c).toNat=false∧s<dfr_ E c:=fun c hc=>by
        rcases k5 c hc with q | ⟨q,q2⟩
        · rw [q];exact ⟨h5,by omega⟩
        · exact ⟨(gb_not_set q ht).2,q2⟩
      refine ⟨⟨h2,k1⟩,fun c hc=>?_,?_,?_,fun c hc=>?_⟩
      · rcases List.mem_cons.1 hc with rfl | hc
        · exact ⟨h0,h1⟩
        · have:=k2 c hc
          refine ⟨this.1,?_⟩
          have q:=this.2
          rw [ycM (by omega)] at q
          by_cases e:c.1=d.1
          · rw [if_pos e] at q
            rcases ycJ d.2 with r | r <;> rw [r] at q <;> cases q
          · rwa [if_neg e] at q
      · rw [List.map_cons,List.nodup_cons]
        refine ⟨fun hm=>?_,k3⟩
        obtain ⟨c,hc,e⟩:=List.mem_map.1 hm
        have q:=(k2 c hc).2
        rw [e,ycM (by omega),if_pos rfl] at q
        rcases ycJ d.2 with r | r <;> rw [r] at q <;> cases q
      · rw [List.map_cons,List.nodup_cons]
        refine ⟨fun hm=>?_,k4⟩
        obtain ⟨c,hc,e⟩:=List.mem_map.1 hm
        have q:=(k6 c hc).1
        rw [e,h2,hv] at q;cases q
      · rcases List.mem_cons.1 hc with rfl | hc
        · exact .inl h2
        · exact .inr (k6 c hc)
theorem way_of(hE:ya6 n E):∀ {p:List Dart} {v:Int} {x:List Int} {seen:List Bool},p≠[]→Ch E v p s→x.length=E.length→seen.length=n→(∀ d∈p,d.1<E.length∧gi x d.1=0)→(p.map Prod.fst).Nodup→(p.map (dfr_ E)).Nodup →
    (∀ d∈p.tail,gb seen (dfr_ E d).toNat=false∧s<dfr_ E d)→Way E s v x seen p
  | [],_,_,_,h,_,_,_,_,_,_,_=>absurd rfl h
  | [d],v,x,seen,_,hc,hx,hs,hd,_,_,_=>by
    have:=hd d (by simp)
    have e:dto E d=s:=hc.2
    exact ⟨this.1,this.2,hc.1,by omega, .inl ⟨e,rfl⟩⟩
  | d::c::p,v,x,seen,_,hc,hx,hs,hd,hf,hr,ht=>by
    have h1:=hd d (by simp)
    have e:dfr_ E c=dto E d:=hc.2.1
    have h2:=ht c (by simp)
    have hcE:=hE.fr (hd c (by simp)).1
    have hlt:(dto E d).toNat<seen.length:=by rw [←e];omega
    rw [e] at h2
    rw [List.map_cons,List.nodup_cons] at hf hr
    refine ⟨h1.1,h1.2,hc.1,by omega, .inr ⟨by omega,h2.1,way_of hE (by simp) hc.2 (by rw [List.length_set];exact hx) (by rw [List.length_set];exact hs) (fun a ha=>?_) hf.2 hr.2 fun a ha=>?_⟩⟩
    · have:=hd a (List.mem_cons_of_mem _ ha)
      refine ⟨this.1,?_⟩
      rw [ycM (by omega),if_neg fun q=>hf.1 (by rw [←q];exact List.mem_map_of_mem ha)]
      exact this.2
    · have q:=ht a (List.mem_cons_of_mem _ ha)
      refine ⟨?_,q.2⟩
      rw [ycX hlt,if_neg fun w=>?_]
      · exact q.1
      · have hr2:=hr.2
        rw [List.map_cons,List.nodup_cons] at hr2
        have haE:=hE.fr (hd a (List.mem_cons_of_mem _ (List.mem_cons_of_mem _ ha))).1
        refine hr2.1 ?_
        rw [e,show dto E d=dfr_ E a by rw [←e] at w ⊢;omega]
        exact List.mem_map_of_mem ha
theorem vec_dart{p q:List Dart}{m:Nat}(hp:(p.map Prod.fst).Nodup)(hq:(q.map Prod.fst).Nodup)(hlt:∀ d∈p,d.1<m)(h:∀ i,i<m→vec p i=vec q i){d:Dart}(hd:d∈p):d∈q:=by
  have h1:=yho hp hd
  rw [h _ (hlt d hd)] at h1
  obtain ⟨c,hc,e,e2⟩:=yip hq (i:=d.1) (by rw [h1];rcases ycJ d.2 with r | r <;> rw [r] <;> decide)
  rw [h1] at e2
  have:c=d:=by
    obtain ⟨i,a⟩:=c
    obtain ⟨j,b⟩:=d
    have e:i=j:=e
    subst e
    cases a <;> cases b <;> first | rfl | (simp [sg] at e2)
  rw [←this];exact hc
theorem way_dart(hE:ya6 n E){p q:List Dart}{d c:Dart}{v:Int}{x:List Int}{seen:List Bool}(hp:Way E s v x seen (d::p))(hq:Way E s v x seen (c::q))(hx:x.length=E.length)(hs:seen.length=n)(hv:gb seen v.toNat=true)
    (h:sets x (d::p)=sets x (c::q)):d=c:=by
  obtain ⟨_,a2,a3,a4,_⟩:=ygR hE hp hx hs hv
  obtain ⟨_,b2,b3,b4,_⟩:=ygR hE hq hx hs hv
  have hvec:∀ i,i<E.length→vec (d::p) i=vec (c::q) i:=fun i hi=>by
    have h1:=gi_sets a3 (fun d hd=>⟨by rw [hx];exact (a2 d hd).1,(a2 d hd).2⟩) i
    have h2:=gi_sets b3 (fun d hd=>⟨by rw [hx];exact (b2 d hd).1,(b2 d hd).2⟩) i
    rw [h] at h1
    omega
  have hm:=vec_dart b3 a3 (fun d hd=>(b2 d hd).1) (fun i hi=>(hvec i hi).symm) (d:=c) (by simp)
  rcases List.mem_cons.1 hm with e | hm
  · exact e.symm
  · rw [List.map_cons,List.nodup_cons] at a4
    refine absurd ?_ a4.1
    rw [show dfr_ E d=dfr_ E c by rw [hp.2.2.1,hq.2.2.1]]
    exact List.mem_map_of_mem hm
theorem nodup_flat{α:Type}{f:Nat→List α}(h:∀ e,(f e).Nodup)(hd:∀ e e' y,y∈f e→y∈f e'→e=e')(n:Nat):((List.range n).flatMap f).Nodup:=by
  unfold List.Nodup
  rw [List.pairwise_flatMap]
  refine ⟨fun e _=>h e,?_⟩
  refine List.Pairwise.imp (R:=fun a b:Nat=>a≠b) (fun {a b} hab=>?_) List.nodup_range
  intro y hy z hz e
  subst e
  exact hab (hd _ _ y hy hz)
theorem ext_nodup(hE:ya6 n E):∀ (k:Nat) {v:Int} {x:List Int} {seen:List Bool},x.length=E.length→seen.length=n→gb seen v.toNat=true→(ext E s k v x seen).Nodup
  | 0,_,_,_,_,_,_=>by rw [ext];exact List.nodup_nil
  | k+1,v,x,seen,hx,hs,hv=>by
    -- what a dart leads to
    have hway:∀ {e:Nat} {b:Bool} {y:List Int},e<E.length→gi x e=0→y∈stp E s v (ext E s k) x seen (e,b)→∃ p,Way E s v x seen ((e,b)::p)∧y=sets x ((e,b)::p):=fun {e b y} he h0 h=>by
      obtain ⟨h1,h2,⟨h3,h4⟩ | ⟨h3,h4,h5⟩⟩:=mem_stp.1 h
      · exact ⟨[],⟨he,h0,h1,h2, .inl ⟨h3,rfl⟩⟩,h4⟩
      · obtain ⟨p,hp,hw,rfl⟩:=mem_ext.1 h5
        exact ⟨p,⟨he,h0,h1,h2, .inr ⟨h3,h4,hw⟩⟩,rfl⟩
    have hst:∀ e,e<E.length→∀ b,(stp E s v (ext E s k) x seen (e,b)).Nodup:=fun e he b=>by
      unfold stp
      split
      · exact List.nodup_nil
      · split
        · simp
        · split
          · exact List.nodup_nil
          · have hd:=hE.fr (d:=(e,b)) he
            have ht:(dto E (e,b)).toNat<seen.length:=by omega
            exact ext_nodup hE k (by rw [List.length_set];exact hx) (by rw [List.length_set];exact hs) (by rw [ycX ht,if_pos rfl])
    rw [ext]
    -- edges beyond the last one do not matter
    obtain ⟨f,hf⟩:∃ f:Nat→List (List Int),f=fun e=>if e<E.length then edg E s v (ext E s k) x seen e else []:=⟨_,rfl⟩
    have e1:(List.range E.length).flatMap (edg E s v (ext E s k) x seen)=(List.range E.length).flatMap f:=by
      have:∀ l:List Nat,(∀ e∈l,e<E.length)→l.flatMap (edg E s v (ext E s k) x seen)=l.flatMap f:=fun l=>by
        induction l with
        | nil=>intro _;rfl
        | cons a t ih =>
          intro h
          rw [List.flatMap_cons,List.flatMap_cons,ih fun e he=>h e (by simp [he]),hf]
          simp only
          rw [if_pos (h a (by simp))]
      exact this _ fun e he=>List.mem_range.1 he
    rw [e1]
    refine nodup_flat (fun e=>?_) (fun e e' y h h'=>?_) _
    · rw [hf]
      simp only
      split
      · rename_i he
        unfold edg
        split
        · exact List.nodup_nil
        · rename_i h0
          rw [List.nodup_append]
          refine ⟨hst e he _,hst e he _,fun a ha b hb hab=>?_⟩
          subst hab
          obtain ⟨p,hp,rfl⟩:=hway he (by omega) ha
          obtain ⟨q,hq,h⟩:=hway he (by omega) hb
          have:=way_dart hE hp hq hx hs hv h
          cases this
      · exact List.nodup_nil
    · rw [hf] at h h'
      simp only at h h'
      split at h
      · rename_i he
        split at h'
        · rename_i he'
          obtain ⟨h0,b,hb⟩:=mem_edg.1 h
          obtain ⟨h0',b',hb'⟩:=mem_edg.1 h'
          obtain ⟨p,hp,rfl⟩:=hway he h0 hb
          obtain ⟨q,hq,h⟩:=hway he' h0' hb'
          have:=way_dart hE hp hq hx hs hv h
          exact congrArg Prod.fst this
        · cases h'
      · cases h
end
end Go.Proofs.YtencmgolklfmkaaGreat

/- voronoi.cycles: all directed cycles in order. -/
namespace Go.Proofs.YtencmgolklfmkaaGreat
open Go Go.Proofs.Tryz
theorem yh7{a b:List Int}{R:Bool→Prop}(hl:a.length≤1000000000)(h:R (decide (a=b))):yaO a b R:=by
  unfold yaO
  have ht:a=b→R true:=fun q=>by rwa [decide_eq_true q] at h
  have hf:¬a=b→R false:=fun q=>by rwa [decide_eq_false q] at h
  refine ⟨fun hln=>?_,fun hln=>hf fun q=>hln (by rw [q])⟩
  refine ⟨Cnt a.length (fun k=>∀ j,j<k→gi a j=gi b j),Cnt.start (fun j hj=>absurd hj (by omega)),?_⟩
  rintro m _ ⟨k,rfl,rfl,hk,hinv⟩
  simp only [Int.toNat_natCast]
  refine ⟨fun hlt=>⟨by omega,by omega,fun h1=>Cnt.next (by omega) (by omega) fun j hj=>?_,fun h1=>hf fun q=>h1 (by rw [q])⟩,fun hge=>ht (ygj (by omega) fun j hj=>hinv j (by omega))⟩
  by_cases e:j=k
  · subst e;exact h1
  · exact hinv j (by omega)
theorem p_compact_V{l:List (List Int)}{R:List (List Int)→Prop}(hl:l.length≤1000000000)(hx:∀ x∈l,x.length≤1000000000)(hn:l.Nodup)(h:R l):yaY l (fun x x2 R=>yaO x x2 R) R:=by
  unfold yaY
  refine ⟨fun _=>h,fun h2=>⟨fun m v=>∃ k:Nat,m=l.length-k∧v=(k:Int)∧1≤k∧k≤l.length,⟨_,1,rfl,rfl,Nat.le_refl _,by omega⟩,?_⟩⟩
  rintro m _ ⟨k,rfl,rfl,h1,hk⟩
  refine ⟨fun hlt=>?_,fun _=>h⟩
  have hkl:k<l.length:=by omega
  have e:((k:Int)-1).toNat=k-1:=by omega
  refine ⟨by omega,i64 (by omega),by omega,?_⟩
  rw [Int.toNat_natCast,e]
  refine yh7 (hx _ (by rw [yaM hkl];exact List.getElem_mem _)) ⟨fun q=>?_,fun _=>⟨i64 (by omega),_,?_,k+1,rfl,by omega,by omega,by omega⟩⟩
  · have q:=of_decide_eq_true q
    rw [yaM hkl,yaM (show k-1<l.length by omega)] at q
    have:=(List.getElem_inj hn).1 q
    omega
  · omega
theorem asc_of{zs l:List (List Int)}(hp:zs.Perm l)(hs:zs.Pairwise (fun a b=>¬lexC b a<0))(hn:l.Nodup):Asc zs:=by
  have hnz:zs.Nodup:=hp.nodup_iff.2 hn
  unfold Asc
  refine (hs.and hnz).imp fun {a b} ⟨h1,h2⟩=>?_
  rw [yc1] at h1
  rcases Int.lt_or_eq_of_le (show lexC a b≤0 by omega) with q | q
  · exact q
  · exact absurd (yiK _ _ q) h2
theorem nodup_flat2{α:Type}{f:Nat→List α}{n:Nat}(h:∀ e,e<n→(f e).Nodup)(hd:∀ e e' y,e<n→e'<n→y∈f e→y∈f e'→e=e'):((List.range n).flatMap f).Nodup:=by
  unfold List.Nodup
  rw [List.pairwise_flatMap]
  refine ⟨fun e he=>h e (List.mem_range.1 he),?_⟩
  refine List.Pairwise.imp_of_mem (R:=fun a b:Nat=>a≠b) (fun {a b} ha hb hab=>?_) List.nodup_range
  intro y hy z hz e
  subst e
  exact hab (hd _ _ y (List.mem_range.1 ha) (List.mem_range.1 hb) hy hz)
def IsDC(E:List (Int×Int))(y:List Int):Prop:=∃ s p,DCyc E.length E s p∧y=tab (vec p) E.length
def dirS(E:List (Int×Int))(n s:Nat):List (List Int):=ext E s n s (List.replicate E.length 0) ((List.replicate n false).set s true)
def dirL(E:List (Int×Int))(n:Nat):List (List Int):=(List.range n).flatMap (dirS E n)
section
variable {E : List (Int × Int)} {n : Nat}
theorem DCyc.head{s:Int}{p:List Dart}{m:Nat}(h:DCyc m E s p):∃ d q,p=d::q∧dfr_ E d=s:=by
  cases p with
  | nil=>exact absurd rfl h.ne
  | cons d q=>exact ⟨d,q,rfl,h.ch.1⟩
theorem yjK(m i:Nat):gi (List.replicate m 0) i=0:=by
  by_cases h:i<m
  · rw [ybe (by simpa using h)];simp
  · exact gi_ge (by simp;omega)
theorem gb_rep_ (m i:Nat):gb (List.replicate m false) i=false:=by
  by_cases h:i<m
  · rw [yda (by simpa using h)];simp
  · exact gb_ge (by simp;omega)
theorem yhD(hE:ya6 n E){s:Nat}(hs:s<n){y:List Int} : y∈dirS E n s↔∃ p,DCyc E.length E s p∧y=tab (vec p) E.length:=by
  have hlr:(List.replicate n false).length=n:=by simp
  have hlx:(List.replicate E.length (0:Int)).length=E.length:=by simp
  have hsets:∀ {p:List Dart},(p.map Prod.fst).Nodup→(∀ d∈p,d.1<E.length)→sets (List.replicate E.length 0) p=tab (vec p) E.length:=fun {p} hn hl =>
    yjN (by rw [sets_len];simp) _ fun i hi=>by rw [gi_sets hn (fun d hd=>⟨by rw [hlx];exact hl d hd,yjK _ _⟩),yjK];omega
  unfold dirS
  rw [mem_ext]
  constructor
  · rintro ⟨p,_,hw,rfl⟩
    obtain ⟨h1,h2,h3,h4,h5⟩:=ygR hE hw hlx (by simp) (by rw [Int.toNat_natCast,ycX (by rw [hlr];exact hs),if_pos rfl])
    refine ⟨p,⟨fun q=>by subst q;exact hw.elim,h1,h4,h3,fun d hd=>(h2 d hd).1,fun d hd=>?_⟩,hsets h3 fun d hd=>(h2 d hd).1⟩
    rcases h5 d hd with q | q <;> omega
  · rintro ⟨p,hp,rfl⟩
    refine ⟨p,?_,way_of hE hp.ne hp.ch hlx (by simp) (fun d hd=>⟨hp.lt d hd,yjK _ _⟩) hp.ed hp.fr fun d hd=>?_,(hsets hp.ed hp.lt).symm⟩
    · have:=yhY (n:=n) hp.fr fun x hx=>by
        obtain ⟨d,hd,rfl⟩:=List.mem_map.1 hx
        exact (hE.fr (hp.lt d hd)).1
      simpa using this
    · obtain ⟨c,q,rfl,hc⟩:=hp.head
      have hd:d∈q:=hd
      have hfr:=hp.fr
      rw [List.map_cons,List.nodup_cons,hc] at hfr
      have hne:dfr_ E d≠s:=fun e=>hfr.1 (by rw [←e];exact List.mem_map_of_mem hd)
      have hle:=hp.le d (by simp [hd])
      rw [ycX (by rw [hlr];exact hs),if_neg (by omega)]
      exact ⟨gb_rep_ _ _,by omega⟩
theorem DCyc.range(hE:ya6 n E){s:Int}{p:List Dart}(h:DCyc E.length E s p):∃ k:Nat,s=k∧k<n:=by
  obtain ⟨d,q,rfl,rfl⟩:=h.head
  have:=(hE.fr (h.lt d (by simp))).1
  exact ⟨(dfr_ E d).toNat,by omega,by omega⟩
theorem yhK(hE:ya6 n E){y:List Int} : y∈dirL E n↔IsDC E y:=by
  unfold dirL
  rw [List.mem_flatMap]
  constructor
  · rintro ⟨s,hs,h⟩
    obtain ⟨p,hp,e⟩:=(yhD hE (List.mem_range.1 hs)).1 h
    exact ⟨s,p,hp,e⟩
  · rintro ⟨s,p,hp,e⟩
    obtain ⟨k,rfl,hk⟩:=hp.range hE
    exact ⟨k,List.mem_range.2 hk,(yhD hE hk).2 ⟨p,hp,e⟩⟩
theorem tab_inj{f g:Nat→Int}{m:Nat}(h:tab f m=tab g m):∀ i,i<m→f i=g i:=fun i hi=>by
  rw [←ycc f hi,←ycc g hi,h]
theorem DCyc.start{s t:Int}{p q:List Dart}(hp:DCyc E.length E s p)(hq:DCyc E.length E t q)(h:∀ i,i<E.length→vec p i=vec q i):t≤s:=by
  obtain ⟨d,p',rfl,rfl⟩:=hp.head
  exact hq.le d (vec_dart hp.ed hq.ed hp.lt h (by simp))
theorem dirL_nodup(hE:ya6 n E):(dirL E n).Nodup:=by
  refine nodup_flat2 (fun s hs=>ext_nodup hE _ (by simp) (by simp) (by rw [Int.toNat_natCast,ycX (by simpa using hs),if_pos rfl])) fun s s' y hs hs' h h'=>?_
  obtain ⟨p,hp,rfl⟩:=(yhD hE hs).1 h
  obtain ⟨q,hq,e⟩:=(yhD hE hs').1 h'
  have hv:=tab_inj e
  have:=hp.start hq hv
  have:=hq.start hp fun i hi=>(hv i hi).symm
  omega
theorem IsDC.len{y:List Int}(h:IsDC E y):y.length=E.length:=by
  obtain ⟨s,p,_,rfl⟩:=h
  exact yaI _ _
theorem dirL_len:(dirL E n).length≤n*(2*E.length+1)^n:=yf1 _ (fun e=>ext_len _ _ _ _) n
theorem yhA(hE:ya6 n E)(hn:n≤12)(hm:E.length≤100)(hB:(n+1)*(2*E.length+1)^n≤1000000000){R:List (List Int)→Prop}(h:∀ zs,Asc zs→(∀ y,y∈zs↔IsDC E y)→R zs):yba E (n:Int) R:=by
  unfold yba
  have hBm:n*(2*E.length+1)^n+(2*E.length+1)^n≤1000000000:=by rw [Nat.add_mul,Nat.one_mul] at hB;exact hB
  refine ⟨fun m v out=>Cnt n (fun k=>out=(List.range k).flatMap (dirS E n)) m v,⟨_,0,rfl,rfl,Nat.zero_le _,rfl⟩,?_⟩
  rintro m _ out ⟨k,rfl,rfl,hk,ho⟩
  refine ⟨fun hlt=>⟨by omega,by omega,n,?_⟩,fun hge=>?_⟩
  · have hkn:k<n:=by omega
    rw [Int.toNat_natCast,Int.toNat_natCast]
    have h1:out.length≤k*(2*E.length+1)^n:=by rw [ho];exact yf1 _ (fun e=>ext_len _ _ _ _) k
    have h2:=Nat.mul_le_mul_right ((2*E.length+1)^n) (show k≤n by omega)
    refine p_walk hE hn hm n k _ _ out _ hkn (by simp) (gb_rep_ _ _) (by simp) (by simp) (by omega) ?_
    refine Cnt.next hkn (by omega) ?_
    rw [ho,List.range_succ,List.flatMap_append]
    simp [dirS]
  · have:k=n:=by omega
    subst this
    subst ho
    have hlen:((List.range k).flatMap (dirS E k)).length≤1000000000:=by have:=dirL_len (E:=E) (n:=k);unfold dirL at this;omega
    refine ⟨hlen,fun x hx=>?_,fun zs hp hs=>?_⟩
    · have:=((yhK hE).1 hx).len;omega
    · have hz:=asc_of hp hs (dirL_nodup hE)
      have hm2:∀ y,y∈zs↔IsDC E y:=fun y=>hp.mem_iff.trans (yhK hE)
      exact p_compact_V (by rw [hp.length_eq];exact hlen) (fun x hx=>by have:=((hm2 x).1 hx).len;omega) hz.nodup (h zs hz hm2)
end
end Go.Proofs.YtencmgolklfmkaaGreat

/- Sets of single edges that are cycles, plainly. No program in sight. -/
namespace Go.Proofs.YtencmgolklfmkaaGreat
open Go Go.Proofs.Tryz
def inc(E:List (Int×Int))(i:Nat)(v:Int):Int:=(if (gx E i).1=v then 1 else 0)+if (gx E i).2=v then 1 else 0
def dgr(m:Nat)(E:List (Int×Int))(P:Nat→Bool)(v:Int):Int:=sm m fun i=>if P i=true then inc E i v else 0
theorem inc_nn(E:List (Int×Int))(i:Nat)(v:Int):0≤inc E i v:=by unfold inc;split <;> split <;> omega
theorem yig{E:List (Int×Int)}{i:Nat} : 1≤inc E i (gx E i).1:=by unfold inc;rw [if_pos rfl];split <;> omega
theorem inc_two{E:List (Int×Int)}{i:Nat} : 1≤inc E i (gx E i).2:=by unfold inc;rw [if_pos (rfl:(gx E i).2=(gx E i).2)];split <;> omega
section
variable {m n : Nat} {E : List (Int × Int)} {P Q : Nat → Bool} {v : Int}
theorem dgr_ge{i:Nat}(hi:i<m)(hp:P i=true):inc E i v≤dgr m E P v:=by
  have:=ygu (f:=fun i=>if P i=true then inc E i v else 0) (fun j _=>by
    show 0≤if P j=true then inc E j v else 0
    split
    · exact inc_nn _ _ _
    · exact Int.le_refl _) i hi
  simp only [hp,if_true] at this
  exact this
theorem dgr_more(hs:∀ i,i<m→Q i=true→P i=true){i:Nat}(hi:i<m)(hp:P i=true)(hq:Q i≠true):dgr m E Q v+inc E i v≤dgr m E P v:=by
  have h1:dgr m E P v-dgr m E Q v=sm m fun j=>(if P j=true then inc E j v else 0)-if Q j=true then inc E j v else 0:=(ygl _ _ _).symm
  have h2:=ygu (f:=fun j=>(if P j=true then inc E j v else 0)-if Q j=true then inc E j v else 0) (fun j hj=>by
    show 0≤(if P j=true then inc E j v else 0)-if Q j=true then inc E j v else 0
    have:=inc_nn E j v
    by_cases h:Q j=true
    · rw [if_pos h,if_pos (hs j hj h)];omega
    · rw [if_neg h];split <;> omega) i hi
  simp only [hp,if_true,if_neg hq] at h2
  omega
structure CycSet(n m:Nat)(E:List (Int×Int))(P:Nat→Bool):Prop where
  ne:∃ i,i<m∧P i=true
  deg:∀ v:Nat,v<n→dgr m E P v=0∨dgr m E P v=2
  con:∀ T:Int→Bool,(∀ i,i<m→P i=true→T (gx E i).1=T (gx E i).2)→∀ i j,i<m→j<m→P i=true→P j=true→T (gx E i).1=T (gx E j).1
theorem CycSet.whole(hE:ya6 n E)(h:CycSet n E.length E P)(hs:∀ i,i<E.length→Q i=true→P i=true)(hne:∃ i,i<E.length∧Q i=true)(hd:∀ v:Int,dgr E.length E Q v=0∨dgr E.length E Q v=2) :
    ∀ i,i<E.length→P i=true→Q i=true:=by
  have hdP:∀ v:Int,0≤v∧v<n→dgr E.length E P v≤2:=fun v hv=>by
    have e:((v.toNat:Nat):Int)=v:=by omega
    have:=h.deg v.toNat (by omega)
    rw [e] at this
    omega
  have hok:∀ i,i<E.length→(0≤(gx E i).1∧(gx E i).1<n)∧0≤(gx E i).2∧(gx E i).2<n:=fun i hi=>hE _ (by rw [yaM hi];exact List.getElem_mem hi)
  have hout:∀ i,i<E.length→P i=true→Q i≠true→dgr E.length E Q (gx E i).1=0∧dgr E.length E Q (gx E i).2=0:=fun i hi hp hq=>by
    have h1:=dgr_more (E:=E) (v:=(gx E i).1) hs hi hp hq
    have h2:=dgr_more (E:=E) (v:=(gx E i).2) hs hi hp hq
    have h3:=yig (E:=E) (i:=i)
    have h4:=inc_two (E:=E) (i:=i)
    have h5:=hdP _ (hok i hi).1
    have h6:=hdP _ (hok i hi).2
    have h7:=hd (gx E i).1
    have h8:=hd (gx E i).2
    omega
  have hin:∀ i,i<E.length→Q i=true→0<dgr E.length E Q (gx E i).1∧0<dgr E.length E Q (gx E i).2:=fun i hi hq=>by
    have h1:=dgr_ge (E:=E) (v:=(gx E i).1) hi hq
    have h2:=dgr_ge (E:=E) (v:=(gx E i).2) hi hq
    have h3:=yig (E:=E) (i:=i)
    have h4:=inc_two (E:=E) (i:=i)
    omega
  obtain ⟨j,hj,hqj⟩:=hne
  intro i hi hp
  have hc:=h.con (fun v=>decide (0<dgr E.length E Q v)) (fun k hk hpk=>by
    by_cases q:Q k=true
    · have:=hin k hk q
      rw [decide_eq_true this.1,decide_eq_true this.2]
    · have:=hout k hk hpk q
      rw [decide_eq_false (by omega),decide_eq_false (by omega)]) i j hi hj hp (hs j hj hqj)
  have hc:decide (0<dgr E.length E Q (gx E i).1)=decide (0<dgr E.length E Q (gx E j).1):=hc
  rw [decide_eq_true (hin j hj hqj).1] at hc
  have h0:=of_decide_eq_true hc
  refine Classical.byContradiction fun q=>?_
  have:=(hout i hi hp q).1
  omega
def inP(p:List Dart)(i:Nat):Bool:=decide (i∈p.map Prod.fst)
theorem inc_dart(d:Dart)(v:Int):inc E d.1 v=(if dfr_ E d=v then 1 else 0)+if dto E d=v then 1 else 0:=by
  obtain ⟨i,b⟩:=d
  cases b
  · simp only [inc,dfr_,dto,Bool.false_eq_true,if_false];omega
  · simp only [inc,dfr_,dto,if_true]
theorem dgr_walk{v:Int} : ∀ {p:List Dart},(p.map Prod.fst).Nodup→(∀ d∈p,d.1<m)→dgr m E (inP p) v=((p.map (dfr_ E)).count v:Int)+((p.map (dto E)).count v:Int)
  | [],_,_=>by
    unfold dgr inP
    rw [yaw (g:=fun _=>0) fun i _=>by simp,ybY];rfl
  | d::p,hn,hl=>by
    rw [List.map_cons,List.nodup_cons] at hn
    have ih:=dgr_walk (v:=v) hn.2 fun x hx=>hl x (by simp [hx])
    have e:dgr m E (inP (d::p)) v=sm m (fun i=>if i=d.1 then inc E d.1 v else 0)+dgr m E (inP p) v:=by
      unfold dgr
      rw [←ydu]
      refine yaw fun i _=>?_
      unfold inP
      by_cases q:i=d.1
      · subst q
        rw [decide_eq_true (by simp),decide_eq_false hn.1];simp
      · by_cases r:i∈p.map Prod.fst
        · rw [decide_eq_true (by rw [List.map_cons];exact List.mem_cons_of_mem _ r),decide_eq_true r,if_neg q];simp
        · rw [decide_eq_false (by rw [List.map_cons,List.mem_cons];exact fun z=>z.elim q r),decide_eq_false r,if_neg q];simp
    rw [e,ih,ygg _ (hl d (by simp)),inc_dart,List.map_cons,List.map_cons,List.count_cons,List.count_cons]
    by_cases h1:dfr_ E d=v <;> by_cases h2:dto E d=v <;> simp [h1,h2] <;> omega
theorem Ch.perm:∀ {p:List Dart} {u w:Int},Ch E u p w→(p.map (dto E)++[u]).Perm (p.map (dfr_ E)++[w])
  | [],u,w,h=>by have h:u=w:=h;subst h;exact List.Perm.refl _
  | d::p,u,w,h=>by
    have ih:=Ch.perm h.2
    rw [List.map_cons,List.map_cons,h.1]
    -- to d, tos, u ~ u, (tos, to d)
    have h1:(dto E d::p.map (dto E)++[u]).Perm (u::(p.map (dto E)++[dto E d])):=by
      refine (List.perm_append_comm (l₁:=dto E d::p.map (dto E)) (l₂:=[u])).trans ?_
      show (u::(dto E d::p.map (dto E))).Perm _
      exact List.Perm.cons _ (List.perm_append_comm (l₁:=[dto E d]) (l₂:=p.map (dto E)))
    exact h1.trans (List.Perm.cons _ ih)
theorem count_le_one{l:List Int}(h:l.Nodup)(v:Int):l.count v≤1:=by
  induction l with
  | nil=>simp
  | cons a t ih =>
    rw [List.nodup_cons] at h
    rw [List.count_cons]
    by_cases q:a=v
    · subst q
      rw [List.count_eq_zero_of_not_mem h.1];simp
    · have:=ih h.2
      simp [q];exact this
theorem DCyc.dgr{s:Int}{p:List Dart}(h:DCyc m E s p)(v:Int):Go.Proofs.YtencmgolklfmkaaGreat.dgr m E (inP p) v=0∨Go.Proofs.YtencmgolklfmkaaGreat.dgr m E (inP p) v=2:=by
  rw [dgr_walk h.ed h.lt]
  have hp:(p.map (dto E)).Perm (p.map (dfr_ E)):=(List.perm_append_right_iff _).1 h.ch.perm
  rw [hp.count_eq]
  have:=count_le_one h.fr v
  omega
theorem Ch.same{T:Int→Bool} : ∀ {p:List Dart} {u w:Int},Ch E u p w→(∀ d∈p,T (dfr_ E d)=T (dto E d))→∀ d∈p,T (dfr_ E d)=T u∧T (dto E d)=T u
  | [],_,_,_,_,d,hd=>by cases hd
  | c::p,u,w,h,hT,d,hd=>by
    have hc:=hT c (by simp)
    rcases List.mem_cons.1 hd with rfl | hd
    · rw [←hc,h.1];exact ⟨rfl,rfl⟩
    · have:=Ch.same h.2 (fun x hx=>hT x (by simp [hx])) d hd
      rw [this.1,this.2,←hc,h.1];exact ⟨rfl,rfl⟩
theorem dart_ends(d:Dart):(dfr_ E d=(gx E d.1).1∧dto E d=(gx E d.1).2)∨(dfr_ E d=(gx E d.1).2∧dto E d=(gx E d.1).1):=by
  obtain ⟨i,b⟩:=d
  cases b
  · exact .inr ⟨rfl,rfl⟩
  · exact .inl ⟨rfl,rfl⟩
theorem yfg{p:List Dart}{i:Nat} : inP p i=true↔∃ d∈p,d.1=i:=by
  unfold inP
  rw [decide_eq_true_iff,List.mem_map]
theorem DCyc.set{s:Int}{p:List Dart}(h:DCyc m E s p):CycSet n m E (inP p):=by
  refine ⟨?_,fun v _=>h.dgr v,fun T hT i j hi hj hpi hpj=>?_⟩
  · obtain ⟨d,hd⟩:=List.exists_mem_of_ne_nil _ h.ne
    exact ⟨d.1,h.lt d hd,yfg.2 ⟨d,hd,rfl⟩⟩
  · have hs:∀ d∈p,T (dfr_ E d)=T s∧T (dto E d)=T s:=h.ch.same fun d hd=>by
      have:=hT d.1 (h.lt d hd) (yfg.2 ⟨d,hd,rfl⟩)
      rcases dart_ends (E:=E) d with ⟨a,b⟩ | ⟨a,b⟩
      · rw [a,b];exact this
      · rw [a,b];exact this.symm
    have key:∀ i,inP p i=true→T (gx E i).1=T s:=fun i hi=>by
      obtain ⟨d,hd,rfl⟩:=yfg.1 hi
      rcases dart_ends (E:=E) d with ⟨a,b⟩ | ⟨a,b⟩
      · rw [←a];exact (hs d hd).1
      · rw [←b];exact (hs d hd).2
    rw [key i hpi,key j hpj]
def pm1(m:Nat)(x:Nat→Int):Prop:=∀ i,i<m→x i=0∨x i=1∨x i = -1
theorem yio{p:List Dart}(hn:(p.map Prod.fst).Nodup)(i:Nat):vec p i≠0↔inP p i=true:=by
  constructor
  · intro h
    obtain ⟨d,hd,e,_⟩:=yip hn h
    exact yfg.2 ⟨d,hd,e⟩
  · intro h
    obtain ⟨d,hd,rfl⟩:=yfg.1 h
    rw [yho hn hd]
    rcases ycJ d.2 with e | e <;> rw [e] <;> decide
theorem CycSet.full(hE:ya6 n E)(h:CycSet n E.length E P){x:Nat→Int}(hx:Circ E.length E x)(hs:∀ i,i<E.length→x i≠0→P i=true)(h0:∃ i,i<E.length∧x i≠0) :
    ∃ s p,DCyc E.length E s p∧(∀ d∈p,Pos E.length x d)∧∀ i,i<E.length→P i=true→inP p i=true:=by
  obtain ⟨s,p,hp,ha⟩:=yiM hE hx h0
  refine ⟨s,p,hp,ha,h.whole hE (fun i hi hq=>?_) ?_ hp.dgr⟩
  · obtain ⟨d,hd,rfl⟩:=yfg.1 hq
    refine hs d.1 hi fun e=>?_
    have:=(ha d hd).2
    rw [e,Int.zero_mul] at this;omega
  · obtain ⟨d,hd⟩:=List.exists_mem_of_ne_nil _ hp.ne
    exact ⟨d.1,hp.lt d hd,yfg.2 ⟨d,hd,rfl⟩⟩
theorem CycSet.dc(hE:ya6 n E)(h:CycSet n E.length E P){x:Nat→Int}(hx:Circ E.length E x)(hs:∀ i,i<E.length→x i≠0→P i=true)(h0:∃ i,i<E.length∧x i≠0)(hpm:pm1 E.length x) :
    IsDC E (tab x E.length)∧∀ i,i<E.length→P i=true→x i≠0:=by
  obtain ⟨s,p,hp,ha,hf⟩:=h.full hE hx hs h0
  have key:∀ i,i<E.length→x i=vec p i:=fun i hi=>by
    by_cases q:inP p i=true
    · obtain ⟨d,hd,rfl⟩:=yfg.1 q
      have h2:=(ha d hd).2
      rw [yho hp.ed hd]
      have h3:=hpm d.1 hi
      rcases ycJ d.2 with e | e <;> rw [e] at h2 ⊢ <;> omega
    · have h1:vec p i=0:=Classical.byContradiction fun z=>q ((yio hp.ed i).1 z)
      rw [h1]
      exact Classical.byContradiction fun z=>q (hf i hi (hs i hi z))
  refine ⟨⟨s,p,hp,ygB key⟩,fun i hi hpi=>?_⟩
  rw [key i hi]
  exact (yio hp.ed i).2 (hf i hi hpi)
theorem Circ.neg{x:Nat→Int}(hx:Circ m E x):Circ m E (fun i => -x i):=fun v=>by
  have h1:bdy m E (fun i=>0-x i) v=bdy m E (fun _=>0) v-bdy m E x v:=bdy_sub _ _ _
  have h2:bdy m E (fun _=>0) v=0:=by unfold bdy;rw [yaw (g:=fun _=>0) fun i _=>Int.zero_mul _,ybY]
  rw [h2,hx v] at h1
  refine Eq.trans (yib (fun i _=>?_) v) h1
  omega
end
end Go.Proofs.YtencmgolklfmkaaGreat

/- What the functions of layer 12 (contract) come to: ends, lists laid together, vertices that move, graphs that are made. -/
namespace Go.Proofs.YtencmgolklfmkaaGreat
open Go Go.RowKit Go.Shelf Go.Proofs.Tryz
theorem sF_ends:∀ es:List E3,sF es=(ybd es).map fun e=>(e.1,e.2,1)
  | []=>rfl
  | x::t=>by
    have e:ybd (x::t)=List.replicate x.2.2.toNat (x.1,x.2.1)++ybd t:=by unfold ybd;rw [List.flatMap_cons]
    rw [sF,sF_ends t,e,List.map_append,List.map_replicate]
theorem yhl{n:Int}{es:List E3}{R:List (Int×Int)→Int→Prop}(hl:es.length≤100)(he:yat n es≠0→R [] (yat n es))(h:yat n es=0→R (ybd es) 0):ycI n es R:=by
  unfold ycI
  refine yc9 (by omega) ⟨fun q=>?_,fun q=>he q⟩
  have hn:(1:Int)≤n∧n≤12:=by
    unfold yat at q;split at q
    · assumption
    · cases q
  obtain ⟨n,rfl⟩:∃ k:Nat,n=k:=⟨n.toNat,by omega⟩
  obtain ⟨hE,hn1,hn12⟩:=ybr q
  show ∃ Pr Rr:List (Int×Int×Int)→Prop,_
  refine ⟨_,_,yeV hE (by omega),fun pre out=>out=pre.map fun y=>(y.2.1,y.2.2),rfl,?_,?_⟩
  · rintro pre e a b out rfl hPr
    have hPr:(pre++[(e,a,b)]).map gmap <+: sF es:=hPr
    have h2:=hPr.length_le
    have h3:=sF_few hE
    rw [List.length_map,List.length_append] at h2
    simp only [List.length_singleton] at h2
    refine ⟨by rw [List.length_map];omega,?_⟩
    show _=List.map _ _
    rw [List.map_append];rfl
  · rintro ys out rfl hR
    have hR:ys.map gmap=sF es:=hR
    have e:ys.map (fun y=>(y.2.1,y.2.2))=ybd es:=by
      have h2:(ys.map gmap).map (fun y:E3=>(y.1,y.2.1))=(sF es).map fun y=>(y.1,y.2.1):=by rw [hR]
      rw [sF_ends,List.map_map,List.map_map] at h2
      have e1:((fun y:E3=>(y.1,y.2.1)) ∘ gmap)=fun y:Int×Int×Int=>(y.2.1,y.2.2):=rfl
      have e2:((fun y:E3=>(y.1,y.2.1)) ∘ fun e:Int×Int=>(e.1,e.2,1))=id:=rfl
      rw [e1,e2,List.map_id] at h2
      exact h2
    rw [e];exact h q
structure GrOk(n:Nat)(es:List E3)(E:List (Int×Int)):Prop where
  g:yat n es=0
  e:ybd es=E
  one:1≤n
  few:n≤12
  ok:ya6 n E
  len:E.length≤50*es.length
theorem gr_of{n:Int}{es:List E3}(q:yat n es=0):∃ k:Nat,n=k∧GrOk k es (ybd es):=by
  have hn:(1:Int)≤n∧n≤12:=by
    unfold yat at q;split at q
    · assumption
    · cases q
  obtain ⟨n,rfl⟩:∃ k:Nat,n=k:=⟨n.toNat,by omega⟩
  obtain ⟨hE,hn1,hn12⟩:=ybr q
  refine ⟨n,rfl,q,rfl,hn1,hn12,fun e he=>?_,?_⟩
  · unfold ybd at he
    obtain ⟨x,hx,hr⟩:=List.mem_flatMap.1 he
    rw [(List.mem_replicate.1 hr).2]
    have:=hE x hx
    simp only;omega
  · exact (yeh es fun x hx=>by have:=hE x hx;omega).2
theorem GrOk.mult{n:Nat}{es:List E3}{E:List (Int×Int)}(h:GrOk n es E):∀ x∈es,1≤x.2.2∧x.2.2≤50:=fun x hx=>by
  obtain ⟨hE,_,_⟩:=ybr h.g
  have:=hE x hx;omega
theorem GrOk.size{n:Nat}{es:List E3}{E:List (Int×Int)}(h:GrOk n es E):(es.map (·.2.2)).sum=(E.length:Int):=by
  rw [←h.e];exact (yeh es h.mult).1.symm
theorem yjX{n:Nat}{es:List E3}{E:List (Int×Int)}(h:GrOk n es E)(hl:es.length≤100){R:List (Int×Int)→Prop}(hR:R E):yci n es R :=
  p_r08_Ends (by omega) h.mult (by rw [h.e];exact hR)
theorem yji{n:Nat}{es:List E3}{E:List (Int×Int)}(h:GrOk n es E)(hl:es.length≤100){R:Int→Prop}(hR:R (E.length:Int)):ycz n es R :=
  p_r08_Size (by omega) h.mult (by rw [h.size];exact hR)
theorem gchk_le{n:Int} : ∀ (es:List E3) (a b:Int),gchk n a b es=0→∀ x∈es,x.1≤x.2.1
  | [],_,_,_,x,hx=>by simp at hx
  | y::t,a,b,h,x,hx=>by
    rw [gchk] at h
    split at h
    · split at h
      · rename_i h2
        rcases List.mem_cons.1 hx with rfl | hx
        · exact h2.1
        · exact gchk_le t _ _ h x hx
      · cases h
    · cases h
theorem GrOk.le{n:Nat}{es:List E3}{E:List (Int×Int)}(h:GrOk n es E):∀ e∈E,e.1≤e.2:=fun e he=>by
  rw [←h.e] at he
  unfold ybd at he
  obtain ⟨x,hx,hr⟩:=List.mem_flatMap.1 he
  rw [(List.mem_replicate.1 hr).2]
  exact gchk_le es _ _ (ycl h.g) x hx
end Go.Proofs.YtencmgolklfmkaaGreat

/- The number of parts; degrees in made graphs (the first half of XCy, for seats without contract). -/
namespace Go.Proofs.YtencmgolklfmkaaGreat
open Go Go.RowKit Go.Shelf Go.Proofs.Tryz
set_option maxRecDepth 100000
theorem root_new{F:List Nat}(hF:ycb F){v:Nat}(hv:v<12):root F v=v↔¬ ∃ x,x<v∧root F v=root F x:=by
  constructor
  · rintro h ⟨x,hx,h2⟩
    have:=(ycj hF x (by omega)).1
    omega
  · intro h
    have h1:=(ycj hF v hv).1
    apply Classical.byContradiction
    intro q
    exact h ⟨root F v,by omega,(yd6 hF hv).symm⟩
theorem yfX{n:Nat}{es:List E3}(hE:EOk n es)(hn:n≤12):ycL es:=fun x hx=>by
  have:=hE x hx;omega
section
variable {n : Nat} {es : List E3}
theorem p_r08_PartsN{R:Int→Prop}(hl:es.length≤1000000000)(hg:yat n es=0)(h:R (yay (yap es) n:Int)):yca (n:Int) es R:=by
  obtain ⟨hE,hn1,hn12⟩:=ybr hg
  have hF:=yaU es (yfX hE hn12)
  unfold yca
  simp only [Int.toNat_natCast]
  refine ⟨by omega,?_⟩
  refine ⟨fun m k i o=>Cnt n (fun v=>0≤k∧k≤v∧k=(yay (yap es) v:Int)∧o.length=n∧(∀ u,u<n→(gb o u=true↔∃ x,x<v∧root (yap es) u=root (yap es) x))) m i,
    Cnt.start ⟨by omega,by omega,rfl,by simp,fun u _=>by rw [gb_rep];simp⟩,?_⟩
  rintro m k _ o ⟨v,rfl,rfl,hv,k0,k1,k2,hol,hseen⟩
  refine ⟨fun hlt=>?_,fun hge=>?_⟩
  · have hlt:v<n:=by omega
    simp only [Int.toNat_natCast]
    refine ⟨by omega,fun hx=>?_,fun hx=>⟨i64 (by omega),ygS hl hg hlt fun ro hrl hro=>?_⟩⟩
    · obtain ⟨x,hxv,hxr⟩:=(hseen v hlt).1 hx
      have hns:yay (yap es) (v+1)=yay (yap es) v:=by
        rw [yay,if_neg fun z=>(root_new hF (by omega)).1 z ⟨x,hxv,hxr⟩,Nat.add_zero]
      refine Cnt.next hlt (by omega) ⟨k0,by omega,by rw [hns];exact k2,hol,fun u hu=>?_⟩
      · rw [hseen u hu]
        constructor
        · rintro ⟨y,hy,hyr⟩;exact ⟨y,by omega,hyr⟩
        · rintro ⟨y,hy,hyr⟩
          by_cases e:y=v
          · subst e;exact ⟨x,hxv,hyr.trans hxr⟩
          · exact ⟨y,by omega,hyr⟩
    · refine ⟨fun m i o'=>Cnt n (fun u=>o'.length=n∧(∀ x,x<n→(gb o' x=true↔(gb o x=true∨(x<u∧gb ro x=true))))) m i,Cnt.start ⟨hol,fun x _=>by simp⟩,?_⟩
      rintro m _ o' ⟨u,rfl,rfl,hu,hol',hor⟩
      refine ⟨fun hltu=>?_,fun hgeu=>?_⟩
      · have hltu:u<n:=by omega
        simp only [Int.toNat_natCast]
        have hou:=hor u hltu
        have st:∀ b:Bool,(b=true↔(gb o u=true∨gb ro u=true))→(o'.set u b).length=n∧(∀ x,x<n→(gb (o'.set u b) x=true↔(gb o x=true∨(x<u+1∧gb ro x=true)))):=fun b hbb=>by
          refine ⟨by simpa using hol',fun x hx=>?_⟩
          rw [ycX (by omega)]
          by_cases e:x=u
          · subst e
            rw [if_pos rfl,hbb]
            constructor
            · rintro (h | h)
              · exact .inl h
              · exact .inr ⟨by omega,h⟩
            · rintro (h | h)
              · exact .inl h
              · exact .inr h.2
          · rw [if_neg e,hor x hx]
            constructor
            · rintro (h | h)
              · exact .inl h
              · exact .inr ⟨by omega,h.2⟩
            · rintro (h | h)
              · exact .inl h
              · exact .inr ⟨by omega,h.2⟩
        refine ⟨by omega,fun hx2=>Cnt.next hltu (by omega) (st true ?_),fun hx2=>⟨by omega,Cnt.next hltu (by omega) (st _ ?_)⟩⟩
        · have:=hou.1 hx2
          constructor
          · intro _;rcases this with h | h
            · exact .inl h
            · exact .inr h.2
          · intro _;rfl
        · constructor
          · intro h;exact .inr h
          · rintro (h | h)
            · exact absurd (hou.2 (.inl h)) hx2
            · exact h
      · have hun:u=n:=by omega
        subst hun
        have hnew:¬ ∃ x,x<v∧root (yap es) v=root (yap es) x:=fun h=>hx ((hseen v hlt).2 h)
        have hns:yay (yap es) (v+1)=yay (yap es) v+1:=by
          rw [yay,if_pos ((root_new hF (by omega)).2 hnew)]
        refine Cnt.next (by omega) (by omega) ⟨by omega,by omega,by rw [hns];omega,hol',fun x hxn=>?_⟩
        rw [hor x hxn,hseen x hxn,hro x hxn,decide_eq_true_eq]
        constructor
        · rintro (⟨y,hy,hyr⟩ | h)
          · exact ⟨y,by omega,hyr⟩
          · exact ⟨v,by omega,h.2⟩
        · rintro ⟨y,hy,hyr⟩
          by_cases e:y=v
          · subst e;exact .inr ⟨hxn,hyr⟩
          · exact .inl ⟨y,by omega,hyr⟩
  · have hvn:v=n:=by omega
    subst hvn
    rw [k2];exact h
end
structure Rts(r:Nat→Nat)(L:List (Int×Int)):Prop where
  one:∀ e∈L,r e.1.toNat=r e.2.toNat
  least:∀ h:Nat→Nat,(∀ e∈L,h e.1.toNat=h e.2.toNat)→∀ u v,u<12→v<12→r u=r v→h u=h v
  le:∀ v,v<12→r v≤v∧r (r v)=r v
end Go.Proofs.YtencmgolklfmkaaGreat

/- The reference's cycles: which sets of single edges are cycles. -/
namespace Go.Proofs.YtencmgolklfmkaaGreat
open Go Go.RowKit Go.Shelf Go.Proofs.Tryz
set_option maxRecDepth 100000
def ybQ(l:List Nat):List Int:=l.map fun e:Nat=>(e:Int)
theorem yfQ(a b:List Nat):ybQ (a++b)=ybQ a++ybQ b:=List.map_append
section
variable {E : List (Int × Int)} {n : Nat} {P : Nat → Bool}
end
end Go.Proofs.YtencmgolklfmkaaGreat

/- The reference's directed cycles: Subset, With, IsCycle, Cycles, Along, Turned. -/
namespace Go.Proofs.YtencmgolklfmkaaGreat
open Go Go.RowKit Go.Shelf Go.Proofs.Tryz
set_option maxRecDepth 100000
section
variable {E : List (Int × Int)} {es : List E3} {n : Nat} {P : Nat → Bool}
def chL(P:Nat→Bool)(m:Nat):List Nat:=(List.range m).filter P
theorem ybB(l:List Nat):(ybQ l).length=l.length:=by simp [ybQ]
theorem yfn{l:List Nat}{k:Nat}(h:k<l.length):gi (ybQ l) k=((l[k]:Nat):Int):=by
  rw [ybe (by rw [ybB];exact h)];simp [ybQ]
theorem yiN{m k:Nat}(h:k<(chL P m).length):(chL P m)[k]<m∧P (chL P m)[k]=true:=by
  have:=List.getElem_mem h
  obtain ⟨h1,h2⟩:=List.mem_filter.1 this
  exact ⟨List.mem_range.1 h1,h2⟩
theorem ygw(m:Nat):(chL P m).length≤m:=by
  refine Nat.le_trans (List.length_filter_le _ _) ?_
  simp
structure GoodV(E:List (Int×Int))(P:Nat→Bool)(x:Nat→Int):Prop where
  circ:Circ E.length E x
  supp:∀ i,i<E.length→(x i≠0↔P i=true)
  pm:pm1 E.length x
  one:∃ j,j<E.length∧P j=true∧x j=1
def cnt0(m:Nat)(x:Nat→Int):Int:=sm m fun i=>if x i≠0 then 1 else 0
structure AInv(E:List (Int×Int))(P:Nat→Bool)(a:Int)(l0:Nat)(k:Nat)(v:Int)(x:Nat→Int):Prop where
  pm:pm1 E.length x
  sub:∀ i,i<E.length→x i≠0→P i=true
  one:x l0=1
  bd:∀ w,bdy E.length E x w=(if v=w then 1 else 0)-if a=w then 1 else 0
  cnt:cnt0 E.length x=k
end
end Go.Proofs.YtencmgolklfmkaaGreat

/- The reference's Turned, Ordered, Circles: all directed cycles in order. -/
namespace Go.Proofs.YtencmgolklfmkaaGreat
open Go Go.RowKit Go.Shelf Go.Proofs.Tryz
set_option maxRecDepth 100000
theorem p_before_V{a b:List Int}{R:Bool→Prop}(hl:a.length≤1000000000)(h:R (decide (lexC a b<0))):yd5 a b R:=by
  refine ⟨fun m i=>∃ k:Nat,i=k∧k+m=a.length∧k≤b.length∧∀ j,j<k→gi a j=gi b j,⟨a.length,0,rfl,by omega,by omega,fun j hj=>by omega⟩,?_⟩
  rintro m i ⟨k,rfl,hm,hkb,he⟩
  rw [Int.toNat_natCast]
  have hlen:k=b.length→R (decide (((a.length:Nat):Int)<((b.length:Nat):Int))):=fun hk=>by
    by_cases q:b.length<a.length
    · rw [lexC_end (by omega) (fun j hj=>he j (by omega)) q] at h
      rw [decide_eq_false (by omega)];exact h
    · rw [lexC_out (by omega) (fun j hj=>he j (by omega)),if_neg (by omega)] at h
      rw [decide_eq_false (by omega)];exact h
  refine ⟨k<a.length∧k<b.length,fun hJ=>⟨by omega,by omega,fun c=>⟨i64 (by omega),m-1,by omega,k+1,by omega,by omega,by omega,fun j hj=>?_⟩,fun c=>?_⟩,fun hlt=>⟨fun hlt2=>⟨by omega,by omega⟩,fun hge=>hlen (by omega)⟩,fun hge=>?_⟩
  · by_cases q:j=k
    · subst q;exact c
    · exact he j (by omega)
  · rw [lexC_ne hJ.1 hJ.2 he c] at h
    have e:(cmpF (gi a k) (gi b k)<0)=(gi a k<gi b k):=by
      unfold cmpF
      by_cases q:gi a k<gi b k
      · rw [if_pos q];simp [q]
      · rw [if_neg q];split <;> simp [q]
    simp only [e] at h
    exact h
  · have hk:k=a.length:=by omega
    rw [lexC_out (by omega) (fun j hj=>he j (by omega))] at h
    by_cases q:a.length<b.length
    · rw [if_pos q] at h;rw [decide_eq_true (by omega)];exact h
    · rw [if_neg q] at h;rw [decide_eq_false (by omega)];exact h
def SortedTo(i:Nat)(out:List (List Int)):Prop:=∀ a b,a<i→a<b→b<out.length→¬lexC (gx out b) (gx out a)<0
theorem gx_set{l:List (List Int)}{k j:Nat}{x:List Int}(h:k<l.length):gx (l.set k x) j=if j=k then x else gx l j:=by
  unfold gx
  rw [List.getD_eq_getElem?_getD,List.getElem?_set]
  by_cases e:k=j
  · subst e;simp [h]
  · rw [if_neg e,if_neg (fun q=>e q.symm),List.getD_eq_getElem?_getD]
theorem not_lt_trans{a b c:List Int}(h:¬lexC b a<0)(k:¬lexC c b<0):¬lexC c a<0:=by
  have e1:=yc1 a b
  have e2:=yc1 b c
  have e3:=yc1 a c
  have:=yg0 (a:=a) (b:=b) (c:=c) (by omega) (by omega)
  omega
theorem ygx{l:List (List Int)}(hl:l.length≤1000000000)(hx:∀ x∈l,x.length≤1000000000){R:List (List Int)→Prop}(h:∀ zs:List (List Int),zs.Perm l→zs.Pairwise (fun a b=>¬lexC b a<0)→R zs):ycR l R:=by
  refine ⟨by omega,fun m i out=>Cnt l.length (fun k=>out.Perm l∧SortedTo k out) m i,Cnt.start ⟨by simp,fun a b ha=>by omega⟩,?_⟩
  rintro m i out ⟨k,rfl,rfl,hk,hp,hs⟩
  have hol:=hp.length_eq
  refine ⟨fun hlt=>?_,fun hge=>?_⟩
  · have hkl:k<l.length:=by omega
    refine ⟨i64 (by omega),fun m' j o=>∃ t:Nat,j=t∧k+1≤t∧t+m'=l.length∧o.Perm l∧SortedTo k o∧∀ b,k<b→b<t→¬lexC (gx o b) (gx o k)<0,⟨l.length-(k+1),k+1,by omega,by omega,by omega,hp,hs,fun b h1 h2=>by omega⟩,?_⟩
    rintro m' j o ⟨t,rfl,hkt,htm,hpo,hso,hbo⟩
    have hoo:=hpo.length_eq
    refine ⟨fun hlt2=>?_,fun hge2=>?_⟩
    · have htl:t<o.length:=by omega
      have hko:k<o.length:=by omega
      rw [Int.toNat_natCast,Int.toNat_natCast]
      have hin:gx o t∈o:=by rw [yaM htl];exact List.getElem_mem htl
      refine ⟨by omega,by omega,p_before_V (hx _ (hpo.mem_iff.1 hin)) ⟨fun q=>?_,fun q=>?_⟩⟩
      · have q:=of_decide_eq_true q
        have hg:∀ b,gx ((o.set k (gx o t)).set t (gx o k)) b=if b=t then gx o k else if b=k then gx o t else gx o b:=fun b=>by
          rw [gx_set (by simpa using htl),gx_set hko]
        refine ⟨by rw [List.length_set];omega,i64 (by omega),m'-1,by omega,t+1,by omega,by omega,by omega,?_,fun a b ha hab hb=>?_,fun b h1 h2=>?_⟩
        · refine List.Perm.trans ?_ hpo
          rw [yaM htl,yaM hko]
          exact List.set_set_perm hko htl
        · rw [List.length_set,List.length_set] at hb
          rw [hg,hg,if_neg (show ¬a=t by omega),if_neg (show ¬a=k by omega)]
          by_cases e:b=t
          · rw [if_pos e];exact hso a k ha (by omega) hko
          · rw [if_neg e]
            by_cases e2:b=k
            · rw [if_pos e2];exact hso a t ha (by omega) htl
            · rw [if_neg e2];exact hso a b ha hab hb
        · rw [hg,hg,if_neg (show ¬k=t by omega),if_pos rfl]
          by_cases e:b=t
          · rw [if_pos e]
            have:=yc1 (gx o t) (gx o k);omega
          · rw [if_neg e,if_neg (by omega)]
            have h3:=hbo b h1 (by omega)
            -- gx o t < gx o k <= gx o b
            have e1:=yc1 (gx o t) (gx o k)
            exact not_lt_trans (b:=gx o k) (by omega) h3
      · refine ⟨i64 (by omega),m'-1,by omega,t+1,by omega,by omega,by omega,hpo,hso,fun b h1 h2=>?_⟩
        by_cases e:b=t
        · subst e;exact fun z=>q (decide_eq_true z)
        · exact hbo b h1 (by omega)
    · refine Cnt.next' hkl ⟨hpo,fun a b ha hab hb=>?_⟩
      by_cases e:a=k
      · subst e;exact hbo b hab (by omega)
      · exact hso a b (by omega) hab hb
  · have:k=l.length:=by omega
    refine h out hp ?_
    rw [List.pairwise_iff_getElem]
    intro a b ha hb hab
    have:=hs a b (by omega) hab hb
    rwa [yaM ha,yaM hb] at this
section
variable {E : List (Int × Int)} {es : List E3} {n : Nat} {P : Nat → Bool}
theorem CycSet.congr{Q:Nat→Bool}{m:Nat}(h:CycSet n m E P)(e:∀ i,i<m→P i=Q i):CycSet n m E Q:=by
  have hd:∀ v,dgr m E Q v=dgr m E P v:=fun v=>yaw fun i hi=>by rw [e i hi]
  refine ⟨?_,fun v hv=>by rw [hd];exact h.deg v hv,fun T hT i j hi hj hpi hpj=>h.con T (fun k hk hpk=>hT k hk (by rw [←e k hk];exact hpk)) i j hi hj (by rw [e i hi];exact hpi) (by rw [e j hj];exact hpj)⟩
  obtain ⟨i,hi,hp⟩:=h.ne
  exact ⟨i,hi,by rw [←e i hi];exact hp⟩
theorem GoodV.dc(hE:ya6 n E)(h:CycSet n E.length E P){x:Nat→Int}(hx:GoodV E P x):IsDC E (tab x E.length)∧IsDC E (tab (fun i => -x i) E.length):=by
  obtain ⟨j,hj,_,h1⟩:=hx.one
  refine ⟨(h.dc hE hx.circ (fun i hi z=>(hx.supp i hi).1 z) ⟨j,hj,by rw [h1];decide⟩ hx.pm).1,(h.dc hE hx.circ.neg (fun i hi z=>(hx.supp i hi).1 (by have z : -x i≠0:=z;omega)) ⟨j,hj,by show -x j≠0;rw [h1];decide⟩ fun i hi=>?_).1⟩
  have:=hx.pm i hi
  show -x i=0 ∨ -x i=1 ∨ -x i = -1
  omega
end
end Go.Proofs.YtencmgolklfmkaaGreat

/- Sets of vertices and the graphs on them (XInd for seats without gonality). -/
namespace Go.Proofs.YtencmgolklfmkaaGreat
open Go Go.RowKit Go.Shelf Go.Proofs.Tryz
def ygO(n:Int)(l:List Int)(i:Nat):Int:=if 0≤gi l i∧gi l i<n then (if 0<i∧gi l i≤gi l (i-1) then 9 else 0) else 2
def subR(n:Int)(l:List Int):Nat→Nat→Int
  | 0,_=>0
  | k+1,i=>if ygO n l i=0 then subR n l k (i+1) else ygO n l i
def subF(n:Int)(l:List Int):Int:=subR n l l.length 0
theorem sub_pre{n:Int}{l:List Int}{j:Nat}(h:∀ i,i<j→ygO n l i=0):∀ i,i<j→(i:Int)≤gi l i∧gi l i<n:=by
  intro i
  induction i with
  | zero =>
    intro hi
    have:=h 0 hi
    unfold ygO at this
    split at this
    · rename_i c;exact ⟨c.1,c.2⟩
    · cases this
  | succ i ih =>
    intro hi
    have h1:=ih (by omega)
    have:=h (i+1) hi
    unfold ygO at this
    split at this
    · rename_i c
      split at this
      · cases this
      · rename_i c2
        have:¬gi l (i+1)≤gi l i:=fun q=>c2 ⟨by omega,by simpa using q⟩
        exact ⟨by omega,c.2⟩
    · cases this
theorem yiF{n v:Int}{R:Bool→Prop}(h:R (decide (0≤v∧v<n))):ybp n v R:=by
  refine ⟨fun q=>?_,fun q=>?_⟩
  · rw [show decide (0≤v∧v<n)=decide (v<n) from by simp [q]] at h;exact h
  · rw [show decide (0≤v∧v<n)=false from by simp [q]] at h;exact h
theorem p_graph_Subset' {n:Int}{es:List E3}{l:List Int}{R:Int→Prop}(hel:es.length≤1000000000)(hn:n≤1000)(hg:yat n es=0)(h:R (subF n l)):yb0 n es l R:=by
  refine yc9 hel ⟨fun _=>?_,fun q=>absurd hg q⟩
  refine ⟨fun m v=>∃ j:Nat,v=j∧j+m=l.length∧subF n l=subR n l m j∧∀ i,i<j→ygO n l i=0,⟨l.length,0,rfl,by omega,rfl,fun i hi=>by omega⟩,?_⟩
  rintro m v ⟨j,rfl,hj,he,hpre⟩
  have hjn:j≤1001:=by
    by_cases e:j=0
    · omega
    · have:=sub_pre hpre (j-1) (by omega);omega
  rw [he] at h
  refine ⟨fun hlt=>⟨⟨by omega,hlt⟩,yiF ⟨fun q=>?_,fun q=>?_⟩⟩,fun q=>?_⟩
  · have q:=of_decide_eq_true q
    obtain ⟨m,rfl⟩:∃ i,m=i+1:=⟨m-1,by omega⟩
    rw [Int.toNat_natCast] at q ⊢
    rw [subR] at h he
    have e1:((j:Int)-1).toNat=j-1:=by omega
    rw [e1]
    have nx:ygO n l j=0→In64 ((j:Int)+1)∧∃ m3,m3<m+1∧∃ j_1:Nat,(j:Int)+1=j_1∧j_1+m3=l.length∧subF n l=subR n l m3 j_1∧∀ i,i<j_1→ygO n l i=0:=fun z=>by
      rw [if_pos z] at he
      exact ⟨⟨by omega,by omega⟩,m,by omega,j+1,by omega,by omega,he,fun i hi=>by
        by_cases e:i=j
        · rw [e];exact z
        · exact hpre i (by omega)⟩
    refine ⟨fun h0=>⟨⟨by omega,by omega⟩,⟨by omega,by omega⟩,fun h9=>?_,fun h9=>nx ?_⟩,fun h0=>nx ?_⟩
    · have:ygO n l j=9:=by unfold ygO;rw [if_pos q,if_pos ⟨by omega,h9⟩]
      rw [this] at h;exact h
    · unfold ygO;rw [if_pos q,if_neg (fun z=>h9 z.2)]
    · unfold ygO;rw [if_pos q,if_neg (fun z=>h0 (by omega))]
  · have q:¬(0≤gi l j∧gi l j<n):=fun z=>q (decide_eq_true (by rw [Int.toNat_natCast];exact z))
    obtain ⟨m,rfl⟩:∃ i,m=i+1:=⟨m-1,by omega⟩
    have:ygO n l j=2:=by unfold ygO;rw [if_neg q]
    rw [subR,this] at h;exact h
  · have:m=0:=by omega
    subst this;exact h
structure NrmE(n:Nat)(es:List E3):Prop where
  g:yat n es=0
  p:es.Pairwise ltE
  le:∀ x∈es,x.1≤x.2.1
  ok:EOk n es
structure SetOk(n:Nat)(l:List Int):Prop where
  r:∀ k,k<l.length→0≤gi l k∧gi l k<n
  s:∀ j k,j<k→k<l.length→gi l j<gi l k
section
variable {n : Nat} {l : List Int} (h : SetOk n l)
include h
theorem SetOk.ge{k:Nat}(hk:k<l.length):(k:Int)≤gi l k:=by
  induction k with
  | zero=>exact (h.r 0 hk).1
  | succ k ih=>have:=ih (by omega);have:=h.s k (k+1) (by omega) hk;omega
theorem SetOk.len:l.length≤n:=by
  by_cases e:l.length=0
  · omega
  · have h1:=h.ge (k:=l.length-1) (by omega);have h2:=h.r (l.length-1) (by omega);omega
theorem SetOk.inj{j k:Nat}(hj:j<l.length)(hk:k<l.length)(e:gi l j=gi l k):j=k:=by
  rcases Nat.lt_trichotomy j k with q | q | q
  · have:=h.s j k q hk;omega
  · exact q
  · have:=h.s k j q hj;omega
omit h in
theorem yhn{v:Int}(hm:v∈l):l.idxOf v<l.length∧gi l (l.idxOf v)=v:=by
  have hi:=List.idxOf_lt_length_of_mem hm
  exact ⟨hi,by rw [ybe hi,List.getElem_idxOf]⟩
theorem SetOk.mono{a b:Int}(ha:a∈l)(hb:b∈l)(hab:a≤b):l.idxOf a≤l.idxOf b:=by
  obtain ⟨h1,h2⟩:=yhn ha;obtain ⟨h3,h4⟩:=yhn hb
  refine Nat.not_lt.1 fun q=>?_
  have:=h.s _ _ q h1;omega
end
section
variable {n : Nat} {l : List Int} (h : SetOk n l)
include h
end
end Go.Proofs.YtencmgolklfmkaaGreat

/- Bonds: what the program finds. -/
namespace Go.Proofs.YtencmgolklfmkaaGreat
open Go Go.RowKit Go.Shelf Go.Proofs.Tryz
set_option maxRecDepth 100000
theorem castF_len(F:List Nat):(yeG F).length=F.length:=by simp [yeG]
theorem castF_i(F:List Nat):yeG F=i_ F:=rfl
theorem yeJ{F:List Nat}(hF:ycb F){v:Nat}(hv:v<12){R:Int→Prop}(h:R (root F v)):yaW (yeG F) (v:Int) R:=by
  unfold yaW
  refine ⟨fun m x=>∃ u:Nat,x=u∧m=u∧u<12∧root F u=root F v,⟨v,v,rfl,rfl,hv,rfl⟩,?_⟩
  rintro m _ ⟨u,rfl,hm,hu,hr⟩
  have hg:gi (yeG F) u=(gn F u:Int):=yhS (by rw [hF.1];exact hu)
  have hle:=hF.2 u hu
  simp only [Int.toNat_natCast,hg]
  refine ⟨by omega,fun e=>?_,fun e=>⟨gn F u,by omega,gn F u,rfl,rfl,by omega,?_⟩⟩
  · have e:gn F u=u:=by omega
    rw [←hr,ycm e] at h;exact h
  · rw [←hr,yed hF hu (by omega)]
theorem ygi{F:List Nat}(hF:ycb F){a b:Nat}(ha:a<12)(hb:b<12){R:List Int→Prop}(h:R (yeG (ycu F a b))):ya3 (yeG F) (a:Int) (b:Int) R:=by
  unfold ya3
  refine yeJ hF ha (yeJ hF hb ?_)
  have h1:=(ycj hF a ha).1
  have h2:=(ycj hF b hb).1
  refine ⟨?_,?_⟩
  · rw [mxF_eq];omega
  · rw [castF_join];exact h
theorem p_cgrown{R:List Int→Prop}(h:R (yeG ycr)):ybM R:=by
  unfold ybM
  refine ⟨fun m v f=>Cnt 12 (fun k=>f.length=12∧∀ j,j<k→gi f j=j) m v,Cnt.start ⟨by simp,fun j hj=>by omega⟩,?_⟩
  rintro m v f ⟨k,rfl,rfl,hk,hl,hf⟩
  refine ⟨fun hlt=>?_,fun hge=>?_⟩
  · rw [Int.toNat_natCast]
    refine ⟨by omega,Cnt.next (by omega) (by omega) ⟨by simpa using hl,fun j hj=>?_⟩⟩
    rw [ycM (by omega)]
    by_cases e:j=k
    · rw [if_pos e,e]
    · rw [if_neg e];exact hf j (by omega)
  · have e:f=yeG ycr:=by
      refine ygj (by rw [hl];rfl) fun j hj=>?_
      rw [hf j (by omega),yhS (by simpa [ycr] using (by omega:j<12)),yfl (by simpa [ycr] using (by omega:j<12))]
      simp [ycr]
    rw [←e] at h
    exact ⟨hl,h⟩
section
variable {n : Nat} {es : List E3}
theorem ygz{p:E3→Bool}(h:ycL es):ycL (es.filter p):=fun x hx=>h x (List.mem_filter.1 hx).1
theorem yif{k:Nat}(h:ycL es):ycL (es.take k):=fun x hx=>h x (List.mem_of_mem_take hx)
theorem p_cjoined(hl:es.length≤1000000000)(hE:ycL es){R:List Int→Prop}(h:R (yeG (yap es))):yb1 (n:Int) es R:=by
  unfold yb1
  refine p_cgrown ⟨rfl,fun m v f=>Cnt es.length (fun k=>f=yeG (yap (es.take k))) m v,Cnt.start rfl,?_⟩
  rintro m v f ⟨k,rfl,rfl,hk,hf⟩
  have hFk:=yaU (es.take k) (yif hE)
  refine ⟨fun hlt=>?_,fun hge=>?_⟩
  · have hkl:k<es.length:=by omega
    rw [Int.toNat_natCast]
    have hx:=hE (ge es k) (by rw [ydg hkl];exact List.getElem_mem hkl)
    obtain ⟨a,ha⟩:∃ a:Nat,(ge es k).1=a:=⟨(ge es k).1.toNat,by omega⟩
    obtain ⟨b,hb⟩:∃ b:Nat,(ge es k).2.1=b:=⟨(ge es k).2.1.toNat,by omega⟩
    rw [hf,ha,hb]
    refine ⟨by omega,ygi hFk (by omega) (by omega) (Cnt.next hkl (by omega) ?_)⟩
    rw [List.take_add_one,List.getElem?_eq_getElem hkl,←ydg hkl]
    simp only [Option.toList_some]
    rw [yfW,ha,hb];rfl
  · have:k=es.length:=by omega
    subst this
    rw [List.take_length] at hf
    rw [hf]
    exact ⟨by rw [castF_len];rw [List.take_length] at hFk;exact hFk.1,h⟩
def yhm(n:Nat)(es:List E3)(U:Nat→Bool):Prop:=(∃ v,v<n∧U v=true)∧∀ h:Nat→Nat,(∀ x∈es,U x.1.toNat=true→U x.2.1.toNat=true→h x.1.toNat=h x.2.1.toNat)→∀ u v,u<n→v<n→U u=true→U v=true→h u=h v
def inE(U:Nat→Bool)(x:E3):Bool:=U x.1.toNat&&U x.2.1.toNat
theorem whole_iff(hE:ycL es)(hn:n≤12){U:Nat→Bool} : yhm n es U↔(∃ v,v<n∧U v=true)∧∀ u v,u<n→v<n→U u=true→U v=true→root (yap (es.filter (inE U))) u=root (yap (es.filter (inE U))) v:=by
  have hE2:=ygz (p:=inE U) hE
  constructor
  · rintro ⟨h1,h2⟩
    exact ⟨h1,h2 _ fun x hx u1 u2=>ygC _ hE2 x (List.mem_filter.2 ⟨hx,by simp [inE,u1,u2]⟩)⟩
  · rintro ⟨h1,h2⟩
    refine ⟨h1,fun h hh u v hu hv huu huv=>?_⟩
    have hx:∀ x∈es.filter (inE U),(fun w=>decide (h w=h v)) x.1.toNat=(fun w=>decide (h w=h v)) x.2.1.toNat:=fun x hx=>by
      obtain ⟨q1,q2⟩:=List.mem_filter.1 hx
      unfold inE at q2
      rw [Bool.and_eq_true] at q2
      simp only
      rw [hh x q1 q2.1 q2.2]
    have e1:=yeZ (n:=n) (S:=fun w=>decide (h w=h v)) _ hE2 hx u (by omega)
    have e2:=yeZ (n:=n) (S:=fun w=>decide (h w=h v)) _ hE2 hx v (by omega)
    rw [h2 u v hu hv huu huv,e2] at e1
    have e3:decide (h u=h v)=true:=e1.symm.trans (decide_eq_true rfl)
    exact of_decide_eq_true e3
theorem one_key{τ:Type}{m:List (List Int×τ)}(hk:m.Pairwise (fun p q=>p.1≠q.1)):m.length=1↔(∃ k,(mget m k).isSome=true)∧∀ k k',(mget m k).isSome=true→(mget m k').isSome=true→k=k':=by
  match m,hk with
  | [],_=>simp [mget]
  | [(k0,v0)],_ =>
    refine ⟨fun _=>⟨⟨k0,by simp [mget]⟩,fun k k' h h'=>?_⟩,fun _=>rfl⟩
    have:∀ k,(mget [(k0,v0)] k).isSome=true→k=k0:=fun k h=>by
      unfold mget at h
      by_cases q:k0=k
      · exact q.symm
      · simp [q,mget] at h
    rw [this k h,this k' h']
  | p::q::t,hk =>
    refine ⟨fun h=>by simp at h,fun h=>?_⟩
    have e1:=mget_at hk (j:=0) (k:=p.1) (v:=p.2) rfl
    have e2:=mget_at hk (j:=1) (k:=q.1) (v:=q.2) rfl
    have:=h.2 p.1 q.1 (by rw [e1];rfl) (by rw [e2];rfl)
    exact absurd this ((List.pairwise_cons.1 hk).1 q (by simp))
theorem yfU(hl:es.length≤1000000000)(hE:EOk n es)(hn:n≤12){U:Nat→Bool}{S:List Bool}(hS:S.length=n)(hU:∀ v,v<n→gb S v=U v){R:Bool→Prop}(h:∀ b:Bool,(b=true↔yhm n es U)→R b):ybL (n:Int) es S R:=by
  have hE12:ycL es:=yfX hE hn
  unfold ybL
  refine p_cgrown ⟨rfl,fun m v f=>Cnt es.length (fun k=>f=yeG (yap ((es.take k).filter (inE U)))) m v,Cnt.start rfl,?_⟩
  rintro m v f ⟨k,rfl,rfl,hk,hf⟩
  have hFk:=yaU ((es.take k).filter (inE U)) (ygz (yif hE12))
  refine ⟨fun hlt=>?_,fun hge=>?_⟩
  · have hkl:k<es.length:=by omega
    rw [Int.toNat_natCast]
    have hx:=hE (ge es k) (by rw [ydg hkl];exact List.getElem_mem hkl)
    obtain ⟨a,ha⟩:∃ a:Nat,(ge es k).1=a:=⟨(ge es k).1.toNat,by omega⟩
    obtain ⟨b,hb⟩:∃ b:Nat,(ge es k).2.1=b:=⟨(ge es k).2.1.toNat,by omega⟩
    have htk:(es.take (k+1)).filter (inE U)=(es.take k).filter (inE U)++if inE U (ge es k)=true then [ge es k] else []:=by
      rw [List.take_add_one,List.getElem?_eq_getElem hkl,←ydg hkl]
      simp only [Option.toList_some]
      rw [List.filter_append,List.filter_cons,List.filter_nil]
    have hU1:inE U (ge es k)=(U a&&U b):=by unfold inE;rw [ha,hb];rfl
    rw [hf,ha,hb,Int.toNat_natCast,Int.toNat_natCast,hU a (by omega),hU b (by omega)]
    refine ⟨by omega,by omega,fun q1=>⟨by omega,fun q2=>ygi hFk (by omega) (by omega) (Cnt.next hkl (by omega) ?_),fun q2=>Cnt.next hkl (by omega) ?_⟩,fun q1=>Cnt.next hkl (by omega) ?_⟩
    · rw [htk,if_pos (by rw [hU1,q1,q2];rfl),yfW,ha,hb];rfl
    · rw [htk,if_neg (by rw [hU1,q1,Bool.true_and];exact q2),List.append_nil]
    · rw [htk,if_neg (by rw [hU1];intro z;rw [Bool.and_eq_true] at z;exact q1 z.1),List.append_nil]
  · have:k=es.length:=by omega
    subst this
    rw [List.take_length] at hf hFk
    subst hf
    refine ⟨fun m v M=>Cnt n (fun k=>KOk 1 M∧∀ key,(mget M key).isSome=true↔∃ v,v<k∧U v=true∧key=[(root (yap (es.filter (inE U))) v:Int)]) m v,Cnt.start ⟨KOk.nil 1,fun key=>by simp [mget]⟩,?_⟩
    rintro m v M ⟨k,rfl,rfl,hk,hM,hkey⟩
    refine ⟨fun hlt=>?_,fun hge=>?_⟩
    · have hkn:k<n:=by omega
      rw [Int.toNat_natCast,hU k hkn]
      refine ⟨by omega,fun q=>yeJ hFk (by omega) ?_,fun q=>Cnt.next hkn (by omega) ⟨hM,fun key=>?_⟩⟩
      · have hr:=(ycj hFk k (by omega)).1
        have hko:KeyOk 1 [((root (yap (es.filter (inE U))) k:Nat):Int)]:=⟨rfl,fun x hx=>by rw [List.mem_singleton.1 hx];exact i64 (by omega)⟩
        refine ⟨hM,hko,Cnt.next hkn (by omega) ⟨hM.put hko _,fun key=>?_⟩⟩
        rw [mget_put]
        by_cases e:[((root (yap (es.filter (inE U))) k:Nat):Int)]=key
        · rw [if_pos e]
          exact ⟨fun _=>⟨k,by omega,q,e.symm⟩,fun _=>rfl⟩
        · rw [if_neg e,hkey]
          constructor
          · rintro ⟨v,h1,h2⟩;exact ⟨v,by omega,h2⟩
          · rintro ⟨v,h1,h2,h3⟩
            by_cases z:v=k
            · subst z;exact absurd h3.symm e
            · exact ⟨v,by omega,h2,h3⟩
      · rw [hkey]
        constructor
        · rintro ⟨v,h1,h2⟩;exact ⟨v,by omega,h2⟩
        · rintro ⟨v,h1,h2,h3⟩
          by_cases z:v=k
          · subst z;exact absurd h2 q
          · exact ⟨v,by omega,h2,h3⟩
    · have:k=n:=by omega
      subst this
      refine h _ ?_
      rw [decide_eq_true_iff,whole_iff hE12 hn,show ((M.length:Nat):Int)=1↔M.length=1 by omega,one_key hM.1]
      constructor
      · rintro ⟨⟨key,hk1⟩,h2⟩
        obtain ⟨v,h3,h4,_⟩:=(hkey key).1 hk1
        refine ⟨⟨v,h3,h4⟩,fun u v hu hv huu huv=>?_⟩
        have:=h2 _ _ ((hkey _).2 ⟨u,hu,huu,rfl⟩) ((hkey _).2 ⟨v,hv,huv,rfl⟩)
        have:=(List.cons.inj this).1
        omega
      · rintro ⟨⟨v,h3,h4⟩,h2⟩
        refine ⟨⟨_,(hkey _).2 ⟨v,h3,h4,rfl⟩⟩,fun key key' h5 h6=>?_⟩
        obtain ⟨a,a1,a2,rfl⟩:=(hkey _).1 h5
        obtain ⟨b,b1,b2,rfl⟩:=(hkey _).1 h6
        rw [h2 a b a1 b1 a2 b2]
def BondP(n:Nat)(es:List E3)(U:Nat→Bool):Prop:=yd0 n es=true∧yhm n es U∧yhm n es fun v=>!U v
theorem p_connect_Bond(hl:es.length≤1000000)(hg:yat n es=0){l:List Int}(hs:SetOk n l){R:Bool→Int→Prop}(h:∀ b:Bool,(b=true↔BondP n es fun v:Nat=>decide ((v:Int)∈l))→R b 0):ycy (n:Int) es l R:=by
  obtain ⟨hE,hn1,hn12⟩:=ybr hg
  have hlen:l.length≤n:=hs.len
  obtain ⟨U,hU⟩:∃ U:Nat→Bool,U=fun v:Nat=>decide ((v:Int)∈l):=⟨_,rfl⟩
  rw [←hU] at h
  unfold ycy
  refine yc9 (by omega) ⟨fun _=>p_graph_Subset (by omega) (by omega) hg hs.r (fun k hk=>hs.s k (k+1) (by omega) hk) ⟨fun _=>?_,fun q=>absurd rfl q⟩,fun q=>absurd hg q⟩
  refine ⟨fun a b=>a=List.replicate n false∧b=List.replicate n false,?_,⟨by omega,by rw [Int.toNat_natCast];exact ⟨rfl,rfl⟩⟩,⟨by omega,by rw [Int.toNat_natCast];exact ⟨rfl,rfl⟩⟩⟩
  rintro _ _ ⟨rfl,rfl⟩
  refine ⟨fun m v a b=>Cnt n (fun k=>a.length=n∧b.length=n∧∀ v,v<k→gb a v=U v∧gb b v = !U v) m v,Cnt.start ⟨by simp,by simp,fun v hv=>by omega⟩,?_⟩
  rintro m v a b ⟨k,rfl,rfl,hk,ha,hb,hab⟩
  refine ⟨fun hlt=>?_,fun hge=>?_⟩
  · have hkn:k<n:=by omega
    refine yg7 (by omega) ?_
    rw [Int.toNat_natCast]
    refine ⟨by omega,by rw [List.length_set];omega,by omega,Cnt.next hkn (by omega) ⟨by simpa using ha,by simpa using hb,fun v hv=>?_⟩⟩
    rw [ycX (by omega),ycX (by omega),ycX (by omega),if_pos (rfl:k=k)]
    by_cases e:v=k
    · subst e;rw [if_pos rfl,if_pos rfl,hU];exact ⟨rfl,rfl⟩
    · rw [if_neg e,if_neg e];exact hab v (by omega)
  · have:k=n:=by omega
    subst this
    have hE12:=yfX hE hn12
    refine p_cjoined (by omega) hE12 ⟨by rw [castF_len];exact (yaU es hE12).1,?_⟩
    refine ⟨yap es,castF_i _,yaU es hE12,by omega,by omega,?_⟩
    have hconn:(((((ybT (yap es) (k:Int).toNat).map i_).length:Nat):Int)=1)↔yd0 k es=true:=by
      rw [List.length_map,ycg]
      unfold yd0
      rw [beq_iff_eq]
      omega
    have hf:¬BondP k es U→R false 0:=fun q=>h false ⟨fun z=>(by cases z),fun z=>absurd z q⟩
    refine ⟨fun q=>yfU (by omega) hE hn12 ha (fun v hv=>(hab v hv).1) fun b1 hb1=>⟨fun q1=>yfU (by omega) hE hn12 hb (fun v hv=>(hab v hv).2) fun b2 hb2=>?_,fun q1=>hf fun z=>q1 (hb1.2 z.2.1)⟩,fun q=>hf fun z=>q (hconn.2 z.1)⟩
    refine h b2 ⟨fun z=>⟨hconn.1 q,hb1.1 q1,hb2.1 z⟩,fun z=>hb2.2 z.2.2⟩
end
end Go.Proofs.YtencmgolklfmkaaGreat

/- Bonds: program and reference give the same list. -/
namespace Go.Proofs.YtencmgolklfmkaaGreat
open Go Go.RowKit Go.Shelf Go.Proofs.Tryz
set_option maxRecDepth 100000
theorem yjQ{l:List Int}{v:Int}{R:Bool→Prop}(hl:l.length≤1000000000)(h:R (decide (v∈l))):yev l v R:=by
  refine ⟨fun m i=>∃ k:Nat,i=k∧k+m=l.length∧(v∈l↔v∈l.drop k),⟨l.length,0,rfl,by omega,by simp⟩,?_⟩
  rintro m i ⟨k,rfl,hm,he⟩
  refine ⟨fun hlt=>?_,fun hge=>?_⟩
  · have hk:k<l.length:=by omega
    rw [List.drop_eq_getElem_cons hk,List.mem_cons,←ybe hk] at he
    rw [Int.toNat_natCast]
    refine ⟨⟨by omega,hlt⟩,fun c=>?_,fun c=>⟨⟨by omega,by omega⟩,m-1,by omega,k+1,by omega,by omega,?_⟩⟩
    · rw [decide_eq_true (he.2 (.inl c.symm))] at h;exact h
    · exact ⟨fun z=>(he.1 z).resolve_left fun q=>c q.symm,fun z=>he.2 (.inr z)⟩
  · have:k=l.length:=by omega
    rw [this,List.drop_length] at he
    rw [decide_eq_false (fun z=>by simpa using he.1 z)] at h;exact h
theorem yfe{n:Int}{es:List E3}{R:Int→Prop}(hl:es.length≤1000000000)(h:R (ybx n es)):ydb n es R:=by
  refine yhV hl ⟨fun c=>?_,fun c=>?_⟩
  · obtain ⟨k,rfl,G⟩:=gr_of c
    refine yde hl c ⟨fun q=>?_,fun q=>?_⟩
    · unfold ybx at h;rw [if_pos c,if_pos q] at h;exact h
    · unfold ybx at h;rw [if_pos c,if_neg q] at h;exact h
  · unfold ybx at h;rw [if_neg c] at h;exact h
theorem yfZ{n:Int}{es:List E3}(h:ybx n es=0):yat n es=0∧yd0 n es=true:=by
  unfold ybx at h
  by_cases q:yat n es=0
  · rw [if_pos q] at h
    by_cases c:yd0 n es=true
    · exact ⟨q,c⟩
    · rw [if_neg c] at h;omega
  · rw [if_neg q] at h;exact absurd h q
theorem ycZ{n:Int}{es:List E3}{R:List (Int×Int)→Int→Prop}(hl:es.length≤100)(h1:ybx n es≠0→R [] (ybx n es))(h2:ybx n es=0→R (ybd es) 0):yb5 n es R:=by
  refine ⟨by omega,fun c=>⟨fun q=>?_,fun q=>?_⟩,fun c=>?_⟩
  · have q:=of_decide_eq_true q
    have e:ybx n es=0:=by unfold ybx;rw [if_pos q.1,if_pos q.2]
    exact yhl hl (fun z=>absurd q.1 z) fun _=>h2 e
  · have e:ybx n es=13:=by unfold ybx;rw [if_pos c,if_neg (fun z=>q (decide_eq_true ⟨c,z⟩))]
    rw [e] at h1;exact h1 (by decide)
  · have e:ybx n es=yat n es:=by unfold ybx;rw [if_neg c]
    rw [e] at h1;exact h1 c
theorem yhp{l:List Int}(hl:l.length≤1000000000)(h:∀ k,k<l.length → -1048576≤gi l k∧gi l k≤1048576){R:Int→Prop}(hR:R 0):ybG l R:=by
  unfold ybG yaR ybs
  refine ⟨Cnt l.length (fun _=>True),Cnt.start trivial,?_⟩
  rintro m _ ⟨k,rfl,rfl,hk,_⟩
  refine ⟨fun hlt=>?_,fun hge=>?_⟩
  · have hkl:k<l.length:=by omega
    rw [Int.toNat_natCast]
    have h1:=h k hkl
    refine ⟨by omega,fun _=>?_,fun q=>absurd h1.1 q⟩
    rw [decide_eq_true h1.2]
    exact ⟨fun z=>by simp at z,fun _=>Cnt.next hkl (by omega) trivial⟩
  · exact ⟨fun z=>by simp at z,fun _=>hR⟩
theorem p_lat_mapped{E:List (Int×Int)}{F:Int→Int→(Int→Prop)→Prop}{f:Nat→Int}(hl:E.length≤1000000)(hF:∀ k,k<E.length→∀ R':Int→Prop,R' (f k)→F (gx E k).1 (gx E k).2 R'){R:List Int→Prop}(h:R (tab f E.length)):ybK E F R:=by
  refine ⟨by omega,fun m v out=>Cnt E.length (fun k=>out.length=E.length∧∀ j,j<k→gi out j=f j) m v,Cnt.start ⟨by simp,fun j hj=>by omega⟩,?_⟩
  rintro m v out ⟨k,rfl,rfl,hk,ho,hj⟩
  refine ⟨fun hlt=>?_,fun hge=>?_⟩
  · have hkl:k<E.length:=by omega
    rw [Int.toNat_natCast]
    refine ⟨by omega,hF k hkl _ ⟨by omega,Cnt.next hkl (by omega) ⟨by simpa using ho,fun j hj2=>?_⟩⟩⟩
    rw [ycM (by omega)]
    by_cases e:j=k
    · rw [if_pos e,e]
    · rw [if_neg e];exact hj j (by omega)
  · have:k=E.length:=by omega
    subst this
    rw [←yjN ho f hj] at h;exact h
def indI(U:Nat→Bool)(v:Nat):Int:=if U v=true then 1 else 0
theorem indI_range(U:Nat→Bool)(v:Nat):0≤indI U v∧indI U v≤1:=by unfold indI;split <;> omega
def yhB(E:List (Int×Int))(f:Nat→Int):List Int:=tab (fun i=>f (gx E i).2.toNat-f (gx E i).1.toNat) E.length
section
variable {E : List (Int × Int)} {es : List E3} {n : Nat}
theorem p_lat_drops{f:Nat→Int}(hE:ya6 n E)(hm:E.length≤1000000)(hf:∀ v,v<n → -1000000≤f v∧f v≤1000000){R:List Int→Prop}(h:R (yhB E f)):ycY E (tab f n) R:=by
  refine p_lat_mapped (f:=fun i=>f (gx E i).2.toNat-f (gx E i).1.toNat) hm (fun k hk R' hR=>?_) h
  have he:=hE (gx E k) (by rw [yaM hk];exact List.getElem_mem hk)
  have h1:=hf (gx E k).1.toNat (by omega)
  have h2:=hf (gx E k).2.toNat (by omega)
  refine ⟨by decide,?_,by decide,?_,?_⟩
  · rw [yaI];omega
  · rw [yaI];omega
  · rw [ycc _ (by omega),ycc _ (by omega)]
    exact ⟨i64 (by omega),hR⟩
theorem yhu{f:Nat→Int}(G:GrOk n es E)(hl:es.length≤100)(hf:∀ v,v<n → -500000≤f v∧f v≤500000){R:List Int→Int→Prop}(h:R (yhB E f) 0):ybR (n:Int) es (tab f n) R:=by
  have hn:=G.few
  have hlen:=G.len
  refine yhl hl (fun z=>absurd G.g z) fun _=>?_
  rw [G.e]
  refine ⟨fun _=>⟨fun _=>yhp (by rw [yaI];omega) (fun k hk=>?_) ⟨fun _=>?_,fun q=>absurd rfl q⟩,fun q=>absurd (by rw [yaI]) q⟩,fun q=>absurd rfl q⟩
  · rw [yaI] at hk
    rw [ycc _ hk]
    have:=hf k hk;omega
  · refine p_lat_drops G.ok (by omega) (fun v hv=>by have:=hf v hv;omega) ?_
    refine yhp (by unfold yhB;rw [yaI];omega) (fun k hk=>?_) ⟨fun _=>h,fun q=>absurd rfl q⟩
    unfold yhB at hk ⊢
    rw [yaI] at hk
    rw [ycc _ hk]
    have he:=G.ok (gx E k) (by rw [yaM hk];exact List.getElem_mem hk)
    have h1:=hf (gx E k).1.toNat (by omega)
    have h2:=hf (gx E k).2.toNat (by omega)
    omega
theorem yix{l:List Nat}{v:Nat} : (v:Int)∈ybQ l↔v∈l:=by
  unfold ybQ
  rw [List.mem_map]
  refine ⟨fun ⟨x,h1,h2⟩=>?_,fun h=>⟨v,h,rfl⟩⟩
  have h2:(x:Int)=v:=h2
  have:x=v:=by omega
  rwa [←this]
theorem yjR(P:Nat→Bool)(n:Nat):(chL P n).Pairwise (· < ·):=List.Pairwise.filter _ List.pairwise_lt_range
theorem ye2(P:Nat→Bool)(n:Nat):SetOk n (ybQ (chL P n)) where
  r:=fun k hk=>by
    rw [ybB] at hk
    rw [yfn hk]
    have:=(yiN hk).1;omega
  s:=fun j k hjk hk=>by
    rw [ybB] at hk
    rw [yfn hk,yfn (by omega)]
    have:=List.pairwise_iff_getElem.1 (yjR P n) j k (by omega) hk hjk
    omega
theorem yhL(P:Nat→Bool)(n:Nat):chL P (n+1)=chL P n++if P n=true then [n] else []:=by
  unfold chL
  rw [List.range_succ,List.filter_append,List.filter_cons,List.filter_nil]
theorem yjL{P:Nat→Bool}{n v:Nat} : v∈chL P n↔v<n∧P v=true:=by
  unfold chL;rw [List.mem_filter,List.mem_range]
theorem BondP.congr{U U':Nat→Bool}(hE:EOk n es)(h:∀ v,v<n→U v=U' v):BondP n es U↔BondP n es U':=by
  have hx:∀ x∈es,U x.1.toNat=U' x.1.toNat∧U x.2.1.toNat=U' x.2.1.toNat:=fun x hx=>by
    have:=hE x hx
    exact ⟨h _ (by omega),h _ (by omega)⟩
  have key:∀ V V':Nat→Bool,(∀ v,v<n→V v=V' v)→yhm n es V→yhm n es V':=fun V V' hv ⟨⟨v,h1,h2⟩,h3⟩=>by
    refine ⟨⟨v,h1,by rw [←hv v h1];exact h2⟩,fun g hg a b ha hb ha2 hb2=>h3 g (fun x hx q1 q2=>?_) a b ha hb (by rw [hv a ha];exact ha2) (by rw [hv b hb];exact hb2)⟩
    have:=hE x hx
    exact hg x hx (by rw [←hv _ (by omega)];exact q1) (by rw [←hv _ (by omega)];exact q2)
  have hn:∀ v,v<n→(!U v) = !U' v:=fun v hv=>by rw [h v hv]
  exact ⟨fun ⟨h1,h2,h3⟩=>⟨h1,key _ _ h h2,key _ _ hn h3⟩,fun ⟨h1,h2,h3⟩=>⟨h1,key _ _ (fun v hv=>(h v hv).symm) h2,key _ _ (fun v hv=>(hn v hv).symm) h3⟩⟩
noncomputable def isB (n:Nat) (es:List E3) (w:Nat):Bool:=@decide (BondP n es fun v=>w.testBit v) (Classical.propDecidable _)
theorem isB_iff{w:Nat} : isB n es w=true↔BondP n es fun v=>w.testBit v:=by unfold isB;exact @decide_eq_true_iff _ (Classical.propDecidable _)
noncomputable def bondW (n:Nat) (es:List E3) (k:Nat):List Nat:=(List.range k).filter fun w=>decide (1≤w)&&isB n es w
theorem bondW_succ(k:Nat):bondW n es (k+1)=bondW n es k++if 1≤k∧isB n es k=true then [k] else []:=by
  unfold bondW
  rw [List.range_succ,List.filter_append,List.filter_cons,List.filter_nil]
  simp only [Bool.and_eq_true,decide_eq_true_iff]
theorem bondW_len(k:Nat):(bondW n es k).length≤k:=by
  unfold bondW
  refine Nat.le_trans (List.length_filter_le _ _) ?_
  rw [List.length_range];exact Nat.le_refl _
def bitV(w:Nat)(v:Nat):Int:=indI (fun v=>w.testBit v) v
noncomputable def bondLst (n:Nat) (es:List E3) (E:List (Int×Int)) (k:Nat):List (List Int):=(bondW n es k).map fun w=>yhB E (bitV w)
theorem yel(k:Nat):bondLst n es E (k+1)=bondLst n es E k++if 1≤k∧isB n es k=true then [yhB E (bitV k)] else []:=by
  unfold bondLst
  rw [bondW_succ,List.map_append]
  split <;> rfl
theorem ye7(k:Nat):(bondLst n es E k).length≤k:=by unfold bondLst;rw [List.length_map];exact bondW_len k
theorem pow2{n:Nat}(hn:n≤12):2^n≤4096:=by
  have:=Nat.pow_le_pow_right (show 0<2 by decide) hn
  simpa using this
theorem yfK(hl:es.length≤100)(G:GrOk n es E)(hc:yd0 n es=true){R:List (List Int)→Int→Prop}(h:∀ zs:List (List Int),zs.Perm (bondLst n es E (2^n-1))→zs.Pairwise (fun a b=>¬lexC b a<0)→R zs 0):ybj (n:Int) es R:=by
  have hn:=G.few
  have h1n:=G.one
  have hE:=(ybr G.g).1
  have hp:=pow2 hn
  have hlen:=G.len
  have hp1:2≤2^n:=by
    have:=Nat.pow_le_pow_right (show 0<2 by decide) h1n
    simpa using this
  have hpw:(1:Int)*2^(n:Int).toNat=((2^n:Nat):Int):=by rw [Int.toNat_natCast,Int.one_mul];push_cast;rfl
  have hj:ybx (n:Int) es=0:=by unfold ybx;rw [if_pos G.g,if_pos hc]
  refine ycZ hl (fun q=>absurd hj q) fun _=>⟨fun _=>?_,fun q=>absurd rfl q⟩
  refine ⟨fun m v w=>∃ k:Nat,w=k∧1≤k∧k+m=2^n-1∧v=bondLst n es E k,⟨2^n-1-1,1,rfl,by omega,by omega,rfl⟩,?_⟩
  rintro m v w ⟨k,rfl,hk1,hkm,rfl⟩
  rw [hpw]
  refine ⟨by omega,i64 (by omega),i64 (by omega),fun hlt=>⟨by omega,?_⟩,fun hge=>?_⟩
  · have hkp:k<2^n-1:=by omega
    have hbl:(bondLst n es E k).length≤k:=ye7 k
    refine ⟨fun m' s i f=>Cnt n (fun t=>s=ybQ (chL (fun v=>k.testBit v) t)∧f.length=n∧(∀ j,j<t→gi f j=bitV k j)∧∀ j,t≤j→gi f j=0) m' i,Cnt.start ⟨rfl,by simp,fun j hj=>by omega,fun j _=>yjK _ _⟩,?_⟩
    rintro m' s i f ⟨t,rfl,rfl,ht,hs,hf,hf1,hf2⟩
    refine ⟨fun hlt2=>?_,fun hge2=>?_⟩
    · have htn:t<n:=by omega
      have hsl:s.length≤t:=by rw [hs,ybB];exact ygw t
      rw [bit_and k t,Int.toNat_natCast]
      refine ⟨by omega,⟨?_,?_,by decide,by decide⟩,fun q=>⟨by omega,by omega,Cnt.next htn (by omega) ⟨?_,by simpa using hf,fun j hj=>?_,fun j hj=>?_⟩⟩,fun q=>Cnt.next htn (by omega) ⟨?_,hf,fun j hj=>?_,fun j hj=>hf2 j (by omega)⟩⟩
      · have:((k:Int) / 2^t)=((k / 2^t:Nat):Int):=by push_cast;rfl
        rw [this];exact Int.natCast_nonneg _
      · have:((k:Int) / 2^t)=((k / 2^t:Nat):Int):=by push_cast;rfl
        rw [this]
        have:=Nat.div_le_self k (2^t);omega
      · have q:k.testBit t=true:=by
          by_cases z:k.testBit t=true
          · exact z
          · rw [if_neg z] at q;omega
        rw [hs,yhL,if_pos q,yfQ];rfl
      · have q:k.testBit t=true:=by
          by_cases z:k.testBit t=true
          · exact z
          · rw [if_neg z] at q;omega
        rw [ycM (by omega)]
        by_cases e:j=t
        · rw [if_pos e,e];unfold bitV indI;rw [if_pos q]
        · rw [if_neg e];exact hf1 j (by omega)
      · rw [ycM (by omega),if_neg (by omega)];exact hf2 j (by omega)
      · have q:¬k.testBit t=true:=fun z=>q (if_pos z)
        rw [hs,yhL,if_neg q,List.append_nil]
      · have q:¬k.testBit t=true:=fun z=>q (if_pos z)
        by_cases e:j=t
        · rw [e,hf2 t (by omega)];unfold bitV indI;rw [if_neg q]
        · exact hf1 j (by omega)
    · have:t=n:=by omega
      subst this
      have hft:f=tab (bitV k) t:=yjN hf _ hf1
      rw [hs,hft]
      refine p_connect_Bond (by omega) G.g (ye2 _ t) fun b hb=>⟨fun _=>⟨fun q=>?_,fun q=>?_⟩,fun q=>absurd rfl q⟩
      all_goals
        have hb2:b=true↔isB t es k=true:=by
          rw [hb,isB_iff]
          refine BondP.congr hE fun v hv=>?_
          rw [Bool.eq_iff_iff,decide_eq_true_iff,yix,yjL]
          exact ⟨fun z=>z.2,fun z=>⟨hv,z⟩⟩
      · refine yhu G hl (fun v _=>by have:=indI_range (fun v=>k.testBit v) v;unfold bitV;omega) ⟨fun _=>⟨by omega,i64 (by omega),m-1,by omega,k+1,by omega,by omega,by omega,?_⟩,fun z=>absurd rfl z⟩
        rw [yel,if_pos ⟨hk1,hb2.1 q⟩]
      · refine ⟨i64 (by omega),m-1,by omega,k+1,by omega,by omega,by omega,?_⟩
        rw [yel,if_neg (fun z=>q (hb2.2 z.2)),List.append_nil]
  · have:k=2^n-1:=by omega
    subst this
    have hbl:(bondLst n es E (2^n-1)).length≤2^n-1:=ye7 _
    refine ⟨by omega,fun x hx=>?_,fun zs hp hs=>h zs hp hs⟩
    unfold bondLst at hx
    obtain ⟨w,_,rfl⟩:=List.mem_map.1 hx
    unfold yhB;rw [yaI];omega
end
end Go.Proofs.YtencmgolklfmkaaGreat

/- The reference's bonds; lists that are sorted are equal if they hold the same. -/
namespace Go.Proofs.YtencmgolklfmkaaGreat
open Go Go.RowKit Go.Shelf Go.Proofs.Tryz
set_option maxRecDepth 100000
def LexLe(a b:List Int):Prop:=¬lexC b a<0
theorem lexLe_antisymm{a b:List Int}(h:LexLe a b)(k:LexLe b a):a=b:=by
  unfold LexLe at h k
  rw [yc1] at h
  exact yiK _ _ (by omega)
theorem yiQ:∀ {a b:List (List Int)},a.Perm b→a.Pairwise (fun a b=>¬lexC b a<0)→b.Pairwise (fun a b=>¬lexC b a<0)→a=b
  | [],b,hp,_,_=>by rw [List.nil_perm.1 hp]
  | x::s,[],hp,_,_=>by have:=hp.length_eq;simp at this
  | x::s,y::t,hp,ha,hb=>by
    have hxy:x=y:=by
      rcases List.mem_cons.1 (hp.mem_iff.1 (List.mem_cons_self)) with e | e
      · exact e
      · rcases List.mem_cons.1 (hp.mem_iff.2 (List.mem_cons_self)) with e2 | e2
        · exact e2.symm
        · exact lexLe_antisymm ((List.pairwise_cons.1 ha).1 y e2) ((List.pairwise_cons.1 hb).1 x e)
    subst hxy
    rw [yiQ ((List.perm_cons _).1 hp) (List.pairwise_cons.1 ha).2 (List.pairwise_cons.1 hb).2]
section
variable {E : List (Int × Int)} {es : List E3} {n : Nat}
theorem W_mem(hE:EOk n es){u v:Nat}(h:0<W es u v):∃ x∈es,(x.1=u∧x.2.1=v)∨(x.1=v∧x.2.1=u):=by
  refine Classical.byContradiction fun q=>?_
  have:∀ l:List E3,(∀ x∈l,x∈es)→W l u v=0:=fun l=>by
    induction l with
    | nil=>intro _;rfl
    | cons x l ih =>
      intro hl
      rw [ygV,ih fun y hy=>hl y (List.mem_cons_of_mem _ hy)]
      unfold w1
      rw [if_neg]
      · rfl
      · rintro ⟨_,h2⟩
        exact q ⟨x,hl x List.mem_cons_self,h2⟩
  rw [this es fun x hx=>hx] at h
  omega
end
end Go.Proofs.YtencmgolklfmkaaGreat

/- Products, differences, slicing: program and reference do alike. -/
namespace Go.Proofs.YtencmgolklfmkaaGreat
open Go Go.RowKit Go.Shelf Go.Proofs.Tryz
set_option maxRecDepth 100000
def dotL(x y:List Int):Int:=dot_ x.length (gi x) (gi y)
def ybi(x y:List Int):List Int:=tab (fun i=>gi x i-gi y i) x.length
def Bd(B:Nat)(x:List Int):Prop:=∀ i,i<x.length→(gi x i).natAbs≤B
theorem mul_bd{a b:Int}{B C:Nat}(ha:a.natAbs≤B)(hb:b.natAbs≤C):(a*b).natAbs≤B*C:=by
  rw [Int.natAbs_mul];exact Nat.mul_le_mul ha hb
theorem sm_bd{f:Nat→Int}{K:Nat} : ∀ {m:Nat},(∀ i,i<m→(f i).natAbs≤K)→(sm m f).natAbs≤m*K
  | 0,_=>by simp [sm]
  | m+1,h=>by
    have h1:=sm_bd (m:=m) fun i hi=>h i (by omega)
    have h2:=h m (by omega)
    rw [sm,Nat.succ_mul];omega
theorem dot_bd{x y:List Int}{B C:Nat}(hx:Bd B x)(hy:Bd C y)(hl:y.length=x.length){k:Nat}(hk:k≤x.length):(sm k fun i=>gi x i*gi y i).natAbs≤k*(B*C) :=
  sm_bd fun i hi=>mul_bd (hx i (by omega)) (hy i (by omega))
theorem yih{x y:List Int}{B C:Nat}(hx:Bd B x)(hy:Bd C y)(hl:y.length=x.length):(dotL x y).natAbs≤x.length*(B*C):=dot_bd hx hy hl (Nat.le_refl _)
theorem ybl(x y:List Int):(ybi x y).length=x.length:=by unfold ybi;rw [yaI]
theorem ybS{x y:List Int}{i:Nat}(hi:i<x.length):gi (ybi x y) i=gi x i-gi y i:=by unfold ybi;rw [ycc _ hi]
theorem yiA{x:List Int}{B:Nat}(h:dotL x x≤((B*B:Nat):Int)):Bd B x:=fun i hi=>by
  have h1:=sq_le_dot (m:=x.length) (x:=gi x) hi
  have h2:gi x i*gi x i≤((B*B:Nat):Int):=Int.le_trans h1 h
  refine Nat.le_of_not_lt fun q=>?_
  have h3:=Nat.mul_lt_mul_of_lt_of_le q (Nat.le_of_lt q) (by omega)
  have h4:((gi x i*gi x i).natAbs:Int)=gi x i*gi x i:=Int.natAbs_of_nonneg (sq_nn _)
  rw [Int.natAbs_mul] at h4
  omega
theorem ycD{x y:List Int}{R:Int→Prop}(hl:y.length=x.length)(hm:x.length≤1000)(hx:Bd 2000000 x)(hy:Bd 2000000 y)(h:R (dotL x y)):ya2 x y R:=by
  refine ⟨fun m s v=>Cnt x.length (fun k=>s=sm k fun i=>gi x i*gi y i) m v,Cnt.start rfl,?_⟩
  rintro m s v ⟨k,rfl,rfl,hk,hs⟩
  refine ⟨fun hlt=>?_,fun hge=>?_⟩
  · have hkl:k<x.length:=by omega
    have h1:=mul_bd (hx k hkl) (hy k (by omega))
    have h2:=dot_bd hx hy hl (Nat.le_of_lt hkl)
    have h3:=Nat.mul_le_mul_right (2000000*2000000) (show k≤1000 by omega)
    rw [Int.toNat_natCast,hs]
    exact ⟨by omega,by omega,i64 (by omega),i64 (by omega),Cnt.next hkl (by omega) rfl⟩
  · have:k=x.length:=by omega
    subst this
    rw [hs];exact h
theorem p_r16_Dot{x y:List Int}{R:Int→Prop}(hl:y.length=x.length)(hm:x.length≤1000)(hx:Bd 2000000 x)(hy:Bd 2000000 y)(h:R (dotL x y)):yi1 x y R:=by
  refine ⟨fun m s v=>Cnt x.length (fun k=>s=sm k fun i=>gi x i*gi y i) m v,Cnt.start rfl,?_⟩
  rintro m s v ⟨k,rfl,rfl,hk,hs⟩
  refine ⟨fun hlt=>?_,fun hge=>?_⟩
  · have hkl:k<x.length:=by omega
    have h1:=mul_bd (hx k hkl) (hy k (by omega))
    have h2:=dot_bd hx hy hl (Nat.le_of_lt hkl)
    have h3:=Nat.mul_le_mul_right (2000000*2000000) (show k≤1000 by omega)
    rw [Int.toNat_natCast,hs,(i64 (a:=gi x k*gi y k) (by omega)).wrap,(i64 (by omega)).wrap,(i64 (a:=(k:Int)+1) (by omega)).wrap]
    exact ⟨by omega,by omega,Cnt.next' hkl rfl⟩
  · have:k=x.length:=by omega
    subst this
    rw [hs];exact h
theorem p_r16_DotAny{x y:List Int}{R:Int→Prop}(hl:y.length=x.length)(hm:x.length≤1000000000)(h:∀ s,R s):yi1 x y R:=by
  refine ⟨fun m s v=>Cnt x.length (fun _=>True) m v,Cnt.start trivial,?_⟩
  rintro m s v ⟨k,rfl,rfl,hk,_⟩
  refine ⟨fun hlt=>?_,fun hge=>h _⟩
  have hkl:k<x.length:=by omega
  rw [(i64 (a:=(k:Int)+1) (by omega)).wrap]
  exact ⟨by omega,by omega,Cnt.next' hkl trivial⟩
theorem ydE{x y:List Int}{R:List Int→Prop}(hl:y.length=x.length)(hm:x.length≤1000)(hx:Bd 4000000 x)(hy:Bd 4000000 y)(h:R (ybi x y)):ybg x y R:=by
  refine yiP (by omega) ⟨fun m v out=>Cnt y.length (fun k=>out.length=x.length∧(∀ j,j<k→gi out j=gi x j-gi y j)∧∀ j,k≤j→gi out j=gi x j) m v,Cnt.start ⟨rfl,fun j hj=>by omega,fun j _=>rfl⟩,?_⟩
  rintro m v out ⟨k,rfl,rfl,hk,ho,h1,h2⟩
  refine ⟨fun hlt=>?_,fun hge=>?_⟩
  · have hkl:k<y.length:=by omega
    have b1:=hx k (by omega)
    have b2:=hy k hkl
    rw [Int.toNat_natCast,h2 k (Nat.le_refl _)]
    refine ⟨by omega,by omega,i64 (by omega),Cnt.next hkl (by omega) ⟨by simpa using ho,fun j hj=>?_,fun j hj=>?_⟩⟩
    · rw [ycM (by omega)]
      by_cases e:j=k
      · rw [if_pos e,e]
      · rw [if_neg e];exact h1 j (by omega)
    · rw [ycM (by omega),if_neg (by omega)];exact h2 j (by omega)
  · have:k=y.length:=by omega
    subst this
    rw [show out=ybi x y from yjN ho _ fun i hi=>h1 i (by omega)];exact h
theorem p_r49_Less{x y:List Int}{R:List Int→Prop}(hl:y.length=x.length)(hm:x.length≤1000)(hx:Bd 4000000 x)(hy:Bd 4000000 y)(h:R (ybi x y)):yiX x y R:=by
  refine ⟨fun m out v=>Cnt x.length (fun k=>out=tab (fun i=>gi x i-gi y i) k) m v,Cnt.start rfl,?_⟩
  rintro m out v ⟨k,rfl,rfl,hk,ho⟩
  refine ⟨fun hlt=>?_,fun hge=>?_⟩
  · have hkl:k<x.length:=by omega
    have b1:=hx k hkl
    have b2:=hy k (by omega)
    rw [Int.toNat_natCast]
    refine ⟨by omega,by omega,i64 (by omega),by rw [ho,yaI];omega,Cnt.next hkl (by omega) ?_⟩
    rw [ho];unfold tab;rw [List.range_succ,List.map_append];rfl
  · have:k=x.length:=by omega
    subst this
    rw [ho];exact h
def ya8(x:List Int)(k:Int)(v:List Int):Bool:=decide (k*dotL v v<2*dotL x v)
def ydR(l:List (List Int))(x:List Int)(k:Int):Option (List Int):=l.find? (ya8 x k)
def Vs(m:Nat)(l:List (List Int)):Prop:=∀ v∈l,v.length=m∧Bd 1 v
theorem Bd.mono{B C:Nat}{x:List Int}(h:Bd B x)(k:B≤C):Bd C x:=fun i hi=>Nat.le_trans (h i hi) k
section
variable {l : List (List Int)} {x : List Int} {k : Int}
theorem behind_ok{v:List Int}(hv:v.length=x.length)(hb:Bd 1 v)(hm:x.length≤1000)(hx:Bd 2000000 x)(hk:k.natAbs≤2000000):In64 (2*dotL x v)∧In64 (k*dotL v v):=by
  have h1:=yih hx hb hv
  have h2:=yih hb hb rfl
  have h3:=Nat.mul_le_mul_right (2000000*1) hm
  have h4:=Nat.mul_le_mul_right (1*1) (show v.length≤1000 by omega)
  have h5:=mul_bd hk (show (dotL v v).natAbs≤1000 by omega)
  exact ⟨i64 (by omega),i64 (by omega)⟩
theorem yeo(hl:l.length≤1000000000)(hv:Vs x.length l)(hm:x.length≤1000)(hx:Bd 2000000 x)(hk:k.natAbs≤2000000):ybI l x k (fun p=>p <+: l.filter (ya8 x k)) (fun p=>p=l.filter (ya8 x k)):=by
  refine ⟨fun m pre v=>Cnt l.length (fun t=>pre=(l.take t).filter (ya8 x k)) m v,Cnt.start rfl,?_⟩
  rintro m pre v ⟨t,rfl,rfl,ht,hp⟩
  refine ⟨fun hlt=>?_,fun hge=>?_⟩
  · have htl:t<l.length:=by omega
    rw [Int.toNat_natCast]
    obtain ⟨v1,v2⟩:=hv (gx l t) (by rw [yaM htl];exact List.getElem_mem htl)
    obtain ⟨o1,o2⟩:=behind_ok v1 v2 hm hx hk
    have hsn:(l.take (t+1)).filter (ya8 x k)=pre++if ya8 x k (gx l t)=true then [gx l t] else []:=by
      rw [hp,List.take_add_one,List.getElem?_eq_getElem htl,←yaM htl]
      simp only [Option.toList_some]
      rw [List.filter_append,List.filter_cons,List.filter_nil]
    refine ⟨by omega,ycD v1 hm hx (v2.mono (by decide)) ⟨o1,ycD rfl (by omega) (v2.mono (by decide)) (v2.mono (by decide)) ⟨o2,fun q=>?_,fun q=>?_⟩⟩⟩
    · rw [if_pos (show ya8 x k (gx l t)=true from decide_eq_true q)] at hsn
      refine ⟨?_,Cnt.next htl (by omega) hsn.symm,trivial⟩
      rw [←hsn]
      exact (List.take_prefix _ _).filter _
    · rw [if_neg (show ¬ya8 x k (gx l t)=true from fun z=>q (of_decide_eq_true z)),List.append_nil] at hsn
      exact Cnt.next htl (by omega) hsn.symm
  · have:t=l.length:=by omega
    subst this
    rw [List.take_length] at hp
    exact hp
theorem step_none:ydR l x k=none↔l.filter (ya8 x k)=[]:=by
  unfold ydR
  rw [List.find?_eq_none,List.filter_eq_nil_iff]
theorem step_head{v:List Int}{t:List (List Int)}(h:[v] <+: l.filter (ya8 x k)):ydR l x k=some v:=by
  unfold ydR
  rw [←List.head?_filter]
  obtain ⟨t,ht⟩:=h
  rw [←ht];rfl
theorem yh6{v:List Int}(h:ydR l x k=some v):v∈l∧k*dotL v v<2*dotL x v:=by
  have h2:ya8 x k v=true:=List.find?_some (p:=ya8 x k) h
  exact ⟨List.mem_of_find?_eq_some h,of_decide_eq_true h2⟩
theorem dot_lessL(v:List Int):dotL (ybi x v) (ybi x v)=dotL x x-2*dotL x v+dot_ x.length (gi v) (gi v):=by
  unfold dotL
  rw [ybl,←ygA]
  exact ybA (fun i hi=>ybS hi) fun i hi=>ybS hi
theorem yiu{v:List Int}(hv:Vs x.length l)(h:ydR l x 1=some v):dotL (ybi x v) (ybi x v)<dotL x x:=by
  obtain ⟨h1,h2⟩:=yh6 h
  rw [dot_lessL,show dot_ x.length (gi v) (gi v)=dotL v v by unfold dotL;rw [(hv v h1).1]]
  omega
end
def slF(l:List (List Int)):Nat→List Int→Nat→Option (List Int×Nat)
  | 0,x,n=>match ydR l x 1 with
    | none=>some (x,n)
    | some _=>none
  | f+1,x,n=>match ydR l x 1 with
    | none=>some (x,n)
    | some v=>slF l f (ybi x v) (n+1)
section
variable {l : List (List Int)} {x : List Int}
theorem yej{f n:Nat}(h:ydR l x 1=none):slF l f x n=some (x,n):=by
  cases f <;> simp only [slF,h]
theorem ygd{f n:Nat}{v:List Int}(h:ydR l x 1=some v):slF l (f+1) x n=slF l f (ybi x v) (n+1):=by
  simp only [slF,h]
theorem yis{n:Nat}{v:List Int}(h:ydR l x 1=some v):slF l 0 x n=none:=by
  simp only [slF,h]
theorem slF_le:∀ {f:Nat} {x:List Int} {n:Nat} {y:List Int} {k:Nat},slF l f x n=some (y,k)→k≤n+f∧ydR l y 1=none
  | 0,x,n,y,k,h=>by
    cases hs:ydR l x 1 with
    | none=>rw [yej hs] at h;cases h;exact ⟨Nat.le_refl _,hs⟩
    | some v=>rw [yis hs] at h;cases h
  | f+1,x,n,y,k,h=>by
    cases hs:ydR l x 1 with
    | none=>rw [yej hs] at h;cases h;exact ⟨by omega,hs⟩
    | some v =>
      rw [ygd hs] at h
      obtain ⟨h1,h2⟩:=slF_le h
      exact ⟨by omega,h2⟩
structure SlOk(l:List (List Int))(x:List Int):Prop where
  len:l.length≤1000000000
  vs:Vs x.length l
  m:x.length≤1000
  sq:dotL x x≤4000000000000
theorem SlOk.bd(h:SlOk l x):Bd 2000000 x:=yiA (by have:=h.sq;omega)
theorem SlOk.next(h:SlOk l x){v:List Int}(hs:ydR l x 1=some v):SlOk l (ybi x v) where
  len:=h.len
  vs:=by rw [ybl];exact h.vs
  m:=by rw [ybl];exact h.m
  sq:=by have:=yiu h.vs hs;have:=h.sq;omega
theorem yfp(H:SlOk l x)(hne:∀ v∈l,v≠[]){R:List Int→Int→Bool→Prop}(h1:∀ y k,slF l 4096 x 0=some (y,k)→R y (k:Nat) true)(h2:slF l 4096 x 0=none→R [] 0 false):yb4 l x R:=by
  refine yiP (by have:=H.m;omega) ⟨fun m y n=>∃ k:Nat,n=k∧k+m=4096∧SlOk l y∧slF l m y k=slF l 4096 x 0,⟨4096,0,rfl,rfl,H,rfl⟩,?_⟩
  rintro m y n ⟨k,rfl,hkm,Hy,he⟩
  refine ⟨_,_,yeo Hy.len Hy.vs Hy.m Hy.bd (by decide),fun p v=>p=[v]∧ydR l y 1=some v,fun p=>p=[],rfl,?_,?_,?_⟩
  · rintro pre v rfl hp
    exact ⟨rfl,step_head (t:=[]) hp⟩
  · rintro ys rfl hr
    have hs:=step_none.2 hr.symm
    rw [yej hs] at he
    exact h1 y k he.symm
  · rintro ys first ⟨rfl,hs⟩ nil hnil
    have hm:=(yh6 hs).1
    refine ⟨fun q=>absurd (hnil q) (hne _ hm),fun _=>⟨fun q=>?_,fun q=>?_⟩⟩
    · have:m=0:=by omega
      subst this
      rw [yis hs] at he
      exact h2 he.symm
    · obtain ⟨m',rfl⟩:∃ m',m=m'+1:=⟨m-1,by omega⟩
      obtain ⟨v1,v2⟩:=Hy.vs _ hm
      refine ydE v1 Hy.m (Hy.bd.mono (by decide)) (v2.mono (by decide)) ⟨i64 (by omega),m',by omega,k+1,by omega,by omega,Hy.next hs,?_⟩
      rw [←he,ygd hs]
end
end Go.Proofs.YtencmgolklfmkaaGreat

/- Errors of graphs and vectors; Cycles, Slice and Inside, of program and reference. -/
namespace Go.Proofs.YtencmgolklfmkaaGreat
open Go Go.RowKit Go.Shelf Go.Proofs.Tryz
set_option maxRecDepth 100000
def smlE(n:Int)(es:List E3):Int:=if ybx n es≠0 then ybx n es else if 14<(ybd es).length then 12 else 0
def inR(a:Int):Bool:=decide (-1048576≤a∧a≤1048576)
def vecE(n:Int)(es:List E3)(x:List Int):Int:=if smlE n es≠0 then smlE n es else if x.length≠(ybd es).length then 8 else if x.all inR then 0 else 2
theorem yjh{n:Int}{es:List E3}(h:smlE n es=0):ybx n es=0∧(ybd es).length≤14:=by
  unfold smlE at h
  by_cases q:ybx n es=0
  · rw [if_neg (fun z=>z q)] at h
    by_cases c:14<(ybd es).length
    · rw [if_pos c] at h;omega
    · exact ⟨q,by omega⟩
  · rw [if_pos q] at h;exact absurd h q
theorem ye0{n:Int}{es:List E3}{x:List Int}(h:vecE n es x=0):smlE n es=0∧x.length=(ybd es).length∧x.all inR=true:=by
  unfold vecE at h
  by_cases q:smlE n es=0
  · rw [if_neg (fun z=>z q)] at h
    by_cases c:x.length=(ybd es).length
    · rw [if_neg (fun z=>z c)] at h
      by_cases d:x.all inR=true
      · exact ⟨q,c,d⟩
      · rw [if_neg d] at h;omega
    · rw [if_pos c] at h;omega
  · rw [if_pos q] at h;exact absurd h q
section
variable {n : Int} {es : List E3} {x : List Int}
theorem yfY{R:List (Int×Int)→Int→Prop}(hl:es.length≤100)(h1:smlE n es≠0→R [] (smlE n es))(h2:smlE n es=0→R (ybd es) 0):yco n es R:=by
  refine ycZ hl (fun q=>⟨fun z=>absurd z q,fun _=>?_⟩) fun q=>⟨fun _=>⟨fun c=>?_,fun c=>?_⟩,fun z=>absurd rfl z⟩
  · have e:smlE n es=ybx n es:=by unfold smlE;rw [if_pos q]
    rw [e] at h1;exact h1 q
  · have e:smlE n es=12:=by unfold smlE;rw [if_neg (fun z=>z q),if_pos (by omega)]
    rw [e] at h1;exact h1 (by decide)
  · exact h2 (by unfold smlE;rw [if_neg (fun z=>z q),if_neg (by omega)])
theorem p_r49_given{R:Int→Prop}(hl:es.length≤100)(h:R (smlE n es)):yeq n es R:=by
  refine yfe (by omega) ⟨fun q=>?_,fun q=>?_⟩
  · obtain ⟨g,_⟩:=yfZ q
    obtain ⟨k,rfl,G⟩:=gr_of g
    refine yji G hl ⟨fun c=>?_,fun c=>?_⟩
    · have e:smlE (k:Int) es=12:=by unfold smlE;rw [if_neg (fun z=>z q),if_pos (by omega)]
      rw [e] at h;exact h
    · have e:smlE (k:Int) es=0:=by unfold smlE;rw [if_neg (fun z=>z q),if_neg (by omega)]
      rw [e] at h;exact h
  · have e:smlE n es=ybx n es:=by unfold smlE;rw [if_pos q]
    rw [e] at h;exact h
theorem yiC{R:List (List Int)→Int→Prop}(hl:es.length≤100)(h1:vecE n es x≠0→R [] (vecE n es x))(h2:vecE n es x=0→yba (ybd es) n (fun r=>R r 0)):yby n es x R:=by
  refine yfY hl (fun q=>⟨fun z=>absurd z q,fun _=>?_⟩) fun q=>⟨fun _=>⟨fun c=>?_,fun c=>?_⟩,fun z=>absurd rfl z⟩
  · have e:vecE n es x=smlE n es:=by unfold vecE;rw [if_pos q]
    rw [e] at h1;exact h1 q
  · have hlen:=(yjh q).2
    have hx:vecE n es x=if x.all inR then 0 else 2:=by unfold vecE;rw [if_neg (fun z=>z q),if_neg (fun z=>z (by omega))]
    refine ⟨Cnt x.length (fun k=>∀ j,j<k→inR (gi x j)=true),Cnt.start (fun j hj=>by omega),?_⟩
    rintro m _ ⟨k,rfl,rfl,hk,hj⟩
    have bad:k<x.length→inR (gi x k)=false→R [] 2:=fun hkl hb=>by
      have:x.all inR=false:=by
        rw [List.all_eq_false]
        exact ⟨gi x k,yjg hkl,by simp [hb]⟩
      rw [this] at hx
      rw [hx] at h1
      exact h1 (by decide)
    refine ⟨fun hlt=>?_,fun hge=>?_⟩
    · have hkl:k<x.length:=by omega
      rw [Int.toNat_natCast]
      refine ⟨by omega,fun q1=>bad hkl (decide_eq_false (by omega)),fun q1=>⟨fun q2=>bad hkl (decide_eq_false (by omega)),fun q2=>Cnt.next hkl (by omega) fun j hj2=>?_⟩⟩
      by_cases e:j=k
      · rw [e];exact decide_eq_true (by omega)
      · exact hj j (by omega)
    · have:k=x.length:=by omega
      subst this
      have:x.all inR=true:=by
        rw [List.all_eq_true]
        intro a ha
        obtain ⟨j,hj2,rfl⟩:=List.getElem_of_mem ha
        have:=hj j hj2
        rwa [ybe hj2] at this
      rw [this] at hx
      exact h2 hx
  · have e:vecE n es x=8:=by unfold vecE;rw [if_neg (fun z=>z q),if_pos (by omega)]
    rw [e] at h1;exact h1 (by decide)
theorem p_r16_ints{m:Int}{R:Int→Prop}(hm:x.length≤1000000)(h:R (if (x.length:Int)≠m then 8 else if x.all inR then 0 else 2)):yiY x m R:=by
  refine ⟨fun c=>?_,fun c=>?_⟩
  · rw [if_neg (fun z=>z c)] at h
    subst c
    refine ⟨Cnt x.length (fun k=>∀ j,j<k→inR (gi x j)=true),Cnt.start (fun j hj=>by omega),?_⟩
    rintro m _ ⟨k,rfl,rfl,hk,hj⟩
    have bad:k<x.length→inR (gi x k)=false→R 2:=fun hkl hb=>by
      have:x.all inR=false:=by
        rw [List.all_eq_false]
        exact ⟨gi x k,yjg hkl,by simp [hb]⟩
      rw [this] at h;exact h
    refine ⟨fun hlt=>?_,fun hge=>?_⟩
    · have hkl:k<x.length:=by omega
      rw [Int.toNat_natCast]
      refine ⟨by omega,fun q1=>⟨fun q2=>Cnt.next hkl (by omega) fun j hj2=>?_,fun q2=>bad hkl (decide_eq_false fun z=>q2 (decide_eq_true z.2))⟩,fun q1=>⟨fun z=>(by cases z),fun _=>bad hkl (decide_eq_false (by omega))⟩⟩
      by_cases e:j=k
      · rw [e];exact decide_eq_true ⟨q1,of_decide_eq_true q2⟩
      · exact hj j (by omega)
    · have:k=x.length:=by omega
      subst this
      have:x.all inR=true:=by
        rw [List.all_eq_true]
        intro a ha
        obtain ⟨j,hj2,rfl⟩:=List.getElem_of_mem ha
        have:=hj j hj2
        rwa [ybe hj2] at this
      rw [this] at h;exact h
  · rw [if_pos c] at h;exact h
theorem p_loops{m:Nat}(hm:m≤14)(hx:x.length≤1000000){R:List Int→Int→Prop}(h:∀ r,R r (if (x.length:Int)≠m then 8 else if x.all inR then 0 else 2)):yiZ (m:Int) (fun r3=>yiU 1 r3 x R):=by
  have main:∀ L:List E3,L.length≤1→yat 1 L=0→ybd L=List.replicate m (0,0)→yiU 1 L x R:=fun L hL hg he=>by
    have G:GrOk 1 L (List.replicate m (0,0)):=by
      obtain ⟨k,hk,G⟩:=gr_of hg
      have:k=1:=by omega
      subst this
      rwa [he] at G
    refine yhV (by omega) ⟨fun _=>yji (n:=1) G (by omega) ?_,fun q=>absurd hg q⟩
    rw [List.length_replicate]
    refine p_r16_ints hx ⟨fun q=>?_,fun q=>?_⟩
    · have hxl:x.length=m:=Classical.byContradiction fun z=>by rw [if_pos (by omega)] at q;omega
      have hall:x.all inR=true:=by
        rw [if_neg (by omega)] at q
        by_cases z:x.all inR=true
        · exact z
        · rw [if_neg z] at q;omega
      have hxr:∀ k,k<x.length → -1048576≤gi x k∧gi x k≤1048576:=fun k hk=>of_decide_eq_true (List.all_eq_true.1 hall _ (yjg hk))
      refine ⟨by decide,yjX (n:=1) G (by omega) ?_⟩
      refine ⟨fun m' e out=>Cnt m (fun _=>out=[0]) m' e,Cnt.start rfl,?_⟩
      rintro m' e out ⟨k,rfl,rfl,hk,rfl⟩
      rw [List.length_replicate]
      refine ⟨fun hlt=>?_,fun hge=>?_⟩
      · have hkm:k<m:=by omega
        have hgx:gx (List.replicate m ((0:Int),(0:Int))) k=(0,0):=by rw [yaM (by simpa using hkm)];simp
        have hk2:=hxr k (by omega)
        rw [Int.toNat_natCast,hgx]
        have e1:gi [(0:Int)] (0:Int).toNat=0:=rfl
        have e2:∀ a:Int,([(0:Int)].set (0:Int).toNat a)=[a]:=fun a=>rfl
        have e3:∀ a:Int,gi [a] (0:Int).toNat=a:=fun a=>rfl
        simp only [e1,e2,e3]
        have e4:([0+gi x k-gi x k]:List Int)=[0]:=by rw [show (0+gi x k-gi x k)=(0:Int) by omega]
        exact ⟨by omega,by decide,by decide,by decide,by omega,i64 (by omega),by simp,i64 (by omega),Cnt.next hkm (by omega) e4⟩
      · refine p_r16_ints (by decide) ?_
        have:(if (([(0:Int)].length:Nat):Int)≠(([(0:Int)].length:Nat):Int) then (8:Int) else if [(0:Int)].all inR then 0 else 2)=0:=by decide
        rw [this]
        have h0:=h [0]
        rw [q] at h0
        exact ⟨fun _=>⟨fun _=>h0,fun z=>absurd rfl z⟩,fun z=>absurd rfl z⟩
    · exact h []
  refine ⟨fun q=>main [] (by decide) (by decide) ?_,fun q=>main _ (Nat.le_refl 1) ?_ ?_⟩
  · have:m=0:=by omega
    subst this;rfl
  · have:1≤m:=by omega
    unfold yat
    rw [if_pos (by decide)]
    match m,hm,this with
    | 1,_,_=>decide
    | 2,_,_=>decide
    | 3,_,_=>decide
    | 4,_,_=>decide
    | 5,_,_=>decide
    | 6,_,_=>decide
    | 7,_,_=>decide
    | 8,_,_=>decide
    | 9,_,_=>decide
    | 10,_,_=>decide
    | 11,_,_=>decide
    | 12,_,_=>decide
    | 13,_,_=>decide
    | 14,_,_=>decide
  · unfold ybd
    simp
theorem yja{R:Int→Prop}(hl:es.length≤100)(hx:x.length≤1000000)(h:R (vecE n es x)):yiV n es x R:=by
  refine p_r49_given hl ⟨fun q=>?_,fun q=>?_⟩
  · obtain ⟨q1,q2⟩:=yjh q
    obtain ⟨g,_⟩:=yfZ q1
    obtain ⟨k,rfl,G⟩:=gr_of g
    refine yji G hl (p_loops q2 hx fun _=>?_)
    have e:vecE (k:Int) es x=if (x.length:Int)≠((ybd es).length:Nat) then 8 else if x.all inR then 0 else 2:=by
      unfold vecE;rw [if_neg (fun z=>z q)]
      by_cases c:x.length=(ybd es).length
      · rw [if_neg (fun z=>z c)];exact (if_neg (fun z=>z (by omega))).symm
      · rw [if_pos c];exact (if_pos (by omega)).symm
    rw [←e];exact h
  · have e:vecE n es x=smlE n es:=by unfold vecE;rw [if_pos q]
    rw [e] at h;exact h
structure FewP(n:Int)(es:List E3)(x:List Int):Prop where
  es40:es.length≤40
  x60:x.length≤60
  sm:yat n es=0→(ybd es).length≤14→n≤5∧(ybd es).length≤8
  rng:∀ i,i<x.length→inR (gi x i)=true→(gi x i).natAbs≤400
theorem size_eq(h:yat n es=0):(es.map (·.2.2)).sum=((ybd es).length:Int):=by
  obtain ⟨k,rfl,G⟩:=gr_of h
  rw [G.size]
theorem p_r08_FewTrees{R:Bool→Prop}(h:R (smallF n es 5 8)):ydh n es R:=p_r08_small h
theorem small_getV{a b:Int}(h:smallF n es a b=true):es.length≤40∧(yat n es=0→n≤a∧((ybd es).length:Int)≤b):=by
  obtain ⟨h1,h2⟩:=of_decide_eq_true h
  exact ⟨h1,fun q=>by rw [←size_eq q];exact h2 q⟩
theorem p_r49_Few{R:Bool→Prop}(h1:FewP n es x→R true)(h2:R false):yf4 n es x R:=by
  refine ⟨x.length≤60∧es.length≤40∧(yat n es=0→(ybd es).length≤14→n≤5∧(ybd es).length≤8),fun ⟨j1,j2,j3⟩=>?_,p_r08_FewTrees ⟨fun q=>⟨fun _=>h2,fun c=>?_⟩,fun q=>?_⟩⟩
  · refine ⟨Cnt x.length (fun k=>∀ i,i<k→inR (gi x i)=true→(gi x i).natAbs≤400),Cnt.start (fun i hi=>by omega),?_⟩
    rintro m _ ⟨k,rfl,rfl,hk,hj⟩
    refine ⟨fun hlt=>?_,fun hge=>?_⟩
    · have hkl:k<x.length:=by omega
      rw [Int.toNat_natCast]
      have nx:(inR (gi x k)=true→(gi x k).natAbs≤400)→In64 ((k:Int)+1)∧∃ m',m'<x.length-k∧Cnt x.length (fun k=>∀ i,i<k→inR (gi x i)=true→(gi x i).natAbs≤400) m' ((k:Int)+1):=fun hz=>Cnt.next hkl (by omega) fun i hi=>by
        by_cases e:i=k
        · rw [e];exact hz
        · exact hj i (by omega)
      have nr:¬(-1048576≤gi x k∧gi x k≤1048576)→In64 ((k:Int)+1)∧∃ m',m'<x.length-k∧Cnt x.length (fun k=>∀ i,i<k→inR (gi x i)=true→(gi x i).natAbs≤400) m' ((k:Int)+1):=fun hz=>nx fun z=>absurd (of_decide_eq_true z) hz
      refine ⟨by omega,fun c1=>⟨fun c2=>⟨fun _=>h2,fun c3=>nr fun z=>c3 z.1⟩,fun c2=>nr fun z=>c2 z.2⟩,fun c1=>⟨fun c2=>⟨fun c3=>⟨fun _=>h2,fun c4=>nr fun z=>c4 z.1⟩,fun c3=>nr fun z=>c3 z.2⟩,fun c2=>nx fun _=>by omega⟩⟩
    · have:k=x.length:=by omega
      subst this
      exact h1 ⟨j2,j1,j3,hj⟩
  · obtain ⟨s1,s2⟩:=small_getV q
    exact ⟨by omega,s1,fun g _=>⟨(s2 g).1,by have:=(s2 g).2;omega⟩⟩
  · refine p_r08_Check0 ⟨fun g=>⟨fun c=>?_,fun _=>h2⟩,fun _=>h2⟩
    obtain ⟨k,rfl,G⟩:=gr_of g
    refine yji G (by omega) ⟨fun c2=>⟨fun _=>h2,fun c3=>⟨by omega,by omega,fun _ z=>?_⟩⟩,fun _=>h2⟩
    omega
end
end Go.Proofs.YtencmgolklfmkaaGreat

/- Pure forms of functions, made by program (pf.py), each with the proof that the code does so. -/
namespace Go.Proofs.YtencmgolklfmkaaGreat
open Go Go.RowKit Go.Shelf Go.Proofs.Tryz
set_option maxRecDepth 100000
set_option maxHeartbeats 8000000
def yc6(R:Int→(List E3)→Prop):Prop :=
R 3 ([(0,1,1),(0,2,1),(1,2,1)])
theorem yhz{O:Nat→Prop}{w:World}{R:Int→(List E3)→Prop}(h:yc6 R)(hO:∀ k,O k→k<w.heap.size) :
    Calls Tryz.prog 38 #[] w fun e w'=>∃ r r2 Ar lr cr,e = .returned (.agg #[(ii r),(.slice Ar lr cr)])∧Sep w no O w' (rl [Res.own c3 93 Ar lr cr r2])∧R r r2:=by
  unfold yc6 at h;have hS:Sep w no O w (rl []):=Sep.start w hO;refine yal (l:=[]) func38 rfl ntmps38 zY (zs (zn (yaS yak ?_)));intro g w2 hN;replace hS:Sep w no O w2 (stl _ 0 (Res.box 24 g [(ii 0),(.slice none 0 0)])):=hS.new 0 rfl hN;clear hN;refine zb (yaa (zs (zn (ycw (l:=[(0,(ii 0)),(1,(ii 1)),(2,(ii 1))]) (cells:=[(ii 0),(ii 1),(ii 1)]) (places:=[(0,1),(1,1),(2,1)]) (bp3 rfl rfl rfl) underlying93 yaT (by kernel_rfl) rfl ?_))));refine zb (zn (ycw (l:=[(0,(ii 0)),(1,(ii 2)),(2,(ii 1))]) (cells:=[(ii 0),(ii 2),(ii 1)]) (places:=[(0,1),(1,1),(2,1)]) (bp3 rfl rfl rfl) underlying93 yaT (by kernel_rfl) rfl ?_));refine zb (zn (ycw (l:=[(0,(ii 1)),(1,(ii 2)),(2,(ii 1))]) (cells:=[(ii 1),(ii 2),(ii 1)]) (places:=[(0,1),(1,1),(2,1)]) (bp3 rfl rfl rfl) underlying93 yaT (by kernel_rfl) rfl ?_));refine zb (zn (yaK (l:=[(0,(.agg #[(ii 0),(ii 1),(ii 1)])),(1,(.agg #[(ii 0),(ii 2),(ii 1)])),(2,(.agg #[(ii 1),(ii 2),(ii 1)]))]) (cells:=[(ii 0),(ii 1),(ii 1),(ii 0),(ii 2),(ii 1),(ii 1),(ii 2),(ii 1)]) (bp3 rfl rfl rfl) underlying22 yaT rfl rfl ?_));intro g2 w3 hN;replace hS:=hS.litf (n:=3) 1 rfl (fP (fI .i64) (fP (fI .i64) (fI .i64))) hN ([(0,1,1),(0,2,1),(1,2,1)]:List E3) rfl (by decide) rfl;clear hN;refine zb (zn (ycw (l:=[(0,(ii 3)),(1,(.slice (some ⟨g2,0,none⟩) 3 3))]) (cells:=[(ii 3),(.slice (some ⟨g2,0,none⟩) 3 3)]) (places:=[(0,1),(1,1)]) (bp2 rfl rfl) underlying24 yak (by kernel_rfl) rfl ?_));refine zb (zo (yaQ (b:=g) (o:=0) (cells:=#[(ii 3),(.slice (some ⟨g2,0,none⟩) 3 3)]) rfl rfl yak rfl rfl (yaL (hS.bx 0 rfl) zY) ?_));intro w4 e1;replace hS:=hS.bstn 0 rfl 0 [(ii 3),(.slice (some ⟨g2,0,none⟩) 3 3)] e1;clear e1;exact zb (yaa (ygc rfl (rv_n (vs:=[(ii 3),(.slice (some ⟨g2,0,none⟩) 3 3)]) rfl underlying24 rfl yak ⟨Row.cell (hS.bx 0 rfl) (i:=0) rfl,Row.cell (hS.bx 0 rfl) (i:=1) rfl,trivial⟩) ⟨_,_,_,_,_,rfl,(hS.sel [1]),h⟩))
def yb9(R:Bool→Prop):Prop :=
yc6 (fun r r2 =>
yb7 r r2 (fun r3 r4 =>
ybj r r2 (fun r5 r6 =>
yc3 r r2 ([2, -1,1]) (fun r7 r8 r9 =>
yct r r2 ([3,0,0]) (fun r10 r11 r12 =>
yb6 r r2 ([3,0,0]) 2 (fun r13 r14 =>
yb6 r r2 ([4,0,0]) 2 (fun r15 r16 =>
(In64 (r4+r6) ∧
(In64 ((r4+r6)+r9) ∧
(In64 (((r4+r6)+r9)+r12) ∧
(In64 ((((r4+r6)+r9)+r12)+r14) ∧
(In64 (((((r4+r6)+r9)+r12)+r14)+r16) ∧
(((((((r4+r6)+r9)+r12)+r14)+r16)=0 →
ya0 r3 ([[-1,1, -1],[1, -1,1]]) (fun r17 =>
((r17=true →
ya0 r5 ([[-1, -1,0],[-1,0,1],[0, -1, -1],[0,1,1],[1,0, -1],[1,1,0]]) (fun r18 =>
((r18=true →
yaO r7 ([1,0,0]) (fun r19 =>
((r19=true →
((r8=1 →
ya0 r10 ([[1, -1,1]]) (fun r20 =>
((r20=true →
((r11=6 →
((r13=true →
R (!(r15))) ∧
(¬(r13=true) →
R false))) ∧
(¬(r11=6) →
R false))) ∧
(¬(r20=true) →
R false)))) ∧
(¬(r8=1) →
R false))) ∧
(¬(r19=true) →
R false)))) ∧
(¬(r18=true) →
R false)))) ∧
(¬(r17=true) →
R false)))) ∧
(¬((((((r4+r6)+r9)+r12)+r14)+r16)=0) →
R false))))))))))))))
theorem ygE{O:Nat→Prop}{w:World}{R:Bool→Prop}(h:yb9 R)(hO:∀ k,O k→k<w.heap.size) :
    Calls Tryz.prog 9 #[] w fun e w'=>∃ r21,e = .returned (.bool (r21))∧Sep w no O w' (rl [])∧R r21:=by
  unfold yb9 at h;have hS:Sep w no O w (rl []):=Sep.start w hO;refine yal (l:=[]) func9 rfl ntmps9 zY (zs (zQ (.bool (false)) (yaa (zs (zn (yai rfl (am0) enter_38 ((yhz h (yaz _)).mono ?_)))))));rintro _ w2 ⟨r,r2,Ar,lr,cr,rfl,hC,h⟩;replace hS:=hS.call1 (hC.widen (ycv (yaP (fP (fI .i64) (fP (fI .i64) (fI .i64))) _ _ _ _ _) ycH) hS.blt) 0 0 rfl;clear hC;refine ⟨_,rfl,?_⟩;refine zb (zn (yaS yak ?_));intro g w3 hN;replace hS:Sep w no O w3 (stl _ 1 (Res.box 24 g [(ii 0),(.slice none 0 0)])):=hS.new 1 rfl hN;clear hN;refine zb (zo (yaQ (b:=g) (o:=0) (cells:=#[(ii r),(.slice Ar lr cr)]) rfl rfl yak rfl rfl (yaL (hS.bx 1 rfl) zY) ?_));intro w4 e1;replace hS:=hS.bstn 1 rfl 0 [(ii r),(.slice Ar lr cr)] e1;clear e1;refine zb (yaa (zs (zq (yao (vs:=[(ii r),(.slice Ar lr cr)]) rfl underlying24 rfl yak ⟨Row.cell (hS.bx 1 rfl) (i:=0) rfl,Row.cell (hS.bx 1 rfl) (i:=1) rfl,trivial⟩) ?_)));replace hS:=hS.frz 0 rfl;refine zn (yai rfl (am1 rfl) enter_10 ((yem h hS.blt (hS.ro 0 rfl)).mono ?_));rintro _ w5 ⟨r3,r4,Ar2,lr2,cr2,rfl,hC,h⟩;replace hS:=hS.call1 hC 2 0 rfl;clear hC;refine ⟨_,rfl,?_⟩;refine zb (zM (.tuple #[(.slice Ar2 lr2 cr2),(ii r4)]) (zq (zx (.slice Ar2 lr2 cr2)) (zq (zx (ii r4)) (zQ (.slice Ar2 lr2 cr2) (zQ (ii r4) (yaa (zs (zq (yao (vs:=[(ii r),(.slice Ar lr cr)]) rfl underlying24 rfl yak ⟨Row.cell (hS.bx 1 rfl) (i:=0) rfl,Row.cell (hS.bx 1 rfl) (i:=1) rfl,trivial⟩) (zn (yai rfl (am1 rfl) enter_12 ((yeU h hS.blt (hS.ro 0 rfl)).mono ?_)))))))))));rintro _ w6 ⟨r5,r6,Ar3,lr3,cr3,rfl,hC,h⟩;replace hS:=hS.call1 hC 3 0 rfl;clear hC;refine ⟨_,rfl,?_⟩;refine zb (zM (.tuple #[(.slice Ar3 lr3 cr3),(ii r6)]) (zq (zx (.slice Ar3 lr3 cr3)) (zq (zx (ii r6)) (zQ (.slice Ar3 lr3 cr3) (zQ (ii r6) (yaa (zs (zq (yao (vs:=[(ii r),(.slice Ar lr cr)]) rfl underlying24 rfl yak ⟨Row.cell (hS.bx 1 rfl) (i:=0) rfl,Row.cell (hS.bx 1 rfl) (i:=1) rfl,trivial⟩) (zn (yaK (l:=[(0,(ii 2)),(1,(ii (-1))),(2,(ii 1))]) (cells:=[(ii 2),(ii (-1)),(ii 1)]) (bp3 rfl rfl rfl) underlying35 yag rfl rfl ?_))))))))));intro g2 w7 hN;replace hS:=hS.litf (n:=3) 4 rfl (fI .i64) hN ([2, -1,1]:List Int) rfl (by decide) rfl;clear hN;refine zb ?_;replace hS:=hS.frz 4 rfl;refine zn (yai rfl (am2 rfl rfl) enter_15 ((yg8 h hS.blt (hS.ro 0 rfl) (hS.ro 4 rfl)).mono ?_));rintro _ w8 ⟨r7,r8,r9,Ar4,lr4,cr4,rfl,hC,h⟩;replace hS:=hS.call1 hC 5 0 rfl;clear hC;refine ⟨_,rfl,?_⟩;refine zb (zM (.tuple #[(.slice Ar4 lr4 cr4),(ii r8),(ii r9)]) (zq (zx (.slice Ar4 lr4 cr4)) (zq (zx (ii r8)) (zq (zx (ii r9)) (zQ (.slice Ar4 lr4 cr4) (zQ (ii r8) (zQ (ii r9) (yaa (zs (zq (yao (vs:=[(ii r),(.slice Ar lr cr)]) rfl underlying24 rfl yak ⟨Row.cell (hS.bx 1 rfl) (i:=0) rfl,Row.cell (hS.bx 1 rfl) (i:=1) rfl,trivial⟩) (zn (yaK (l:=[(0,(ii 3)),(1,(ii 0)),(2,(ii 0))]) (cells:=[(ii 3),(ii 0),(ii 0)]) (bp3 rfl rfl rfl) underlying35 yag rfl rfl ?_))))))))))));intro g3 w9 hN;replace hS:=hS.litf (n:=3) 6 rfl (fI .i64) hN ([3,0,0]:List Int) rfl (by decide) rfl;clear hN;refine zb ?_;replace hS:=hS.frz 6 rfl;refine zn (yai rfl (am2 rfl rfl) enter_21 ((ygq h hS.blt (hS.ro 0 rfl) (hS.ro 6 rfl)).mono ?_));rintro _ w10 ⟨r10,r11,r12,Ar5,lr5,cr5,rfl,hC,h⟩;replace hS:=hS.call1 hC 7 0 rfl;clear hC;refine ⟨_,rfl,?_⟩;refine zb (zM (.tuple #[(.slice Ar5 lr5 cr5),(ii r11),(ii r12)]) (zq (zx (.slice Ar5 lr5 cr5)) (zq (zx (ii r11)) (zq (zx (ii r12)) (zQ (.slice Ar5 lr5 cr5) (zQ (ii r11) (zQ (ii r12) (yaa (zs (zq (yao (vs:=[(ii r),(.slice Ar lr cr)]) rfl underlying24 rfl yak ⟨Row.cell (hS.bx 1 rfl) (i:=0) rfl,Row.cell (hS.bx 1 rfl) (i:=1) rfl,trivial⟩) (zn (yaK (l:=[(0,(ii 3)),(1,(ii 0)),(2,(ii 0))]) (cells:=[(ii 3),(ii 0),(ii 0)]) (bp3 rfl rfl rfl) underlying35 yag rfl rfl ?_))))))))))));intro g4 w11 hN;replace hS:=hS.litf (n:=3) 8 rfl (fI .i64) hN ([3,0,0]:List Int) rfl (by decide) rfl;clear hN;refine zb (zn (yai rfl (am3 rfl rfl rfl) enter_17 ((yen h (yaz _) (hS.rdr 0 rfl) (hS.rdo 8 rfl)).mono ?_)));rintro _ w12 ⟨r13,r14,rfl,hC,h⟩;replace hS:=hS.pur hC.pure;clear hC;refine ⟨_,rfl,?_⟩;refine zb (zM (.tuple #[(.bool (r13)),(ii r14)]) (zq (zx (.bool (r13))) (zq (zx (ii r14)) (zQ (.bool (r13)) (zQ (ii r14) (yaa (zs (zq (yao (vs:=[(ii r),(.slice Ar lr cr)]) rfl underlying24 rfl yak ⟨Row.cell (hS.bx 1 rfl) (i:=0) rfl,Row.cell (hS.bx 1 rfl) (i:=1) rfl,trivial⟩) (zn (yaK (l:=[(0,(ii 4)),(1,(ii 0)),(2,(ii 0))]) (cells:=[(ii 4),(ii 0),(ii 0)]) (bp3 rfl rfl rfl) underlying35 yag rfl rfl ?_))))))))));intro g5 w13 hN;replace hS:=hS.litf (n:=3) 9 rfl (fI .i64) hN ([4,0,0]:List Int) rfl (by decide) rfl;clear hN;refine zb (zn (yai rfl (am3 rfl rfl rfl) enter_17 ((yen h (yaz _) (hS.rdr 0 rfl) (hS.rdo 9 rfl)).mono ?_)));rintro _ w14 ⟨r15,r16,rfl,hC,h⟩;replace hS:=hS.pur hC.pure;clear hC;refine ⟨_,rfl,?_⟩;refine zb (zM (.tuple #[(.bool (r15)),(ii r16)]) (zq (zx (.bool (r15))) (zq (zx (ii r16)) (zQ (.bool (r15)) (zQ (ii r16) (yaa (zs (zM (ii r4) (zM (ii r6) ?_)))))))));obtain ⟨hi,h⟩:=h;refine zq (zA hi) (zM (ii r9) ?_);obtain ⟨hi2,h⟩:=h;refine zq (zA hi2) (zM (ii r12) ?_);obtain ⟨hi3,h⟩:=h;refine zq (zA hi3) ?_
  refine zM (ii r14) ?_;obtain ⟨hi4,h⟩:=h;refine zq (zA hi4) (zM (ii r16) ?_);obtain ⟨hi5,h⟩:=h;refine zq (zA hi5) (zq zE (zM (.bool (decide ((((((r4+r6)+r9)+r12)+r14)+r16)=0))) ?_));by_cases hp:(((((r4+r6)+r9)+r12)+r14)+r16)=0
  · replace h:=h.1 hp;refine zW rfl rfl (zT hp) (zm (.slice Ar2 lr2 cr2)) (rl_n (yaA rfl (ybc rfl (zT hp))) rfl rfl rfl (yaK (l:=[(0,(ii (-1))),(1,(ii 1)),(2,(ii (-1)))]) (cells:=[(ii (-1)),(ii 1),(ii (-1))]) (bp3 rfl rfl rfl) underlying35 yag rfl rfl ?_));intro g6 w15 hN;replace hS:=hS.litf (n:=3) 10 rfl (fI .i64) hN ([-1,1, -1]:List Int) rfl (by decide) rfl;clear hN;refine zb (rl_n (yaA rfl (ybc rfl (zT hp))) rfl rfl rfl (yaK (l:=[(0,(ii 1)),(1,(ii (-1))),(2,(ii 1))]) (cells:=[(ii 1),(ii (-1)),(ii 1)]) (bp3 rfl rfl rfl) underlying35 yag rfl rfl ?_));intro g7 w16 hN;replace hS:=hS.litf (n:=3) 11 rfl (fI .i64) hN ([1, -1,1]:List Int) rfl (by decide) rfl;clear hN;refine zb ?_;replace hS:=hS.frz 10 rfl;replace hS:=hS.frz 11 rfl;refine rl_n (yaA rfl (ybc rfl (zT hp))) rfl rfl rfl (yaK (l:=[(0,(.slice (some ⟨g6,0,none⟩) 3 3)),(1,(.slice (some ⟨g7,0,none⟩) 3 3))]) (cells:=[(.slice (some ⟨g6,0,none⟩) 3 3),(.slice (some ⟨g7,0,none⟩) 3 3)]) (bp2 rfl rfl) underlying27 yaJ rfl rfl ?_);intro g8 w17 hN;replace hS:=hS.lit (n:=2) (c:=(cL cI)) 12 rfl hN ([[-1,1, -1],[1, -1,1]]:List (List Int)) rfl (by decide) ⟨[(.slice (some ⟨g6,0,none⟩) 3 3)],_,rfl,(ro_R (hS.ro 10 rfl)),⟨[(.slice (some ⟨g7,0,none⟩) 3 3)],_,rfl,(ro_R (hS.ro 11 rfl)),rfl⟩⟩;clear hN;refine zb (rl_n (yaA rfl (ybc rfl (zT hp))) rfl rfl rfl (yai rfl (am2 rfl rfl) ygP ((yb2 h (yaz _) (hS.rdr 2 rfl) (hS.rdo 12 rfl)).mono ?_)));rintro _ w18 ⟨r17,rfl,hC,h⟩;replace hS:=hS.pur hC.pure;clear hC;refine ⟨_,rfl,?_⟩;refine zb (zq (yan (v:=(.bool (r17))) (zT hp) rfl) (zM (.bool (r17)) ?_));by_cases hp2:r17=true
    · replace h:=h.1 hp2;refine zW rfl rfl (zC hp2) (zm (.slice Ar3 lr3 cr3)) (rl_n (yaA rfl (ybc rfl (zC hp2))) rfl rfl rfl (yaK (l:=[(0,(ii (-1))),(1,(ii (-1))),(2,(ii 0))]) (cells:=[(ii (-1)),(ii (-1)),(ii 0)]) (bp3 rfl rfl rfl) underlying35 yag rfl rfl ?_));intro g9 w19 hN;replace hS:=hS.litf (n:=3) 13 rfl (fI .i64) hN ([-1, -1,0]:List Int) rfl (by decide) rfl;clear hN;refine zb (rl_n (yaA rfl (ybc rfl (zC hp2))) rfl rfl rfl (yaK (l:=[(0,(ii (-1))),(1,(ii 0)),(2,(ii 1))]) (cells:=[(ii (-1)),(ii 0),(ii 1)]) (bp3 rfl rfl rfl) underlying35 yag rfl rfl ?_));intro g10 w20 hN;replace hS:=hS.litf (n:=3) 14 rfl (fI .i64) hN ([-1,0,1]:List Int) rfl (by decide) rfl;clear hN;refine zb (rl_n (yaA rfl (ybc rfl (zC hp2))) rfl rfl rfl (yaK (l:=[(0,(ii 0)),(1,(ii (-1))),(2,(ii (-1)))]) (cells:=[(ii 0),(ii (-1)),(ii (-1))]) (bp3 rfl rfl rfl) underlying35 yag rfl rfl ?_));intro g11 w21 hN;replace hS:=hS.litf (n:=3) 15 rfl (fI .i64) hN ([0, -1, -1]:List Int) rfl (by decide) rfl;clear hN;refine zb (rl_n (yaA rfl (ybc rfl (zC hp2))) rfl rfl rfl (yaK (l:=[(0,(ii 0)),(1,(ii 1)),(2,(ii 1))]) (cells:=[(ii 0),(ii 1),(ii 1)]) (bp3 rfl rfl rfl) underlying35 yag rfl rfl ?_));intro g12 w22 hN;replace hS:=hS.litf (n:=3) 16 rfl (fI .i64) hN ([0,1,1]:List Int) rfl (by decide) rfl;clear hN;refine zb (rl_n (yaA rfl (ybc rfl (zC hp2))) rfl rfl rfl (yaK (l:=[(0,(ii 1)),(1,(ii 0)),(2,(ii (-1)))]) (cells:=[(ii 1),(ii 0),(ii (-1))]) (bp3 rfl rfl rfl) underlying35 yag rfl rfl ?_));intro g13 w23 hN;replace hS:=hS.litf (n:=3) 17 rfl (fI .i64) hN ([1,0, -1]:List Int) rfl (by decide) rfl;clear hN;refine zb (rl_n (yaA rfl (ybc rfl (zC hp2))) rfl rfl rfl (yaK (l:=[(0,(ii 1)),(1,(ii 1)),(2,(ii 0))]) (cells:=[(ii 1),(ii 1),(ii 0)]) (bp3 rfl rfl rfl) underlying35 yag rfl rfl ?_));intro g14 w24 hN;replace hS:=hS.litf (n:=3) 18 rfl (fI .i64) hN ([1,1,0]:List Int) rfl (by decide) rfl;clear hN;refine zb ?_;replace hS:=hS.frz 13 rfl;replace hS:=hS.frz 14 rfl;replace hS:=hS.frz 15 rfl;replace hS:=hS.frz 16 rfl;replace hS:=hS.frz 17 rfl;replace hS:=hS.frz 18 rfl;refine rl_n (yaA rfl (ybc rfl (zC hp2))) rfl rfl rfl (yaK (l:=[(0,(.slice (some ⟨g9,0,none⟩) 3 3)),(1,(.slice (some ⟨g10,0,none⟩) 3 3)),(2,(.slice (some ⟨g11,0,none⟩) 3 3)),(3,(.slice (some ⟨g12,0,none⟩) 3 3)),(4,(.slice (some ⟨g13,0,none⟩) 3 3)),(5,(.slice (some ⟨g14,0,none⟩) 3 3))]) (cells:=[(.slice (some ⟨g9,0,none⟩) 3 3),(.slice (some ⟨g10,0,none⟩) 3 3),(.slice (some ⟨g11,0,none⟩) 3 3),(.slice (some ⟨g12,0,none⟩) 3 3),(.slice (some ⟨g13,0,none⟩) 3 3),(.slice (some ⟨g14,0,none⟩) 3 3)]) (bp6 rfl rfl rfl rfl rfl rfl) underlying27 yaJ rfl rfl ?_);intro g15 w25 hN;replace hS:=hS.lit (n:=6) (c:=(cL cI)) 19 rfl hN ([[-1, -1,0],[-1,0,1],[0, -1, -1],[0,1,1],[1,0, -1],[1,1,0]]:List (List Int)) rfl (by decide) ⟨[(.slice (some ⟨g9,0,none⟩) 3 3)],_,rfl,(ro_R (hS.ro 13 rfl)),⟨[(.slice (some ⟨g10,0,none⟩) 3 3)],_,rfl,(ro_R (hS.ro 14 rfl)),⟨[(.slice (some ⟨g11,0,none⟩) 3 3)],_,rfl,(ro_R (hS.ro 15 rfl)),⟨[(.slice (some ⟨g12,0,none⟩) 3 3)],_,rfl,(ro_R (hS.ro 16 rfl)),⟨[(.slice (some ⟨g13,0,none⟩) 3 3)],_,rfl,(ro_R (hS.ro 17 rfl)),⟨[(.slice (some ⟨g14,0,none⟩) 3 3)],_,rfl,(ro_R (hS.ro 18 rfl)),rfl⟩⟩⟩⟩⟩⟩;clear hN;refine zb (rl_n (yaA rfl (ybc rfl (zC hp2))) rfl rfl rfl (yai rfl (am2 rfl rfl) ygP ((yb2 h (yaz _) (hS.rdo 3 rfl) (hS.rdo 19 rfl)).mono ?_)));rintro _ w26 ⟨r18,rfl,hC,h⟩;replace hS:=hS.pur hC.pure;clear hC;refine ⟨_,rfl,?_⟩;refine zb (zq (yan (v:=(.bool (r18))) (zC hp2) rfl) (zM (.bool (r18)) ?_));by_cases hp3:r18=true
      · replace h:=h.1 hp3;refine zW rfl rfl (zC hp3) (zm (.slice Ar4 lr4 cr4)) (rl_n (yaA rfl (ybc rfl (zC hp3))) rfl rfl rfl (yaK (l:=[(0,(ii 1)),(1,(ii 0)),(2,(ii 0))]) (cells:=[(ii 1),(ii 0),(ii 0)]) (bp3 rfl rfl rfl) underlying35 yag rfl rfl ?_));intro g16 w27 hN;replace hS:=hS.litf (n:=3) 20 rfl (fI .i64) hN ([1,0,0]:List Int) rfl (by decide) rfl;clear hN;refine zb (rl_n (yaA rfl (ybc rfl (zC hp3))) rfl rfl rfl (yai rfl (am2 rfl rfl) enter_31 ((yb8 h (yaz _) (hS.rdr 5 rfl) (hS.rdo 20 rfl)).mono ?_)));rintro _ w28 ⟨r19,rfl,hC,h⟩;replace hS:=hS.pur hC.pure;clear hC;refine ⟨_,rfl,?_⟩;refine zb (zq (yan (v:=(.bool (r19))) (zC hp3) rfl) (zM (.bool (r19)) ?_));by_cases hp4:r19=true
        · replace h:=h.1 hp4;refine zW rfl rfl (zC hp4) (zm (ii r8)) (zW rfl rfl (zC hp4) zE (zq (yan (v:=(.bool (decide (r8=1)))) (zC hp4) rfl) (zM (.bool (decide (r8=1))) ?_)));by_cases hp5:r8=1
          · replace h:=h.1 hp5;refine zW rfl rfl (zT hp5) (zm (.slice Ar5 lr5 cr5)) (rl_n (yaA rfl (ybc rfl (zT hp5))) rfl rfl rfl (yaK (l:=[(0,(ii 1)),(1,(ii (-1))),(2,(ii 1))]) (cells:=[(ii 1),(ii (-1)),(ii 1)]) (bp3 rfl rfl rfl) underlying35 yag rfl rfl ?_));intro g17 w29 hN;replace hS:=hS.litf (n:=3) 21 rfl (fI .i64) hN ([1, -1,1]:List Int) rfl (by decide) rfl;clear hN;refine zb ?_;replace hS:=hS.frz 21 rfl;refine rl_n (yaA rfl (ybc rfl (zT hp5))) rfl rfl rfl (yaK (l:=[(0,(.slice (some ⟨g17,0,none⟩) 3 3))]) (cells:=[(.slice (some ⟨g17,0,none⟩) 3 3)]) (bp1 rfl) underlying27 yaJ rfl rfl ?_);intro g18 w30 hN;replace hS:=hS.lit (n:=1) (c:=(cL cI)) 22 rfl hN ([[1, -1,1]]:List (List Int)) rfl (by decide) ⟨[(.slice (some ⟨g17,0,none⟩) 3 3)],_,rfl,(ro_R (hS.ro 21 rfl)),rfl⟩;clear hN;refine zb (rl_n (yaA rfl (ybc rfl (zT hp5))) rfl rfl rfl (yai rfl (am2 rfl rfl) ygP ((yb2 h (yaz _) (hS.rdo 7 rfl) (hS.rdo 22 rfl)).mono ?_)));rintro _ w31 ⟨r20,rfl,hC,h⟩;replace hS:=hS.pur hC.pure;clear hC;refine ⟨_,rfl,?_⟩;refine zb (zq (yan (v:=(.bool (r20))) (zT hp5) rfl) (zM (.bool (r20)) ?_));by_cases hp6:r20=true
            · replace h:=h.1 hp6;refine zW rfl rfl (zC hp6) (zm (ii r11)) (zW rfl rfl (zC hp6) zE (zq (yan (v:=(.bool (decide (r11=6)))) (zC hp6) rfl) (zM (.bool (decide (r11=6))) ?_)));by_cases hp7:r11=6
              · replace h:=h.1 hp7;refine zW rfl rfl (zT hp7) (zm (.bool (r13))) (zq (yan (v:=(.bool (r13))) (zT hp7) rfl) (zM (.bool (r13)) ?_));by_cases hp8:r13=true
                · replace h:=h.1 hp8;exact zW rfl rfl (zC hp8) (zm (.bool (r15))) (zW rfl rfl (zC hp8) (yds rfl) (zq (yan (v:=(.bool (!(r15)))) (zC hp8) rfl) (zQ (.bool (!(r15))) (yaa (yah rfl rfl ⟨_,rfl,(hS.sel []),h⟩)))))
                · replace h:=h.2 hp8;exact zV rfl rfl (zC (zI hp8)) (zV rfl rfl (zC (zI hp8)) (zq (yaj (v:=(.bool (false))) (zC (zI hp8)) rfl) (zQ (.bool (false)) (yaa (yah rfl rfl ⟨_,rfl,(hS.sel []),h⟩)))))
              · replace h:=h.2 hp7;exact zV rfl rfl (zF hp7) (zq (yaj (v:=(.bool (false))) (zF hp7) rfl) (zM (.bool (false)) (zU (zU (zq (yaj (v:=(.bool (false))) rfl rfl) (zQ (.bool (false)) (yaa (yah rfl rfl ⟨_,rfl,(hS.sel []),h⟩))))))))
            · replace h:=h.2 hp6;exact zV rfl rfl (zC (zI hp6)) (zV rfl rfl (zC (zI hp6)) (zq (yaj (v:=(.bool (false))) (zC (zI hp6)) rfl) (zM (.bool (false)) (zU (zq (yaj (v:=(.bool (false))) rfl rfl) (zM (.bool (false)) (zU (zU (zq (yaj (v:=(.bool (false))) rfl rfl) (zQ (.bool (false)) (yaa (yah rfl rfl ⟨_,rfl,(hS.sel []),h⟩))))))))))))
          · replace h:=h.2 hp5;exact zV rfl rfl (zF hp5) (zV rfl rfl (zF hp5) (zV rfl rfl (zF hp5) (zV rfl rfl (zF hp5) (zq (yaj (v:=(.bool (false))) (zF hp5) rfl) (zM (.bool (false)) (zU (zU (zq (yaj (v:=(.bool (false))) rfl rfl) (zM (.bool (false)) (zU (zq (yaj (v:=(.bool (false))) rfl rfl) (zM (.bool (false)) (zU (zU (zq (yaj (v:=(.bool (false))) rfl rfl) (zQ (.bool (false)) (yaa (yah rfl rfl ⟨_,rfl,(hS.sel []),h⟩))))))))))))))))))
        · replace h:=h.2 hp4;exact zV rfl rfl (zC (zI hp4)) (zV rfl rfl (zC (zI hp4)) (zq (yaj (v:=(.bool (false))) (zC (zI hp4)) rfl) (zM (.bool (false)) (zU (zU (zU (zU (zq (yaj (v:=(.bool (false))) rfl rfl) (zM (.bool (false)) (zU (zU (zq (yaj (v:=(.bool (false))) rfl rfl) (zM (.bool (false)) (zU (zq (yaj (v:=(.bool (false))) rfl rfl) (zM (.bool (false)) (zU (zU (zq (yaj (v:=(.bool (false))) rfl rfl) (zQ (.bool (false)) (yaa (yah rfl rfl ⟨_,rfl,(hS.sel []),h⟩))))))))))))))))))))))
      · replace h:=h.2 hp3;exact zV rfl rfl (zC (zI hp3)) (zV rfl rfl (zC (zI hp3)) (zV rfl rfl (zC (zI hp3)) (zq (yaj (v:=(.bool (false))) (zC (zI hp3)) rfl) (zM (.bool (false)) (zU (zU (zq (yaj (v:=(.bool (false))) rfl rfl) (zM (.bool (false)) (zU (zU (zU (zU (zq (yaj (v:=(.bool (false))) rfl rfl) (zM (.bool (false)) (zU (zU (zq (yaj (v:=(.bool (false))) rfl rfl) (zM (.bool (false)) (zU (zq (yaj (v:=(.bool (false))) rfl rfl) (zM (.bool (false)) (zU (zU (zq (yaj (v:=(.bool (false))) rfl rfl) (zQ (.bool (false)) (yaa (yah rfl rfl ⟨_,rfl,(hS.sel []),h⟩)))))))))))))))))))))))))))
    · replace h:=h.2 hp2;exact zV rfl rfl (zC (zI hp2)) (zV rfl rfl (zC (zI hp2)) (zV rfl rfl (zC (zI hp2)) (zV rfl rfl (zC (zI hp2)) (zV rfl rfl (zC (zI hp2)) (zV rfl rfl (zC (zI hp2)) (zV rfl rfl (zC (zI hp2)) (zV rfl rfl (zC (zI hp2)) (zV rfl rfl (zC (zI hp2)) (zq (yaj (v:=(.bool (false))) (zC (zI hp2)) rfl) (zM (.bool (false)) (zU (zU (zU (zq (yaj (v:=(.bool (false))) rfl rfl) (zM (.bool (false)) (zU (zU (zq (yaj (v:=(.bool (false))) rfl rfl) (zM (.bool (false)) (zU (zU (zU (zU (zq (yaj (v:=(.bool (false))) rfl rfl) (zM (.bool (false)) (zU (zU (zq (yaj (v:=(.bool (false))) rfl rfl) (zM (.bool (false)) (zU (zq (yaj (v:=(.bool (false))) rfl rfl) (zM (.bool (false)) (zU (zU (zq (yaj (v:=(.bool (false))) rfl rfl) (zQ (.bool (false)) (yaa (yah rfl rfl ⟨_,rfl,(hS.sel []),h⟩))))))))))))))))))))))))))))))))))))))
  · replace h:=h.2 hp;exact zV rfl rfl (zF hp) (zV rfl rfl (zF hp) (zV rfl rfl (zF hp) (zV rfl rfl (zF hp) (zV rfl rfl (zF hp) (zq (yaj (v:=(.bool (false))) (zF hp) rfl) (zM (.bool (false)) (zU (zU (zU (zU (zU (zU (zU (zU (zU (zq (yaj (v:=(.bool (false))) rfl rfl) (zM (.bool (false)) (zU (zU (zU (zq (yaj (v:=(.bool (false))) rfl rfl) (zM (.bool (false)) (zU (zU (zq (yaj (v:=(.bool (false))) rfl rfl) (zM (.bool (false)) (zU (zU (zU (zU (zq (yaj (v:=(.bool (false))) rfl rfl) (zM (.bool (false)) (zU (zU (zq (yaj (v:=(.bool (false))) rfl rfl) (zM (.bool (false)) (zU (zq (yaj (v:=(.bool (false))) rfl rfl) (zM (.bool (false)) (zU (zU (zq (yaj (v:=(.bool (false))) rfl rfl) (zQ (.bool (false)) (yaa (yah rfl rfl ⟨_,rfl,(hS.sel []),h⟩)))))))))))))))))))))))))))))))))))))))))))))
def yjm(g:Int)(g2:List E3)(x:List Int)(R:Bool→Prop):Prop :=
(∃ J2:Prop,(J2→yct g g2 x (fun r r2 r3 =>
yjq g g2 x (fun r4 r5 r6 =>
yb9 (fun r7 =>
((r7=true →
ya0 r r4 (fun r8 =>
((r8=true →
((r2=r5 →
R (decide (r3=r6))) ∧
(¬(r2=r5) →
R false))) ∧
(¬(r8=true) →
R false)))) ∧
(¬(r7=true) →
R false)))))) ∧
yf4 g g2 x (fun r9 =>
((r9=true →
yjw g g2 x (fun r10 =>
((r10=true →
J2) ∧
(¬(r10=true) →
yb9 (fun r11 =>
R r11))))) ∧
(¬(r9=true) →
yb9 (fun r12 =>
R r12)))))
theorem pok_l49_VoronoiNearest{O:Nat→Prop}{w:World}{g g2 x Ag lg cg Ax lx cx}{R:Bool→Prop}(h:yjm g g2 x R)(hO:∀ k,O k→k<w.heap.size)(hA0:(FP.sl c3 Ag lg cg g2).P O w)(hA1:(FP.sl cI Ax lx cx x).P O w) :
    Calls Tryz.prog 5 #[(.agg #[(ii g),(.slice Ag lg cg)]),(.slice Ax lx cx)] w fun e w'=>∃ r13,e = .returned (.bool (r13))∧Sep w no O w' (rl [])∧R r13:=by
  unfold yjm at h;have hS:Sep w no O w (rl [Res.ro (FP.sl c3 Ag lg cg g2),Res.ro (FP.sl cI Ax lx cx x)]):=Sep.startl hO [(FP.sl c3 Ag lg cg g2),(FP.sl cI Ax lx cx x)] ⟨hA0,hA1,trivial⟩;refine yal (l:=[(.agg #[(ii g),(.slice Ag lg cg)]),(.slice Ax lx cx)]) func5 rfl ntmps5 zY (zs (zn (ybm (v:=(.agg #[(ii g),(.slice Ag lg cg)])) rfl ?_)));intro g3 w2 hN;replace hS:Sep w no O w2 (stl _ 2 (Res.box 24 g3 [(ii g),(.slice Ag lg cg)])):=hS.new 2 rfl hN;clear hN;refine zb (zQ (.bool (false)) (yaa (yac (yac ?_))));obtain ⟨J2,hJ,h⟩:=h;refine ycA (fun E ds w'=>J2∧ds=[]∧E 1=(Value.slice Ax lx cx)∧E 2=(Value.pointer (some ⟨g3,0,none⟩))∧Sep w no O w' (rl [Res.ro (FP.sl cI Ax lx cx x),Res.box 24 g3 [(ii g),(.slice Ag lg cg)],Res.ro (FP.sl c3 Ag lg cg g2)])) ?_ ?_
  · clear h hS;rintro E ds w3 ⟨h,rfl,H1,H2,hS⟩;replace h:=hJ h;refine zs (zq (yao (vs:=[(ii g),(.slice Ag lg cg)]) H2 underlying24 rfl yak ⟨Row.cell (hS.bx 1 rfl) (i:=0) rfl,Row.cell (hS.bx 1 rfl) (i:=1) rfl,trivial⟩) (zq (yab H1) (zn (yai rfl (am2 rfl rfl) enter_21 ((ygq h hS.blt (hS.ro 2 rfl) (hS.ro 0 rfl)).mono ?_)))));rintro _ w4 ⟨r,r2,r3,Ar,lr,cr,rfl,hC,h⟩;replace hS:=hS.call1 hC 3 0 rfl;clear hC;refine ⟨_,rfl,?_⟩;refine zb (zM (.tuple #[(.slice Ar lr cr),(ii r2),(ii r3)]) (zq (zx (.slice Ar lr cr)) (zq (zx (ii r2)) (zq (zx (ii r3)) (zQ (.slice Ar lr cr) (zQ (ii r2) (zQ (ii r3) (yaa (zs (zq (yao (vs:=[(ii g),(.slice Ag lg cg)]) H2 underlying24 rfl yak ⟨Row.cell (hS.bx 1 rfl) (i:=0) rfl,Row.cell (hS.bx 1 rfl) (i:=1) rfl,trivial⟩) (zq (yab H1) (zn (yai rfl (am2 rfl rfl) enter_22 ((yjV h hS.blt (hS.ro 2 rfl) (hS.ro 0 rfl)).mono ?_))))))))))))));rintro _ w5 ⟨r4,r5,r6,Ar2,lr2,cr2,rfl,hC,h⟩;replace hS:=hS.call1 hC 4 0 rfl;clear hC;refine ⟨_,rfl,?_⟩;refine zb (zM (.tuple #[(.slice Ar2 lr2 cr2),(ii r5),(ii r6)]) (zq (zx (.slice Ar2 lr2 cr2)) (zq (zx (ii r5)) (zq (zx (ii r6)) (zQ (.slice Ar2 lr2 cr2) (zQ (ii r5) (zQ (ii r6) (yaa (zs (zn (yai rfl (am0) enter_9 ((ygE h (yaz _)).mono ?_))))))))))));rintro _ w6 ⟨r7,rfl,hC,h⟩;replace hS:=hS.pur hC.pure;clear hC;refine ⟨_,rfl,?_⟩;refine zb (zM (.bool (r7)) ?_);by_cases hp:r7=true
    · replace h:=h.1 hp;refine zW rfl rfl (zC hp) (zm (.slice Ar lr cr)) (zW rfl rfl (zC hp) (zm (.slice Ar2 lr2 cr2)) (rl_n (yaA rfl (ybc rfl (zC hp))) rfl rfl rfl (yai rfl (am2 rfl rfl) ygP ((yb2 h (yaz _) (hS.rdo 3 rfl) (hS.rdo 4 rfl)).mono ?_))));rintro _ w7 ⟨r8,rfl,hC,h⟩;replace hS:=hS.pur hC.pure;clear hC;refine ⟨_,rfl,?_⟩;refine zb (zq (yan (v:=(.bool (r8))) (zC hp) rfl) (zM (.bool (r8)) ?_));by_cases hp2:r8=true
      · replace h:=h.1 hp2;refine zW rfl rfl (zC hp2) (zm (ii r2)) (zW rfl rfl (zC hp2) (zm (ii r5)) (zW rfl rfl (zC hp2) zE (zq (yan (v:=(.bool (decide (r2=r5)))) (zC hp2) rfl) (zM (.bool (decide (r2=r5))) ?_))));by_cases hp3:r2=r5
        · replace h:=h.1 hp3;exact zW rfl rfl (zT hp3) (zm (ii r3)) (zW rfl rfl (zT hp3) (zm (ii r6)) (zW rfl rfl (zT hp3) zE (zq (yan (v:=(.bool (decide (r3=r6)))) (zT hp3) rfl) (zQ (.bool (decide (r3=r6))) (yaa (yah rfl rfl ⟨_,rfl,(hS.sel []),h⟩))))))
        · replace h:=h.2 hp3;exact zV rfl rfl (zF hp3) (zV rfl rfl (zF hp3) (zV rfl rfl (zF hp3) (zq (yaj (v:=(.bool (false))) (zF hp3) rfl) (zQ (.bool (false)) (yaa (yah rfl rfl ⟨_,rfl,(hS.sel []),h⟩))))))
      · replace h:=h.2 hp2;exact zV rfl rfl (zC (zI hp2)) (zV rfl rfl (zC (zI hp2)) (zV rfl rfl (zC (zI hp2)) (zq (yaj (v:=(.bool (false))) (zC (zI hp2)) rfl) (zM (.bool (false)) (zU (zU (zU (zq (yaj (v:=(.bool (false))) rfl rfl) (zQ (.bool (false)) (yaa (yah rfl rfl ⟨_,rfl,(hS.sel []),h⟩)))))))))))
    · replace h:=h.2 hp;exact zV rfl rfl (zC (zI hp)) (zV rfl rfl (zC (zI hp)) (zV rfl rfl (zC (zI hp)) (zq (yaj (v:=(.bool (false))) (zC (zI hp)) rfl) (zM (.bool (false)) (zU (zU (zU (zq (yaj (v:=(.bool (false))) rfl rfl) (zM (.bool (false)) (zU (zU (zU (zq (yaj (v:=(.bool (false))) rfl rfl) (zQ (.bool (false)) (yaa (yah rfl rfl ⟨_,rfl,(hS.sel []),h⟩))))))))))))))))
  clear hJ;intro j;refine zr (zq (yao (vs:=[(ii g),(.slice Ag lg cg)]) rfl underlying24 rfl yak ⟨Row.cell (hS.bx 2 rfl) (i:=0) rfl,Row.cell (hS.bx 2 rfl) (i:=1) rfl,trivial⟩) (zM (.slice Ax lx cx) (zn (yai rfl (am2 rfl rfl) enter_8 ((pok_r49_Few h (yaz _) (hS.rdr 0 rfl) (hS.rdr 1 rfl)).mono ?_)))));rintro _ w8 ⟨r9,rfl,hC,h⟩;replace hS:=hS.pur hC.pure;clear hC;refine ⟨_,rfl,?_⟩;refine zb (zq (yds rfl) (zM (.bool (!(r9))) ?_));by_cases hp4:r9=true
  · replace h:=h.1 hp4;refine zW rfl rfl (zC (zB hp4)) (yao (vs:=[(ii g),(.slice Ag lg cg)]) rfl underlying24 rfl yak ⟨Row.cell (hS.bx 2 rfl) (i:=0) rfl,Row.cell (hS.bx 2 rfl) (i:=1) rfl,trivial⟩) (zW rfl rfl (zC (zB hp4)) (zm (.slice Ax lx cx)) (rl_n (yaA rfl (ybc rfl (zC (zB hp4)))) rfl rfl rfl (yai rfl (am2 rfl rfl) enter_20 ((pok_r49_Near h (yaz _) (hS.rdr 0 rfl) (hS.rdr 1 rfl)).mono ?_))));rintro _ w9 ⟨r10,rfl,hC,h⟩;replace hS:=hS.pur hC.pure;clear hC;refine ⟨_,rfl,?_⟩;refine zb (zW rfl rfl (zC (zB hp4)) (yds rfl) (zq (yaj (v:=(.bool (!(r10)))) (zC (zB hp4)) rfl) (yaa ?_)));by_cases hp5:r10=true
    · replace h:=h.1 hp5;exact yav (zC (zB hp5)) (yaf (j _ _ _ ⟨h,rfl,rfl,rfl,(hS.sel [1,2,0])⟩))
    · replace h:=h.2 hp5;refine yaq (zC (zB (zI hp5))) (zs (zn (yai rfl (am0) enter_9 ((ygE h (yaz _)).mono ?_))));rintro _ w10 ⟨r11,rfl,hC,h⟩;replace hS:=hS.pur hC.pure;clear hC;refine ⟨_,rfl,?_⟩;exact zb (zQ (.bool (r11)) (yaa (yah rfl rfl ⟨_,rfl,(hS.sel []),h⟩)))
  · replace h:=h.2 hp4;refine zV rfl rfl (zC (zB (zI hp4))) (zV rfl rfl (zC (zB (zI hp4))) (zV rfl rfl (zC (zB (zI hp4))) (zV rfl rfl (zC (zB (zI hp4))) (zq (yan (v:=(.bool (true))) (zC (zB (zI hp4))) rfl) (yaa (yaq rfl (zs (zn (yai rfl (am0) enter_9 ((ygE h (yaz _)).mono ?_))))))))));rintro _ w11 ⟨r12,rfl,hC,h⟩;replace hS:=hS.pur hC.pure;clear hC;refine ⟨_,rfl,?_⟩;exact zb (zQ (.bool (r12)) (yaa (yah rfl rfl ⟨_,rfl,(hS.sel []),h⟩)))
end Go.Proofs.YtencmgolklfmkaaGreat

/- Cycles, Bonds, Slice and Inside: program and reference; the laws but for the chapter's examples. -/
namespace Go.Proofs.YtencmgolklfmkaaGreat
open Go Go.RowKit Go.Shelf Go.Proofs.Tryz
set_option maxRecDepth 100000
structure CycL(E:List (Int×Int))(zs:List (List Int)):Prop where
  asc:Asc zs
  mem:∀ y,y∈zs↔IsDC E y
section
variable {E : List (Int × Int)} {zs ws : List (List Int)} {n : Nat}
theorem CycL.uniq(h:CycL E zs)(k:CycL E ws):zs=ws:=Asc.eq h.asc k.asc fun y=>(h.mem y).trans (k.mem y).symm
theorem vec_abs{p:List Dart}(hn:(p.map Prod.fst).Nodup)(i:Nat):(vec p i).natAbs≤1:=by
  rcases ygL hn i with e | e | e <;> rw [e] <;> decide
theorem IsDC.bd{y:List Int}(h:IsDC E y):Bd 1 y:=by
  obtain ⟨s,p,hp,rfl⟩:=h
  intro i hi
  rw [yaI] at hi
  rw [ycc _ hi]
  exact vec_abs hp.ed i
theorem IsDC.pos{y:List Int}(h:IsDC E y):0<E.length:=by
  obtain ⟨s,p,hp,rfl⟩:=h
  obtain ⟨d,hd⟩:=List.exists_mem_of_ne_nil _ hp.ne
  have:=hp.lt d hd;omega
theorem IsDC.nn{y:List Int}(h:IsDC E y):y≠[]:=by
  have h1:=h.pos
  have h2:=h.len
  rintro rfl
  simp at h2;omega
theorem CycL.vs(h:CycL E zs):Vs E.length zs:=fun v hv=>⟨((h.mem v).1 hv).len,((h.mem v).1 hv).bd⟩
theorem CycL.len(hE:ya6 n E)(h:CycL E zs):zs.length≤n*(2*E.length+1)^n:=by
  have hp:zs.Perm (dirL E n):=(List.perm_ext_iff_of_nodup h.asc.nodup (dirL_nodup hE)).2 fun y=>by rw [h.mem,yhK hE]
  rw [hp.length_eq]
  exact dirL_len
theorem few_pow(hn:n≤5)(hm:E.length≤8):(n+1)*(2*E.length+1)^n≤1000000000:=by
  have h1:(2*E.length+1)^n≤17^n:=Nat.pow_le_pow_left (by omega) n
  have h2:17^n≤17^5:=Nat.pow_le_pow_right (by omega) hn
  have h3:(17:Nat)^5=1419857:=by decide
  have h4:=Nat.mul_le_mul (show n+1≤6 by omega) (Nat.le_trans h1 h2)
  omega
end
section
variable {n : Int} {es : List E3} {x : List Int} {k : Int}
structure SmP(n:Int)(es:List E3):Prop where
  es40:es.length≤40
  sm:yat n es=0→(ybd es).length≤14→n≤5∧(ybd es).length≤8
theorem FewP.smp(h:FewP n es x):SmP n es:=⟨h.es40,h.sm⟩
theorem SmP.get(h:SmP n es)(q:smlE n es=0):∃ k:Nat,n=k∧GrOk k es (ybd es)∧yd0 n es=true∧k≤5∧(ybd es).length≤8:=by
  obtain ⟨q1,q2⟩:=yjh q
  obtain ⟨g,c⟩:=yfZ q1
  obtain ⟨k,rfl,G⟩:=gr_of g
  obtain ⟨h1,h2⟩:=h.sm g q2
  exact ⟨k,rfl,G,c,by omega,h2⟩
theorem cycles_any(H:SmP n es)(q:smlE n es=0){R:List (List Int)→Prop}(h:∀ zs,CycL (ybd es) zs→R zs):yba (ybd es) n R:=by
  obtain ⟨k,rfl,G,_,h5,h8⟩:=H.get q
  exact yhA G.ok G.few (by omega) (few_pow h5 h8) fun zs h1 h2=>h zs ⟨h1,h2⟩
theorem yfr(H:SmP n es){R:List (List Int)→Int→Prop}(h1:smlE n es≠0→R [] (smlE n es))(h2:smlE n es=0→∀ zs,CycL (ybd es) zs→R zs 0):yb7 n es R :=
  yfY (by have:=H.es40;omega) (fun q=>⟨fun z=>absurd z q,fun _=>h1 q⟩) fun q=>⟨fun _=>cycles_any H q fun zs hz=>h2 q zs hz,fun z=>absurd rfl z⟩
theorem ydP(H:SmP n es){R:List (List Int)→Int→Prop}(h1:vecE n es x≠0→R [] (vecE n es x))(h2:vecE n es x=0→∀ zs,CycL (ybd es) zs→R zs 0):yby n es x R :=
  yiC (by have:=H.es40;omega) h1 fun q=>cycles_any H (ye0 q).1 fun zs hz=>h2 q zs hz
theorem yjj(H:SmP n es)(q:vecE n es x=0)(hx:Bd 400 x){zs:List (List Int)}(hz:CycL (ybd es) zs):SlOk zs x:=by
  obtain ⟨q1,q2,q3⟩:=ye0 q
  obtain ⟨k,rfl,G,_,h5,h8⟩:=H.get q1
  have hlen:=hz.len G.ok
  have hp:=few_pow h5 h8
  refine ⟨?_,by rw [q2];exact hz.vs,by omega,?_⟩
  · have:=Nat.mul_le_mul_right ((2*(ybd es).length+1)^k) (show k≤k+1 by omega)
    omega
  · have h1:=yih hx hx rfl
    have h2:=Nat.mul_le_mul_right (400*400) (show x.length≤8 by omega)
    omega
theorem FewP.bd(H:FewP n es x)(q:vecE n es x=0):Bd 400 x:=fun i hi=>H.rng i hi (List.all_eq_true.1 (ye0 q).2.2 _ (yjg hi))
def SlR(zs:List (List Int))(x:List Int)(R:List Int→Int→Int→Prop):Prop:=(∀ y k,slF zs 4096 x 0=some (y,k)→R y (k:Nat) 0)∧(slF zs 4096 x 0=none→R [] 0 12)
theorem yh3(H:SmP n es){R:List Int→Int→Int→Prop}(h1:vecE n es x≠0→R [] 0 (vecE n es x))(hx:vecE n es x=0→Bd 400 x)(h2:vecE n es x=0→∀ zs,CycL (ybd es) zs→SlR zs x R):yc3 n es x R :=
  ydP H (fun q=>⟨fun z=>absurd z q,fun _=>h1 q⟩) fun q zs hz=>⟨fun _=>yfp (yjj H q (hx q) hz) (fun v hv=>((hz.mem v).1 hv).nn) (fun y k hk=>⟨fun _=>(h2 q zs hz).1 y k hk,fun z=>absurd rfl z⟩) fun hn=>⟨fun z=>(by cases z),fun _=>(h2 q zs hz).2 hn⟩,fun z=>absurd rfl z⟩
theorem yft(H:SmP n es){R:Bool→Int→Prop}(h1:vecE n es x≠0→R false (vecE n es x))(hx:vecE n es x=0→Bd 400 x)(hk:vecE n es x=0→(k<1∨1048576<k)→R false 2)(h2:vecE n es x=0→1≤k→k≤1048576→∀ zs,CycL (ybd es) zs→R (ydR zs x k).isNone 0):yb6 n es x k R:=by
  refine ydP H (fun q=>⟨fun z=>absurd z q,fun _=>h1 q⟩) fun q zs hz=>⟨fun _=>?_,fun z=>absurd rfl z⟩
  refine ⟨1≤k∧k≤1048576,fun ⟨k1,k2⟩=>?_,fun c=>hk q (.inl c),fun c=>⟨fun c2=>hk q (.inr c2),fun c2=>⟨by omega,by omega⟩⟩⟩
  have S:=yjj H q (hx q) hz
  have h2:=h2 q k1 k2 zs hz
  refine ⟨_,_,yeo S.len S.vs S.m S.bd (by omega),fun p=>p=[],rfl,?_,?_⟩
  · rintro pre v rfl hp
    rw [step_head (t:=[]) hp] at h2
    exact h2
  · rintro ys rfl hr
    rw [step_none.2 hr.symm] at h2
    exact h2
theorem slF_len{zs:List (List Int)} : ∀ {f:Nat} {x:List Int} {n:Nat} {y:List Int} {k:Nat},slF zs f x n=some (y,k)→y.length=x.length:=by
  intro f
  induction f with
  | zero =>
    intro x n y k h
    cases hs:ydR zs x 1 with
    | none=>rw [yej hs] at h;cases h;rfl
    | some v=>rw [yis hs] at h;cases h
  | succ f ih =>
    intro x n y k h
    cases hs:ydR zs x 1 with
    | none=>rw [yej hs] at h;cases h;rfl
    | some v=>rw [ygd hs] at h;rw [ih h,ybl]
theorem yiI{a b:List Int}{R:Bool→Prop}(hl:a.length≤1000000000)(h:R (decide (a=b))):ydk a b R:=by
  refine ⟨fun e=>⟨fun m i=>∃ k:Nat,i=k∧k+m=a.length∧∀ j,j<k→gi a j=gi b j,⟨a.length,0,rfl,by omega,fun j hj=>by omega⟩,?_⟩,fun e=>?_⟩
  · rintro m i ⟨k,rfl,hm,hk⟩
    refine ⟨fun hlt=>⟨⟨by omega,hlt⟩,⟨by omega,by omega⟩,fun c=>⟨⟨by omega,by omega⟩,m-1,by omega,k+1,by omega,by omega,fun j hj=>?_⟩,fun c=>?_⟩,fun hge=>?_⟩
    · rw [Int.toNat_natCast] at c
      by_cases q:j=k
      · rw [q];exact c
      · exact hk j (by omega)
    · rw [decide_eq_false (by rintro rfl;exact c rfl)] at h;exact h
    · rw [decide_eq_true (ygj (by omega) fun j hj=>hk j (by omega))] at h;exact h
  · rw [decide_eq_false (by rintro rfl;exact e rfl)] at h;exact h
theorem p_same{a:List Int}{R:Bool→Prop}(hl:a.length≤1000000000)(h:R true):ye6 a a R:=yiI hl (by rw [decide_eq_true rfl];exact h)
theorem yd8{a:List (List Int)}{R:Bool→Prop}(hl:a.length≤1000000000)(he:∀ v∈a,v.length≤1000000000)(h:R true):ya0 a a R:=by
  refine ⟨fun _=>⟨Cnt a.length (fun _=>True),Cnt.start trivial,?_⟩,fun c=>absurd rfl c⟩
  rintro m _ ⟨k,rfl,rfl,hk,_⟩
  refine ⟨fun hlt=>?_,fun _=>h⟩
  have hka:k<a.length:=by omega
  rw [Int.toNat_natCast]
  exact ⟨by omega,by omega,p_same (he _ (by rw [yaM hka];exact List.getElem_mem hka)) ⟨fun _=>Cnt.next hka (by omega) trivial,fun c=>absurd rfl c⟩⟩
end
section
variable {n : Int} {es : List E3} {x : List Int} {k : Int} (ha : ∀ R : Bool → Prop, R true → yb9 R)
include ha
end
end Go.Proofs.YtencmgolklfmkaaGreat

/- The nearest vectors: what voronoi.Closest finds. -/
namespace Go.Proofs.YtencmgolklfmkaaGreat
open Go Go.RowKit Go.Shelf Go.Proofs.Tryz
set_option maxRecDepth 100000
section
variable {E : List (Int × Int)} {n : Nat}
theorem part_of2(hE:ya6 n E){z:Nat→Int}(hz:Circ E.length E z)(h0:∃ i,i<E.length∧z i≠0) :
    ∃ s p,DCyc E.length E s p∧Circ E.length E (fun i=>z i-vec p i)∧siz E.length (fun i=>z i-vec p i)<siz E.length z∧∀ i,i<E.length→0≤vec p i*(z i-vec p i):=by
  obtain ⟨s,p,hp,ha⟩:=yiM hE hz h0
  have key:∀ i,i<E.length→(z i-vec p i).natAbs≤(z i).natAbs∧0≤vec p i*(z i-vec p i)∧(vec p i≠0→(z i-vec p i).natAbs<(z i).natAbs):=by
    intro i hi
    by_cases q:vec p i=0
    · rw [q];simp
    · obtain ⟨d,hd,rfl,e⟩:=yip hp.ed q
      have h2:=(ha d hd).2
      rw [e]
      rcases ycJ d.2 with e1 | e1 <;> rw [e1] at h2 ⊢ <;> refine ⟨by omega,by omega,fun _=>by omega⟩
  obtain ⟨d,hd⟩:=List.exists_mem_of_ne_nil _ hp.ne
  refine ⟨s,p,hp,hz.sub hp.circ,siz_lt (fun i hi=>(key i hi).1) (hp.lt d hd) ((key d.1 (hp.lt d hd)).2.2 ?_),fun i hi=>(key i hi).2.1⟩
  rw [yho hp.ed hd]
  rcases ycJ d.2 with e1 | e1 <;> rw [e1] <;> decide
theorem near_pm(hE:ya6 n E){y:Nat→Int}(hy:yfz E.length E y):∀ (k:Nat) (z:Nat→Int),siz E.length z≤k→Circ E.length E z→2*dot_ E.length y z=dot_ E.length z z→pm1 E.length z:=by
  intro k
  induction k with
  | zero =>
    intro z hk hz _
    rcases yhd E.length z with h0 | h0
    · exact fun i hi => .inl (h0 i hi)
    · obtain ⟨s,p,_,_,h3,_⟩:=part_of2 hE hz h0
      omega
  | succ k ih =>
    intro z hk hz he
    rcases yhd E.length z with h0 | h0
    · exact fun i hi => .inl (h0 i hi)
    · obtain ⟨s,p,hp,hz',h3,h4⟩:=part_of2 hE hz h0
      have h5:=hy _ hz'
      have h6:=hy _ hp.circ
      have h7:0≤dot_ E.length (vec p) (fun i=>z i-vec p i):=dot_nn h4
      have e:dot_ E.length z z=dot_ E.length (vec p) (vec p)+2*dot_ E.length (vec p) (fun i=>z i-vec p i)+dot_ E.length (fun i=>z i-vec p i) (fun i=>z i-vec p i):=by
        rw [←dot_sum];exact ybA (fun i _=>by omega) (fun i _=>by omega)
      have e2:dot_ E.length y z=dot_ E.length y (vec p)+dot_ E.length y (fun i=>z i-vec p i):=by
        rw [←ygv];exact ybA (fun i _=>rfl) (fun i _=>by omega)
      have h8:dot_ E.length (vec p) (fun i=>z i-vec p i)=0:=by omega
      have h9:=ih _ (by omega) hz' (by omega)
      intro i hi
      have h10:=ygu (n:=E.length) (f:=fun i=>vec p i*(z i-vec p i)) h4 i hi
      have h11:vec p i*(z i-vec p i)=0:=Int.le_antisymm (by unfold dot_ at h8;rw [h8] at h10;exact h10) (h4 i hi)
      have h12:=ygL hp.ed i
      have h13:z i-vec p i=0∨z i-vec p i=1∨z i-vec p i = -1:=h9 i hi
      rcases Int.mul_eq_zero.1 h11 with q | q
      · omega
      · have:z i=vec p i:=by omega
        rw [this];exact h12
def enc3:List Int→Int
  | []=>0
  | a::t=>(a+1)+3*enc3 t
theorem enc3_range:∀ {l:List Int},(∀ a∈l, -1≤a∧a≤1)→0≤enc3 l∧enc3 l<((3^l.length:Nat):Int)
  | [],_=>by simp [enc3]
  | a::t,h=>by
    have h1:=enc3_range (l:=t) fun b hb=>h b (by simp [hb])
    have h2:=h a (by simp)
    rw [enc3,List.length_cons,Nat.pow_succ]
    omega
theorem enc3_inj:∀ {l m:List Int},l.length=m.length→(∀ a∈l, -1≤a∧a≤1)→(∀ a∈m, -1≤a∧a≤1)→enc3 l=enc3 m→l=m
  | [],[],_,_,_,_=>rfl
  | a::t,b::u,hl,h,k,e=>by
    have h2:=h a (by simp)
    have k2:=k b (by simp)
    rw [enc3,enc3] at e
    have h3:a=b:=by omega
    have h4:=enc3_inj (l:=t) (m:=u) (by simpa using hl) (fun c hc=>h c (by simp [hc])) (fun c hc=>k c (by simp [hc])) (by omega)
    rw [h3,h4]
theorem yfC{α β:Type}{f:α→β} : ∀ {l:List α},l.Nodup→(∀ a∈l,∀ b∈l,f a=f b→a=b)→(l.map f).Nodup
  | [],_,_=>List.nodup_nil
  | a::t,h,k=>by
    rw [List.map_cons,List.nodup_cons]
    rw [List.nodup_cons] at h
    refine ⟨fun z=>?_,yfC h.2 fun b hb c hc=>k b (by simp [hb]) c (by simp [hc])⟩
    obtain ⟨b,hb,e⟩:=List.mem_map.1 z
    have:=k b (by simp [hb]) a (by simp) e
    subst this
    exact h.1 hb
theorem pm_count{m:Nat}{l:List (List Int)}(hn:l.Nodup)(h:∀ w∈l,w.length=m∧∀ a∈w, -1≤a∧a≤1):l.length≤3^m:=by
  rw [←List.length_map (f:=enc3)]
  refine yhY (yfC hn fun a ha b hb e=>enc3_inj (by rw [(h a ha).1,(h b hb).1]) (h a ha).2 (h b hb).2 e) fun v hv=>?_
  obtain ⟨w,hw,rfl⟩:=List.mem_map.1 hv
  have:=enc3_range (h w hw).2
  rw [(h w hw).1] at this
  exact this
theorem IsDC.circ{y:List Int}(h:IsDC E y):Circ E.length E (gi y):=by
  obtain ⟨s,p,hp,rfl⟩:=h
  exact hp.circ.congr fun i hi=>(ycc _ hi).symm
theorem circ_zero:Circ E.length E fun _=>0:=fun v=>by
  unfold bdy
  rw [yaw (g:=fun _=>0) fun i _=>Int.zero_mul _,ybY]
theorem Circ.add{m:Nat}{x y:Nat→Int}(hx:Circ m E x)(hy:Circ m E y):Circ m E (fun i=>x i+y i):=fun v=>by rw [bdy_add,hx v,hy v];rfl
theorem IsDC.neg(hE:ya6 n E){y:List Int}(h:IsDC E y):IsDC E (tab (fun i => -gi y i) E.length):=by
  obtain ⟨s,p,hp,rfl⟩:=h
  have hset:=hp.set (n:=n)
  have hb:∀ i,i<E.length→gi (tab (vec p) E.length) i=vec p i:=fun i hi=>ycc _ hi
  rw [show tab (fun i => -gi (tab (vec p) E.length) i) E.length=tab (fun i => -vec p i) E.length from ygB fun i hi=>by rw [hb i hi]]
  obtain ⟨d,hd⟩:=List.exists_mem_of_ne_nil _ hp.ne
  refine (hset.dc hE hp.circ.neg (fun i hi z=>(yio hp.ed i).1 (by have z : -vec p i≠0:=z;omega)) ⟨d.1,hp.lt d hd,?_⟩ fun i hi=>?_).1
  · show -vec p d.1≠0
    rw [yho hp.ed hd]
    rcases ycJ d.2 with e | e <;> rw [e] <;> decide
  · show -vec p i=0 ∨ -vec p i=1 ∨ -vec p i = -1
    have:=ygL hp.ed i
    omega
variable {zs : List (List Int)}
theorem slF_circ(hz:CycL E zs):∀ {f:Nat} {x:List Int} {k:Nat} {y:List Int} {j:Nat},x.length=E.length→slF zs f x k=some (y,j)→Circ E.length E fun i=>gi x i-gi y i
  | f,x,k,y,j,hx,h=>by
    cases hs:ydR zs x 1 with
    | none =>
      rw [yej hs] at h;cases h
      exact circ_zero.congr fun i _=>by omega
    | some v =>
      match f with
      | 0=>rw [yis hs] at h;cases h
      | f+1 =>
        rw [ygd hs] at h
        have h1:=slF_circ hz (f:=f) (by rw [ybl];exact hx) h
        have h2:=((hz.mem v).1 (yh6 hs).1).circ
        refine (h1.add h2).congr fun i hi=>?_
        rw [ybS (by omega)];omega
theorem slF_down:∀ {f:Nat} {x:List Int} {k:Nat} {y:List Int} {j:Nat},Vs x.length zs→slF zs f x k=some (y,j)→dotL y y≤dotL x x
  | f,x,k,y,j,hx,h=>by
    cases hs:ydR zs x 1 with
    | none=>rw [yej hs] at h;cases h;exact Int.le_refl _
    | some v =>
      match f with
      | 0=>rw [yis hs] at h;cases h
      | f+1 =>
        rw [ygd hs] at h
        have h1:=slF_down (f:=f) (by rw [ybl];exact hx) h
        have h2:=yiu hx hs
        omega
theorem slF_total:∀ {f:Nat} {x:List Int} {k:Nat},Vs x.length zs→dotL x x≤(f:Int)→∃ y j,slF zs f x k=some (y,j)
  | f,x,k,hx,h=>by
    cases hs:ydR zs x 1 with
    | none=>exact ⟨x,k,yej hs⟩
    | some v =>
      have h2:=yiu hx hs
      have h3:=yjD (m:=(ybi x v).length) (gi (ybi x v))
      have h3:0≤dotL (ybi x v) (ybi x v):=h3
      match f,h with
      | 0,h=>omega
      | f+1,h =>
        obtain ⟨y,j,e⟩:=slF_total (f:=f) (x:=ybi x v) (k:=k+1) (by rw [ybl];exact hx) (by omega)
        exact ⟨y,j,by rw [ygd hs];exact e⟩
theorem least_step(hE:ya6 n E)(hz:CycL E zs){y:List Int}(hy:y.length=E.length)(hs:ydR zs y 1=none):yfz E.length E (gi y):=by
  refine least_of hE fun s p hp=>?_
  have hmem:tab (vec p) E.length∈zs:=(hz.mem _).2 ⟨s,p,hp,rfl⟩
  have h1:=List.find?_eq_none.1 hs _ hmem
  have h1:¬(1*dotL (tab (vec p) E.length) (tab (vec p) E.length)<2*dotL y (tab (vec p) E.length)):=fun z=>h1 (decide_eq_true z)
  unfold dotL at h1
  rw [yaI,hy,ybA (x:=gi (tab (vec p) E.length)) (x':=vec p) (y:=gi (tab (vec p) E.length)) (y':=vec p) (fun i hi=>ycc _ hi) fun i hi=>ycc _ hi,ybA (x:=gi y) (x':=gi y) (y:=gi (tab (vec p) E.length)) (y':=vec p) (fun i hi=>rfl) fun i hi=>ycc _ hi] at h1
  omega
structure NearC(E:List (Int×Int))(x:List Int)(d:Int)(z:List Int):Prop where
  len:z.length=E.length
  circ:Circ E.length E (gi z)
  dist:dotL (ybi x z) (ybi x z)=d
theorem yie{x z:List Int}(hx:x.length=E.length):dotL (ybi x z) (ybi x z)=dot_ E.length (fun i=>gi x i-gi z i) (fun i=>gi x i-gi z i):=by
  unfold dotL
  rw [ybl,hx]
  exact ybA (fun i hi=>ybS (by omega)) fun i hi=>ybS (by omega)
structure NInv(E:List (Int×Int))(zs:List (List Int))(x:List Int)(d:Int)(z0:List Int)(v:List (List Int)):Prop where
  nd:v.Nodup
  near:∀ z∈v,NearC E x d z
  first:z0∈v
section
variable {x y : List Int} {d : Int}
structure ClOk(n:Nat)(E:List (Int×Int))(zs:List (List Int))(x y:List Int):Prop where
  hE:ya6 n E
  zs:CycL E zs
  m8:E.length≤8
  xl:x.length=E.length
  x9:Bd 9 x
  yl:y.length=E.length
  yc:Circ E.length E fun i=>gi x i-gi y i
  le:yfz E.length E (gi y)
  dn:dotL y y≤dotL x x
variable (H : ClOk n E zs x y)
include H
theorem ClOk.z0:NearC E x (dotL y y) (ybi x y):=by
  refine ⟨by rw [ybl,H.xl],H.yc.congr fun i hi=>(ybS (by rw [H.xl];exact hi)).symm,?_⟩
  rw [yie H.xl]
  unfold dotL
  rw [H.yl]
  exact ybA (fun i hi=>by rw [ybS (by rw [H.xl];exact hi)];omega) fun i hi=>by rw [ybS (by rw [H.xl];exact hi)];omega
theorem ClOk.least{z:List Int}(hc:Circ E.length E (gi z)):dotL y y≤dotL (ybi x z) (ybi x z):=by
  have h1:=H.le.dist (z:=fun i=>gi z i-(gi x i-gi y i)) (hc.sub H.yc)
  rw [yie H.xl]
  unfold dotL
  rw [H.yl]
  refine Int.le_trans h1 (Int.le_of_eq (ybA (fun i _=>by omega) fun i _=>by omega))
theorem ClOk.least_at{z:List Int}(hz:NearC E x (dotL y y) z):yfz E.length E (fun i=>gi x i-gi z i):=by
  have h1:=H.le.move (z:=fun i=>gi z i-(gi x i-gi y i)) (hz.circ.sub H.yc) ?_
  · refine fun u hu=>?_
    have:=h1 u hu
    rw [ybA (x:=fun i=>gi x i-gi z i) (x':=fun i=>gi y i-(gi z i-(gi x i-gi y i))) (y:=u) (y':=u) (fun i _=>by omega) fun i _=>rfl]
    exact this
  · have h2:=hz.dist
    rw [yie H.xl] at h2
    unfold dotL at h2
    rw [H.yl] at h2
    rw [←h2]
    exact ybA (fun i _=>by omega) fun i _=>by omega
theorem ClOk.bdx:dotL x x≤729:=by
  have h1:=yih H.x9 H.x9 rfl
  have h2:=Nat.mul_le_mul_right (9*9) (show x.length≤8 by rw [H.xl];exact H.m8)
  omega
theorem NearC.bd{z:List Int}(hz:NearC E x (dotL y y) z):Bd 27 (ybi x z)∧Bd 36 z:=by
  have h1:=H.bdx
  have h2:=H.dn
  have h3:Bd 27 (ybi x z):=yiA (by rw [hz.dist];omega)
  refine ⟨h3,fun i hi=>?_⟩
  have hi':i<x.length:=by rw [H.xl,←hz.len];exact hi
  have h4:=h3 i (by rw [ybl];exact hi')
  rw [ybS hi'] at h4
  have h5:=H.x9 i hi'
  omega
theorem ClOk.count{v:List (List Int)}(hv:NInv E zs x (dotL y y) (ybi x y) v):v.length≤6561:=by
  have h1:(v.map fun z=>ybi z (ybi x y)).length≤3^E.length:=by
    refine pm_count (yfC hv.nd fun a ha b hb e=>?_) fun w hw=>?_
    · have la:=(hv.near a ha).len
      have lb:=(hv.near b hb).len
      refine ygj (by omega) fun i hi=>?_
      have e2:gi (ybi a (ybi x y)) i=gi (ybi b (ybi x y)) i:=by rw [e]
      rw [ybS hi,ybS (x:=b) (by omega)] at e2
      omega
    · obtain ⟨z,hz,rfl⟩:=List.mem_map.1 hw
      have hn:=hv.near z hz
      refine ⟨by rw [ybl,hn.len],fun a ha=>?_⟩
      obtain ⟨i,hi,rfl⟩:=List.getElem_of_mem ha
      rw [ybl] at hi
      rw [←ybe (by rw [ybl];exact hi),ybS hi,ybS (by rw [H.xl,←hn.len];exact hi)]
      have hc:Circ E.length E (fun i=>gi z i-(gi x i-gi y i)):=hn.circ.sub H.yc
      have:=near_pm H.hE H.le _ _ (Nat.le_refl _) hc ?_ i (by rw [←hn.len];exact hi)
      · rcases this with q | q | q <;> rw [q] <;> decide
      · have h2:=hn.dist
        rw [yie H.xl] at h2
        unfold dotL at h2
        rw [H.yl] at h2
        rw [ybA (x:=fun i=>gi x i-gi z i) (x':=fun i=>gi y i-(gi z i-(gi x i-gi y i))) (y:=fun i=>gi x i-gi z i) (y':=fun i=>gi y i-(gi z i-(gi x i-gi y i))) (fun i _=>by omega) fun i _=>by omega,ygA] at h2
        omega
  rw [List.length_map] at h1
  have h2:(3:Nat)^E.length≤3^8:=Nat.pow_le_pow_right (by omega) H.m8
  have h3:(3:Nat)^8=6561:=by decide
  omega
theorem ClOk.all{v:List (List Int)}(hv:NInv E zs x (dotL y y) (ybi x y) v)(hcl:∀ z∈v,∀ c∈zs,NearC E x (dotL y y) (ybi z c)→ybi z c∈v):∀ (k:Nat) (z u:List Int),NearC E x (dotL y y) z→u∈v→siz E.length (fun i=>gi z i-gi u i)≤k→z∈v:=by
  intro k
  have base:∀ z u:List Int,NearC E x (dotL y y) z→u∈v→(∀ i,i<E.length→gi z i-gi u i=0)→z∈v:=fun z u hz hu h0=>by
    have:=hv.near u hu
    rw [show z=u from ygj (by rw [hz.len,this.len]) fun i hi=>by have:=h0 i (by rw [←hz.len];exact hi);omega]
    exact hu
  induction k with
  | zero =>
    intro z u hz hu hk
    have hc:=hz.circ.sub (hv.near u hu).circ
    rcases yhd E.length (fun i=>gi z i-gi u i) with h0 | h0
    · exact base z u hz hu h0
    · obtain ⟨s,p,_,_,h3,_⟩:=part_of2 H.hE hc h0
      omega
  | succ k ih =>
    intro z u hz hu hk
    have hnu:=hv.near u hu
    have hc:=hz.circ.sub hnu.circ
    rcases yhd E.length (fun i=>gi z i-gi u i) with h0 | h0
    · exact base z u hz hu h0
    · have hl:=H.least_at hnu
      have d1:=hz.dist
      have d2:=hnu.dist
      rw [yie H.xl] at d1 d2
      obtain ⟨s,p,hp,h1,h2,h3⟩:=near_step H.hE hl hc (by rw [d2,←d1];exact ybA (fun i _=>by omega) fun i _=>by omega) h0
      obtain ⟨c,hcdef⟩:∃ c,c=tab (fun i => -gi (tab (vec p) E.length) i) E.length:=⟨_,rfl⟩
      have hcz:c∈zs:=by rw [hcdef];exact (H.zs.mem _).2 (IsDC.neg H.hE ⟨s,p,hp,rfl⟩)
      have hgc:∀ i,i<E.length→gi c i = -vec p i:=fun i hi=>by rw [hcdef,ycc _ hi,ycc _ hi]
      have hul:u.length=E.length:=hnu.len
      have hgu:∀ i,i<E.length→gi (ybi u c) i=gi u i+vec p i:=fun i hi=>by rw [ybS (by omega),hgc i hi];omega
      have hnew:NearC E x (dotL y y) (ybi u c):=by
        refine ⟨by rw [ybl,hul],(hnu.circ.add hp.circ).congr fun i hi=>(hgu i hi).symm,?_⟩
        rw [yie H.xl,←d2,←h3]
        exact ybA (fun i hi=>by rw [hgu i hi];omega) fun i hi=>by rw [hgu i hi];omega
      refine ih z (ybi u c) hz (hcl u hu c hcz hnew) ?_
      have:siz E.length (fun i=>gi z i-gi (ybi u c) i)=siz E.length (fun i=>gi z i-gi u i-vec p i):=by
        unfold siz
        refine congrArg Int.toNat (yaw fun i hi=>?_)
        show ((gi z i-gi (ybi u c) i).natAbs:Int)=((gi z i-gi u i-vec p i).natAbs:Int)
        rw [hgu i hi,show gi z i-(gi u i+vec p i)=gi z i-gi u i-vec p i by omega]
      omega
end
end
end Go.Proofs.YtencmgolklfmkaaGreat

/- voronoi.Closest returns the nearest vectors. -/
namespace Go.Proofs.YtencmgolklfmkaaGreat
open Go Go.RowKit Go.Shelf Go.Proofs.Tryz
set_option maxRecDepth 100000
theorem p_containsLL{s:List (List Int)}{F:List Int→(Bool→Prop)→Prop}{p:List Int→Bool}{R:Bool→Prop}(hl:s.length≤1000000000)(hF:∀ v∈s,∀ R':Bool→Prop,R' (p v)→F v R')(h:R (s.any p)):yaX s F R:=by
  refine ⟨fun m i=>Cnt s.length (fun k=>s.any p=(s.drop k).any p) m i,Cnt.start rfl,?_⟩
  rintro m _ ⟨k,rfl,rfl,hk,he⟩
  refine ⟨fun hlt=>?_,fun hge=>?_⟩
  · have hks:k<s.length:=by omega
    rw [Int.toNat_natCast]
    rw [List.drop_eq_getElem_cons hks,List.any_cons,←yaM hks] at he
    refine ⟨by omega,hF _ (by rw [yaM hks];exact List.getElem_mem hks) _ ⟨fun c=>?_,fun c=>?_⟩⟩
    · rw [he,c,Bool.true_or] at h
      show R (decide (0≤(k:Int)))
      rw [decide_eq_true (by omega)];exact h
    · have c:p (gx s k)=false:=by simpa using c
      rw [c,Bool.false_or] at he
      exact Cnt.next hks (by omega) he
  · have:k=s.length:=by omega
    rw [he,this,List.drop_length] at h;exact h
theorem p_containsL{s:List Int}{F:Int→(Bool→Prop)→Prop}{p:Int→Bool}{R:Bool→Prop}(hl:s.length≤1000000000)(hF:∀ v∈s,∀ R':Bool→Prop,R' (p v)→F v R')(h:R (s.any p)):yaR s F R:=by
  refine ⟨fun m i=>Cnt s.length (fun k=>s.any p=(s.drop k).any p) m i,Cnt.start rfl,?_⟩
  rintro m _ ⟨k,rfl,rfl,hk,he⟩
  refine ⟨fun hlt=>?_,fun hge=>?_⟩
  · have hks:k<s.length:=by omega
    rw [Int.toNat_natCast]
    rw [List.drop_eq_getElem_cons hks,List.any_cons,←ybe hks] at he
    refine ⟨by omega,hF _ (yjg hks) _ ⟨fun c=>?_,fun c=>?_⟩⟩
    · rw [he,c,Bool.true_or] at h
      show R (decide (0≤(k:Int)))
      rw [decide_eq_true (by omega)];exact h
    · have c:p (gi s k)=false:=by simpa using c
      rw [c,Bool.false_or] at he
      exact Cnt.next hks (by omega) he
  · have:k=s.length:=by omega
    rw [he,this,List.drop_length] at h;exact h
def out9(a:Int):Bool:=!decide (-9≤a∧a≤9)
theorem p_out9{a:Int}{R:Bool→Prop}(h:R (out9 a)):((a<(-9)→R true)∧(¬(a<(-9))→R (decide (9<a)))):=by
  unfold out9 at h
  refine ⟨fun c=>?_,fun c=>?_⟩
  · rw [decide_eq_false (by omega)] at h;exact h
  · by_cases q:9<a
    · rw [decide_eq_false (by omega)] at h;rw [decide_eq_true q];exact h
    · rw [decide_eq_true (by omega)] at h;rw [decide_eq_false q];exact h
theorem any9{x:List Int} : x.any out9=false↔Bd 9 x:=by
  rw [List.any_eq_false]
  constructor
  · intro h i hi
    have:=h _ (yjg hi)
    unfold out9 at this
    have : -9≤gi x i∧gi x i≤9:=by simpa using this
    omega
  · intro h a ha
    obtain ⟨i,hi,rfl⟩:=List.getElem_of_mem ha
    have:=h i hi
    rw [ybe hi] at this
    unfold out9
    simp only [Bool.not_eq_true',decide_eq_false_iff_not,Classical.not_not]
    omega
def genE(n:Int)(es:List E3):Int:=((ybd es).length:Int)+1-n
section
variable {n : Int} {es : List E3} {x : List Int}
theorem p_genus(H:SmP n es)(q:smlE n es=0){R:Int→Int→Prop}(h:R (genE n es) 0):ycp n es R:=by
  obtain ⟨k,rfl,G,hc,h5,h8⟩:=H.get q
  obtain ⟨hE,h1,h12⟩:=ybr G.g
  refine p_graph_Genus (by have:=H.es40;omega) G.g (fun v hv=>(yhM hE h1 h12 hv).1 hc) ?_
  rw [G.size];exact h
theorem p_near_list{m:Nat}{E:List (Int×Int)}{zs:List (List Int)}{y:List Int}(H:ClOk m E zs x y)(hzl:zs.length≤1000000000){R:List (List Int)→Prop}(hR:∀ L,Asc L→(∀ z,z∈L↔NearC E x (dotL y y) z)→R L) :
    (∃ I2:Nat→(List (List Int))→Int→Prop,(∃ m0,I2 m0 ([ybi x y]) 0)∧∀ (m2:Nat) (v:List (List Int)) (v2:Int),I2 m2 v v2 →
      ((v2<((v.length:Nat):Int) →
        (∃ I3:Nat→(List (List Int))→Int→Prop,(∃ m0,I3 m0 v 0)∧∀ (m3:Nat) (v3:List (List Int)) (v4:Int),I3 m3 v3 v4 →
          ((v4<((zs.length:Nat):Int) →
            ((0≤v4∧v4<((zs.length:Nat):Int))∧((0≤v2∧v2<((v3.length:Nat):Int)) ∧
              ybg (gx v3 v2.toNat) (gx zs v4.toNat) (fun (r10:List Int)=>ybg x r10 (fun (r11:List Int)=>ya2 r11 r11 (fun (r12:Int) =>
                ((r12=dotL y y→yaX v3 (fun x R=>ybX x r10 R) (fun (r13:Bool) =>
                    ((r13=true→(In64 (v4+1)∧∃ m4,m4<m3∧I3 m4 v3 (v4+1)))∧(¬(r13=true)→(v3.length+1≤1000000000∧(In64 (v4+1)∧∃ m5,m5<m3∧I3 m5 (v3++[r10]) (v4+1))))))) ∧
                  (¬(r12=dotL y y)→(In64 (v4+1)∧∃ m6,m6<m3∧I3 m6 v3 (v4+1)))))))))) ∧
          (¬(v4<((zs.length:Nat):Int))→(In64 (v2+1)∧∃ m7,m7<m2∧I2 m7 v3 (v2+1)))))) ∧
      (¬(v2<((v.length:Nat):Int))→ydr v (fun (y:List (List Int))=>R y)))):=by
  obtain ⟨d,hd⟩:∃ d,d=dotL y y:=⟨_,rfl⟩
  obtain ⟨z0,hz0⟩:∃ z0,z0=ybi x y:=⟨_,rfl⟩
  have hcount:∀ v,NInv E zs x d z0 v→v.length≤6561:=fun v hv=>by rw [hd,hz0] at hv;exact H.count hv
  have hbd:∀ z,NearC E x d z→Bd 27 (ybi x z)∧Bd 36 z:=fun z hz=>by rw [hd] at hz;exact NearC.bd H hz
  have hvs:=H.zs.vs
  have hst:NInv E zs x d z0 [z0]:=⟨by simp,fun z hz=>by rw [List.mem_singleton.1 hz,hd,hz0];exact H.z0,by simp⟩
  have hxl:=H.xl
  have hm8:=H.m8
  refine ⟨fun m2 v v2=>∃ j:Nat,v2=j∧j≤v.length∧j+m2=6562∧NInv E zs x d z0 v∧∀ i,i<j→∀ c∈zs,NearC E x d (ybi (gx v i) c)→ybi (gx v i) c∈v,⟨6562,0,rfl,by omega,rfl,by rw [←hz0];exact hst,fun i hi=>by omega⟩,?_⟩
  rintro m2 v v2 ⟨j,rfl,hjv,hjm,hN,hcl⟩
  have hvl:=hcount v hN
  refine ⟨fun hlt=>?_,fun hge=>?_⟩
  · have hjl:j<v.length:=by omega
    refine ⟨fun m3 v3 v4=>Cnt zs.length (fun t=>NInv E zs x d z0 v3∧v <+: v3∧∀ i,i<t→NearC E x d (ybi (gx v j) (gx zs i))→ybi (gx v j) (gx zs i)∈v3) m3 v4,Cnt.start ⟨hN,List.prefix_refl _,fun i hi=>by omega⟩,?_⟩
    rintro m3 v3 v4 ⟨t,rfl,rfl,ht,hN3,hpre,hin⟩
    have hv3l:=hcount v3 hN3
    have hple:=hpre.length_le
    refine ⟨fun hlt2=>?_,fun hge2=>?_⟩
    · have htz:t<zs.length:=by omega
      have hgx3:gx v3 j=gx v j:=by
        rw [yaM (by omega),yaM hjl]
        exact (hpre.getElem hjl).symm
      have hu:=hN.near (gx v j) (by rw [yaM hjl];exact List.getElem_mem hjl)
      obtain ⟨c1,c2⟩:=hvs (gx zs t) (by rw [yaM htz];exact List.getElem_mem htz)
      have hcz:gx zs t∈zs:=by rw [yaM htz];exact List.getElem_mem htz
      obtain ⟨u1,u2⟩:=hbd _ hu
      rw [Int.toNat_natCast,Int.toNat_natCast,hgx3]
      have ul:=hu.len
      have b1:Bd 37 (ybi (gx v j) (gx zs t)):=fun i hi=>by
        rw [ybl] at hi
        rw [ybS hi]
        have h1:=u2 i hi
        have h2:=c2 i (by omega)
        omega
      have l1:(ybi (gx v j) (gx zs t)).length=E.length:=by rw [ybl,ul]
      have b2:Bd 46 (ybi x (ybi (gx v j) (gx zs t))):=fun i hi=>by
        rw [ybl] at hi
        rw [ybS hi]
        have h1:=H.x9 i hi
        have h2:=b1 i (by omega)
        omega
      refine ⟨by omega,by omega,ydE (by omega) (by omega) (u2.mono (by decide)) (c2.mono (by decide)) ?_⟩
      refine ydE (by omega) (by omega) (H.x9.mono (by decide)) (b1.mono (by decide)) ?_
      refine ycD rfl (by rw [ybl];omega) (b2.mono (by decide)) (b2.mono (by decide)) ?_
      obtain ⟨w,hw⟩:∃ w,w=ybi (gx v j) (gx zs t):=⟨_,rfl⟩
      have hcirc:Circ E.length E (gi w):=by
        rw [hw]
        exact (hu.circ.sub ((H.zs.mem _).1 hcz).circ).congr fun i hi=>(ybS (by omega)).symm
      have hnw:dotL (ybi x w) (ybi x w)=d→NearC E x d w:=fun q=>⟨by rw [hw];exact l1,hcirc,q⟩
      rw [←hw,←hd]
      rw [←hw] at l1 b1
      have nx:∀ v3':List (List Int),NInv E zs x d z0 v3'→v3 <+: v3'→(NearC E x d w→w∈v3')→In64 ((t:Int)+1)∧∃ m',m'<zs.length-t∧Cnt zs.length (fun t=>NInv E zs x d z0 v3'∧v <+: v3'∧∀ i,i<t→NearC E x d (ybi (gx v j) (gx zs i))→ybi (gx v j) (gx zs i)∈v3') m' ((t:Int)+1):=fun v3' g1 g2 g3=>Cnt.next htz (by omega) ⟨g1,hpre.trans g2,fun i hi hz=>by
        by_cases e:i=t
        · subst e;rw [←hw] at hz ⊢;exact g3 hz
        · exact g2.subset (hin i (by omega) hz)⟩
      refine ⟨fun q=>p_containsLL (p:=fun z=>decide (w=z)) (by omega) (fun z hz R' hR'=>yh7 (by omega) hR') ⟨fun c=>?_,fun c=>?_⟩,fun q=>nx v3 hN3 (List.prefix_refl _) fun z=>absurd z.dist q⟩
      · obtain ⟨z,hz,hp⟩:=List.any_eq_true.1 c
        have:=of_decide_eq_true hp
        subst this
        exact nx v3 hN3 (List.prefix_refl _) fun _=>hz
      · have hnot:w∉v3:=fun z=>c (List.any_eq_true.2 ⟨w,z,decide_eq_true rfl⟩)
        have hN3':NInv E zs x d z0 (v3++[w]):=by
          refine ⟨?_,fun z hz=>?_,List.mem_append_left _ hN3.first⟩
          · rw [List.nodup_append]
            refine ⟨hN3.nd,by simp,fun a ha b hb e=>?_⟩
            rw [List.mem_singleton.1 hb] at e
            subst e;exact hnot ha
          · rcases List.mem_append.1 hz with h | h
            · exact hN3.near z h
            · rw [List.mem_singleton.1 h];exact hnw q
        exact ⟨by omega,nx _ hN3' (List.prefix_append _ _) fun _=>by simp⟩
    · have:t=zs.length:=by omega
      subst this
      refine ⟨i64 (by omega),m2-1,by omega,j+1,by omega,by omega,by omega,hN3,fun i hi c hc hz=>?_⟩
      have hgx3:gx v3 i=gx v i:=by
        rw [yaM (by omega),yaM (by omega)]
        exact (hpre.getElem (by omega)).symm
      rw [hgx3] at hz ⊢
      by_cases e:i=j
      · subst e
        obtain ⟨t,ht2,rfl⟩:=List.getElem_of_mem hc
        rw [←yaM ht2] at hz ⊢
        exact hin t ht2 hz
      · exact hpre.subset (hcl i (by omega) c hc hz)
  · have:j=v.length:=by omega
    subst this
    refine ⟨by omega,fun z hz=>?_,fun L hp hs=>hR L (asc_of hp hs hN.nd) fun z=>⟨fun hz=>?_,fun hz=>?_⟩⟩
    · have:=(hN.near z hz).len;omega
    · rw [←hd];exact hN.near z (hp.mem_iff.1 hz)
    · refine hp.mem_iff.2 ?_
      rw [hd,hz0] at hN
      rw [hd] at hcl
      refine H.all hN (fun u hu c hc hn=>?_) _ z _ hz hN.first (Nat.le_refl _)
      obtain ⟨i,hi,rfl⟩:=List.getElem_of_mem hu
      rw [←yaM hi] at hn ⊢
      exact hcl i hi c hc hn
theorem yg3(H:SmP n es){R:List (List Int)→Int→Int→Prop}(h1:vecE n es x≠0→R [] 0 (vecE n es x))(h2:vecE n es x=0→(4<genE n es∨¬Bd 9 x)→R [] 0 12)
    (h3:vecE n es x=0→genE n es≤4→Bd 9 x→∀ zs y k (m:Nat),n=m→CycL (ybd es) zs→slF zs 4096 x 0=some (y,k)→ClOk m (ybd es) zs x y→∀ L,Asc L→(∀ z,z∈L↔NearC (ybd es) x (dotL y y) z)→R L (dotL y y) 0):yct n es x R:=by
  refine ydP H (fun q=>⟨fun z=>absurd z q,fun _=>h1 q⟩) fun q zs hz=>⟨fun _=>p_genus H (ye0 q).1 ⟨fun _=>?_,fun z=>absurd rfl z⟩,fun z=>absurd rfl z⟩
  have q1:=(ye0 q).1
  have q2:=(ye0 q).2.1
  obtain ⟨m,rfl,G,hc,h5,h8⟩:=H.get q1
  refine ⟨genE m es≤4∧Bd 9 x,fun ⟨g4,b9⟩=>?_,fun c=>h2 q (.inl c),fun c=>?_⟩
  · have S:=yjj H q (b9.mono (by decide)) hz
    have hd0:=yih b9 b9 rfl
    have hd1:=Nat.mul_le_mul_right (9*9) (show x.length≤8 by omega)
    obtain ⟨y,k,hy⟩:=slF_total (f:=4096) (k:=0) S.vs (by omega)
    have hyl:=slF_len hy
    have hdn:=slF_down S.vs hy
    have C:ClOk m (ybd es) zs x y:=⟨G.ok,hz,h8,q2,b9,by omega,slF_circ hz q2 hy,least_step G.ok hz (by omega) (slF_le hy).2,hdn⟩
    have by2:Bd 2000000 y:=yiA (by have:=S.sq;omega)
    refine yfp S (fun v hv=>((hz.mem v).1 hv).nn) (fun y' k' hy'=>?_) fun hn=>by rw [hn] at hy;cases hy
    rw [hy] at hy'
    cases hy'
    refine ⟨fun _=>ycD rfl (by omega) by2 by2 (ydE (by omega) (by omega) (b9.mono (by decide)) (by2.mono (by decide)) ?_),fun z=>absurd rfl z⟩
    exact p_near_list C S.len fun L hL hm=>h3 q g4 b9 zs y k m rfl hz hy C L hL hm
  · refine p_containsL (p:=out9) (by omega) (fun v _ R' hR'=>p_out9 hR') ⟨fun d=>h2 q (.inr fun z=>?_),fun d=>⟨by omega,any9.1 (by simpa using d)⟩⟩
    rw [any9.2 z] at d;cases d
end
end Go.Proofs.YtencmgolklfmkaaGreat

/- The first spanning tree, plainly. -/
namespace Go.Proofs.YtencmgolklfmkaaGreat
open Go Go.RowKit Go.Shelf Go.Proofs.Tryz
set_option maxRecDepth 100000
def eA(E:List (Int×Int))(i:Nat):Nat:=(gx E i).1.toNat
def eB(E:List (Int×Int))(i:Nat):Nat:=(gx E i).2.toNat
def pt(E:List (Int×Int)):Nat→Nat→Nat
  | 0,v=>v
  | k+1,v=>if pt E k v=pt E k (eB E k) then pt E k (eA E k) else pt E k v
def inT(E:List (Int×Int))(i:Nat):Bool:=decide (pt E i (eA E i)≠pt E i (eB E i))
section
variable {E : List (Int × Int)}
theorem pt_same(k:Nat){u v:Nat}(h:pt E k u=pt E k v):pt E (k+1) u=pt E (k+1) v:=by
  rw [pt,pt,h]
theorem pt_edge:∀ {k i:Nat},i<k→pt E k (eA E i)=pt E k (eB E i)
  | k+1,i,h=>by
    by_cases e:i=k
    · subst e
      rw [pt,pt,if_pos rfl]
      split <;> rfl
    · exact pt_same k (pt_edge (by omega))
theorem pt_span{α:Type}{h:Nat→α} : ∀ {k:Nat},(∀ i,i<k→inT E i=true→h (eA E i)=h (eB E i))→∀ {u v:Nat},pt E k u=pt E k v→h u=h v
  | 0,_,u,v,e=>by
    have e:u=v:=e
    rw [e]
  | k+1,hh,u,v,e=>by
    have ih:∀ {u v:Nat},pt E k u=pt E k v→h u=h v:=fun e=>pt_span (k:=k) (h:=h) (fun i hi=>hh i (by omega)) e
    by_cases q:pt E k (eA E k)=pt E k (eB E k)
    · have nk:∀ w,pt E (k+1) w=pt E k w:=fun w=>by
        rw [pt];split
        · rename_i z;rw [z,q]
        · rfl
      rw [nk,nk] at e
      exact ih e
    · have hk:=hh k (by omega) (decide_eq_true q)
      rw [pt,pt] at e
      by_cases q1:pt E k u=pt E k (eB E k) <;> by_cases q2:pt E k v=pt E k (eB E k)
      · exact ih (q1.trans q2.symm)
      · rw [if_pos q1,if_neg q2] at e
        rw [ih q1,←hk];exact ih e
      · rw [if_neg q1,if_pos q2] at e
        rw [ih q2,←hk];exact ih e
      · rw [if_neg q1,if_neg q2] at e
        exact ih e
variable {n : Nat} (hE : ya6 n E)
include hE
theorem eA_lt{i:Nat}(hi:i<E.length):(gx E i).1=(eA E i:Nat)∧eA E i<n:=by
  have:=hE (gx E i) (by rw [yaM hi];exact List.getElem_mem hi)
  unfold eA;omega
theorem eB_lt{i:Nat}(hi:i<E.length):(gx E i).2=(eB E i:Nat)∧eB E i<n:=by
  have:=hE (gx E i) (by rw [yaM hi];exact List.getElem_mem hi)
  unfold eB;omega
theorem dot_drop(f:Nat→Int)(x:Nat→Int):dot_ E.length x (fun i=>f (eB E i)-f (eA E i))=sm n fun v=>f v*bdy E.length E x (v:Int):=by
  have h1:∀ v,v<n→f v*bdy E.length E x (v:Int)=sm E.length fun i=>x i*((if eB E i=v then f v else 0)-if eA E i=v then f v else 0):=fun v hv=>by
    unfold bdy
    rw [←yjF]
    refine yaw fun i hi=>?_
    have ha:=(eA_lt hE hi).1
    have hb:=(eB_lt hE hi).1
    rw [ha,hb]
    by_cases q1:eB E i=v <;> by_cases q2:eA E i=v
    · rw [if_pos (by omega),if_pos (by omega),if_pos q1,if_pos q2];simp
    · rw [if_pos (by omega),if_neg (by omega),if_pos q1,if_neg q2,Int.sub_zero,Int.sub_zero,Int.mul_one,Int.mul_comm]
    · rw [if_neg (by omega),if_pos (by omega),if_neg q1,if_pos q2,Int.zero_sub,Int.zero_sub,Int.mul_neg,Int.mul_neg,Int.mul_neg,Int.mul_one,Int.mul_comm]
    · rw [if_neg (by omega),if_neg (by omega),if_neg q1,if_neg q2];simp
  rw [yaw h1,sm_swap]
  unfold dot_
  refine yaw fun i hi=>?_
  rw [yjF,ygl]
  have h2:∀ w,w<n→sm n (fun v=>if w=v then f v else 0)=f w:=fun w hw=>by
    rw [yaw (g:=fun v=>if v=w then f w else 0) fun v _=>?_,ygg _ hw]
    by_cases q:w=v
    · rw [if_pos q,if_pos q.symm,q]
    · rw [if_neg q,if_neg fun z=>q z.symm]
  rw [h2 _ (eB_lt hE hi).2,h2 _ (eA_lt hE hi).2]
theorem circ_drop{x:Nat→Int}(hx:Circ E.length E x)(f:Nat→Int):dot_ E.length x (fun i=>f (eB E i)-f (eA E i))=0:=by
  rw [dot_drop hE,yaw (g:=fun _=>0) fun v _=>by rw [hx];exact Int.mul_zero _,ybY]
theorem tree_zero{x:Nat→Int}(hx:Circ E.length E x)(hs:∀ i,i<E.length→x i≠0→inT E i=true):∀ i,i<E.length→x i=0:=by
  refine fun i0 hi0=>Classical.byContradiction fun hne=>?_
  -- the last one
  obtain ⟨i,hi,hxi,hlast⟩:∃ i,i<E.length∧x i≠0∧∀ j,j<E.length→i<j→x j=0:=by
    have:∀ k,(∃ i,i<E.length∧E.length≤i+k∧x i≠0)→∃ i,i<E.length∧x i≠0∧∀ j,j<E.length→i<j→x j=0:=by
      intro k
      induction k with
      | zero=>rintro ⟨i,h1,h2,h3⟩;omega
      | succ k ih =>
        rintro ⟨i,h1,h2,h3⟩
        by_cases c:∃ j,j<E.length∧i<j∧x j≠0
        · obtain ⟨j,j1,j2,j3⟩:=c
          exact ih ⟨j,j1,by omega,j3⟩
        · exact ⟨i,h1,h3,fun j j1 j2=>Classical.byContradiction fun z=>c ⟨j,j1,j2,z⟩⟩
    exact this E.length ⟨i0,hi0,by omega,hne⟩
  have hT:=of_decide_eq_true (hs i hi hxi)
  have h0:=circ_drop hE hx fun v=>if pt E i v=pt E i (eA E i) then 1 else 0
  unfold dot_ at h0
  rw [sm_at hi] at h0
  · have h0:x i*((if pt E i (eB E i)=pt E i (eA E i) then 1 else 0)-(if pt E i (eA E i)=pt E i (eA E i) then 1 else 0))=0:=h0
    rw [if_neg (fun z=>hT (Eq.symm z)),if_pos rfl] at h0
    omega
  · intro k hk hki
    by_cases c:k<i
    · have:=pt_edge (E:=E) (k:=i) (i:=k) c
      simp only
      rw [this,Int.sub_self,Int.mul_zero]
    · rw [hlast k hk (by omega),Int.zero_mul]
theorem circ_free{x y:Nat→Int}(hx:Circ E.length E x)(hy:Circ E.length E y)(h:∀ i,i<E.length→inT E i=false→x i=y i):∀ i,i<E.length→x i=y i:=fun i hi=>by
  have:=tree_zero hE (hx.sub hy) (fun i hi hne=>by
    by_cases q:inT E i=true
    · exact q
    · exact absurd (by have:=h i hi (by simpa using q);omega) hne) i hi
  omega
end
section
variable {E : List (Int × Int)} {n : Nat} {es : List E3}
theorem conn_const(G:GrOk n es E)(hc:yd0 n es=true){h:Nat→Nat}(hh:∀ i,i<E.length→h (eA E i)=h (eB E i)){u v:Nat}(hu:u<n)(hv:v<n):h u=h v:=by
  obtain ⟨hE,h1,h12⟩:=ybr G.g
  refine Classical.byContradiction fun hne=>?_
  obtain ⟨a,b,ha,hb,h3,h4,h5⟩:=(yhM hE h1 h12 hv).1 hc (fun w=>decide (h w≠h v)) (by simp) ⟨u,hu,by simpa using hne⟩
  have h3:=of_decide_eq_true h3
  have h4:h b=h v:=by simpa using h4
  obtain ⟨x,hx,q⟩:=W_mem hE h5
  have hmem:(x.1,x.2.1)∈E:=by
    rw [←G.e];unfold ybd
    refine List.mem_flatMap.2 ⟨x,hx,List.mem_replicate.2 ⟨?_,rfl⟩⟩
    have:=hE x hx;omega
  obtain ⟨i,hi,e⟩:=List.getElem_of_mem hmem
  have hgx:gx E i=(x.1,x.2.1):=by rw [yaM hi,e]
  have h6:=hh i hi
  unfold eA eB at h6
  rw [hgx] at h6
  rcases q with ⟨q1,q2⟩ | ⟨q1,q2⟩
  · rw [q1,q2] at h6
    simp only [Int.toNat_natCast] at h6
    exact h3 (h6.trans h4)
  · rw [q1,q2] at h6
    simp only [Int.toNat_natCast] at h6
    exact h3 (h6.symm.trans h4)
theorem tree_const(G:GrOk n es E)(hc:yd0 n es=true){α:Type}{h:Nat→α}(hh:∀ i,i<E.length→inT E i=true→h (eA E i)=h (eB E i)){u v:Nat}(hu:u<n)(hv:v<n):h u=h v :=
  pt_span hh (conn_const G hc (h:=pt E E.length) (fun i hi=>pt_edge hi) hu hv)
end
end Go.Proofs.YtencmgolklfmkaaGreat

/- The reference's first tree, paths in it, and the basis of the cycle lattice. -/
namespace Go.Proofs.YtencmgolklfmkaaGreat
open Go Go.RowKit Go.Shelf Go.Proofs.Tryz
set_option maxRecDepth 100000
section
variable {E : List (Int × Int)} {es : List E3} {n : Nat}
def ptL(E:List (Int×Int))(n k:Nat):List Int:=tab (fun v=>(pt E k v:Int)) n
theorem yjU(G:GrOk n es E)(hl:es.length≤100){R:List Int→Prop}(h:R (ybQ (chL (inT E) E.length))):yjr (n:Int) es R:=by
  have hn:=G.few
  have hlen:=G.len
  refine ⟨fun m v v2=>Cnt n (fun k=>v=tab (fun v=>(v:Int)) k) m v2,Cnt.start rfl,?_⟩
  rintro m v v2 ⟨k,rfl,rfl,hk,hv⟩
  refine ⟨fun hlt=>?_,fun hge=>?_⟩
  · have hkn:k<n:=by omega
    refine ⟨by rw [hv,yaI];omega,Cnt.next hkn (by omega) ?_⟩
    rw [hv];unfold tab;rw [List.range_succ,List.map_append];rfl
  · have:k=n:=by omega
    subst this
    refine yjX G hl ⟨fun m t e part=>Cnt E.length (fun j=>t=ybQ (chL (inT E) j)∧part=ptL E k j) m e,Cnt.start ⟨rfl,by rw [hv];rfl⟩,?_⟩
    rintro m t e part ⟨j,rfl,rfl,hj,ht,hp⟩
    refine ⟨fun hlt=>?_,fun hge=>?_⟩
    · have hjl:j<E.length:=by omega
      obtain ⟨a1,a2⟩:=eA_lt G.ok hjl
      obtain ⟨b1,b2⟩:=eB_lt G.ok hjl
      have pl:part.length=k:=by rw [hp];exact yaI _ _
      have pg:∀ w,w<k→gi part w=(pt E j w:Int):=fun w hw=>by rw [hp];exact ycc _ hw
      rw [Int.toNat_natCast,a1,b1,Int.toNat_natCast,Int.toNat_natCast,pg _ a2,pg _ b2]
      refine ⟨by omega,by decide,by omega,by decide,by omega,fun c=>Cnt.next hjl (by omega) ⟨?_,?_⟩,fun c=>⟨?_,?_⟩⟩
      · rw [ht,yhL,if_neg (show ¬inT E j=true from fun z=>(of_decide_eq_true (p:=pt E j (eA E j)≠pt E j (eB E j)) z) (by omega)),List.append_nil]
      · rw [hp]
        refine ygB fun w hw=>?_
        rw [pt]
        split
        · rename_i z;rw [z];omega
        · rfl
      · rw [ht,ybB];have:=ygw (P:=inT E) j;omega
      · refine ⟨fun m' w f=>Cnt k (fun i=>f.length=k∧(∀ u,u<i→gi f u=(pt E (j+1) u:Int))∧∀ u,i≤u→gi f u=gi part u) m' w,Cnt.start ⟨pl,fun u hu=>by omega,fun u _=>rfl⟩,?_⟩
        rintro m' w f ⟨i,rfl,rfl,hi,hf,f1,f2⟩
        refine ⟨fun hlt2=>?_,fun hge2=>?_⟩
        · have hik:i<k:=by omega
          rw [Int.toNat_natCast,f2 i (Nat.le_refl _),pg i hik]
          refine ⟨by omega,fun c2=>Cnt.next hik (by omega) ⟨by simpa using hf,fun u hu=>?_,fun u hu=>?_⟩,fun c2=>Cnt.next hik (by omega) ⟨hf,fun u hu=>?_,fun u hu=>f2 u (by omega)⟩⟩
          · rw [ycM (by omega)]
            by_cases e:u=i
            · rw [if_pos e,e,pt,if_pos (by omega)]
            · rw [if_neg e];exact f1 u (by omega)
          · rw [ycM (by omega),if_neg (by omega)];exact f2 u (by omega)
          · by_cases e:u=i
            · rw [e,f2 i (Nat.le_refl _),pg i hik,pt,if_neg (by omega)]
            · exact f1 u (by omega)
        · have:i=k:=by omega
          subst this
          refine Cnt.next hjl (by omega) ⟨?_,yjN hf _ f1⟩
          rw [ht,yhL,if_pos (show inT E j=true from decide_eq_true fun z=>c (by omega)),yfQ];rfl
    · have:j=E.length:=by omega
      subst this
      rw [ht];exact h
def asg(out:List Int)(v:Nat):Bool:=decide (gi out v ≠ -2)
def cntA(n:Nat)(out:List Int):Int:=sm n fun v=>if asg out v=true then 1 else 0
structure ParI(E:List (Int×Int))(n root:Nat)(out:List Int)(dp:Nat→Int):Prop where
  len:out.length=n
  rl:root<n
  ra:asg out root=true
  dn:∀ v,0≤dp v
  dc:∀ v,v<n→asg out v=true→dp v<cntA n out
  pr:∀ v,v<n→asg out v=true→v≠root→∃ e u:Nat,gi out v=e∧e<E.length∧inT E e=true∧u<n∧((eA E e=v∧eB E e=u)∨(eB E e=v∧eA E e=u))∧asg out u=true∧dp u<dp v
theorem cntA_le(out:List Int):cntA n out≤n:=by
  have h1:cntA n out≤sm n fun _=>1:=yiB fun v _=>by split <;> omega
  have h2:∀ n:Nat,sm n (fun _=>1)=(n:Int):=fun n=>by
    induction n with
    | zero=>rfl
    | succ n ih=>rw [sm,ih];omega
  rw [h2] at h1;exact h1
theorem yjB{out:List Int}{v w:Nat}{e:Nat}(hv:v<out.length):asg (out.set v (e:Int)) w=if w=v then true else asg out w:=by
  unfold asg
  rw [ycM hv]
  by_cases q:w=v
  · rw [if_pos q,if_pos q];exact decide_eq_true (by omega)
  · rw [if_neg q,if_neg q]
theorem cntA_set{out:List Int}{v:Nat}{e:Nat}(hl:out.length=n)(hv:v<n)(ha:asg out v=false):cntA n (out.set v (e:Int))=cntA n out+1:=by
  unfold cntA
  have h1:sm n (fun w=>if asg (out.set v (e:Int)) w=true then 1 else 0)=sm n (fun w=>(if asg out w=true then 1 else 0)+if w=v then 1 else 0):=yaw fun w hw=>by
    rw [yjB (by omega)]
    by_cases q:w=v
    · rw [if_pos q,if_pos q,q,ha];rfl
    · rw [if_neg q,if_neg q];omega
  rw [h1,ydu,ygg _ hv]
theorem ParI.put{root:Nat}{out:List Int}{dp:Nat→Int}(H:ParI E n root out dp){v u e:Nat}(hv:v<n)(hu:u<n)(hva:asg out v=false)(hua:asg out u=true)(he:e<E.length)(ht:inT E e=true)(hj:(eA E e=v∧eB E e=u)∨(eB E e=v∧eA E e=u)) :
    ParI E n root (out.set v (e:Int)) (fun w=>if w=v then cntA n out else dp w):=by
  have hl:=H.len
  have hc:=cntA_set (e:=e) hl hv hva
  have hc0:0≤cntA n out:=ybo fun w _=>by split <;> omega
  have huv:u≠v:=fun z=>by rw [z,hva] at hua;cases hua
  refine ⟨by simpa using hl,H.rl,by rw [yjB (by omega),H.ra];split <;> rfl,fun w=>?_,fun w hw ha=>?_,fun w hw ha hr=>?_⟩
  · show 0≤if w=v then _ else _
    split
    · exact hc0
    · exact H.dn w
  · show (if w=v then _ else _)<_
    rw [hc]
    by_cases q:w=v
    · rw [if_pos q];omega
    · rw [yjB (by omega),if_neg q] at ha
      rw [if_neg q]
      have:=H.dc w hw ha;omega
  · by_cases q:w=v
    · subst q
      refine ⟨e,u,by rw [ycM (by omega),if_pos rfl],he,ht,hu,hj,by rw [yjB (by omega),hua];split <;> rfl,?_⟩
      show (if u=w then _ else _)<if w=w then _ else _
      rw [if_neg huv,if_pos rfl]
      exact H.dc u hu hua
    · rw [yjB (by omega),if_neg q] at ha
      obtain ⟨e',u',h1,h2,h3,h4,h5,h6,h7⟩:=H.pr w hw ha hr
      have hu':u'≠v:=fun z=>by rw [z,hva] at h6;cases h6
      refine ⟨e',u',by rw [ycM (by omega),if_neg q];exact h1,h2,h3,h4,h5,by rw [yjB (by omega),h6];split <;> rfl,?_⟩
      show (if u'=v then _ else _)<if w=v then _ else _
      rw [if_neg hu',if_neg q];exact h7
theorem p_r13_Parents(G:GrOk n es E)(hl:es.length≤100)(hc:yd0 n es=true){root:Nat}(hr:root<n){R:List Int→Prop}(h:∀ out dp,ParI E n root out dp→(∀ v,v<n→asg out v=true)→R out):yjp (n:Int) es (ybQ (chL (inT E) E.length)) (root:Int) R:=by
  have hn:=G.few
  have hlen:=G.len
  refine ⟨by omega,fun m v out=>Cnt n (fun k=>out.length=n∧∀ w,w<k→gi out w = -2) m v,Cnt.start ⟨by simp,fun w hw=>by omega⟩,?_⟩
  rintro m v out ⟨k,rfl,rfl,hk,ho,hw⟩
  refine ⟨fun hlt=>?_,fun hge=>?_⟩
  · have hkn:k<n:=by omega
    rw [Int.toNat_natCast]
    refine ⟨by omega,Cnt.next hkn (by omega) ⟨by simpa using ho,fun w hw2=>?_⟩⟩
    rw [ycM (by omega)]
    by_cases e:w=k
    · rw [if_pos e]
    · rw [if_neg e];exact hw w (by omega)
  · have:k=n:=by omega
    subst this
    refine ⟨by omega,yjX G hl ?_⟩
    rw [Int.toNat_natCast]
    have hst:ParI E k root (out.set root (-1)) (fun _=>0):=by
      have hg:∀ w,gi (out.set root (-1)) w=if w=root then -1 else gi out w:=fun w=>ycM (by omega)
      have hra:asg (out.set root (-1)) root=true:=by unfold asg;rw [hg,if_pos rfl];rfl
      have hno:∀ w,w<k→asg (out.set root (-1)) w=true→w=root:=fun w hwk ha=>Classical.byContradiction fun z=>by
        unfold asg at ha
        rw [hg,if_neg z,hw w hwk] at ha;cases ha
      refine ⟨by simpa using ho,hr,hra,fun _=>by decide,fun w hwk ha=>?_,fun w hwk ha hne=>absurd (hno w hwk ha) hne⟩
      have h1:(if asg (out.set root (-1)) root=true then (1:Int) else 0)≤cntA k (out.set root (-1)):=ygu (f:=fun v=>if asg (out.set root (-1)) v=true then (1:Int) else 0) (fun i _=>by split <;> omega) root hr
      rw [hra] at h1
      simp only [if_true] at h1
      omega
    have hcs:1≤cntA k (out.set root (-1)):=by have:=hst.dc root hr hst.ra;omega
    refine ⟨fun m r o=>Cnt k (fun i=>∃ dp,ParI E k root o dp∧((i:Int)+1≤cntA k o∨∀ v,v<k→asg o v=true)) m r,Cnt.start ⟨_,hst, .inl (by omega)⟩,?_⟩
    rintro m r o ⟨i,rfl,rfl,hi,dp0,H0,hp⟩
    refine ⟨fun hlt=>?_,fun hge=>?_⟩
    · have hik:i<k:=by omega
      obtain ⟨T,hT⟩:∃ T,T=chL (inT E) E.length:=⟨_,rfl⟩
      rw [←hT]
      have hTl:(ybQ T).length=T.length:=ybB _
      have hTm:T.length≤E.length:=by rw [hT];exact ygw _
      refine ⟨fun m' j f=>Cnt T.length (fun t=>∃ dp,ParI E k root f dp∧(∀ v,asg o v=true→asg f v=true)∧(cntA k o<cntA k f∨(f=o∧∀ s,∀ hs:s<T.length,s<t→asg o (eA E T[s])=asg o (eB E T[s])))) m' j,⟨_,0,rfl,rfl,Nat.zero_le _,dp0,H0,fun v hv=>hv, .inr ⟨rfl,fun s hs h0=>absurd h0 (Nat.not_lt_zero s)⟩⟩,?_⟩
      rintro m' j f ⟨t,rfl,rfl,ht,dp,H,hmono,hprog⟩
      rw [hTl]
      refine ⟨fun hlt2=>?_,fun hge2=>?_⟩
      · have htl:t<T.length:=by omega
        have hgt:gi (ybQ T) t=(T[t]:Nat):=yfn htl
        have hTt:T[t]<E.length∧inT E T[t]=true:=by
          have:=List.getElem_mem htl
          generalize T[t]=e at this ⊢
          rw [hT] at this;exact yjL.1 this
        obtain ⟨e,he⟩:∃ e,e=T[t]:=⟨_,rfl⟩
        rw [←he] at hgt hTt
        obtain ⟨a1,a2⟩:=eA_lt G.ok hTt.1
        obtain ⟨b1,b2⟩:=eB_lt G.ok hTt.1
        have hf:=H.len
        rw [Int.toNat_natCast,hgt,Int.toNat_natCast,a1,b1,Int.toNat_natCast,Int.toNat_natCast]
        have nx:∀ f' dp',ParI E k root f' dp'→(∀ v,asg f v=true→asg f' v=true)→(cntA k f<cntA k f'∨(f'=f∧asg f (eA E e)=asg f (eB E e)))→In64 ((t:Int)+1)∧∃ m',m'<T.length-t∧Cnt T.length (fun t=>∃ dp,ParI E k root f' dp∧(∀ v,asg o v=true→asg f' v=true)∧(cntA k o<cntA k f'∨(f'=o∧∀ s,∀ hs:s<T.length,s<t→asg o (eA E T[s])=asg o (eB E T[s])))) m' ((t:Int)+1):=fun f' dp' H' hm' hp'=>Cnt.next htl (by omega) ⟨dp',H',fun v hv=>hm' v (hmono v hv),by
          rcases hp' with q | ⟨q1,q2⟩
          · refine .inl ?_
            rcases hprog with p | ⟨p1,_⟩
            · omega
            · rw [←p1];exact q
          · rcases hprog with p | ⟨p1,p2⟩
            · exact .inl (by rw [q1];exact p)
            · refine .inr ⟨by rw [q1,p1],fun s hs hst=>?_⟩
              by_cases c:s=t
              · subst c;rw [←he,←p1];exact q2
              · exact p2 s hs (by omega)⟩
        have same:asg f (eA E e)=asg f (eB E e)→In64 ((t:Int)+1)∧∃ m',m'<T.length-t∧Cnt T.length (fun t=>∃ dp,ParI E k root f dp∧(∀ v,asg o v=true→asg f v=true)∧(cntA k o<cntA k f∨(f=o∧∀ s,∀ hs:s<T.length,s<t→asg o (eA E T[s])=asg o (eB E T[s])))) m' ((t:Int)+1):=fun hs=>nx f dp H (fun v hv=>hv) (.inr ⟨rfl,hs⟩)
        have no:∀ v,gi f v = -2↔asg f v=false:=fun v=>by unfold asg;simp
        have yes:∀ v,¬gi f v = -2↔asg f v=true:=fun v=>by unfold asg;simp
        refine ⟨by omega,by omega,by decide,by decide,?_⟩
        refine ⟨asg f (eA E e)=false∨(asg f (eA E e)=true∧asg f (eB E e)=true),fun J=>?_,⟨by omega,fun c => .inl ((no _).1 c),fun c=>⟨by omega,fun c2=>?_,fun c2=>Or.inr (And.intro ((yes _).1 c) ((yes _).1 c2))⟩⟩⟩
        · refine ⟨by omega,fun c=>?_,fun c=>⟨by omega,fun c2=>?_,fun c2=>?_⟩⟩
          · rcases J with J | ⟨_,J⟩
            · exact same (by rw [J,(no _).1 c])
            · rw [(no _).1 c] at J;cases J
          · exact nx _ _ (H.put a2 b2 ((no _).1 c2) ((yes _).1 c) hTt.1 hTt.2 (.inl ⟨rfl,rfl⟩)) (fun v hv=>by rw [yjB (by omega),hv];split <;> rfl) (.inl (by rw [cntA_set hf a2 ((no _).1 c2)];omega))
          · exact same (by rw [(yes _).1 c2,(yes _).1 c])
        · exact nx _ _ (H.put b2 a2 ((no _).1 c2) ((yes _).1 c) hTt.1 hTt.2 (.inr ⟨rfl,rfl⟩)) (fun v hv=>by rw [yjB (by omega),hv];split <;> rfl) (.inl (by rw [cntA_set hf b2 ((no _).1 c2)];omega))
      · have:t=T.length:=by omega
        subst this
        refine Cnt.next hik (by omega) ⟨dp,H,?_⟩
        rcases hp with p | p
        · rcases hprog with q | ⟨q1,q2⟩
          · exact .inl (by omega)
          · refine .inr fun v hv=>?_
            have key:=tree_const G hc (h:=asg o) (fun e he hte=>by
              have hm:e∈T:=by rw [hT];exact yjL.2 ⟨he,hte⟩
              obtain ⟨s,hs,rfl⟩:=List.getElem_of_mem hm
              exact q2 s hs hs) hv H0.rl
            rw [q1,key];exact H0.ra
        · exact .inr fun v hv=>hmono v (p v hv)
    · have:i=k:=by omega
      subst this
      refine h o dp0 H0 ?_
      rcases hp with p | p
      · have:=cntA_le (n:=i) o;omega
      · exact p
theorem tree_ne{e:Nat}(h:inT E e=true):eA E e≠eB E e:=fun z=>of_decide_eq_true h (by rw [z])
theorem dart_t(hE:ya6 n E){e:Nat}(he:e<E.length):dfr_ E (e,true)=(eA E e:Nat)∧dto E (e,true)=(eB E e:Nat)∧dfr_ E (e,false)=(eB E e:Nat)∧dto E (e,false)=(eA E e:Nat):=by
  have a1:=(eA_lt hE he).1
  have b1:=(eB_lt hE he).1
  exact ⟨a1,b1,b1,a1⟩
theorem Ch.snoc:∀ {p:List Dart} {u v:Int} {d:Dart},Ch E u p v→dfr_ E d=v→Ch E u (p++[d]) (dto E d):=fun {p u v d} h e=>Ch.append h ⟨e,rfl⟩
structure PathT(E:List (Int×Int))(a b:Int)(p:List Dart):Prop where
  ch:Ch E a p b
  nd:(p.map Prod.fst).Nodup
  tr:∀ d∈p,d.1<E.length∧inT E d.1=true
theorem p_r13_Path(G:GrOk n es E)(hl:es.length≤100)(hc:yd0 n es=true){a b:Nat}(ha:a<n)(hb:b<n){R:List Int→Prop}(h:∀ p,PathT E (a:Int) (b:Int) p→p.length≤n→R (ybQ (p.map Prod.fst))):yjz (n:Int) es (ybQ (chL (inT E) E.length)) (a:Int) (b:Int) R:=by
  have hn:=G.few
  have hlen:=G.len
  refine p_r13_Parents G hl hc hb fun out dp H hall=>yjX G hl ?_
  refine ⟨fun m a2 o s=>∃ (w:Nat) (p:List Dart),a2=w∧w<n∧PathT E (a:Int) (w:Int) p∧o=ybQ (p.map Prod.fst)∧s=(p.length:Nat)∧p.length+m=n∧dp w+p.length≤dp a∧∀ d∈p,dp w<dp (dfr_ E d).toNat,⟨n,a,[],rfl,ha,⟨rfl,List.nodup_nil,fun d hd=>by cases hd⟩,rfl,rfl,by simp,by simp,fun d hd=>by cases hd⟩,?_⟩
  rintro m a2 o s ⟨w,p,rfl,hw,P,rfl,rfl,hm,hd1,hd2⟩
  have h1:=H.dc a ha (hall a ha)
  have h2:=cntA_le (n:=n) out
  have h3:=H.dn w
  refine ⟨w≠b,fun hwb=>?_,fun hlt=>⟨fun c=>?_,fun c=>fun z=>c (by omega)⟩,fun hge=>by omega⟩
  · obtain ⟨e,u,g1,g2,g3,g4,g5,g6,g7⟩:=H.pr w hw (hall w hw) hwb
    have hol:=H.len
    obtain ⟨a1,a3⟩:=eA_lt G.ok g2
    obtain ⟨b1,b3⟩:=eB_lt G.ok g2
    have hne:=tree_ne g3
    obtain ⟨t1,t2,t3,t4⟩:=dart_t G.ok g2
    rw [Int.toNat_natCast,g1,Int.toNat_natCast,a1,b1]
    refine ⟨by omega,by rw [ybB,List.length_map];omega,by omega,?_⟩
    have nx:∀ d:Dart,d.1=e→dfr_ E d=w→dto E d=u→In64 ((p.length:Int)+1)∧∃ m',m'<m∧∃ (w':Nat) (p':List Dart),(u:Int)=w'∧w'<n∧PathT E (a:Int) (w':Int) p'∧ybQ (p.map Prod.fst)++[(e:Int)]=ybQ (p'.map Prod.fst)∧((p.length:Nat):Int)+1=(p'.length:Nat)∧p'.length+m'=n∧dp w'+p'.length≤dp a∧∀ d∈p',dp w'<dp (dfr_ E d).toNat:=fun d e1 e2 e3=>by
      refine ⟨i64 (by omega),m-1,by omega,u,p++[d],rfl,g4,⟨by rw [←e3];exact P.ch.snoc e2,?_,fun c hc2=>?_⟩,?_,by simp,by simp;omega,by rw [List.length_append,List.length_singleton];omega,fun c hc2=>?_⟩
      · rw [List.map_append,List.nodup_append]
        refine ⟨P.nd,by simp,fun x hx y hy exy=>?_⟩
        have hy:y=d.1:=by simpa using hy
        obtain ⟨c,hc2,rfl⟩:=List.mem_map.1 hx
        have hcd:=hd2 c hc2
        have hce:c.1=e:=by rw [exy,hy,e1]
        have hfr:(dfr_ E c).toNat=eA E e∨(dfr_ E c).toNat=eB E e:=by
          obtain ⟨c1,c2⟩:=c
          subst hce
          cases c2
          · right;rw [t3];simp
          · left;rw [t1];simp
        rcases g5 with ⟨q1,q2⟩ | ⟨q1,q2⟩ <;> rcases hfr with q | q <;> rw [q] at hcd
        · rw [q1] at hcd;omega
        · rw [q2] at hcd;omega
        · rw [q2] at hcd;omega
        · rw [q1] at hcd;omega
      · rcases List.mem_append.1 hc2 with q | q
        · exact P.tr c q
        · rw [List.mem_singleton.1 q,e1];exact ⟨g2,g3⟩
      · rw [List.map_append,yfQ]
        show _=ybQ (p.map Prod.fst)++[((d.1:Nat):Int)]
        rw [e1]
      · rcases List.mem_append.1 hc2 with q | q
        · have:=hd2 c q;omega
        · rw [List.mem_singleton.1 q,e2,Int.toNat_natCast];exact g7
    refine ⟨by decide,fun c=>⟨by decide,?_⟩,fun c=>?_⟩
    · have c:eA E e=w:=by omega
      have hu:eB E e=u:=by
        rcases g5 with ⟨q1,q2⟩ | ⟨q1,q2⟩
        · exact q2
        · exact absurd (c.trans q1.symm) hne
      rw [hu]
      exact nx (e,true) rfl (by rw [t1,c]) (by rw [t2,hu])
    · have hu:eA E e=u∧eB E e=w:=by
        rcases g5 with ⟨q1,q2⟩ | ⟨q1,q2⟩
        · exact absurd (by omega) c
        · exact ⟨q2,q1⟩
      rw [hu.1]
      exact nx (e,false) rfl (by rw [t3,hu.2]) (by rw [t4,hu.1])
  · have:w=b:=by omega
    subst this
    exact h p P (by omega)
structure LoopV(E:List (Int×Int))(e:Nat)(y:List Int):Prop where
  len:y.length=E.length
  circ:Circ E.length E (gi y)
  one:gi y e=1
  free:∀ f,f<E.length→inT E f=false→f≠e→gi y f=0
  bd:Bd 1 y
theorem p_r16_Loop(G:GrOk n es E)(hl:es.length≤100)(hc:yd0 n es=true){e:Nat}(he:e<E.length)(hf:inT E e=false){R:List Int→Prop}(h:∀ y,LoopV E e y→R y):yjx (n:Int) es (ybQ (chL (inT E) E.length)) (e:Int) R:=by
  have hn:=G.few
  have hlen:=G.len
  obtain ⟨a1,a2⟩:=eA_lt G.ok he
  obtain ⟨b1,b2⟩:=eB_lt G.ok he
  obtain ⟨t1,t2,t3,t4⟩:=dart_t G.ok he
  refine yjX G hl ⟨by omega,by rw [List.length_replicate];omega,by omega,by decide,by decide,?_⟩
  rw [Int.toNat_natCast,a1,b1,Int.toNat_natCast]
  refine p_r13_Path G hl hc b2 a2 fun p P hp=>?_
  have hnot:e∉p.map Prod.fst:=fun z=>by
    obtain ⟨d,hd,rfl⟩:=List.mem_map.1 z
    rw [(P.tr d hd).2] at hf;cases hf
  have hpl:(ybQ (p.map Prod.fst)).length=p.length:=by rw [ybB,List.length_map]
  refine ⟨fun m v i y=>Cnt p.length (fun k=>Ch E (eB E e:Int) (p.take k) v∧y=tab (fun i=>(if e=i then 1 else 0)+vec (p.take k) i) E.length) m i,Cnt.start ⟨rfl,?_⟩,?_⟩
  · refine yjN (by simp) _ fun i hi=>?_
    rw [ycM (by simpa using he),yjK]
    show _=(if e=i then 1 else 0)+0
    by_cases q:i=e
    · rw [if_pos q,if_pos q.symm];rfl
    · rw [if_neg q,if_neg fun z=>q z.symm];rfl
  · rintro m v i y ⟨k,rfl,rfl,hk,hch,hy⟩
    rw [hpl]
    have hyl:y.length=E.length:=by rw [hy,yaI]
    refine ⟨fun hlt=>?_,fun hge=>?_⟩
    · have hkp:k<p.length:=by omega
      have hd:=P.tr p[k] (List.getElem_mem hkp)
      obtain ⟨d,hdd⟩:∃ d,d=p[k]:=⟨_,rfl⟩
      rw [←hdd] at hd
      have hgk:gi (ybQ (p.map Prod.fst)) k=(d.1:Nat):=by rw [yfn (by simpa using hkp),List.getElem_map,hdd]
      have htk:p.take (k+1)=p.take k++[d]:=by rw [List.take_add_one,List.getElem?_eq_getElem hkp,hdd];rfl
      have hfr:dfr_ E d=v:=by
        have hsp:p=p.take k++(d::p.drop (k+1)):=by rw [hdd,←List.drop_eq_getElem_cons hkp,List.take_append_drop]
        have hcp:=P.ch
        rw [hsp] at hcp
        obtain ⟨w,w1,w2⟩:=Ch.split hcp
        have:w=v:=by
          have uniq:∀ {q:List Dart} {u w w':Int},Ch E u q w→Ch E u q w'→w=w':=fun {q}=>by
            induction q with
            | nil=>intro u w w' h1 h2;exact (show u=w from h1).symm.trans (show u=w' from h2)
            | cons c q ih=>intro u w w' h1 h2;exact ih h1.2 h2.2
          exact uniq w1 hch
        rw [←this];exact w2.1
      obtain ⟨da,da2⟩:=eA_lt G.ok hd.1
      obtain ⟨db,db2⟩:=eB_lt G.ok hd.1
      obtain ⟨s1,s2,s3,s4⟩:=dart_t G.ok hd.1
      have hne:=tree_ne hd.2
      have hdn:d.1∉(p.take k).map Prod.fst:=fun z=>by
        have hnd:=P.nd
        rw [show p=p.take (k+1)++p.drop (k+1) from (List.take_append_drop _ _).symm,htk,List.append_assoc,List.map_append,List.nodup_append] at hnd
        exact hnd.2.2 _ z d.1 (by simp) rfl
      have hv0:vec (p.take k) d.1=0:=yjJ fun c hc2 z=>hdn (by rw [←z];exact List.mem_map_of_mem hc2)
      have hed:e≠d.1:=fun z=>hnot (by rw [z,hdd];exact List.mem_map_of_mem (List.getElem_mem hkp))
      have hvs:∀ i,vec (p.take (k+1)) i=vec (p.take k) i+if d.1=i then sg d.2 else 0:=fun i=>by
        rw [htk]
        have:∀ q:List Dart,vec (q++[d]) i=vec q i+if d.1=i then sg d.2 else 0:=fun q=>by
          induction q with
          | nil=>show (if d.1=i then sg d.2 else 0)+0=0+_;omega
          | cons c q ih=>show (if c.1=i then sg c.2 else 0)+vec (q++[d]) i=(if c.1=i then sg c.2 else 0)+vec q i+_;rw [ih];omega
        exact this _
      have upd:∀ x:Int,x=sg d.2→y.set d.1 x=tab (fun i=>(if e=i then 1 else 0)+vec (p.take (k+1)) i) E.length:=fun x hx=>by
        refine yjN (by simpa using hyl) _ fun i hi=>?_
        rw [ycM (by omega),hvs]
        by_cases q:i=d.1
        · rw [if_pos q,q,hv0,if_neg hed,if_pos rfl,hx];omega
        · rw [if_neg q,hy,ycc _ hi,if_neg (show ¬d.1=i from fun z=>q z.symm)];omega
      have hch2:Ch E (eB E e:Int) (p.take (k+1)) (dto E d):=by rw [htk];exact hch.snoc hfr
      rw [Int.toNat_natCast,hgk,Int.toNat_natCast,da,db]
      obtain ⟨d1,d2⟩:=d
      refine ⟨by omega,by omega,fun c=>⟨by omega,Cnt.next hkp (by omega) ⟨?_,upd _ ?_⟩⟩,fun c=>⟨by omega,Cnt.next hkp (by omega) ⟨?_,upd _ ?_⟩⟩⟩
      all_goals cases d2
      · rw [s3] at hfr;exact absurd (by omega) hne
      · rw [s2] at hch2;exact hch2
      · rw [s3] at hfr;exact absurd (by omega) hne
      · rfl
      · rw [s4] at hch2;exact hch2
      · rw [s1] at hfr;exact absurd hfr c
      · rfl
      · rw [s1] at hfr;exact absurd hfr c
    · have:k=p.length:=by omega
      subst this
      rw [List.take_length] at hy
      have hyv:y=tab (vec ((e,true)::p)) E.length:=hy
      have hnd:(((e,true)::p:List Dart).map Prod.fst).Nodup:=by
        rw [List.map_cons,List.nodup_cons];exact ⟨hnot,P.nd⟩
      have hchain:Ch E (eA E e:Int) ((e,true)::p) (eA E e:Int):=⟨t1,by rw [t2];exact P.ch⟩
      have hlt:∀ d∈((e,true)::p:List Dart),d.1<E.length:=fun d hd=>by
        rcases List.mem_cons.1 hd with q | q
        · rw [q];exact he
        · exact (P.tr d q).1
      refine h y ⟨hyl,?_,?_,fun f hfl hfi hfe=>?_,fun i hi=>?_⟩
      · rw [hyv]
        have hcirc:Circ E.length E (vec ((e,true)::p)):=fun w=>by rw [bdy_vec hchain hlt];omega
        exact hcirc.congr fun i hi=>(ycc _ hi).symm
      · rw [hyv,ycc _ he,show vec ((e,true)::p) e=sg true from yho hnd (d:=(e,true)) (by simp)];rfl
      · rw [hyv,ycc _ hfl]
        refine yjJ fun d hd z=>?_
        rcases List.mem_cons.1 hd with q | q
        · rw [q] at z;exact hfe z.symm
        · have:=(P.tr d q).2
          rw [z,hfi] at this;cases this
      · rw [hyl] at hi
        rw [hyv,ycc _ hi]
        exact vec_abs hnd i
def yjl(E:List (Int×Int))(k:Nat):List Nat:=chL (fun i=>!inT E i) k
theorem yjv{k i:Nat} : i∈yjl E k↔i<k∧inT E i=false:=by
  unfold yjl
  rw [yjL,Bool.not_eq_true']
theorem yjS(G:GrOk n es E)(hl:es.length≤100)(hc:yd0 n es=true){R:List (List Int)→Prop}(h:∀ l:List (List Int),l.length=(yjl E E.length).length→(∀ i,∀ hi:i<(yjl E E.length).length,LoopV E (yjl E E.length)[i] (gx l i))→R l):yjn (n:Int) es R:=by
  have hlen:=G.len
  refine yjU G hl ⟨fun m out e=>Cnt E.length (fun k=>out.length=(yjl E k).length∧∀ i,∀ hi:i<(yjl E k).length,LoopV E (yjl E k)[i] (gx out i)) m e,⟨_,0,rfl,rfl,Nat.zero_le _,rfl,fun i hi=>absurd hi (by simp [yjl,chL])⟩,?_⟩
  rintro m out e ⟨k,rfl,rfl,hk,ho,hL⟩
  have hfl:(yjl E k).length≤k:=ygw k
  refine yji G hl ⟨fun hlt=>?_,fun hge=>?_⟩
  · have hkl:k<E.length:=by omega
    have hT:((k:Nat):Int)∈ybQ (chL (inT E) E.length)↔inT E k=true:=by
      rw [yix,yjL];exact ⟨fun z=>z.2,fun z=>⟨hkl,z⟩⟩
    refine yjQ (by rw [ybB];have:=ygw (P:=inT E) E.length;omega) ⟨fun q=>?_,fun q=>?_⟩
    · have q:=hT.1 (of_decide_eq_true q)
      have hfk:yjl E (k+1)=yjl E k:=by unfold yjl;rw [yhL,if_neg (by rw [q];decide),List.append_nil]
      exact Cnt.next hkl (by omega) ⟨by rw [hfk];exact ho,by rw [hfk];exact hL⟩
    · have q:inT E k=false:=by
        rw [Bool.eq_false_iff];exact fun z=>q (decide_eq_true (hT.2 z))
      have hfk:yjl E (k+1)=yjl E k++[k]:=by unfold yjl;rw [yhL,if_pos (by rw [q];rfl)]
      refine p_r16_Loop G hl hc hkl q fun y hy=>⟨by omega,Cnt.next hkl (by omega) ⟨?_,?_⟩⟩
      · rw [hfk,List.length_append,List.length_append];simp;omega
      · rw [hfk]
        intro i hi
        rw [List.length_append,List.length_singleton] at hi
        by_cases c:i<(yjl E k).length
        · have e1:gx (out++[y]) i=gx out i:=by rw [yaM (by rw [List.length_append,List.length_singleton];omega),yaM (by omega),List.getElem_append_left]
          rw [List.getElem_append_left c,e1]
          exact hL i c
        · have:i=(yjl E k).length:=by omega
          subst this
          rw [List.getElem_append_right (Nat.le_refl _),yaM (by rw [List.length_append,List.length_singleton];omega),List.getElem_append_right (by omega)]
          simp only [Nat.sub_self,List.getElem_cons_zero,ho]
          exact hy
  · have:k=E.length:=by omega
    subst this
    exact h out ho hL
end
end Go.Proofs.YtencmgolklfmkaaGreat

/- The reference's Around: all circulations that are near enough outside of the tree. -/
namespace Go.Proofs.YtencmgolklfmkaaGreat
open Go Go.RowKit Go.Shelf Go.Proofs.Tryz
set_option maxRecDepth 100000
section
variable {E : List (Int × Int)} {n : Nat} {es : List E3}
theorem pt_fix:∀ (k v:Nat),pt E k (pt E k v)=pt E k v
  | 0,_=>rfl
  | k+1,v=>by
    by_cases c:pt E k (eA E k)=pt E k (eB E k)
    · have nk:∀ w,pt E (k+1) w=pt E k w:=fun w=>by
        rw [pt];split
        · rename_i z;rw [z,c]
        · rfl
      rw [nk,nk];exact pt_fix k v
    · have h:∀ w,pt E k w≠pt E k (eB E k)→pt E (k+1) (pt E k w)=pt E k w:=fun w hw=>by
        rw [pt,pt_fix k w,if_neg hw]
      rw [show pt E (k+1) v=if pt E k v=pt E k (eB E k) then pt E k (eA E k) else pt E k v from rfl]
      by_cases q:pt E k v=pt E k (eB E k)
      · rw [if_pos q];exact h _ c
      · rw [if_neg q];exact h _ q
theorem pt_lt(hE:ya6 n E):∀ {k:Nat},k≤E.length→∀ {v:Nat},v<n→pt E k v<n
  | 0,_,v,h=>h
  | k+1,hk,v,h=>by
    rw [pt]
    split
    · exact pt_lt hE (by omega) (eA_lt hE (show k<E.length by omega)).2
    · exact pt_lt hE (by omega) h
def fixN(E:List (Int×Int))(n k:Nat):Int:=sm n fun v=>if pt E k v=v then 1 else 0
theorem fixN_step(hE:ya6 n E){k:Nat}(hk:k<E.length):fixN E n (k+1)=fixN E n k-if inT E k=true then 1 else 0:=by
  by_cases c:pt E k (eA E k)=pt E k (eB E k)
  · have nk:∀ w,pt E (k+1) w=pt E k w:=fun w=>by
      rw [pt];split
      · rename_i z;rw [z,c]
      · rfl
    rw [if_neg (show ¬inT E k=true from fun z=>(of_decide_eq_true (p:=pt E k (eA E k)≠pt E k (eB E k)) z) c)]
    unfold fixN
    rw [yaw (g:=fun v=>if pt E k v=v then 1 else 0) fun v _=>by rw [nk]]
    omega
  · rw [if_pos (show inT E k=true from decide_eq_true c)]
    have hb:pt E k (eB E k)<n:=pt_lt hE (by omega) (eB_lt hE hk).2
    unfold fixN
    have h1:∀ v,v<n→(if pt E (k+1) v=v then (1:Int) else 0)=(if pt E k v=v then 1 else 0)-if v=pt E k (eB E k) then 1 else 0:=fun v hv=>by
      rw [pt]
      by_cases q:pt E k v=pt E k (eB E k)
      · rw [if_pos q]
        by_cases q2:v=pt E k (eB E k)
        · have e1:pt E k v=v:=by rw [q,←q2]
          rw [if_pos e1,if_pos q2,if_neg (fun z=>c (by rw [z,←q2]))];rfl
        · have e1:¬pt E k v=v:=fun z=>q2 (by rw [←q,z])
          rw [if_neg e1,if_neg q2]
          have e2:¬pt E k (eA E k)=v:=fun z=>c (by rw [←pt_fix k (eA E k),z,q])
          rw [if_neg e2];rfl
      · rw [if_neg q,if_neg (show ¬v=pt E k (eB E k) from fun z=>q (by rw [z,pt_fix])),Int.sub_zero]
    rw [yaw h1,ygl,ygg _ hb]
theorem fixN_tree(hE:ya6 n E):∀ {k:Nat},k≤E.length→fixN E n k+((chL (inT E) k).length:Int)=n
  | 0,_=>by
    have h2:∀ n:Nat,sm n (fun _=>1)=(n:Int):=fun n=>by
      induction n with
      | zero=>rfl
      | succ n ih=>rw [sm,ih];omega
    unfold fixN
    rw [yaw (g:=fun _=>1) fun v _=>if_pos (show pt E 0 v=v from rfl),h2]
    simp [chL]
  | k+1,hk=>by
    have ih:=fixN_tree hE (k:=k) (by omega)
    rw [fixN_step hE (by omega),yhL,List.length_append]
    split <;> simp <;> omega
theorem fixN_one(G:GrOk n es E)(hc:yd0 n es=true):fixN E n E.length≤1:=by
  have hE:=G.ok
  have h1:=G.one
  obtain ⟨r,hr⟩:∃ r,r=pt E E.length 0:=⟨_,rfl⟩
  have hr2:r<n:=by rw [hr];exact pt_lt hE (Nat.le_refl _) (by omega)
  have hall:∀ v,v<n→pt E E.length v=r:=fun v hv=>by
    rw [hr];exact conn_const G hc (h:=pt E E.length) (fun i hi=>pt_edge hi) hv (by omega)
  unfold fixN
  refine Int.le_trans (yiB (g:=fun v=>if v=r then 1 else 0) fun v hv=>?_) (Int.le_of_eq (ygg 1 hr2))
  rw [hall v hv]
  by_cases q:v=r
  · rw [if_pos q.symm,if_pos q];exact Int.le_refl _
  · rw [if_neg fun z=>q z.symm,if_neg q];exact Int.le_refl _
theorem free_len(G:GrOk n es E)(hc:yd0 n es=true):((yjl E E.length).length:Int)≤E.length+1-n:=by
  have h1:=fixN_tree G.ok (k:=E.length) (Nat.le_refl _)
  have h2:=fixN_one G hc
  have h3:∀ k,(yjl E k).length+(chL (inT E) k).length=k:=fun k=>by
    induction k with
    | zero=>rfl
    | succ k ih =>
      unfold yjl at ih ⊢
      rw [yhL,yhL,List.length_append,List.length_append]
      rcases hq:inT E k with _ | _ <;> simp <;> omega
  have:=h3 E.length
  omega
def cmb(y L:List Int)(c:Int):List Int:=tab (fun e=>gi y e+c*gi L e) y.length
def rowL(y L:List Int)(c0:Int)(k:Nat):List (List Int):=(List.range k).map fun t:Nat=>cmb y L (c0+t)
def arL(x:List Int)(a:Nat)(fr:List Nat)(l:List (List Int)):Nat→List (List Int)
  | 0=>[List.replicate x.length 0]
  | i+1=>(arL x a fr l i).flatMap fun y=>rowL y (gx l i) (gi x (fr[i]?.getD 0)-a) (2*a+1)
theorem yjM(y L:List Int)(c:Int):(cmb y L c).length=y.length:=yaI _ _
theorem yjW{y L:List Int}{c:Int}{e:Nat}(h:e<y.length):gi (cmb y L c) e=gi y e+c*gi L e:=ycc _ h
theorem Circ.smul{x:Nat→Int}(c:Int)(hx:Circ E.length E x):Circ E.length E fun i=>c*x i:=fun v=>by
  unfold bdy
  rw [yaw (g:=fun i=>c*(x i*((if (gx E i).2=v then 1 else 0)-if (gx E i).1=v then 1 else 0))) fun i _=>Int.mul_assoc _ _ _,yjF]
  have:=hx v
  unfold bdy at this
  rw [this,Int.mul_zero]
theorem cmb_circ{y L:List Int}{c:Int}(hy:y.length=E.length)(h1:Circ E.length E (gi y))(h2:Circ E.length E (gi L)):Circ E.length E (gi (cmb y L c)) :=
  (h1.add (h2.smul c)).congr fun i hi=>(yjW (by omega)).symm
theorem yjA{α β:Type}{f:α→List β}{B:Nat} : ∀ {l:List α},(∀ x∈l,(f x).length=B)→(l.flatMap f).length=l.length*B
  | [],_=>by simp
  | x::l,h=>by
    rw [List.flatMap_cons,List.length_append,h x (by simp),yjA fun y hy=>h y (by simp [hy]),List.length_cons,Nat.succ_mul];omega
structure BasOk(n:Nat)(E:List (Int×Int))(l:List (List Int)):Prop where
  hE:ya6 n E
  len:l.length=(yjl E E.length).length
  lv:∀ i,∀ hi:i<(yjl E E.length).length,LoopV E (yjl E E.length)[i] (gx l i)
structure ArI(E:List (Int×Int))(x:List Int)(a:Nat)(i:Nat)(A:List (List Int)):Prop where
  nd:A.Nodup
  len:A.length=(2*a+1)^i
  mem:∀ z,z∈A↔z.length=E.length∧Circ E.length E (gi z)∧∀ j,∀ hj:j<(yjl E E.length).length,if j<i then (gi x (yjl E E.length)[j]-gi z (yjl E E.length)[j]).natAbs≤a else gi z (yjl E E.length)[j]=0
  bd:∀ z∈A,Bd (i*(9+a)) z
theorem free_circ(hE:ya6 n E){y z:List Int}(hy:y.length=E.length)(hz:z.length=E.length)(h1:Circ E.length E (gi y))(h2:Circ E.length E (gi z))(h:∀ j,∀ hj:j<(yjl E E.length).length,gi y (yjl E E.length)[j]=gi z (yjl E E.length)[j]):y=z :=
  ygj (by omega) fun i hi=>circ_free hE h1 h2 (fun i hi hf=>by
    obtain ⟨j,hj,e⟩:=List.getElem_of_mem (yjv.2 ⟨hi,hf⟩:i∈yjl E E.length)
    have:=h j hj
    rwa [e] at this) i (by omega)
theorem free_nodup:(yjl E E.length).Nodup:=(yjR _ _).imp fun {a b} h=>Nat.ne_of_lt h
theorem ar_zero(hE:ya6 n E){x:List Int}{a:Nat}(hx:x.length=E.length):ArI E x a 0 [List.replicate x.length 0]:=by
  have hc:Circ E.length E (gi (List.replicate x.length 0)):=circ_zero.congr fun i hi=>(yjK _ _).symm
  refine ⟨by simp,rfl,fun z=>⟨fun h=>?_,fun ⟨h1,h2,h3⟩=>?_⟩,fun z hz i hi=>?_⟩
  · rw [List.mem_singleton.1 h]
    exact ⟨by simpa using hx,hc,fun j hj=>by rw [if_neg (Nat.not_lt_zero j)];exact yjK _ _⟩
  · rw [List.mem_singleton]
    refine free_circ hE h1 (by simpa using hx) h2 hc fun j hj=>?_
    have:=h3 j hj
    rw [if_neg (Nat.not_lt_zero j)] at this
    rw [this,yjK]
  · rw [List.mem_singleton.1 hz,yjK];simp
theorem ar_step{l:List (List Int)}(H:BasOk n E l){x:List Int}{a i:Nat}(hx9:Bd 9 x)(hxl:x.length=E.length)(hi:i<(yjl E E.length).length){A:List (List Int)}(hA:ArI E x a i A):ArI E x a (i+1) (A.flatMap fun y=>rowL y (gx l i) (gi x (yjl E E.length)[i]-a) (2*a+1)):=by
  obtain ⟨F,hF⟩:∃ F,F=yjl E E.length:=⟨_,rfl⟩
  have hlv:=H.lv i hi
  obtain ⟨L,hL⟩:∃ L,L=gx l i:=⟨_,rfl⟩
  obtain ⟨f,hf⟩:∃ f,f=(yjl E E.length)[i]:=⟨_,rfl⟩
  rw [←hL,←hf] at hlv ⊢
  have hfm:=yjv.1 (by rw [hf];exact List.getElem_mem hi:f∈yjl E E.length)
  have hne:∀ j,∀ hj:j<(yjl E E.length).length,j≠i→gi L (yjl E E.length)[j]=0:=fun j hj hji=>by
    have hm:=yjv.1 (List.getElem_mem hj:(yjl E E.length)[j]∈yjl E E.length)
    refine hlv.free _ hm.1 hm.2 fun z=>hji ?_
    rw [hf] at z
    exact (List.getElem_inj free_nodup).1 z
  have hmem:∀ z,z∈A.flatMap (fun y=>rowL y L (gi x f-a) (2*a+1))↔∃ y∈A,∃ t:Nat,t<2*a+1∧z=cmb y L (gi x f-a+t):=fun z=>by
    rw [List.mem_flatMap]
    constructor
    · rintro ⟨y,hy,hz⟩
      obtain ⟨t,ht,rfl⟩:=List.mem_map.1 hz
      exact ⟨y,hy,t,List.mem_range.1 ht,rfl⟩
    · rintro ⟨y,hy,t,ht,rfl⟩
      exact ⟨y,hy,List.mem_map.2 ⟨t,List.mem_range.2 ht,rfl⟩⟩
  have hat:∀ y∈A,∀ c,gi (cmb y L c) f=c:=fun y hy c=>by
    obtain ⟨y1,y2,y3⟩:=(hA.mem y).1 hy
    have h0:=y3 i hi
    rw [if_neg (Nat.lt_irrefl i),←hf] at h0
    rw [yjW (by omega),h0,hlv.one];omega
  have hoff:∀ y∈A,∀ c j,∀ hj:j<(yjl E E.length).length,j≠i→gi (cmb y L c) (yjl E E.length)[j]=gi y (yjl E E.length)[j]:=fun y hy c j hj hji=>by
    obtain ⟨y1,y2,y3⟩:=(hA.mem y).1 hy
    have hm:=yjv.1 (List.getElem_mem hj:(yjl E E.length)[j]∈yjl E E.length)
    rw [yjW (by omega),hne j hj hji,Int.mul_zero,Int.add_zero]
  refine ⟨?_,?_,fun z=>?_,fun z hz=>?_⟩
  · unfold List.Nodup
    rw [List.pairwise_flatMap]
    refine ⟨fun y hy=>?_,?_⟩
    · refine yfC List.nodup_range fun s _ t _ e=>?_
      have e2:gi (cmb y L (gi x f-a+s)) f=gi (cmb y L (gi x f-a+t)) f:=by rw [e]
      rw [hat y hy,hat y hy] at e2
      omega
    · refine List.Pairwise.imp_of_mem (R:=fun a b=>a≠b) (fun {y y'} hy hy' hyy=>?_) hA.nd
      intro z hz z' hz' e
      subst e
      obtain ⟨s,_,rfl⟩:=List.mem_map.1 hz
      obtain ⟨t,_,e⟩:=List.mem_map.1 hz'
      obtain ⟨y1,y2,y3⟩:=(hA.mem y).1 hy
      obtain ⟨z1,z2,z3⟩:=(hA.mem y').1 hy'
      refine hyy (free_circ H.hE y1 z1 y2 z2 fun j hj=>?_)
      by_cases c:j=i
      · subst c
        have h1:=y3 j hj
        have h2:=z3 j hj
        rw [if_neg (Nat.lt_irrefl j)] at h1 h2
        rw [h1,h2]
      · rw [←hoff y hy (gi x f-a+s) j hj c,←e,hoff y' hy' _ j hj c]
  · rw [yjA (B:=2*a+1) fun y _=>by unfold rowL;simp,hA.len,Nat.pow_succ]
  · rw [hmem]
    constructor
    · rintro ⟨y,hy,t,ht,rfl⟩
      obtain ⟨y1,y2,y3⟩:=(hA.mem y).1 hy
      refine ⟨by rw [yjM];exact y1,cmb_circ y1 y2 hlv.circ,fun j hj=>?_⟩
      by_cases c:j=i
      · subst c
        rw [if_pos (by omega),←hf,hat y hy];omega
      · rw [hoff y hy _ j hj c]
        have:=y3 j hj
        by_cases q:j<i
        · rw [if_pos q] at this;rw [if_pos (by omega)];exact this
        · rw [if_neg q] at this;rw [if_neg (by omega)];exact this
    · rintro ⟨z1,z2,z3⟩
      have hzf:=z3 i hi
      rw [if_pos (by omega),←hf] at hzf
      have hy:cmb z L (-gi z f)∈A:=by
        refine (hA.mem _).2 ⟨by rw [yjM];exact z1,cmb_circ z1 z2 hlv.circ,fun j hj=>?_⟩
        have hm:=yjv.1 (List.getElem_mem hj:(yjl E E.length)[j]∈yjl E E.length)
        rw [yjW (by omega)]
        by_cases c:j=i
        · subst c
          rw [if_neg (Nat.lt_irrefl j),←hf,hlv.one];omega
        · rw [hne j hj c,Int.mul_zero,Int.add_zero]
          have:=z3 j hj
          by_cases q:j<i
          · rw [if_pos q];rw [if_pos (by omega)] at this;exact this
          · rw [if_neg q];rw [if_neg (by omega)] at this;exact this
      refine ⟨_,hy,(gi z f-(gi x f-a)).toNat,by omega,?_⟩
      refine ygj (by rw [yjM,yjM]) fun e he=>?_
      rw [yjW (by rw [yjM];exact he),yjW he,show gi x f-(a:Int)+(((gi z f-(gi x f-a)).toNat:Nat):Int)=gi z f by omega,Int.neg_mul]
      omega
  · obtain ⟨y,hy,t,ht,rfl⟩:=(hmem z).1 hz
    obtain ⟨y1,y2,y3⟩:=(hA.mem y).1 hy
    intro e he
    rw [yjM] at he
    rw [yjW he]
    have h1:=hA.bd y hy e he
    have hxf:=hx9 f (by omega)
    have h2:=mul_bd (a:=gi x f-a+t) (b:=gi L e) (B:=9+a) (C:=1) (by omega) (hlv.bd e (by rw [hlv.len];omega))
    rw [Nat.succ_mul];omega
theorem arL_ok{l:List (List Int)}(H:BasOk n E l){x:List Int}{a:Nat}(hx9:Bd 9 x)(hxl:x.length=E.length):∀ {i:Nat},i≤(yjl E E.length).length→ArI E x a i (arL x a (yjl E E.length) l i)
  | 0,_=>ar_zero H.hE hxl
  | i+1,hi=>by
    have h1:=ar_step (a:=a) H hx9 hxl (show i<(yjl E E.length).length by omega) (arL_ok (a:=a) H hx9 hxl (i:=i) (by omega))
    have h2:(yjl E E.length)[i]?.getD 0=(yjl E E.length)[i]:=by rw [List.getElem?_eq_getElem (by omega)];rfl
    rw [arL,h2];exact h1
theorem p_r49_Around(G:GrOk n es E)(hl:es.length≤100)(hc:yd0 n es=true)(hm8:E.length≤8)(hg:E.length+1≤n+4){x:List Int}{a:Nat}(ha:a≤25)(hx9:Bd 9 x)(hxl:x.length=E.length){R:List (List Int)→Prop}(h:∀ A,ArI E x a (yjl E E.length).length A→A.length≤6765201→R A):yjt (n:Int) es x (a:Int) R:=by
  obtain ⟨F,hF⟩:∃ F,F=yjl E E.length:=⟨_,rfl⟩
  have hF4:F.length≤4:=by have:=free_len G hc;rw [hF];omega
  refine yjU G hl (yjS G hl hc fun l hll hlv=>?_)
  have H:BasOk n E l:=⟨G.ok,hll,hlv⟩
  have hpow:∀ i,i≤4→(2*a+1)^i≤6765201:=fun i hi=>by
    have h1:(2*a+1)^i≤51^i:=Nat.pow_le_pow_left (by omega) i
    have h2:51^i≤51^4:=Nat.pow_le_pow_right (by omega) hi
    have h3:(51:Nat)^4=6765201:=by decide
    omega
  have hA:∀ i,i≤F.length→ArI E x a i (arL x a F l i):=fun i hi=>by rw [hF] at hi ⊢;exact arL_ok H hx9 hxl hi
  have hFm:∀ j,∀ hj:j<F.length,F[j]<E.length:=fun j hj=>by
    have:=List.getElem_mem hj
    generalize F[j]=e at this ⊢
    rw [hF] at this;exact (yjv.1 this).1
  refine ⟨fun m v e=>Cnt E.length (fun k=>v=ybQ (yjl E k)) m e,Cnt.start rfl,?_⟩
  rintro m v e ⟨k,rfl,rfl,hk,hv⟩
  rw [hxl]
  refine ⟨fun hlt=>?_,fun hge=>?_⟩
  · have hkl:k<E.length:=by omega
    have hT:((k:Nat):Int)∈ybQ (chL (inT E) E.length)↔inT E k=true:=by
      rw [yix,yjL];exact ⟨fun z=>z.2,fun z=>⟨hkl,z⟩⟩
    have hvl:v.length≤k:=by rw [hv,ybB];exact ygw k
    refine yjQ (by rw [ybB];have:=ygw (P:=inT E) E.length;omega) ⟨fun q=>?_,fun q=>⟨by omega,?_⟩⟩
    · have q:=hT.1 (of_decide_eq_true q)
      refine Cnt.next hkl (by omega) ?_
      rw [hv];unfold yjl;rw [yhL,if_neg (by rw [q];decide),List.append_nil]
    · have q:inT E k=false:=by
        rw [Bool.eq_false_iff];exact fun z=>q (decide_eq_true (hT.2 z))
      refine Cnt.next hkl (by omega) ?_
      rw [hv];unfold yjl;rw [yhL,if_pos (by rw [q];rfl),yfQ];rfl
  · have:k=E.length:=by omega
    subst this
    rw [←hF] at hv hll
    refine ⟨by omega,fun m A i=>Cnt F.length (fun i=>A=arL x a F l i) m i,Cnt.start (by rw [arL,hxl];rfl),?_⟩
    rintro m A i ⟨i,rfl,rfl,hi,rfl⟩
    have IA:=hA i hi
    have hAl:=IA.len
    have hp:=hpow i (by omega)
    rw [hll]
    refine ⟨fun hlt=>?_,fun hge=>?_⟩
    · have hiF:i<F.length:=by omega
      obtain ⟨f,hf⟩:∃ f,f=F[i]:=⟨_,rfl⟩
      have hfE:=hFm i hiF
      rw [←hf] at hfE
      have hgv:gi v i=(f:Nat):=by rw [hv,yfn hiF,hf]
      have hgF:F[i]?.getD 0=f:=by rw [List.getElem?_eq_getElem hiF,hf];rfl
      obtain ⟨A,hAe⟩:∃ A,A=arL x a F l i:=⟨_,rfl⟩
      have hnext:arL x a F l (i+1)=A.flatMap fun y=>rowL y (gx l i) (gi x f-a) (2*a+1):=by rw [arL,hgF,hAe]
      have hLv:LoopV E f (gx l i):=by
        have:=hlv i (by rw [←hF];exact hiF)
        have e2:(yjl E E.length)[i]'(by rw [←hF];exact hiF)=f:=by rw [hf];congr 1;exact hF.symm
        rw [e2] at this;exact this
      have hxf:=hx9 f (by omega)
      have hvl:v.length=F.length:=by rw [hv,ybB]
      rw [←hAe] at IA hAl ⊢
      rw [Int.toNat_natCast,hgv,Int.toNat_natCast]
      have hnl:(A.flatMap fun y=>rowL y (gx l i) (gi x f-a) (2*a+1)).length=A.length*(2*a+1):=yjA fun y _=>by unfold rowL;simp
      have hp1:=hpow (i+1) (by omega)
      rw [Nat.pow_succ,←hAl] at hp1
      refine ⟨fun m' v5 j=>Cnt A.length (fun t=>v5=(A.take t).flatMap fun y=>rowL y (gx l i) (gi x f-a) (2*a+1)) m' j,Cnt.start rfl,?_⟩
      rintro m' v5 j ⟨t,rfl,rfl,ht,hv5⟩
      have hv5l:v5.length=t*(2*a+1):=by
        rw [hv5,yjA (B:=2*a+1) fun y _=>by unfold rowL;simp,List.length_take,Nat.min_eq_left ht]
      refine ⟨fun hlt2=>?_,fun hge2=>?_⟩
      · have htA:t<A.length:=by omega
        have hmul:=Nat.mul_le_mul_right (2*a+1) (show t+1≤A.length by omega)
        rw [Nat.succ_mul] at hmul
        obtain ⟨y,hy⟩:∃ y,y=gx A t:=⟨_,rfl⟩
        have hyA:y∈A:=by rw [hy,yaM htA];exact List.getElem_mem htA
        obtain ⟨y1,y2,y3⟩:=(IA.mem y).1 hyA
        have hyb:=IA.bd y hyA
        have hyb2:Bd 136 y:=hyb.mono (by
          have:=Nat.mul_le_mul (show i≤4 by omega) (show 9+a≤34 by omega)
          omega)
        rw [Int.toNat_natCast,←hy]
        refine ⟨by omega,by omega,i64 (by omega),fun m7 w c=>∃ s:Nat,c=gi x f-a+s∧s≤2*a+1∧s+m7=2*a+1∧w=v5++rowL y (gx l i) (gi x f-a) s,⟨2*a+1,0,by omega,by omega,by omega,by simp [rowL]⟩,?_⟩
        rintro m7 w c ⟨s,rfl,hs,hsm,hw⟩
        have hwl:w.length=v5.length+s:=by rw [hw,List.length_append];unfold rowL;simp
        refine ⟨i64 (by omega),fun hle=>⟨by omega,by omega,?_⟩,fun hgt=>?_⟩
        · refine ⟨fun m8 e o=>Cnt E.length (fun k=>o.length=E.length∧(∀ j,j<k→gi o j=gi y j+(gi x f-a+s)*gi (gx l i) j)∧∀ j,k≤j→gi o j=gi y j) m8 e,Cnt.start ⟨y1,fun j hj=>by omega,fun j _=>rfl⟩,?_⟩
          rintro m8 e o ⟨k,rfl,rfl,hk,ho,o1,o2⟩
          have hLl:=hLv.len
          rw [ho]
          refine ⟨fun hlt3=>?_,fun hge3=>?_⟩
          · have hkE:k<E.length:=by omega
            have b1:=hyb2 k (by omega)
            have b2:=mul_bd (a:=gi x f-a+s) (b:=gi (gx l i) k) (B:=59) (C:=1) (by omega) (hLv.bd k (by omega))
            rw [Int.toNat_natCast,o2 k (Nat.le_refl _)]
            refine ⟨by omega,by omega,by omega,i64 (by omega),i64 (by omega),Cnt.next hkE (by omega) ⟨by simpa using ho,fun j hj=>?_,fun j hj=>?_⟩⟩
            · rw [ycM (by omega)]
              by_cases q:j=k
              · rw [if_pos q,q]
              · rw [if_neg q];exact o1 j (by omega)
            · rw [ycM (by omega),if_neg (by omega)];exact o2 j (by omega)
          · have:k=E.length:=by omega
            subst this
            have hoe:o=cmb y (gx l i) (gi x f-a+s):=by unfold cmb;rw [y1];exact yjN ho _ o1
            refine ⟨by omega,i64 (by omega),m7-1,by omega,s+1,by omega,by omega,by omega,?_⟩
            rw [hw,hoe,List.append_assoc]
            unfold rowL
            rw [List.range_succ,List.map_append];rfl
        · have:s=2*a+1:=by omega
          subst this
          refine Cnt.next htA (by omega) ?_
          rw [hw,hv5,List.take_add_one,List.getElem?_eq_getElem htA,←yaM htA,←hy]
          simp only [Option.toList_some]
          rw [List.flatMap_append];simp
      · have:t=A.length:=by omega
        subst this
        rw [List.take_length] at hv5
        exact Cnt.next hiF (by omega) (by rw [hv5,hnext])
    · have:i=F.length:=by omega
      subst this
      exact h _ (by rw [←hF];exact IA) (by omega)
end
end Go.Proofs.YtencmgolklfmkaaGreat
