/- Texts laid together: SpA, Bor, Gen, SpB, SpC, SpT, SpE, SpG, L34, SpW, SpP, SpF, L36, SpN, RkM, RkF, RkG, Scr, RkW, RkR, Rr, L38. -/
import Derived.Test.YtadpnlimiblniaaGreatK5
set_option linter.unusedVariables false
set_option linter.unusedSimpArgs false
set_option linter.unusedSectionVars false
namespace Go.Proofs.YtadpnlimiblniaaGreat
open Go Go.Proofs.Tryz
theorem p_r17_In{k:Int}{R:Bool→Prop}(h:R (inF k)):ykI k R:=by
  unfold ykI
  refine ⟨fun h1=>?_,fun h1=>?_⟩
  · have e:decide (k≤1048576)=inF k:=by unfold inF;simp [h1]
    rw [e];exact h
  · have e:false=inF k:=by unfold inF;simp [h1]
    rw [e];exact h
theorem ygK{n v:Int}{es:List E3}{R:Bool→Prop}(h:R (decide (0≤v∧v<n))):ycy n es v R:=by
  unfold ycy
  refine ⟨fun h1=>?_,fun h1=>?_⟩
  · have e:decide (v<n)=decide (0≤v∧v<n):=by simp [h1]
    rw [e];exact h
  · have e:false=decide (0≤v∧v<n):=by simp [h1]
    rw [e];exact h
theorem yl0{d:List Int}{n:Int}{R:Int→Prop}(h:R (ybf d n)):ykC d n R:=by
  unfold ykC
  have hout:¬(1≤n∧n≤12)→R 2:=fun q=>by
    have:ybf d n=2:=by unfold ybf yhM;rw [if_neg q,if_neg (by omega)]
    rwa [this] at h
  refine ⟨1≤n∧n≤12,fun hn=>?_,fun q=>hout (by omega),fun q=>⟨fun q2=>hout (by omega),fun q2=>⟨by omega,by omega⟩⟩⟩
  have hc:ybf d n=if (d.length:Int)=n then (if d.all inF then 0 else 2) else 8:=by unfold ybf;rw [if_pos (by unfold yhM;rw [if_pos hn])]
  rw [hc] at h
  refine ⟨fun hln=>?_,fun hln=>by rwa [if_neg hln] at h⟩
  rw [if_pos hln] at h
  refine ⟨Cnt d.length (fun k=>∀ j,j<k→inF (gi d j)=true),Cnt.start (fun j hj=>absurd hj (by omega)),?_⟩
  rintro m _ ⟨k,rfl,rfl,hk,hinv⟩
  refine ⟨fun hlt=>⟨by omega,p_r17_In ⟨fun h1=>Cnt.next (by omega) (by omega) fun j hj=>?_,fun h1=>?_⟩⟩,fun hge=>?_⟩
  · by_cases e:j=k
    · subst e;simpa using h1
    · exact hinv j (by omega)
  · rw [if_neg (fun hall=>h1 ((yeR inF d).1 hall _ (by omega)))] at h;exact h
  · rw [if_pos ((yeR inF d).2 fun j hj=>hinv j (by omega))] at h;exact h
theorem ykS{d:List Int}{R:Int→Prop}(hl:d.length≤1000000)(hb:∀ i,i<d.length → -1000000000000≤gi d i∧gi d i≤1000000000000)(h:R (dg d)):ykg d R:=by
  unfold ykg
  refine ⟨fun m n v=>Cnt d.length (fun k=>n=sm k (gi d)) m v,Cnt.start rfl,?_⟩
  rintro m n _ ⟨k,rfl,rfl,hk,rfl⟩
  refine ⟨fun hlt=>⟨by omega,?_,Cnt.next (by omega) (by omega) rfl⟩,fun hge=>?_⟩
  · have:=yiV (f:=gi d) (B:=1000000000000) (by omega) (n:=k+1) fun i hi=>hb i (by omega)
    rw [sm] at this
    exact i64 (by simp only [Int.toNat_natCast];omega)
  · have:k=d.length:=by omega
    subst this;exact h
theorem p_r08_edge{n:Int}{es:List E3}{k:Nat}{R:Int→Prop}(hk:k<es.length)(hl:es.length≤1000000000)(h:R (yhg n (pre es k).1 (pre es k).2 (ge es k))):ye2 n es (k:Int) R:=by
  unfold ye2
  simp only [Int.toNat_natCast]
  generalize hx:ge es k=x at h ⊢
  refine ⟨by omega,(0≤x.1∧x.1<n)∧(0≤x.2.1∧x.2.1<n)∧1≤x.2.2∧x.2.2≤50,fun hJ=>?_,?_⟩
  · have hed:∀ a b,yhg n a b x=if x.1≤x.2.1∧ydR a b x.1 x.2.1<0 then 0 else 9:=fun a b=>by unfold yhg;rw [if_pos hJ]
    rw [hed] at h
    refine ⟨fun q=>by rw [if_neg (by omega)] at h;exact h,fun q=>⟨fun h0=>?_,fun h0=>?_⟩⟩
    · have e1:((k:Int)-1).toNat=k-1:=by omega
      rw [e1]
      have hp:pre es k=((ge es (k-1)).1,(ge es (k-1)).2.1):=by unfold pre;rw [if_neg (by omega)]
      rw [hp] at h
      have hc:=yh6 (ge es (k-1)).1 (ge es (k-1)).2.1 x.1 x.2.1
      refine ⟨i64 (by omega),by omega,fun q1=>?_,fun q1=>⟨fun q2=>⟨fun q3=>?_,fun q3=>?_⟩,fun q2=>?_⟩⟩
      · rw [if_neg (fun h=>by have:=hc.1 h.2;omega)] at h;exact h
      · rw [if_neg (fun h=>by have:=hc.1 h.2;omega)] at h;exact h
      · rw [if_pos ⟨by omega,hc.2 (by omega)⟩] at h;exact h
      · rw [if_pos ⟨by omega,hc.2 (by omega)⟩] at h;exact h
    · have hp:pre es k=(-1, -1):=by unfold pre;rw [if_pos (by omega)]
      rw [hp,if_pos ⟨by omega,(yh6 _ _ _ _).2 (.inl (by omega))⟩] at h
      exact h
  · have hed:¬((0≤x.1∧x.1<n)∧(0≤x.2.1∧x.2.1<n)∧1≤x.2.2∧x.2.2≤50)→R 2:=fun q=>by unfold yhg at h;rwa [if_neg q] at h
    refine ygK ⟨fun h1=>ygK ⟨fun h2=>⟨fun h3=>hed (by omega),fun h3=>⟨fun h4=>hed (by omega),fun h4=>?_⟩⟩,fun h2=>hed (by simp at h2;omega)⟩,fun h1=>hed (by simp at h1;omega)⟩
    simp only [decide_eq_true_eq] at h1 h2
    exact ⟨h1,h2,by omega,by omega⟩
theorem yjC{n:Int}{es:List E3}{R:Int→Prop}(hl:es.length≤1000000000)(h:R (yav n es)):ydy n es R:=by
  unfold ydy
  have hout:¬(1≤n∧n≤12)→R 2:=fun q=>by unfold yav at h;rwa [if_neg q] at h
  refine ⟨1≤n∧n≤12,fun hn=>?_,fun q=>hout (by omega),fun q=>⟨fun q2=>hout (by omega),fun q2=>⟨by omega,by omega⟩⟩⟩
  have hg:yav n es=gchk n (-1) (-1) es:=by unfold yav;rw [if_pos hn]
  rw [hg] at h
  refine ⟨Cnt es.length (fun k=>gchk n (-1) (-1) es=gchk n (pre es k).1 (pre es k).2 (es.drop k)),Cnt.start rfl,?_⟩
  rintro m _ ⟨k,rfl,rfl,hk,hinv⟩
  refine ⟨fun hlt=>p_r08_edge (by omega) hl ⟨fun h0=>Cnt.next (by omega) (by omega) ?_,fun h0=>?_⟩,fun hge=>?_⟩
  · rw [yh7 (by omega),ygM,if_pos h0] at hinv
    rw [hinv];simp [pre]
  · rw [yh7 (by omega),ygM,if_neg h0] at hinv
    rwa [hinv] at h
  · have hk2:k=es.length:=by omega
    rw [hinv,hk2,List.drop_length] at h
    exact h
theorem p_r08_Between' {n:Int}{es:List E3}{a b:Int}{R:Int→Prop}(hl:es.length≤1000000000)(h:R (((es.find? fun x=>decide (x.1=mnF a b∧x.2.1=mxF a b)).map (·.2.2)).getD 0)):yca n es a b R:=by
  unfold yca
  refine ⟨Cnt es.length (fun k=>es.find? (fun x=>decide (x.1=mnF a b∧x.2.1=mxF a b))=(es.drop k).find? (fun x=>decide (x.1=mnF a b∧x.2.1=mxF a b))),Cnt.start rfl,?_⟩
  rintro m _ ⟨k,rfl,rfl,hk,hinv⟩
  refine ⟨fun hlt=>?_,fun hge=>?_⟩
  · have hlt:k<es.length:=by omega
    rw [yh7 hlt,List.find?_cons] at hinv
    simp only [Int.toNat_natCast]
    refine ⟨by omega,fun h1=>⟨fun h2=>?_,fun h2=>Cnt.next hlt (by omega) ?_⟩,fun h1=>Cnt.next hlt (by omega) ?_⟩
    · rw [hinv] at h;simpa [h1,h2] using h
    · rw [hinv];simp [h2]
    · rw [hinv];simp [h1]
  · have hk2:k=es.length:=by omega
    rw [hinv,hk2,List.drop_length] at h
    exact h
theorem W_le50{n:Int}{es:List E3}(hg:yav n es=0)(u v:Nat):0≤W es u v∧W es u v≤50:=by
  by_cases e:u=v
  · subst e;rw [yhC];omega
  · have hok:=gchk_ok es _ _ (ydZ hg)
    rw [←yjy u v e es (-1) (-1) (ydZ hg)]
    cases hf:es.find? fun x=>decide (x.1=mnF (u:Int) v∧x.2.1=mxF (u:Int) v) with
    | none=>simp
    | some x=>have:=hok x (List.mem_of_find?_eq_some hf);simp;omega
theorem ykm{n:Int}{es:List E3}{u v:Nat}{R:Int→Prop}(hl:es.length≤1000000000)(hg:yav n es=0)(huv:u≠v)(h:R (W es u v)):yca n es (u:Int) (v:Int) R :=
  p_r08_Between' hl (by rw [yjy u v huv es (-1) (-1) (ydZ hg)];exact h)
theorem deg_bound{n:Int}{es:List E3}(hg:yav n es=0)(k v:Nat):0≤sm k (fun u=>W es v u)∧sm k (fun u=>W es v u)≤k*50 :=
  ⟨ya5 fun i _=>(W_le50 hg v i).1,(yiV (f:=fun u=>W es v u) (B:=50) (by omega) fun i _=>by have:=W_le50 hg v i;omega).2⟩
def yeK(es:List E3):List (Int×Int):=es.flatMap fun x=>List.replicate x.2.2.toNat (x.1,x.2.1)
theorem endsF_take{es:List E3}{k:Nat}(hk:k<es.length):yeK (es.take (k+1))=yeK (es.take k)++List.replicate (ge es k).2.2.toNat ((ge es k).1,(ge es k).2.1):=by
  unfold yeK
  rw [List.take_add_one,List.getElem?_eq_getElem hk,yc4 hk,List.flatMap_append]
  simp
theorem ye6(es:List E3)(hE:∀ x∈es,1≤x.2.2∧x.2.2≤50):((yeK es).length:Int)=(es.map (·.2.2)).sum∧(yeK es).length≤50*es.length:=by
  induction es with
  | nil=>simp [yeK]
  | cons x t ih =>
    have hx:=hE x (by simp)
    have:=ih fun y hy=>hE y (by simp [hy])
    unfold yeK at this ⊢
    rw [List.flatMap_cons,List.length_append,List.length_replicate,List.map_cons,List.sum_cons,List.length_cons]
    omega
theorem p_r08_Ends{n:Int}{es:List E3}{R:List (Int×Int)→Prop}(hl:es.length≤1000)(hE:∀ x∈es,1≤x.2.2∧x.2.2≤50)(h:R (yeK es)):yd0 n es R:=by
  unfold yd0
  have hlen:∀ k,(yeK (es.take k)).length≤50*k:=fun k=>by
    have:=(ye6 (es.take k) fun x hx=>hE x (List.mem_of_mem_take hx)).2
    rw [List.length_take] at this
    omega
  refine ⟨fun m out i=>Cnt es.length (fun k=>out=yeK (es.take k)) m i,Cnt.start (by simp [yeK]),?_⟩
  rintro m out _ ⟨k,rfl,rfl,hk,rfl⟩
  refine ⟨fun hlt=>?_,fun hge=>?_⟩
  · have hlt:k<es.length:=by omega
    have hmk:=hE _ (ge_mem hlt)
    have hl2:=hlen k
    simp only [Int.toNat_natCast]
    refine ⟨fun m2 out2 j=>Cnt (ge es k).2.2.toNat (fun i=>out2=yeK (es.take k)++List.replicate i ((ge es k).1,(ge es k).2.1)) m2 j,Cnt.start (by simp),?_⟩
    rintro m2 out2 _ ⟨j,rfl,rfl,hj,rfl⟩
    refine ⟨by omega,fun h1=>⟨?_,Cnt.next (by omega) (by omega) ?_⟩,fun h1=>Cnt.next hlt (by omega) ?_⟩
    · rw [List.length_append,List.length_replicate];omega
    · rw [List.append_assoc,List.replicate_succ']
    · have:j=(ge es k).2.2.toNat:=by omega
      rw [endsF_take hlt,this]
  · have hk2:k=es.length:=by omega
    rw [hk2,List.take_length];exact h
theorem p_r08_Size{n:Int}{es:List E3}{R:Int→Prop}(hl:es.length≤1000)(hE:∀ x∈es,1≤x.2.2∧x.2.2≤50)(h:R ((es.map (·.2.2)).sum)):yf7 n es R :=
  p_r08_Ends hl hE (by rw [(ye6 es hE).1];exact h)
theorem p_r08_small{n a b:Int}{es:List E3}{R:Bool→Prop}(h:R (yi8 n es a b)):yek n es a b R:=by
  unfold yek
  unfold yi8 at h
  refine ⟨fun h1=>?_,fun h1=>yjC (by omega) ⟨fun h2=>⟨fun h3=>?_,fun h3=>?_⟩,fun h2=>?_⟩⟩
  · rwa [decide_eq_false (by omega)] at h
  · have hE:=gchk_ok es _ _ (ydZ h2)
    refine p_r08_Size (by omega) (fun x hx=>(hE x hx).2.2.2.2) ?_
    have e:decide ((es.map (·.2.2)).sum≤b)=decide (es.length≤40∧(yav n es=0→n≤a∧(es.map (·.2.2)).sum≤b)):=by
      rw [decide_eq_decide];constructor
      · intro q;exact ⟨by omega,fun _=>⟨h3,q⟩⟩
      · intro q;exact (q.2 h2).2
    rw [e];exact h
  · rwa [decide_eq_false (fun q=>h3 (q.2 h2).1)] at h
  · rwa [decide_eq_true ⟨by omega,fun q=>absurd q h2⟩] at h
end Go.Proofs.YtadpnlimiblniaaGreat

namespace Go.Proofs.YtadpnlimiblniaaGreat
open Go Go.Proofs.Tryz
def Win(n:Nat)(es:List E3)(d:List Int):Prop:=∃ s:Nat→Int,∀ v,v<n→0≤gi d v-Lp n es s v
theorem Lp_unit{n:Nat}{es:List E3}{v:Nat}(hv:v<n)(i:Nat):Lp n es (fun j=>if j=v then 1 else 0) i=if i=v then deg n es v else-W es i v:=by
  rw [Lp_ind]
  have h1:sm n (fun u=>(if u=v then (1:Int) else 0)*W es u i)=W es v i:=by
    rw [←ye9 (W es v i) hv]
    refine yaw fun u hu=>?_
    show (if u=v then (1:Int) else 0)*W es u i=if u=v then W es v i else 0
    split
    · rename_i e;rw [e];omega
    · omega
  rw [h1]
  by_cases e:i=v
  · subst e;rw [if_pos rfl,if_pos rfl,yhC];omega
  · rw [if_neg e,if_neg e,ye0];omega
structure Bor(n:Nat)(es:List E3)(d:List Int)(c:Nat→Int)(x:List Int)(b:List Bool):Prop where
  xl:x.length=n
  bl:b.length=n
  val:∀ v,v<n→gi x v=gi d v+Lp n es c v
  c0:∀ v,v<n→0≤c v
  bo:∀ v,v<n→(gb b v=true↔0<c v)
  up:∀ v,v<n→gi x v≤1000
  least:∀ t:Nat→Int,(∀ v,v<n→0≤t v)→(∀ v,v<n→0≤gi d v+Lp n es t v)→∀ v,v<n→c v≤t v
section
variable {n : Nat} {es : List E3} {d : List Int}
theorem bor_start(hd:d.length=n)(hb:∀ v,v<n→gi d v≤1000):Bor n es d (fun _=>0) d (List.replicate n false) :=
  ⟨hd,by simp,fun v hv=>by rw [yfl];omega,fun v hv=>Int.le_refl _,fun v hv=>by rw [gb_rep];simp,hb,fun t ht _ v hv=>ht v hv⟩
theorem deg_le{m:Int}(hg:yav m es=0)(hn:n≤12)(v:Nat):0≤deg n es v∧deg n es v≤600:=by
  have:=deg_bound hg n v
  unfold deg
  omega
theorem bor_step{m:Int}(hg:yav m es=0)(hE:EOk n es)(hn:n≤12){c:Nat→Int}{x:List Int}{b:List Bool}(h:Bor n es d c x b){v:Nat}(hv:v<n)(hneg:gi x v<0){y:List Int}(hyl:y.length=n)
    (hy:∀ i,i<n→gi y i=if i=v then gi x v+deg n es v else gi x i-W es i v):Bor n es d (fun j=>c j+if j=v then 1 else 0) y (b.set v true):=by
  refine ⟨hyl,by rw [List.length_set,h.bl],fun i hi=>?_,fun i hi=>?_,fun i hi=>?_,fun i hi=>?_,fun t ht0 ht i hi=>?_⟩
  · rw [hy i hi,ygJ c (fun j=>if j=v then 1 else 0),Lp_unit hv,h.val i hi]
    by_cases e:i=v
    · subst e;rw [if_pos rfl,if_pos rfl,h.val i hi];omega
    · rw [if_neg e,if_neg e];omega
  · have:=h.c0 i hi
    show 0≤c i+if i=v then 1 else 0
    split <;> omega
  · rw [yeA (by rw [h.bl];exact hv)]
    have:=h.c0 i hi
    show _↔0<c i+if i=v then 1 else 0
    by_cases e:i=v
    · rw [if_pos e,if_pos e];simp;omega
    · rw [if_neg e,if_neg e,h.bo i hi];simp
  · rw [hy i hi]
    have h1:=deg_le hg hn (n:=n) v
    have h2:=h.up i hi
    have h3:=ya2 hE i v
    split <;> omega
  · have h1:=h.least t ht0 ht i hi
    show c i+(if i=v then 1 else 0)≤t i
    by_cases e:i=v
    · subst e
      rw [if_pos rfl]
      apply Int.not_lt.1
      intro hlt
      have e2:t i=c i:=by omega
      have h3:Lp n es t i≤Lp n es c i:=by
        unfold Lp
        refine ydh fun u hu=>?_
        show W es i u*(t i-t u)≤W es i u*(c i-c u)
        exact Int.mul_le_mul_of_nonneg_left (by have:=h.least t ht0 ht u hu;omega) (ya2 hE i u)
      have:=ht i hi
      have:=h.val i hi
      omega
    · rw [if_neg e];omega
theorem bor_few(hE:EOk n es)(hC:∀ q,q<n→Conn n es q)(hn:n≤12)(hdb:∀ v,v<n → -1000≤gi d v){c:Nat→Int}{x:List Int}{b:List Bool}(h:Bor n es d c x b){w:Nat}(hw:w<n)(h0:gb b w≠true):∀ v,v<n→c v≤288000:=by
  have cw:c w=0:=by
    have h1:=h.c0 w hw
    have h2:=(h.bo w hw)
    have:¬0<c w:=fun h3=>h0 (h2.2 h3)
    omega
  intro v hv
  have h1:=climb hE (hC w hw) hw (f:=c) (G:=24000) (by omega) (fun S hS=>?_) v hv
  · have h2:=low_le (f:=c) hv
    have h3:low n c (c v)*24000≤12*24000:=Int.mul_le_mul_of_nonneg_right (by omega) (by omega)
    omega
  · have h4:sm n (fun v=>if S v=true then Lp n es c v else 0)≤sm n (fun _=>2000):=ydh fun u hu=>by
      show (if S u=true then Lp n es c u else 0)≤2000
      have h5:=h.val u hu
      have h6:=h.up u hu
      have h7:=hdb u hu
      split <;> omega
    rw [yd8] at h4
    omega
theorem bor_total(hn:n≤12){c:Nat→Int}(hc:∀ v,v<n→c v≤288000):sm n c≤3456000:=by
  have h:=ydh (f:=c) (g:=fun _=>288000) (n:=n) hc
  rw [yd8] at h
  omega
theorem bor_count{c:Nat→Int}{v:Nat}(hv:v<n):sm n (fun j=>c j+if j=v then 1 else 0)=sm n c+1:=by
  rw [ycc c (fun j=>if j=v then 1 else 0),ye9 1 hv]
theorem bor_win{c:Nat→Int}{x:List Int}{b:List Bool}(h:Bor n es d c x b)(hx:∀ v,v<n→0≤gi x v):Win n es d:=by
  refine ⟨fun i=>(-1)*c i,fun v hv=>?_⟩
  rw [yip]
  have:=hx v hv
  rw [h.val v hv] at this
  omega
theorem max_at(s:Nat→Int):∀ n:Nat,1≤n→∃ w,w<n∧∀ v,v<n→s v≤s w
  | 0,h=>absurd h (by omega)
  | 1,_=>⟨0,by omega,fun v hv=>by rw [show v=0 by omega];omega⟩
  | n+2,_=>by
    obtain ⟨w,hw,h⟩:=max_at s (n+1) (by omega)
    by_cases c:s (n+1)≤s w
    · refine ⟨w,by omega,fun v hv=>?_⟩
      by_cases e:v=n+1
      · rw [e];exact c
      · exact h v (by omega)
    · refine ⟨n+1,by omega,fun v hv=>?_⟩
      by_cases e:v=n+1
      · rw [e];omega
      · have:=h v (by omega);omega
theorem bor_loss(hn:1≤n){c:Nat→Int}{x:List Int}{b:List Bool}(h:Bor n es d c x b)(hall:∀ v,v<n→gb b v=true):¬Win n es d:=by
  rintro ⟨s,hs⟩
  obtain ⟨w,hw,hmax⟩:=max_at s n hn
  have h1:=h.least (fun i=>s w+(-1)*s i) (fun v hv=>by have:=hmax v hv;show 0≤s w + -1*s v;omega) (fun v hv=>by
    rw [ygJ (fun _=>s w) (fun i=>(-1)*s i),yfl,yip]
    have:=hs v hv
    omega) w hw
  have h2:=(h.bo w hw).1 (hall w hw)
  have h3:c w≤s w + -1*s w:=h1
  omega
theorem win_red{q:Nat}{r:List Int}{s:Nat→Int}(hE:EOk n es)(hq:q<n)(hr:Red n es q r)(hl:∀ v,v<n→gi r v=gi d v-Lp n es s v):Win n es d↔0≤gi r q:=by
  constructor
  · rintro ⟨t,ht⟩
    -- the end of t is the form behind a firing
    have h1:=red_script hE hq hr (d':=tab (fun v=>gi d v-Lp n es t v) n) (fun v hv _=>by rw [ygt _ hv];exact ht v hv) (f:=fun i=>t i+(-1)*s i) fun v hv=>by
      rw [ygt _ hv,ygJ t (fun i=>(-1)*s i),yip,hl v hv];omega
    have h2:0≤Lp n es (fun i=>t i+(-1)*s i) q:=by
      unfold Lp
      refine ya5 fun u hu=>?_
      exact Int.mul_nonneg (ya2 hE q u) (by have:=h1 u hu;show 0≤t q + -1*s q-(t u + -1*s u);omega)
    have h3:=ht q hq
    rw [ygJ t (fun i=>(-1)*s i),yip] at h2
    rw [hl q hq];omega
  · intro h0
    refine ⟨s,fun v hv=>?_⟩
    rw [←hl v hv]
    by_cases e:v=q
    · rw [e];exact h0
    · exact hr.pos v hv e
end
end Go.Proofs.YtadpnlimiblniaaGreat

namespace Go.Proofs.YtadpnlimiblniaaGreat
open Go Go.Proofs.Tryz
def yc9(es:List E3):Int:=(es.map fun x=>if x.1=x.2.1 then 0 else x.2.2).sum
theorem yh1{n:Nat} : ∀ {es:List E3},EOk n es→tot n es=2*yc9 es
  | [],_=>by
    unfold tot yc9
    rw [yaw (g:=fun _=>0) (fun v _=>by rw [yaw (g:=fun _=>0) (fun u _=>W_nil v u),ybJ]),ybJ]
    simp
  | x::es,hE=>by
    have ih:=yh1 (es:=es) (fun y hy=>hE y (by simp [hy]))
    have hx:=hE x (by simp)
    have h1:tot n (x::es)=sm n (fun v=>sm n (fun u=>w1 x v u))+tot n es:=by
      unfold tot
      rw [←ycc]
      refine yaw fun v _=>?_
      rw [←ycc]
      exact yaw fun u _=>ygd x es v u
    have hp:yc9 (x::es)=(if x.1=x.2.1 then 0 else x.2.2)+yc9 es:=by simp [yc9]
    rw [h1,hp,ih]
    by_cases e:x.1=x.2.1
    · rw [if_pos e]
      have h2:sm n (fun v=>sm n (fun u=>w1 x v u))=0:=by
        rw [yaw (g:=fun _=>0) (fun v _=>by rw [yaw (g:=fun _=>0) (fun u _=>by unfold w1;rw [if_neg (fun h=>h.1 e)]),ybJ]),ybJ]
      omega
    · rw [if_neg e]
      have h2:sm n (fun v=>sm n (fun u=>w1 x v u))=sm n (fun v=>sm n (fun u=>(if v=x.1.toNat then (if u=x.2.1.toNat then x.2.2 else 0) else 0)+(if v=x.2.1.toNat then (if u=x.1.toNat then x.2.2 else 0) else 0))) :=
        yaw fun v _=>yaw fun u _=>by
          show w1 x v u=ite _ _ _+ite _ _ _
          unfold w1
          by_cases a1:v=x.1.toNat
          · by_cases a2:u=x.2.1.toNat
            · rw [if_pos ⟨e, .inl ⟨by omega,by omega⟩⟩,if_pos a1,if_pos a2,if_neg (by omega)];omega
            · rw [if_neg (fun h=>by omega),if_pos a1,if_neg a2,if_neg (by omega)];omega
          · rw [if_neg a1]
            by_cases b1:v=x.2.1.toNat
            · rw [if_pos b1]
              by_cases b2:u=x.1.toNat
              · rw [if_pos ⟨e, .inr ⟨by omega,by omega⟩⟩,if_pos b2];omega
              · rw [if_neg (fun h=>by omega),if_neg b2];omega
            · rw [if_neg (fun h=>by omega),if_neg b1];omega
      have h3:∀ a b:Nat,a<n→b<n→sm n (fun v=>sm n (fun u=>if v=a then (if u=b then x.2.2 else 0) else 0))=x.2.2:=fun a b ha hb=>by
        rw [yaw (g:=fun v=>if v=a then x.2.2 else 0) (fun v _=>by
          by_cases e:v=a
          · simp only [if_pos e];exact ye9 _ hb
          · simp only [if_neg e];exact ybJ n)]
        exact ye9 _ ha
      have h4:sm n (fun v=>sm n (fun u=>(if v=x.1.toNat then (if u=x.2.1.toNat then x.2.2 else 0) else 0)+(if v=x.2.1.toNat then (if u=x.1.toNat then x.2.2 else 0) else 0)))=x.2.2+x.2.2:=by
        have e:∀ A B:Nat→Nat→Int,sm n (fun v=>sm n (fun u=>A v u+B v u))=sm n (fun v=>sm n (A v))+sm n (fun v=>sm n (B v)):=fun A B=>by
          rw [←ycc]
          exact yaw fun v _=>by rw [←ycc]
        refine (e (fun v u=>if v=x.1.toNat then (if u=x.2.1.toNat then x.2.2 else 0) else 0) (fun v u=>if v=x.2.1.toNat then (if u=x.1.toNat then x.2.2 else 0) else 0)).trans ?_
        rw [h3 x.1.toNat x.2.1.toNat (by omega) (by omega),h3 x.2.1.toNat x.1.toNat (by omega) (by omega)]
      omega
section
variable {n : Nat} {es : List E3}
theorem p_r08_Reached{v:Nat}{R:List Bool→Prop}(hl:es.length≤1000000000)(hg:yav n es=0)(hv:v<n)(h:∀ o:List Bool,o.length=n→(∀ u,u<n→gb o u=decide (root (yaA es) u=root (yaA es) v))→R o):ydk (n:Int) es (v:Int) R:=by
  obtain ⟨hE,hn1,hn12⟩:=ybW hg
  unfold ydk
  simp only [Int.toNat_natCast]
  refine ⟨by omega,by simp;omega,?_⟩
  let Q:List Bool→Prop:=fun o=>o.length=n∧gb o v=true∧∀ u,u<n→gb o u=true→root (yaA es) u=root (yaA es) v
  let Z:List Bool→List Bool→Prop:=fun o0 o=>(Cl n es o0→o=o0)∧(o=o0∨cf o<cf o0)∧∀ a,gb o0 a=true→gb o a=true
  have hq4:Q ((List.replicate n false).set v true):=by
    refine ⟨by simp,by rw [yeA (by simpa using hv),if_pos rfl],fun u hu h=>?_⟩
    rw [yeA (by simpa using hv)] at h
    split at h
    · rename_i e;rw [e]
    · rw [gb_rep] at h;cases h
  have hcf0:cf ((List.replicate n false).set v true)+1=n:=by
    rw [cf_set (by simpa using hv) (gb_rep n v)]
    unfold cf
    rw [List.filter_eq_self.2 (fun x hx=>by rw [(List.mem_replicate.1 hx).2];rfl)]
    simp
  have hsetQ:∀ {o:List Bool} {b:Nat},Q o→b<n→root (yaA es) b=root (yaA es) v→Q (o.set b true):=by
    rintro o b ⟨q1,q4,q5⟩ hb hr
    have hbl:b<o.length:=by omega
    refine ⟨by simpa using q1,?_,fun u hu h=>?_⟩
    · rw [yeA hbl];split <;> first | rfl | exact q4
    · rw [yeA hbl] at h
      split at h
      · rename_i e;rw [e];exact hr
      · exact q5 u hu h
  refine ⟨fun m i o=>Cnt n (fun k=>Q o∧(Cl n es o∨cf o+k+1≤n)) m i,Cnt.start ⟨hq4, .inr (by omega)⟩,?_⟩
  rintro m _ o0 ⟨k,rfl,rfl,hk,hq5,hpr⟩
  refine ⟨fun hlt=>?_,fun hge=>?_⟩
  · refine ⟨fun m i o=>Cnt n (fun a=>Q o∧Z o0 o∧∀ a',a'<a→gb o0 a'=true→∀ b,b<n→0<W es a' b→gb o b=true) m i,Cnt.start ⟨hq5,⟨fun _=>rfl, .inl rfl,fun _ h=>h⟩,fun a' h=>absurd h (by omega)⟩,?_⟩
    rintro m _ o ⟨a,rfl,rfl,ha,hq6,hz,hdone⟩
    refine ⟨fun hlta=>?_,fun hgea=>?_⟩
    · refine ⟨fun m i o=>Cnt n (fun b=>Q o∧Z o0 o∧(∀ a',a'<a→gb o0 a'=true→∀ b,b<n→0<W es a' b→gb o b=true)∧(gb o0 a=true→∀ b',b'<b→0<W es a b'→gb o b'=true)) m i,Cnt.start ⟨hq6,hz,hdone,fun _ b' h=>absurd h (by omega)⟩,?_⟩
      clear hq6 hz hdone hq5
      rintro m _ o ⟨b,rfl,rfl,hb,hq7,hz,hdone,hnow⟩
      have hol:=hq7.1
      refine ⟨fun hltb=>⟨by omega,fun hx=>?_,fun hx=>Cnt.next (by omega) (by omega) ⟨hq7,hz,hdone,fun h=>absurd (hz.2.2 a h) (by simpa using hx)⟩⟩,fun hgeb=>?_⟩
      · simp only [Int.toNat_natCast] at hx ⊢
        have hstep:(a≠b→0<W es a b)→Q (o.set b true)∧Z o0 (o.set b true)∧(∀ a',a'<a→gb o0 a'=true→∀ b',b'<n→0<W es a' b'→gb (o.set b true) b'=true)∧(gb o0 a=true→∀ b',b'<b+1→0<W es a b'→gb (o.set b true) b'=true):=by
          intro hW
          have hbl:b<o.length:=by omega
          have hup:∀ x,gb o x=true→gb (o.set b true) x=true:=fun x h=>by rw [yeA hbl];split <;> first | rfl | exact h
          have hrb:root (yaA es) b=root (yaA es) v:=by
            have h1:=hq7.2.2 a (by omega) hx
            by_cases eab:a=b
            · rw [←eab];exact h1
            · rw [←root_W hE hn1 hn12 (hW eab)];exact h1
          refine ⟨hsetQ hq7 (by omega) hrb,⟨fun hcl=>?_,?_,fun x h=>hup x (hz.2.2 x h)⟩,fun a' h1 h2 b' h3 h4=>hup _ (hdone a' h1 h2 b' h3 h4),fun h1 b' h2 h3=>?_⟩
          · have e0:=hz.1 hcl
            subst e0
            refine set_same ?_
            by_cases eab:a=b
            · rw [←eab];exact hx
            · exact hcl a b (by omega) (by omega) hx (hW eab)
          · cases hob:gb o b with
            | true=>rw [set_same hob];exact hz.2.1
            | false =>
              have:=cf_set hbl hob
              rcases hz.2.1 with h | h
              · right;rw [←h];omega
              · right;omega
          · by_cases e2:b'=b
            · subst e2;rw [yeA hbl,if_pos rfl]
            · exact hup _ (hnow h1 b' (by omega) h3)
        have hpass:¬0<W es a b→(gb o0 a=true→∀ b',b'<b+1→0<W es a b'→gb o b'=true):=fun h h1 b' h2 h3=>by
          by_cases e2:b'=b
          · subst e2;exact absurd h3 h
          · exact hnow h1 b' (by omega) h3
        by_cases eab:a=b
        · subst eab
          refine p_r08_Between' hl ⟨fun h=>⟨by omega,Cnt.next (by omega) (by omega) (hstep fun h=>absurd rfl h)⟩,fun h=>Cnt.next (by omega) (by omega) ⟨hq7,hz,hdone,hpass (by rw [show W es a a=0 from yhC es a];omega)⟩⟩
        · refine ykm hl hg eab ⟨fun h=>⟨by omega,Cnt.next (by omega) (by omega) (hstep fun _=>h)⟩,fun h=>Cnt.next (by omega) (by omega) ⟨hq7,hz,hdone,hpass h⟩⟩
      · have hbn:b=n:=by omega
        subst hbn
        refine Cnt.next (by omega) (by omega) ⟨hq7,hz,fun a' h1 h2 b' h3 h4=>?_⟩
        by_cases e2:a'=a
        · subst e2;exact hnow h2 b' h3 h4
        · exact hdone a' (by omega) h2 b' h3 h4
    · have han:a=n:=by omega
      subst han
      refine Cnt.next (by omega) (by omega) ⟨hq6,?_⟩
      by_cases hcl:Cl a es o0
      · rw [hz.1 hcl];exact .inl hcl
      · rcases hz.2.1 with h | h
        · exfalso
          subst h
          exact hcl fun x y hx hy h1 h2=>hdone x hx h1 y hy h2
        · rcases hpr with h2 | h2
          · exact absurd h2 hcl
          · right;omega
  · have hkn:k=n:=by omega
    subst hkn
    rcases hpr with q | q
    · exact h o0 hq5.1 (cl_root hE hn1 hn12 q hv hq5.2.1 hq5.2.2)
    · omega
theorem ylb{R:Int→Prop}(hl:es.length≤1000000000)(hg:yav n es=0)(h:∀ k:Int,(k=1↔ydD n es=true)→R k):yef (n:Int) es R:=by
  obtain ⟨hE,hn1,hn12⟩:=ybW hg
  have hcr:=conn_root hE hn1 hn12
  unfold yef
  simp only [Int.toNat_natCast]
  refine ⟨by omega,?_⟩
  refine ⟨fun m k i o=>Cnt n (fun v=>0≤k∧k≤v∧(v=0→k=0)∧(0<v→1≤k∧(k=1↔∀ x,x<v→root (yaA es) x=root (yaA es) 0))∧o.length=n∧(∀ u,u<n→(gb o u=true↔∃ x,x<v∧root (yaA es) u=root (yaA es) x))) m i,
    Cnt.start ⟨by omega,by omega,fun _=>rfl,fun h=>absurd h (by omega),by simp,fun u _=>by rw [gb_rep];simp⟩,?_⟩
  rintro m k _ o ⟨v,rfl,rfl,hv,k0,k1,k2,k3,hol,hseen⟩
  refine ⟨fun hlt=>?_,fun hge=>?_⟩
  · have hlt:v<n:=by omega
    simp only [Int.toNat_natCast]
    refine ⟨by omega,fun hx=>?_,fun hx=>⟨i64 (by omega),p_r08_Reached hl hg hlt fun ro hrl hro=>?_⟩⟩
    · obtain ⟨x,hxv,hxr⟩:=(hseen v hlt).1 hx
      refine Cnt.next hlt (by omega) ⟨k0,by omega,fun h=>absurd h (by omega),fun _=>?_,hol,fun u hu=>?_⟩
      · have h3:=k3 (by omega)
        refine ⟨h3.1,?_⟩
        rw [h3.2]
        constructor
        · intro h y hy
          by_cases e:y=v
          · subst e;rw [hxr];exact h x hxv
          · exact h y (by omega)
        · intro h y hy;exact h y (by omega)
      · rw [hseen u hu]
        constructor
        · rintro ⟨y,hy,hyr⟩;exact ⟨y,by omega,hyr⟩
        · rintro ⟨y,hy,hyr⟩
          by_cases e:y=v
          · subst e;exact ⟨x,hxv,hyr.trans hxr⟩
          · exact ⟨y,by omega,hyr⟩
    · refine ⟨fun m i o'=>Cnt n (fun u=>o'.length=n∧(∀ x,x<n→(gb o' x=true↔(gb o x=true∨(x<u∧gb ro x=true))))) m i,Cnt.start ⟨hol,fun x _=>by simp⟩,?_⟩
      rintro m _ o' ⟨u,rfl,rfl,hu,hol',hor⟩
      refine ⟨fun hltu=>?_,fun hgeu=>?_⟩
      · have hltu:u<n:=by omega
        simp only [Int.toNat_natCast]
        have hou:=hor u hltu
        have st:∀ b:Bool,(b=true↔(gb o u=true∨gb ro u=true))→(o'.set u b).length=n∧(∀ x,x<n→(gb (o'.set u b) x=true↔(gb o x=true∨(x<u+1∧gb ro x=true)))):=fun b hbb=>by
          refine ⟨by simpa using hol',fun x hx=>?_⟩
          rw [yeA (by omega)]
          by_cases e:x=u
          · subst e
            rw [if_pos rfl,hbb]
            constructor
            · rintro (h | h)
              · exact .inl h
              · exact .inr ⟨by omega,h⟩
            · rintro (h | h)
              · exact .inl h
              · exact .inr h.2
          · rw [if_neg e,hor x hx]
            constructor
            · rintro (h | h)
              · exact .inl h
              · exact .inr ⟨by omega,h.2⟩
            · rintro (h | h)
              · exact .inl h
              · exact .inr ⟨by omega,h.2⟩
        refine ⟨by omega,fun hx2=>Cnt.next hltu (by omega) (st true ?_),fun hx2=>⟨by omega,Cnt.next hltu (by omega) (st _ ?_)⟩⟩
        · have:=hou.1 hx2
          constructor
          · intro _;rcases this with h | h
            · exact .inl h
            · exact .inr h.2
          · intro _;rfl
        · constructor
          · intro h;exact .inr h
          · rintro (h | h)
            · exact absurd (hou.2 (.inl h)) hx2
            · exact h
      · have hun:u=n:=by omega
        subst hun
        have hnew:¬ ∃ x,x<v∧root (yaA es) v=root (yaA es) x:=fun h=>hx ((hseen v hlt).2 h)
        refine Cnt.next (by omega) (by omega) ⟨by omega,by omega,fun h=>absurd h (by omega),fun _=>⟨by omega,?_⟩,hol',fun x hxn=>?_⟩
        · by_cases e0:v=0
          · subst e0
            have:=k2 rfl
            subst this
            constructor
            · intro _ y hy;rw [show y=0 by omega]
            · intro _;rfl
          · have h3:=k3 (by omega)
            constructor
            · intro h;omega
            · intro h;exact absurd ⟨0,by omega,h v (by omega)⟩ hnew
        · rw [hor x hxn,hseen x hxn,hro x hxn,decide_eq_true_eq]
          constructor
          · rintro (⟨y,hy,hyr⟩ | h)
            · exact ⟨y,by omega,hyr⟩
            · exact ⟨v,by omega,h.2⟩
          · rintro ⟨y,hy,hyr⟩
            by_cases e:y=v
            · subst e;exact .inr ⟨hxn,hyr⟩
            · exact .inl ⟨y,by omega,hyr⟩
  · have hvn:v=n:=by omega
    subst hvn
    refine h k ?_
    rw [(k3 (by omega)).2,hcr]
theorem ygT{R:Bool→Prop}(hl:es.length≤1000000000)(hg:yav n es=0)(h:R (ydD n es)):ycz (n:Int) es R :=
  ylb hl hg fun k hk=>by
    have e:decide (k=1)=ydD n es:=by rw [Bool.eq_iff_iff,decide_eq_true_eq];exact hk
    rw [e];exact h
end
section
variable {n q : Int} {es : List E3} {d s : List Int}
theorem p_r25_Joined{R:Int→Prop}(hl:es.length≤1000000000)(h:R (yaS n es)):ylT n es R:=by
  unfold ylT
  unfold yaS at h
  refine yjC hl ⟨fun h0=>?_,fun h0=>by rwa [if_neg h0] at h⟩
  rw [if_pos h0] at h
  have hn:1≤n∧n≤12:=by
    unfold yav at h0
    split at h0
    · assumption
    · omega
  obtain ⟨n,rfl⟩:∃ n':Nat,n=(n':Int):=⟨n.toNat,by omega⟩
  exact ygT hl h0 ⟨fun h1=>by rwa [if_pos h1] at h,fun h1=>by rwa [if_neg h1] at h⟩
def lowF(n:Int)(d:List Int):Bool:=decide (d.length≤100∧(ybf d n=0→∀ j,j<d.length → -100≤gi d j∧gi d j≤100))
theorem yl2:lowF n d=true↔d.length≤100∧(ybf d n=0→∀ j,j<d.length → -100≤gi d j∧gi d j≤100):=by unfold lowF;exact decide_eq_true_iff
theorem p_r34_Low{R:Bool→Prop}(h:R (lowF n d)):ylX n es d R:=by
  unfold ylX
  have ht:(d.length≤100∧(ybf d n=0→∀ j,j<d.length → -100≤gi d j∧gi d j≤100))→R true:=fun q=>by rwa [yl2.2 q] at h
  have hf:¬(d.length≤100∧(ybf d n=0→∀ j,j<d.length → -100≤gi d j∧gi d j≤100))→R false:=fun q=>by
    have:lowF n d=false:=by rw [Bool.eq_false_iff];exact fun q2=>q (yl2.1 q2)
    rwa [this] at h
  refine ⟨fun h1=>hf (by omega),fun h1=>yl0 ⟨fun h2=>?_,fun h2=>ht ⟨by omega,fun q=>absurd q h2⟩⟩⟩
  refine ⟨Cnt d.length (fun k=>∀ j,j<k → -100≤gi d j∧gi d j≤100),Cnt.start (fun j hj=>absurd hj (by omega)),?_⟩
  rintro m _ ⟨k,rfl,rfl,hk,hinv⟩
  simp only [Int.toNat_natCast]
  refine ⟨fun hlt=>⟨by omega,fun h3=>hf fun q=>?_,fun h3=>⟨fun h4=>hf fun q=>?_,fun h4=>Cnt.next (by omega) (by omega) fun j hj=>?_⟩⟩,fun hge=>ht ⟨by omega,fun _ j hj=>hinv j (by omega)⟩⟩
  · have:=q.2 h2 k (by omega);omega
  · have:=q.2 h2 k (by omega);omega
  · by_cases e:j=k
    · subst e;omega
    · exact hinv j (by omega)
def plusF(a b:List Int)(k:Int):List Int:=tab (fun i=>gi a i+k*gi b i) a.length
theorem p_r25_Plus{a b:List Int}{k:Int}{R:List Int→Prop}(hl:a.length≤1000)(hlb:a.length≤b.length)(hk : -1≤k∧k≤1)(ha:∀ j,j<a.length → -1000000000000000≤gi a j∧gi a j≤1000000000000000)(hb:∀ j,j<a.length → -1000000000000000≤gi b j∧gi b j≤1000000000000000)(h:R (plusF a b k)):ykj a b k R:=by
  unfold ykj
  simp only [Int.toNat_natCast]
  refine ⟨by omega,fun m i out=>Cnt a.length (fun j=>out=upto (fun i=>gi a i+k*gi b i) j a.length) m i,Cnt.start (upto_zero _ _).symm,?_⟩
  rintro m _ out ⟨i,rfl,rfl,hi,rfl⟩
  refine ⟨fun hlt=>?_,fun hge=>?_⟩
  · have hlt:i<a.length:=by omega
    have h1:=ha i hlt
    have h2:=hb i hlt
    simp only [Int.toNat_natCast]
    have hkb : -1000000000000000≤k*gi b i∧k*gi b i≤1000000000000000:=by
      have:k = -1∨k=0∨k=1:=by omega
      rcases this with rfl | rfl | rfl <;> omega
    refine ⟨by omega,by omega,i64 (by omega),i64 (by omega),by rw [ydv];omega,Cnt.next hlt (by omega) ?_⟩
    exact upto_set (fun i=>gi a i+k*gi b i) hlt
  · have hkn:i=a.length:=by omega
    subst hkn
    rw [upto_all];exact h
end
theorem ydW{a b:List Int}{R:Bool→Prop}(hl:a.length≤1000000000)(h:R (decide (a=b))):ybb a b R:=by
  unfold ybb
  have ht:a=b→R true:=fun q=>by rwa [decide_eq_true q] at h
  have hf:¬a=b→R false:=fun q=>by rwa [decide_eq_false q] at h
  refine ⟨fun hln=>?_,fun hln=>hf fun q=>hln (by rw [q])⟩
  refine ⟨Cnt a.length (fun k=>∀ j,j<k→gi a j=gi b j),Cnt.start (fun j hj=>absurd hj (by omega)),?_⟩
  rintro m _ ⟨k,rfl,rfl,hk,hinv⟩
  simp only [Int.toNat_natCast]
  refine ⟨fun hlt=>⟨by omega,by omega,fun h1=>Cnt.next (by omega) (by omega) fun j hj=>?_,fun h1=>hf fun q=>h1 (by rw [q])⟩,fun hge=>ht (ygi (by omega) fun j hj=>hinv j (by omega))⟩
  by_cases e:j=k
  · subst e;exact h1
  · exact hinv j (by omega)
theorem yeW{a b:List Int}{R:Bool→Prop}(hl:a.length≤1000000000)(h:R (decide (a=b))):ybr a b R:=by
  unfold ybr
  have ht:a=b→R true:=fun q=>by rwa [decide_eq_true q] at h
  have hf:¬a=b→R false:=fun q=>by rwa [decide_eq_false q] at h
  refine ⟨fun hln=>?_,fun hln=>hf fun q=>hln (by rw [q])⟩
  refine ⟨Cnt a.length (fun k=>∀ j,j<k→gi a j=gi b j),Cnt.start (fun j hj=>absurd hj (by omega)),?_⟩
  rintro m _ ⟨k,rfl,rfl,hk,hinv⟩
  simp only [Int.toNat_natCast]
  refine ⟨fun hlt=>⟨by omega,by omega,fun h1=>Cnt.next (by omega) (by omega) fun j hj=>?_,fun h1=>hf fun q=>h1 (by rw [q])⟩,fun hge=>ht (ygi (by omega) fun j hj=>hinv j (by omega))⟩
  by_cases e:j=k
  · subst e;exact h1
  · exact hinv j (by omega)
theorem ygo{s:List Int}{R:List Int→Prop}(hl:s.length≤1000000000)(h:R s):ybm s R:=by
  unfold ybm
  exact fun nil hn=>⟨fun q=>by rw [hn q] at h;exact h,fun q=>⟨by omega,h⟩⟩
section
variable {n : Nat} {es : List E3} {d : List Int}
end
theorem yhd{s:List Int}{v:Int}{R:Int→Prop}(hl:s.length≤1000000000)(h1:∀ k:Nat,k<s.length→gi s k=v→R (k:Int))(h2:(∀ k,k<s.length→gi s k≠v)→R (-1)):ybq s v R:=by
  unfold ybq
  refine ⟨Cnt s.length (fun k=>∀ j,j<k→gi s j≠v),Cnt.start (fun j hj=>absurd hj (by omega)),?_⟩
  rintro m _ ⟨k,rfl,rfl,hk,hinv⟩
  simp only [Int.toNat_natCast]
  refine ⟨fun hlt=>⟨by omega,fun h=>h1 k (by omega) h.symm,fun h=>Cnt.next (by omega) (by omega) fun j hj=>?_⟩,fun hge=>h2 fun j hj=>hinv j (by omega)⟩
  by_cases e:j=k
  · subst e;exact fun q=>h q.symm
  · exact hinv j (by omega)
theorem yc8{s:List Int}{v:Int}{R:Bool→Prop}(hl:s.length≤1000000000)(h:R (decide (v∈s))):yaR s v R:=by
  unfold yaR
  refine yhd hl (fun k hk hp=>?_) (fun hn=>?_)
  · rw [decide_eq_true (by rw [←hp];exact gi_mem hk)] at h
    have e:decide (0≤(k:Int))=true:=by simp
    rw [e];exact h
  · have e:¬v∈s:=fun q=>by
      obtain ⟨k,hk,rfl⟩:=List.getElem_of_mem q
      exact hn k hk (yaN hk)
    rw [decide_eq_false e] at h;exact h
theorem p_chips_within{k:Int}{R:Bool→Prop}(h:R (inF k)):ycY k R:=by
  unfold ycY
  refine ⟨fun h1=>?_,fun h1=>?_⟩
  · have e:decide (k≤1048576)=inF k:=by unfold inF;simp [h1]
    rw [e];exact h
  · have e:false=inF k:=by unfold inF;simp [h1]
    rw [e];exact h
theorem yh3{d:List Int}{n:Int}{R:Int→Prop}(h:R (ybf d n)):ycG d n R:=by
  unfold ycG ybu
  have hout:¬(1≤n∧n≤12)→R 2:=fun q=>by
    have:ybf d n=2:=by unfold ybf yhM;rw [if_neg q,if_neg (by omega)]
    rwa [this] at h
  refine ⟨fun q=>⟨fun q2=>absurd q2 (by omega),fun _=>hout (by omega)⟩,fun q=>⟨fun q2=>⟨fun q3=>absurd q3 (by omega),fun _=>hout (by omega)⟩,fun q2=>⟨fun _=>?_,fun q3=>absurd rfl q3⟩⟩⟩
  have hc:ybf d n=if (d.length:Int)=n then (if d.all inF then 0 else 2) else 8:=by unfold ybf;rw [if_pos (by unfold yhM;rw [if_pos (by omega)])]
  rw [hc] at h
  refine ⟨fun hln=>?_,fun hln=>by rwa [if_neg hln] at h⟩
  rw [if_pos hln] at h
  refine ⟨Cnt d.length (fun k=>∀ j,j<k→inF (gi d j)=true),Cnt.start (fun j hj=>absurd hj (by omega)),?_⟩
  rintro m _ ⟨k,rfl,rfl,hk,hinv⟩
  refine ⟨fun hlt=>⟨by omega,p_chips_within ⟨fun h1=>Cnt.next (by omega) (by omega) fun j hj=>?_,fun h1=>?_⟩⟩,fun hge=>?_⟩
  · by_cases e:j=k
    · subst e;simpa using h1
    · exact hinv j (by omega)
  · rw [if_neg (fun hall=>h1 ((yeR inF d).1 hall _ (by omega)))] at h;exact h
  · rw [if_pos ((yeR inF d).2 fun j hj=>hinv j (by omega))] at h;exact h
theorem yfn{n v:Int}{R:Bool→Prop}(h:R (decide (0≤v∧v<n))):ybx n v R:=by
  unfold ybx
  refine ⟨fun h1=>?_,fun h1=>?_⟩
  · have e:decide (v<n)=decide (0≤v∧v<n):=by simp [h1]
    rw [e];exact h
  · have e:false=decide (0≤v∧v<n):=by simp [h1]
    rw [e];exact h
theorem yhx{a b:Int}{R:Int→Prop}(h:R (cmpF a b)):ybC a b R:=by
  unfold ybC ycE
  unfold cmpF at h
  refine ⟨fun q=>absurd q (by simp),fun _=>⟨fun q=>absurd q (by simp),fun _=>⟨fun h1=>by rwa [if_pos h1] at h,fun h1=>?_⟩⟩⟩
  rw [if_neg h1] at h
  refine ⟨fun h2=>by rwa [if_pos h2] at h,fun h2=>by rwa [if_neg h2] at h⟩
theorem p_cmp_Or2{x y:Int}{R:Int→Prop}(h:R (orF x y)):ydI [x,y] R:=by
  unfold ydI
  unfold orF at h
  refine ⟨Cnt 2 (fun k=>∀ j,j<k→gi [x,y] j=0),Cnt.start (fun j hj=>absurd hj (by omega)),?_⟩
  rintro m _ ⟨k,rfl,rfl,hk,hinv⟩
  simp only [Int.toNat_natCast,List.length_cons,List.length_nil]
  have hk3:k=0∨k=1∨k=2:=by omega
  have g0:gi [x,y] 0=x:=rfl
  have g1:gi [x,y] 1=y:=rfl
  have hnx:gi [x,y] k=0→∀ j,j<k+1→gi [x,y] j=0:=fun q j hj=>by
    by_cases e:j=k
    · subst e;exact q
    · exact hinv j (by omega)
  refine ⟨fun hlt=>⟨by omega,fun q=>Cnt.next (by omega) (by omega) (hnx q),fun q=>?_⟩,fun hge=>?_⟩
  · rcases hk3 with rfl | rfl | rfl
    · rw [g0] at q ⊢;rwa [if_pos q] at h
    · have h0:=hinv 0 (by omega)
      rw [g0] at h0
      rw [g1];rwa [if_neg (fun q2=>q2 h0)] at h
    · exact absurd hlt (by omega)
  · have:k=2:=by omega
    subst this
    have h0:=hinv 0 (by omega)
    have h1:=hinv 1 (by omega)
    rw [g0] at h0
    rw [g1] at h1
    rw [if_neg (fun q2=>q2 h0),h1] at h;exact h
theorem p_pair_compare{a b c d:Int}{R:Int→Prop}(h:R (ydR a b c d)):yb2 a b c d R :=
  yhx (yhx (p_cmp_Or2 h))
theorem ydK{n:Int}{es:List E3}{R:Int→Prop}(hl:es.length≤1000000000)(h:R (yav n es)):ybK n es R:=by
  unfold ybK
  have hout:¬(1≤n∧n≤12)→R 2:=fun q=>by unfold yav at h;rwa [if_neg q] at h
  refine ⟨1≤n∧n≤12,fun hn=>?_,fun q=>hout (by omega),fun q=>⟨fun q2=>hout (by omega),fun q2=>⟨by omega,by omega⟩⟩⟩
  have hg:yav n es=gchk n (-1) (-1) es:=by unfold yav;rw [if_pos hn]
  rw [hg] at h
  refine ⟨fun m i a b=>Cnt es.length (fun k=>a=(pre es k).1∧b=(pre es k).2∧gchk n (-1) (-1) es=gchk n (pre es k).1 (pre es k).2 (es.drop k)) m i,Cnt.start ⟨rfl,rfl,rfl⟩,?_⟩
  rintro m _ _ _ ⟨k,rfl,rfl,hk,rfl,rfl,hinv⟩
  simp only [Int.toNat_natCast]
  refine ⟨fun hlt=>⟨by omega,?_⟩,fun hge=>?_⟩
  · have hlt:k<es.length:=by omega
    rw [yh7 hlt,ygM] at hinv
    generalize hx:ge es k=x at hinv ⊢
    have hed:R (if yhg n (pre es k).1 (pre es k).2 x=0 then gchk n x.1 x.2.1 (es.drop (k+1)) else yhg n (pre es k).1 (pre es k).2 x):=by rw [←hinv];exact h
    have h2:¬((0≤x.1∧x.1<n)∧(0≤x.2.1∧x.2.1<n)∧1≤x.2.2∧x.2.2≤50)→R 2:=fun q=>by
      unfold yhg at hed;rw [if_neg q,if_neg (by omega)] at hed;exact hed
    refine ⟨(0≤x.1∧x.1<n)∧(0≤x.2.1∧x.2.1<n)∧1≤x.2.2∧x.2.2≤50,fun hJ=>?_,yfn ⟨fun q1=>yfn ⟨fun q2=>⟨fun q3=>h2 (by omega),fun q3=>⟨fun q4=>h2 (by omega),fun q4=>?_⟩⟩,fun q2=>h2 (by simp at q2;omega)⟩,fun q1=>h2 (by simp at q1;omega)⟩⟩
    · have he:yhg n (pre es k).1 (pre es k).2 x=if x.1≤x.2.1∧ydR (pre es k).1 (pre es k).2 x.1 x.2.1<0 then 0 else 9:=by unfold yhg;rw [if_pos hJ]
      rw [he] at hed hinv
      refine ⟨fun q=>?_,fun q=>p_pair_compare ⟨fun q2=>?_,fun q2=>Cnt.next hlt (by omega) ⟨?_,?_,?_⟩⟩⟩
      · rw [if_neg (show ¬(x.1≤x.2.1∧_) by omega),if_neg (by omega)] at hed;exact hed
      · rw [if_neg (show ¬(x.1≤x.2.1∧_) by omega),if_neg (by omega)] at hed;exact hed
      · simp [pre,hx]
      · simp [pre,hx]
      · have hc:x.1≤x.2.1∧ydR (pre es k).1 (pre es k).2 x.1 x.2.1<0:=⟨by omega,by omega⟩
        rw [if_pos hc,if_pos rfl] at hinv
        rw [hinv]
        simp [pre,hx]
    · simp only [decide_eq_true_eq] at q1 q2
      exact ⟨q1,q2,by omega,by omega⟩
  · have hk2:k=es.length:=by omega
    rw [hinv,hk2,List.drop_length] at h
    exact h
def e1(x:E3)(s:Nat→Int)(v:Nat):Int:=(if (v:Int)=x.1 then x.2.2*(s x.1.toNat-s x.2.1.toNat) else 0)-(if (v:Int)=x.2.1 then x.2.2*(s x.1.toNat-s x.2.1.toNat) else 0)
section
variable {n : Nat} {es : List E3} {d s : List Int}
end
theorem p_r36_debtor{d:List Int}{R:Int→Prop}(hl:d.length≤1000000000)(h1:(∀ v,v<d.length→0≤gi d v)→R (-1))(h2:∀ v:Nat,v<d.length→gi d v<0→R v):ykd d R:=by
  unfold ykd
  refine ⟨Cnt d.length (fun k=>∀ j,j<k→0≤gi d j),Cnt.start (fun j hj=>absurd hj (by omega)),?_⟩
  rintro m _ ⟨k,rfl,rfl,hk,hinv⟩
  simp only [Int.toNat_natCast]
  refine ⟨fun hlt=>⟨by omega,fun h=>h2 k (by omega) h,fun h=>Cnt.next (by omega) (by omega) fun j hj=>?_⟩,fun hge=>h1 fun v hv=>hinv v (by omega)⟩
  by_cases e:j=k
  · subst e;omega
  · exact hinv j (by omega)
theorem p_r36_all{l:List Bool}{R:Bool→Prop}(hl:l.length≤1000000000)(h1:(∀ v,v<l.length→gb l v=true)→R true)(h2:∀ v,v<l.length→gb l v≠true→R false):ykl l R:=by
  unfold ykl
  refine ⟨Cnt l.length (fun k=>∀ j,j<k→gb l j=true),Cnt.start (fun j hj=>absurd hj (by omega)),?_⟩
  rintro m _ ⟨k,rfl,rfl,hk,hinv⟩
  simp only [Int.toNat_natCast]
  refine ⟨fun hlt=>⟨by omega,fun h=>Cnt.next (by omega) (by omega) fun j hj=>?_,fun h=>h2 k (by omega) h⟩,fun hge=>h1 fun v hv=>hinv v (by omega)⟩
  by_cases e:j=k
  · subst e;exact h
  · exact hinv j (by omega)
theorem win_dg{n:Nat}{es:List E3}{d:List Int}(hd:d.length=n)(h:Win n es d):0≤dg d:=by
  obtain ⟨s,hs⟩:=h
  have h1:0≤sm n (fun v=>gi d v-Lp n es s v):=ya5 hs
  rw [yfB,yf8] at h1
  unfold dg
  rw [hd];omega
theorem conn_all{n:Nat}{es:List E3}(hg:yav n es=0)(hc:ydD n es=true):∀ q,q<n→Conn n es q:=fun q hq=>by
  obtain ⟨hE,hn1,hn12⟩:=ybW hg
  exact (yi7 hE hn1 hn12 hq).1 hc
theorem p_r36_Wins{n:Nat}{es:List E3}{d:List Int}{R:Bool→Prop}(hl:es.length≤1000)(hg:yav n es=0)(hc:ydD n es=true)(hd:d.length=n)(hb:∀ v,v<n → -1000≤gi d v∧gi d v≤1000)
    (h1:Win n es d→R true) (h2:¬Win n es d→R false):yki (n:Int) es d R:=by
  obtain ⟨hE,hn1,hn12⟩:=ybW hg
  have hC:=conn_all hg hc
  unfold yki
  refine ykS (by omega) (fun i hi=>by have:=hb i (by omega);omega) ⟨fun h0=>h2 fun hw=>?_,fun h0=>⟨by omega,by omega,?_⟩⟩
  · have:=win_dg hd hw;omega
  simp only [Int.toNat_natCast,List.nil_append]
  refine ⟨fun m step x b=>∃ c:Nat→Int,Bor n es d c x b∧step=sm n c∧m=(4000000-step).toNat∧step≤3500000∧∀ v,v<n → -2000000000≤gi x v,⟨_,fun _=>0,bor_start hd (fun v hv=>(hb v hv).2),(ybJ n).symm,rfl,by omega,fun v hv=>by have:=hb v hv;omega⟩,?_⟩
  rintro m _ x b ⟨c,hB,rfl,rfl,hst,hlo⟩
  refine ⟨fun _=>?_,fun h=>absurd (show sm n c<10000000 by omega) h⟩
  refine p_r36_debtor (by have:=hB.xl;omega) (fun hall=>⟨fun _=>h1 (bor_win hB fun v hv=>hall v (by have:=hB.xl;omega)),fun h=>absurd (by omega) h⟩) (fun v hv hneg=>⟨fun h=>absurd h (by omega),fun _=>?_⟩)
  have hvn:v<n:=by have:=hB.xl;omega
  refine p_r36_all (by have:=hB.bl;omega) (fun hall=>⟨fun _=>h2 (bor_loss hn1 hB fun v hv=>hall v (by have:=hB.bl;omega)),fun h=>absurd rfl h⟩) (fun w hw hwn=>⟨fun h=>(by cases h),fun _=>?_⟩)
  have hwn':w<n:=by have:=hB.bl;omega
  have hfew:=bor_few hE hC hn12 (fun v hv=>(hb v hv).1) hB hwn' hwn
  have htot:=bor_total hn12 hfew
  have h0c:0≤sm n c:=ya5 hB.c0
  refine ⟨by have:=hB.bl;omega,fun m u y=>Cnt n (fun k=>y.length=n∧∀ i,i<n→gi y i=if i=v then gi x v+sm k (fun u=>W es v u) else if i<k then gi x i-W es i v else gi x i) m u,Cnt.start ⟨hB.xl,fun i hi=>?_⟩,?_⟩
  · by_cases e:i=v
    · subst e;rw [if_pos rfl];simp [sm]
    · rw [if_neg e,if_neg (by omega)]
  rintro m' _ y ⟨k,rfl,rfl,hk,hyl,hy⟩
  simp only [Int.toNat_natCast]
  have hup:=hB.up
  have hdk:=deg_bound hg k v
  refine ⟨fun hlt=>⟨fun e=>Cnt.next (by omega) (by omega) ⟨hyl,fun i hi=>?_⟩,fun e=>⟨by omega,?_⟩⟩,fun hge=>?_⟩
  · have e:k=v:=by omega
    subst e
    rw [hy i hi]
    by_cases e2:i=k
    · subst e2;rw [if_pos rfl,if_pos rfl,sm,yhC];omega
    · rw [if_neg e2,if_neg e2]
      by_cases e3:i<k
      · rw [if_pos e3,if_pos (by omega)]
      · rw [if_neg e3,if_neg (by omega)]
  · have hkn:k<n:=by omega
    have hkv:k≠v:=by omega
    have hW:=W_le50 hg k v
    have hyk:gi y k=gi x k:=by rw [hy k hkn,if_neg hkv,if_neg (by omega)]
    have hyv:gi y v=gi x v+sm k (fun u=>W es v u):=by rw [hy v hvn,if_pos rfl]
    have hxk:=hup k hkn
    have hlk:=hlo k hkn
    have hxv:=hlo v hvn
    refine ykm (by omega) hg hkv ⟨i64 (by rw [hyk];omega),by rw [List.length_set];omega,ykm (by omega) hg hkv ⟨i64 ?_,Cnt.next (by omega) (by omega) ⟨by simp [hyl],fun i hi=>?_⟩⟩⟩
    · rw [ycQ (by omega),if_neg (fun e=>hkv e.symm),hyv];omega
    · rw [ycQ (by rw [List.length_set];omega)]
      by_cases e2:i=v
      · subst e2
        rw [if_pos rfl,if_pos rfl,ycQ (by omega),if_neg (fun e=>hkv e.symm),hyv,sm,ye0 es i k];omega
      · rw [if_neg e2,if_neg e2,ycQ (by omega)]
        by_cases e3:i=k
        · subst e3;rw [if_pos rfl,if_pos (by omega),hyk]
        · rw [if_neg e3,hy i hi,if_neg e2]
          by_cases e4:i<k
          · rw [if_pos e4,if_pos (by omega)]
          · rw [if_neg e4,if_neg (by omega)]
  · have hkn:k=n:=by omega
    subst hkn
    have hB2:=bor_step hg hE hn12 hB hvn hneg hyl (fun i hi=>by
      rw [hy i hi]
      by_cases e:i=v
      · rw [if_pos e,if_pos e];rfl
      · rw [if_neg e,if_neg e,if_pos hi])
    have hcnt:=bor_count (c:=c) hvn
    refine ⟨i64 (by omega),(4000000-(sm k c+1)).toNat,by omega,_,hB2,hcnt.symm,rfl,by omega,fun i hi=>?_⟩
    have h3:=hB2.val i hi
    have h4:=hb i hi
    have h5:=yiV (f:=fun u=>W es i u*((c i+if i=v then 1 else 0)-(c u+if u=v then 1 else 0))) (B:=20000000) (by omega) (n:=k) fun u hu=>by
      have hw:=W_le50 hg i u
      have a1:=hB.c0 i hi
      have a2:=hB.c0 u hu
      have a3:=hfew i hi
      have a4:=hfew u hu
      have hx : -300000≤(c i+if i=v then 1 else 0)-(c u+if u=v then 1 else 0)∧(c i+if i=v then 1 else 0)-(c u+if u=v then 1 else 0)≤300000:=by
        split <;> split <;> omega
      show -20000000≤W es i u*_∧W es i u*_≤20000000
      generalize (c i+if i=v then 1 else 0)-(c u+if u=v then 1 else 0)=z at hx ⊢
      generalize W es i u=w at hw ⊢
      have h4:w*z≤w*300000:=Int.mul_le_mul_of_nonneg_left hx.2 hw.1
      have h5:w * -300000≤w*z:=Int.mul_le_mul_of_nonneg_left hx.1 hw.1
      omega
    have h6:Lp k es (fun j=>c j+if j=v then 1 else 0) i=sm k (fun u=>W es i u*((c i+if i=v then 1 else 0)-(c u+if u=v then 1 else 0))):=rfl
    rw [h3,h6]
    omega
def yfw(d:List Int)(v:Nat)(k:Int):List Int:=d.set v (gi d v+k)
theorem yfa(d:List Int)(v:Nat)(k:Int):(yfw d v k).length=d.length:=by simp [yfw]
theorem yd5{d:List Int}{v:Nat}(hv:v<d.length)(k:Int)(i:Nat):gi (yfw d v k) i=if i=v then gi d v+k else gi d i:=by unfold yfw;rw [ycQ hv]
theorem ykM{d:List Int}{v:Nat}(hv:v<d.length)(k:Int):dg (yfw d v k)=dg d+k:=by
  unfold dg
  rw [yfa]
  have h2:sm d.length (gi (yfw d v k))=sm d.length (fun i=>gi d i+if i=v then k else 0):=yaw fun i hi=>by
    rw [yd5 hv]
    show _=gi d i+if i=v then k else 0
    split
    · rename_i e;rw [e]
    · omega
  rw [h2,ycc,ye9 k hv]
theorem given0{n:Int}{es:List E3}{d:List Int} : ybo n es 0 d=if yaS n es=0 then ybf d n else yaS n es:=by
  unfold ybo yaS
  by_cases h1:yav n es=0
  · rw [if_pos h1,if_pos h1]
    have hn:1≤n:=by
      unfold yav at h1
      split at h1
      · omega
      · omega
    by_cases h2:ydD n es=true
    · rw [if_pos h2,if_pos h2,if_pos rfl,if_pos (by omega)]
    · rw [if_neg h2,if_neg h2,if_neg (by omega)]
  · rw [if_neg h1,if_neg h1,if_neg h1]
theorem p_r35_Given{n:Int}{es:List E3}{d:List Int}{R:Int→Prop}(hl:es.length≤1000000000)(h:R (ybo n es 0 d)):ylU n es d R:=by
  unfold ylU
  rw [given0] at h
  exact p_r25_Joined hl ⟨fun h0=>yl0 (by rwa [if_pos h0] at h),fun h0=>by rwa [if_neg h0] at h⟩
theorem yl3{n:Nat}{es:List E3}{q:Nat}{d:List Int}(h:ybo n es q d=0):EOk n es∧1≤n∧n≤12∧yav n es=0∧ydD n es=true∧q<n∧d.length=n∧ybf d n=0:=by
  obtain ⟨k1,k2,k3,k4,k5⟩:=ygC h
  obtain ⟨hE,hn1,hn12⟩:=ybW k1
  exact ⟨hE,hn1,hn12,k1,k2,by omega,(yjI k5).1,k5⟩
theorem yg7{n:Int}{es:List E3}{d:List Int}{R:Bool→List Int→List Int→Int→Prop}(hS:Small n es d∨RedIn n es 0 d)(hdl:d.length≤1000000000)(h0:ybo n es 0 d≠0→R false [] [] (ybo n es 0 d))
    (h1:ybo n es 0 d=0→∀ r s,Reduces n.toNat es 0 d r s→∀ b,(b=true↔Win n.toNat es d)→R b r s 0):ybj n es d R:=by
  unfold ybj
  refine ⟨hS,hdl,fun h=>⟨fun q=>absurd q h,fun _=>h0 h⟩,fun h r s hr hrl hsl=>?_⟩
  obtain ⟨n,rfl⟩:∃ n':Nat,n=(n':Int):=⟨n.toNat,by have:=ygC h;omega⟩
  obtain ⟨hE,hn1,hn12,hg,hc, -,hd, -⟩:=yl3 (q:=0) h
  have e0:(0:Int).toNat=0:=rfl
  simp only [Int.toNat_natCast,e0] at hr hrl hsl h1 ⊢
  refine ⟨fun _=>⟨by omega,h1 h r s hr _ ?_⟩,fun q=>absurd trivial q⟩
  rw [decide_eq_true_eq,win_red hE (by omega) hr.red hr.lp]
theorem tot_few{n:Nat}{es:List E3}(hE:EOk n es)(hn:1≤n)(h12:n≤12)(hs:(es.map (·.2.2)).sum≤9):tot n es≤18:=by
  have:=tot_le hE hn h12;omega
theorem dg_lp{n:Nat}{es:List E3}{x d:List Int}{s:Nat→Int}(hx:x.length=n)(hd:d.length=n)(h:∀ v,v<n→gi x v=gi d v-Lp n es s v):dg x=dg d:=by
  unfold dg
  rw [hx,hd,yaw (g:=fun v=>gi d v-Lp n es s v) h,yfB,yf8];omega
section
variable {n : Nat} {es : List E3} {d : List Int} {set : List Int}
theorem p_graph_Subset{R:Int→Prop}(hl:es.length≤1000000000)(hsl:set.length≤1000000000)(hg:yav n es=0)(hr:∀ k,k<set.length→0≤gi set k∧gi set k<n)(hs:∀ k,k+1<set.length→gi set k<gi set (k+1))(h:R 0):ybz (n:Int) es set R:=by
  unfold ybz
  refine ydK hl ⟨fun _=>?_,fun q=>absurd hg q⟩
  refine ⟨Cnt set.length (fun _=>True),Cnt.start trivial,?_⟩
  rintro m _ ⟨k,rfl,rfl,hk, -⟩
  simp only [Int.toNat_natCast]
  refine ⟨fun hlt=>⟨by omega,yfn ⟨fun _=>⟨fun hk0=>⟨i64 (by omega),by omega,fun q=>?_,fun _=>Cnt.next (by omega) (by omega) trivial⟩,fun _=>Cnt.next (by omega) (by omega) trivial⟩,fun q=>absurd (decide_eq_true (hr k (by omega))) q⟩⟩,fun _=>h⟩
  have:=hs (k-1) (by omega)
  rw [show k-1+1=k by omega] at this
  rw [show ((k:Int)-1).toNat=k-1 by omega] at q
  omega
end
theorem p_chips_own{n:Nat}{l:List (List Int)}{R:Int→Prop}(hl:l.length≤1000)(h0:0<l.length)(hd:∀ k,k<l.length→(gx l k).length=n∧ybf (gx l k) n=0)(h:R 0):yeo l R:=by
  unfold yeo
  refine ⟨Cnt l.length (fun _=>True),Cnt.start trivial,?_⟩
  rintro m _ ⟨k,rfl,rfl,hk, -⟩
  simp only [Int.toNat_natCast]
  refine ⟨fun hlt=>⟨by omega,yh3 ⟨fun _=>Cnt.next (by omega) (by omega) trivial,fun q=>absurd ?_ q⟩⟩,fun hge=>?_⟩
  · rw [(hd k (by omega)).1];exact (hd k (by omega)).2
  · refine ⟨Cnt l.length (fun _=>True),Cnt.start trivial,?_⟩
    rintro m _ ⟨k2,rfl,rfl,hk2, -⟩
    simp only [Int.toNat_natCast,Int.toNat_zero]
    exact ⟨fun hlt=>⟨by omega,by omega,fun _=>Cnt.next (by omega) (by omega) trivial,fun q=>absurd (by rw [(hd k2 (by omega)).1,(hd 0 h0).1]) q⟩,fun hge=>h⟩
theorem sum_dg:∀ (d:List Int),d.sum=dg d:=by
  have key:∀ (l:List Int) (n:Nat),n≤l.length→sm n (gi l)=(l.take n).sum:=fun l n=>by
    induction n with
    | zero=>intro _;simp [sm]
    | succ n ih =>
      intro h
      rw [sm,ih (by omega),List.take_add_one,List.sum_append,yaN (by omega:n<l.length),List.getElem?_eq_getElem (by omega:n<l.length)]
      simp
  intro d
  unfold dg
  rw [key d d.length (Nat.le_refl _),List.take_length]
theorem gi_drop(d:List Int)(k i:Nat):gi (d.drop k) i=gi d (k+i):=by unfold gi;simp
theorem dg_entry{d:List Int}(h:∀ a∈d,0≤a){j:Nat}(hj:j<d.length):0≤gi d j∧gi d j≤d.sum:=by
  have h1:∀ i,i<d.length→0≤gi d i:=fun i hi=>h _ (gi_mem hi)
  refine ⟨h1 j hj,?_⟩
  rw [sum_dg]
  exact yik h1 j hj
theorem yim(n k:Nat):(ycp (n+1) k).length≤(k+1)^n:=by
  induction n generalizing k with
  | zero=>simp [ycp]
  | succ n ih =>
    show ((List.range (k+1)).flatMap fun i=>(ycp (n+1) (k-i)).map ((i:Int) :: ·)).length≤_
    rw [List.length_flatMap]
    have h:∀ (L:List Nat),(∀ i∈L,i≤k)→(L.map fun i=>((ycp (n+1) (k-i)).map ((i:Int) :: ·)).length).sum≤L.length*(k+1)^n:=fun L=>by
      induction L with
      | nil=>simp
      | cons a L ihL =>
        intro hL
        have h1:=ihL fun i hi=>hL i (by simp [hi])
        have h2:=ih (k-a)
        have h3:(k-a+1)^n≤(k+1)^n:=Nat.pow_le_pow_left (by omega) n
        simp only [List.map_cons,List.sum_cons,List.length_cons,List.length_map] at h1 ⊢
        rw [Nat.add_mul,Nat.one_mul]
        omega
    have:=h (List.range (k+1)) fun i hi=>by rw [List.mem_range] at hi;omega
    rw [List.length_range] at this
    rwa [Nat.pow_succ,Nat.mul_comm]
end Go.Proofs.YtadpnlimiblniaaGreat

namespace Go.Proofs.YtadpnlimiblniaaGreat
open Go Go.Proofs.Tryz
theorem dg_n{d:List Int}{n:Nat}(h:d.length=n):dg d=sm n (gi d):=by unfold dg;rw [h]
theorem yhY{n:Nat}{es:List E3}{a b:List Int}(h:∀ v,v<n→gi a v≤gi b v)(ha:Win n es a):Win n es b:=by
  obtain ⟨s,hs⟩:=ha
  exact ⟨s,fun v hv=>by have:=hs v hv;have:=h v hv;omega⟩
theorem win_eqv{n:Nat}{es:List E3}{x y:List Int}{s:Nat→Int}(h:∀ v,v<n→gi y v=gi x v-Lp n es s v):Win n es x↔Win n es y:=by
  constructor
  · rintro ⟨t,ht⟩
    refine ⟨fun i=>t i+(-1)*s i,fun v hv=>?_⟩
    rw [ygJ t (fun i=>(-1)*s i),yip,h v hv]
    have:=ht v hv
    omega
  · rintro ⟨t,ht⟩
    refine ⟨fun i=>t i+s i,fun v hv=>?_⟩
    rw [ygJ t s]
    have:=ht v hv
    rw [h v hv] at this
    omega
def half(n:Nat)(es:List E3)(r:Nat→Nat→Bool):Int:=sm n (fun v=>sm n (fun u=>if r u v=true then W es v u else 0))
theorem ylh{n:Nat}{es:List E3}{r:Nat→Nat→Bool} : half n es r=half n es (fun u v=>r v u):=by
  unfold half
  rw [ylP (fun v u=>if r u v=true then W es v u else 0)]
  refine yaw fun v hv=>yaw fun u hu=>?_
  show (if r v u=true then W es u v else 0)=if r v u=true then W es v u else 0
  rw [ye0]
theorem half_le{n:Nat}{es:List E3}(hE:EOk n es){r:Nat→Nat→Bool}(h:∀ u v,r u v=true→r v u=true→False):2*half n es r≤tot n es:=by
  have h1:half n es r+half n es r≤tot n es:=by
    conv=>lhs;arg 2;rw [ylh]
    unfold half tot
    rw [←ycc]
    refine ydh fun v hv=>?_
    show _+_≤_
    rw [←ycc]
    refine ydh fun u hu=>?_
    show (if r u v=true then W es v u else 0)+(if r v u=true then W es v u else 0)≤W es v u
    have:=ya2 hE v u
    by_cases e1:r u v=true
    · rw [if_pos e1,if_neg (fun e2=>h u v e1 e2)];omega
    · rw [if_neg e1];split <;> omega
  omega
theorem half_ge{n:Nat}{es:List E3}(hE:EOk n es){r:Nat→Nat→Bool}(h:∀ u v,u≠v→r u v=true∨r v u=true):tot n es≤2*half n es r:=by
  have h1:tot n es≤half n es r+half n es r:=by
    conv=>rhs;arg 2;rw [ylh]
    unfold half tot
    rw [←ycc]
    refine ydh fun v hv=>?_
    show _≤_+_
    rw [←ycc]
    refine ydh fun u hu=>?_
    show W es v u≤(if r u v=true then W es v u else 0)+(if r v u=true then W es v u else 0)
    have:=ya2 hE v u
    by_cases e:u=v
    · subst e;rw [yhC];split <;> omega
    · rcases h u v e with q | q
      · rw [if_pos q];split <;> omega
      · rw [if_pos q];split <;> omega
  omega
def ords(n:Nat)(es:List E3)(b:List Bool)(ρ:Nat→Nat)(v:Nat):Int:=sm n (fun u=>if gb b u=true∧¬ρ u<ρ v then 0 else W es v u)
theorem bor_all{n:Nat}{es:List E3}{d:List Int}(hg:yav n es=0)(hE:EOk n es)(hC:∀ q,q<n→Conn n es q)(hn:n≤12)(hdb:∀ v,v<n → -1000≤gi d v)(hw:¬Win n es d) :
    ∀ (N:Nat) (c:Nat→Int) (x:List Int) (b:List Bool) (ρ:Nat→Nat) (K:Nat),3456001-sm n c≤N→Bor n es d c x b→(∀ u,u<n→ρ u<K)→(∀ v,v<n→gb b v=true→gi x v≤ords n es b ρ v-1) →
      ∃ c x b ρ,Bor n es d c x b∧(∀ v,v<n→gb b v=true)∧∀ v,v<n→gi x v≤ords n es b ρ v-1:=by
  intro N
  induction N with
  | zero =>
    intro c x b ρ K hN hB hρ hx
    by_cases hall:∀ v,v<n→gb b v=true
    · exact ⟨c,x,b,ρ,hB,hall,fun v hv=>hx v hv (hall v hv)⟩
    · exfalso
      obtain ⟨w,hw1⟩:=Classical.not_forall.1 hall
      obtain ⟨hw2,hw3⟩:=Classical.not_imp.1 hw1
      have:=bor_total hn (bor_few hE hC hn hdb hB hw2 hw3)
      omega
  | succ N ih =>
    intro c x b ρ K hN hB hρ hx
    by_cases hall:∀ v,v<n→gb b v=true
    · exact ⟨c,x,b,ρ,hB,hall,fun v hv=>hx v hv (hall v hv)⟩
    · have hdebt:¬ ∀ v,v<n→0≤gi x v:=fun q=>hw (bor_win hB q)
      obtain ⟨v,hv1⟩:=Classical.not_forall.1 hdebt
      obtain ⟨hv,hv3⟩:=Classical.not_imp.1 hv1
      have hneg:gi x v<0:=by omega
      have hy:∀ i,i<n→gi (tab (fun i=>if i=v then gi x v+deg n es v else gi x i-W es i v) n) i=if i=v then gi x v+deg n es v else gi x i-W es i v:=fun i hi=>ygt _ hi
      have hB2:=bor_step hg hE hn hB hv hneg (yc6 _ n) hy
      refine ih _ _ _ (fun u=>if u=v then K else ρ u) (K+1) (by rw [bor_count hv];omega) hB2 (fun u hu=>?_) fun i hi hbi=>?_
      · show (if u=v then K else ρ u)<K+1
        have:=hρ u hu
        split <;> omega
      · rw [hy i hi]
        have hgb:∀ u,gb (b.set v true) u=if u=v then true else gb b u:=fun u=>by
          rw [yeA (by rw [hB.bl];exact hv)]
        by_cases e:i=v
        · subst e
          rw [if_pos rfl]
          have h1:ords n es (b.set i true) (fun u=>if u=i then K else ρ u) i=deg n es i:=by
            unfold ords deg
            refine yaw fun u hu=>?_
            show (if gb (b.set i true) u=true∧¬(if u=i then K else ρ u)<(if i=i then K else ρ i) then 0 else W es i u)=W es i u
            by_cases e:u=i
            · subst e;rw [yhC];exact ite_self _
            · rw [if_neg]
              rintro ⟨_,h⟩
              rw [if_neg e,if_pos rfl] at h
              exact h (hρ u hu)
          rw [h1];omega
        · rw [if_neg e]
          rw [hgb,if_neg e] at hbi
          have h0:=hx i hi hbi
          have h1:ords n es b ρ i≤ords n es (b.set v true) (fun u=>if u=v then K else ρ u) i+W es i v:=by
            have h2:ords n es (b.set v true) (fun u=>if u=v then K else ρ u) i+W es i v=sm n (fun u=>(if gb (b.set v true) u=true∧¬(if u=v then K else ρ u)<(if i=v then K else ρ i) then 0 else W es i u)+if u=v then W es i v else 0):=by
              rw [ycc,ye9 _ hv];rfl
            rw [h2]
            unfold ords
            refine ydh fun u hu=>?_
            show (if gb b u=true∧¬ρ u<ρ i then 0 else W es i u)≤(if gb (b.set v true) u=true∧¬(if u=v then K else ρ u)<(if i=v then K else ρ i) then 0 else W es i u)+if u=v then W es i v else 0
            rw [hgb,if_neg e]
            have:=ya2 hE i u
            by_cases e2:u=v
            · subst e2
              rw [if_pos rfl,if_pos rfl,if_pos rfl]
              split <;> split <;> omega
            · rw [if_neg e2,if_neg e2,if_neg e2];omega
          omega
theorem yk9{n:Nat}{es:List E3}{d:List Int}(hg:yav n es=0)(hC:∀ q,q<n→Conn n es q)(hn:n≤12)(hd:d.length=n)(hdb:∀ v,v<n → -1000≤gi d v∧gi d v≤1000)(h:yc9 es+1-n≤dg d):Win n es d:=by
  apply Classical.byContradiction
  intro hw
  have hE:=(ybW hg).1
  obtain ⟨c,x,b,ρ,hB,hall,hx⟩:=bor_all hg hE hC hn (fun v hv=>(hdb v hv).1) hw 3456001 (fun _=>0) d (List.replicate n false) (fun _=>0) 1 (by rw [ybJ];omega) (bor_start hd fun v hv=>(hdb v hv).2) (fun _ _=>by omega) (fun v hv h=>by rw [gb_rep] at h;cases h)
  have h1:dg x=dg d:=dg_lp (n:=n) (es:=es) hB.xl hd (s:=fun i=>(-1)*c i) fun v hv=>by rw [yip,hB.val v hv];omega
  have h2:dg x≤half n es (fun u v=>decide (ρ u<ρ v))-n:=by
    rw [dg_n hB.xl]
    have h3:half n es (fun u v=>decide (ρ u<ρ v))-n=sm n (fun v=>ords n es b ρ v-1):=by
      rw [yfB,yd8]
      have:half n es (fun u v=>decide (ρ u<ρ v))=sm n (fun v=>ords n es b ρ v):=by
        unfold half ords
        refine yaw fun v hv=>yaw fun u hu=>?_
        show (if decide (ρ u<ρ v)=true then W es v u else 0)=if gb b u=true∧¬ρ u<ρ v then 0 else W es v u
        by_cases e:ρ u<ρ v
        · rw [if_pos (by simpa using e),if_neg (fun q=>q.2 e)]
        · rw [if_neg (by simpa using e),if_pos ⟨hall u hu,e⟩]
      have e9:sm n (ords n es b ρ)=sm n (fun v=>ords n es b ρ v):=rfl
      rw [this,e9];omega
    rw [h3]
    exact ydh hx
  have h4:=half_le hE (r:=fun u v=>decide (ρ u<ρ v)) (fun u v a b=>by simp at a b;omega)
  rw [yh1 hE] at h4
  omega
def nu(n:Nat)(es:List E3):List Int:=tab (fun v=>sm n (fun u=>if decide (u<v)=true then W es v u else 0)-1) n
theorem nu_dg{n:Nat}{es:List E3}(hE:EOk n es):dg (nu n es)=yc9 es-n:=by
  have h1:dg (nu n es)=half n es (fun u v=>decide (u<v))-n:=by
    rw [dg_n (show (nu n es).length=n from yc6 _ n)]
    have:sm n (gi (nu n es))=sm n (fun v=>sm n (fun u=>if decide (u<v)=true then W es v u else 0)-1):=yaw fun v hv=>ygt _ hv
    rw [this,yfB,yd8]
    show _-_=half n es (fun u v=>decide (u<v))-n
    have e9:half n es (fun u v=>decide (u<v))=sm n (fun v=>sm n (fun u=>if decide (u<v)=true then W es v u else 0)):=rfl
    rw [e9];omega
  have h2:=half_le hE (r:=fun u v=>decide (u<v)) (fun u v a b=>by simp at a b;omega)
  have h3:=half_ge hE (r:=fun u v=>decide (u<v)) (fun u v h=>by simp;omega)
  rw [yh1 hE] at h2 h3
  omega
theorem least_at(p:Nat→Prop){n:Nat}(h:∃ v,v<n∧p v):∃ v,v<n∧p v∧∀ u,u<v→¬p u:=by
  obtain ⟨v,hv,hp⟩:=h
  have:∀ v,v<n→p v→∃ v,v<n∧p v∧∀ u,u<v→¬p u:=by
    intro v
    induction v using Nat.strongRecOn with
    | ind v ih =>
      intro hv hp
      by_cases q:∃ u,u<v∧p u
      · obtain ⟨u,hu,hpu⟩:=q
        exact ih u hu (by omega) hpu
      · exact ⟨v,hv,hp,fun u hu hpu=>q ⟨u,hu,hpu⟩⟩
  exact this v hv hp
theorem nu_lose{n:Nat}{es:List E3}(hE:EOk n es)(hn:1≤n):¬Win n es (nu n es):=by
  rintro ⟨s,hs⟩
  obtain ⟨w,hw,hmax⟩:=max_at s n hn
  obtain ⟨v,hv,hp,hlow⟩:=least_at (fun v=>s v=s w) (n:=n) ⟨w,hw,rfl⟩
  have h1:=hs v hv
  have h2:sm n (fun u=>if decide (u<v)=true then W es v u else 0)≤Lp n es s v:=by
    unfold Lp
    refine ydh fun u hu=>?_
    show (if decide (u<v)=true then W es v u else 0)≤W es v u*(s v-s u)
    have h3:=ya2 hE v u
    have h4:=hmax u hu
    by_cases e:u<v
    · rw [if_pos (by simpa using e)]
      have h5:s u≠s w:=hlow u e
      have h6:W es v u*1≤W es v u*(s v-s u):=Int.mul_le_mul_of_nonneg_left (by omega) h3
      omega
    · rw [if_neg (by simpa using e)]
      exact Int.mul_nonneg h3 (by omega)
  have h3:gi (nu n es) v=sm n (fun u=>if decide (u<v)=true then W es v u else 0)-1:=ygt _ hv
  omega
theorem nu_bound{n:Nat}{es:List E3}(hE:EOk n es){T:Int}(ht:tot n es≤T){v:Nat}(hv:v<n) : -1≤gi (nu n es) v∧gi (nu n es) v≤T:=by
  have h3:gi (nu n es) v=sm n (fun u=>if decide (u<v)=true then W es v u else 0)-1:=ygt _ hv
  have h4:0≤sm n (fun u=>if decide (u<v)=true then W es v u else 0):=ya5 fun u _=>by
    have:=ya2 hE v u
    show 0≤if decide (u<v)=true then W es v u else 0
    split <;> omega
  have h5:sm n (fun u=>if decide (u<v)=true then W es v u else 0)≤deg n es v:=ydh fun u _=>by
    have:=ya2 hE v u
    show (if decide (u<v)=true then W es v u else 0)≤W es v u
    split <;> omega
  have h6:deg n es v≤tot n es:=yik (f:=fun v=>sm n (fun u=>W es v u)) (fun i _=>ya5 fun u _=>ya2 hE i u) v hv
  omega
def sb(n:Nat)(d e:List Int):List Int:=tab (fun i=>gi d i-gi e i) n
theorem ygG(n:Nat)(d e:List Int):(sb n d e).length=n:=yc6 _ _
theorem ygA{n:Nat}{d e:List Int}{v:Nat}(hv:v<n):gi (sb n d e) v=gi d v-gi e v:=ygt _ hv
theorem ylg{n:Nat}{d e:List Int}(hd:d.length=n)(he:e.length=n):dg (sb n d e)=dg d-dg e:=by
  rw [dg_n (ygG n d e),dg_n hd,dg_n he,←yfB]
  exact yaw fun v hv=>ygA hv
structure Eff(n:Nat)(e:List Int)(r:Int):Prop where
  len:e.length=n
  pos:∀ v,v<n→0≤gi e v
  deg:dg e=r
theorem Eff.nonneg{n:Nat}{e:List Int}{r:Int}(h:Eff n e r):0≤r:=by
  rw [←h.deg,dg_n h.len];exact ya5 h.pos
theorem Eff.le{n:Nat}{e:List Int}{r:Int}(h:Eff n e r){v:Nat}(hv:v<n):gi e v≤r:=by
  rw [←h.deg,dg_n h.len];exact yik h.pos v hv
theorem Eff.add{n:Nat}{e:List Int}{r:Int}(h:Eff n e r){v:Nat}(hv:v<n){k:Int}(hk:0≤gi e v+k):Eff n (yfw e v k) (r+k) :=
  ⟨by rw [yfa,h.len],fun i hi=>by
    rw [yd5 (by rw [h.len];exact hv)]
    have:=h.pos i hi
    split <;> omega,by rw [ykM (by rw [h.len];exact hv),h.deg]⟩
theorem yfe(n:Nat):Eff n (List.replicate n 0) 0 :=
  ⟨by simp,fun v hv=>by rw [yaN (by simpa using hv)];simp,by
    rw [dg_n (n:=n) (by simp),yaw (g:=fun _=>0) fun v hv=>by rw [yaN (by simpa using hv)];simp]
    exact ybJ n⟩
theorem ykY{n:Nat}(hn:1≤n){k:Int}(hk:0≤k):Eff n (yfw (List.replicate n 0) 0 k) k:=by
  have h:=(yfe n).add (v:=0) (by omega) (k:=k) (by have:=(yfe n).pos 0 (by omega);omega)
  rwa [Int.zero_add] at h
theorem yhs{n v:Nat}(hv:v<n):gi (List.replicate n 0) v=0:=by rw [yaN (by simpa using hv)];simp
def AL(n:Nat)(es:List E3)(d:List Int)(r:Int):Prop:=∀ e,Eff n e r→Win n es (sb n d e)
structure RkOk(n:Nat)(es:List E3)(d:List Int)(k:Int):Prop where
  lo : -1≤k
  al:AL n es d k
  no:¬AL n es d (k+1)
section
variable {n : Nat} {es : List E3} {d : List Int}
theorem al_neg{r:Int}(hr:r<0):AL n es d r:=fun e he=>by have:=he.nonneg;omega
theorem al_down(hn:1≤n){r:Int}(h:AL n es d (r+1)):AL n es d r:=fun e he=>by
  have h1:=h _ (he.add (v:=0) (k:=1) (by omega) (by have:=he.pos 0 (by omega);omega))
  refine yhY (fun v hv=>?_) h1
  rw [ygA hv,ygA hv,yd5 (by rw [he.len];omega)]
  split
  · rename_i e;subst e;omega
  · omega
theorem al_le(hn:1≤n):∀ (k:Nat) {r:Int},AL n es d (r+k)→AL n es d r
  | 0,r,h=>by simpa using h
  | k+1,r,h=>al_le hn k (al_down hn (by rw [Int.add_assoc];exact_mod_cast h))
theorem yhD(hn:1≤n){r r':Int}(h:r≤r')(ha:AL n es d r'):AL n es d r:=by
  refine al_le hn (r'-r).toNat ?_
  rwa [show r+((r'-r).toNat:Int)=r' from by omega]
theorem RkOk.eq(hn:1≤n){k k':Int}(h:RkOk n es d k)(h':RkOk n es d k'):k=k':=by
  rcases Int.lt_trichotomy k k' with q | q | q
  · exact absurd (yhD hn (by omega) h'.al) h.no
  · exact q
  · exact absurd (yhD hn (by omega) h.al) h'.no
theorem RkOk.ge(hn:1≤n){k r:Int}(h:RkOk n es d k):r≤k↔AL n es d r :=
  ⟨fun q=>yhD hn q h.al,fun q=>Int.not_lt.1 fun lt=>h.no (yhD hn (by omega) q)⟩
theorem sb_zero{v:Nat}(hv:v<n):gi (sb n d (List.replicate n 0)) v=gi d v:=by rw [ygA hv,yhs hv];omega
theorem yk5:AL n es d 0↔Win n es d:=by
  constructor
  · intro h;exact yhY (fun v hv=>by rw [sb_zero hv];exact Int.le_refl _) (h _ (yfe n))
  · intro h e he
    refine yhY (fun v hv=>?_) h
    have h1:=he.pos v hv
    have h2:=he.le hv
    rw [ygA hv];omega
theorem rk_lose(h:¬Win n es d):RkOk n es d (-1):=⟨by omega,al_neg (by omega),fun q=>h (yk5.1 q)⟩
theorem RkOk.win(hn:1≤n){k:Int}(h:RkOk n es d k):0≤k↔Win n es d:=(h.ge hn).trans yk5
theorem RkOk.top(hn:1≤n)(hd:d.length=n){k:Int}(h:RkOk n es d k)(hw:Win n es d):k≤dg d:=by
  have h0:=(h.win hn).2 hw
  have h1:=win_dg (ygG n d _) (h.al _ (ykY hn h0))
  rw [ylg hd (ykY hn h0).len,(ykY hn h0).deg] at h1
  omega
theorem al_eqv{x y:List Int}{s:Nat→Int}(h:∀ v,v<n→gi y v=gi x v-Lp n es s v){r:Int} : AL n es x r↔AL n es y r:=by
  have key:∀ e,Win n es (sb n x e)↔Win n es (sb n y e):=fun e=>win_eqv (s:=s) fun v hv=>by rw [ygA hv,ygA hv,h v hv];omega
  exact ⟨fun q e he=>(key e).1 (q e he),fun q e he=>(key e).2 (q e he)⟩
theorem rk_eqv{x y:List Int}{s:Nat→Int}(h:∀ v,v<n→gi y v=gi x v-Lp n es s v){k:Int} : RkOk n es x k↔RkOk n es y k :=
  ⟨fun q=>⟨q.lo,(al_eqv h).1 q.al,fun a=>q.no ((al_eqv h).2 a)⟩,fun q=>⟨q.lo,(al_eqv h).2 q.al,fun a=>q.no ((al_eqv h).1 a)⟩⟩
theorem rk_big(hg:yav n es=0)(hC:∀ q,q<n→Conn n es q)(h1:1≤n)(hn:n≤12)(hd:d.length=n)(hdb:∀ v,v<n → -200≤gi d v∧gi d v≤200)(hdg:dg d≤200)(ht:tot n es≤18)(h:2*(yc9 es+1-n)-2<dg d) :
    RkOk n es d (dg d-(yc9 es+1-n)):=by
  have hE:=(ybW hg).1
  have hg0:0≤yc9 es+1-n:=by
    apply Classical.byContradiction
    intro q
    have hl:(yfw (List.replicate n (0:Int)) 0 (-1)).length=n:=by rw [yfa];simp
    have hdg1:dg (yfw (List.replicate n (0:Int)) 0 (-1)) = -1:=by rw [ykM (by simp;omega),(yfe n).deg];rfl
    have hw:=yk9 hg hC hn hl (fun v hv=>by
      rw [yd5 (by simp;omega),yhs hv,yhs (by omega)]
      split <;> omega) (by rw [hdg1];omega)
    have:=win_dg hl hw
    omega
  refine ⟨by omega,fun e he=>?_,fun hal=>?_⟩
  · refine yk9 hg hC hn (ygG n d e) (fun v hv=>?_) ?_
    · rw [ygA hv]
      have:=he.pos v hv
      have:=he.le hv
      have:=hdb v hv
      omega
    · rw [ylg hd he.len,he.deg];omega
  · have hnl:(nu n es).length=n:=yc6 _ n
    have h2:Win n es (sb n d (nu n es)):=by
      refine yk9 hg hC hn (ygG n d _) (fun v hv=>?_) ?_
      · rw [ygA hv]
        have:=nu_bound hE ht hv
        have:=hdb v hv
        omega
      · rw [ylg hd hnl,nu_dg hE];omega
    obtain ⟨s,hs⟩:=h2
    obtain ⟨e,he⟩:∃ e,e=tab (fun v=>gi (sb n d (nu n es)) v-Lp n es s v) n:=⟨_,rfl⟩
    have hge:∀ v,v<n→gi e v=gi (sb n d (nu n es)) v-Lp n es s v:=fun v hv=>by rw [he];exact ygt _ hv
    have hel:e.length=n:=by rw [he];exact yc6 _ n
    have heff:Eff n e (dg d-(yc9 es+1-n)+1):=⟨hel,fun v hv=>by rw [hge v hv];exact hs v hv,by
      rw [dg_lp hel (ygG n d _) hge,ylg hd hnl,nu_dg hE];omega⟩
    have h3:=hal e heff
    refine nu_lose hE h1 ((win_eqv (x:=nu n es) (y:=sb n d e) (s:=fun i=>(-1)*s i) fun v hv=>?_).2 h3)
    rw [yip,ygA hv,hge v hv,ygA hv]
    omega
theorem rk_step(hn:1≤n)(hd:d.length=n)(hw:Win n es d){k:Nat→Int}(hk:∀ v,v<n→RkOk n es (yfw d v (-1)) (k v)){m:Int}(h1:∀ v,v<n→m≤k v+1)(h2:∃ v,v<n∧m=k v+1):RkOk n es d m:=by
  obtain ⟨v,hv,hm⟩:=h2
  refine ⟨by have:=(hk v hv).lo;omega,fun e he=>?_,fun q=>?_⟩
  · by_cases e0:m=0
    · subst e0;exact yk5.2 hw e he
    · have hpos:∃ u,u<n∧1≤gi e u:=by
        apply Classical.byContradiction
        intro q
        have:dg e≤0:=by
          rw [dg_n he.len,←ybJ n]
          exact ydh fun u hu=>Int.not_lt.1 fun lt=>q ⟨u,hu,lt⟩
        have:=he.nonneg
        have:=he.deg
        omega
      obtain ⟨u,hu,hu1⟩:=hpos
      have h3:=yhD hn (r:=m-1) (by have:=h1 u hu;omega) (hk u hu).al (yfw e u (-1)) (by have:=he.add hu (k := -1) (by omega);exact this)
      refine yhY (fun i hi=>?_) h3
      rw [ygA hi,ygA hi,yd5 (by rw [hd];exact hu),yd5 (by rw [he.len];exact hu)]
      split
      · rename_i e;subst e;omega
      · omega
  · refine (hk v hv).no fun e he=>?_
    have h3:=q (yfw e v 1) (by have:=he.add hv (k:=1) (by have:=he.pos v hv;omega);rwa [show k v+1+1=m+1 from by omega] at this)
    refine yhY (fun i hi=>?_) h3
    rw [ygA hi,ygA hi,yd5 (d:=e) (by rw [he.len];exact hv),yd5 (d:=d) (by rw [hd];exact hv)]
    split
    · rename_i e;subst e;omega
    · omega
end
end Go.Proofs.YtadpnlimiblniaaGreat

namespace Go.Proofs.YtadpnlimiblniaaGreat
open Go Go.Proofs.Tryz
theorem yk0{n:Nat}{d:List Int}{R:Int→Int→Prop}(hn:1≤n∧n≤12)(hd:d.length=n)(hb:∀ j,j<n → -1000000≤gi d j∧gi d j≤1000000)(h:R (dg d) 0):ych d R:=by
  unfold ych
  refine p_chips_own (n:=n) (by simp) (by simp) (fun k hk=>?_) ⟨fun _=>?_,fun q=>absurd rfl q⟩
  · have e:k=0:=by simp at hk;omega
    subst e
    exact ⟨hd,yfE hd hn.1 hn.2 fun j hj=>by have:=hb j hj;show -1048576≤gi d j∧gi d j≤1048576;omega⟩
  refine ⟨fun m s v=>Cnt d.length (fun k=>s=sm k (gi d)) m v,Cnt.start rfl,?_⟩
  rintro m _ _ ⟨k,rfl,rfl,hk,rfl⟩
  simp only [Int.toNat_natCast]
  refine ⟨fun hlt=>⟨by omega,?_,?_⟩,fun hge=>?_⟩
  · have h1:=yiV (f:=gi d) (B:=1000000) (by omega) (n:=k) (fun i hi=>hb i (by omega))
    have h2:=hb k (by omega)
    exact i64 (by omega)
  · exact Cnt.next (by omega) (by omega) rfl
  · have e:k=d.length:=by omega
    subst e;exact h
def errL(n:Int):List (List Int)→Int
  | []=>0
  | d::t=>if ybf d n=0 then errL n t else ybf d n
theorem gx_succ{d:List Int}{t:List (List Int)}{k:Nat} : gx (d::t) (k+1)=gx t k:=by simp [gx]
theorem gx_zero{d:List Int}{t:List (List Int)} : gx (d::t) 0=d:=by simp [gx]
theorem errL_zero{n:Int} : ∀ {l:List (List Int)},(∀ j,j<l.length→ybf (gx l j) n=0)→errL n l=0
  | [],_=>rfl
  | d::t,h=>by
    have h0:=h 0 (by simp)
    rw [gx_zero] at h0
    unfold errL
    rw [if_pos h0]
    exact errL_zero fun j hj=>by have:=h (j+1) (by simpa using hj);rwa [gx_succ] at this
theorem errL_at{n:Int} : ∀ {l:List (List Int)} {k:Nat},k<l.length→(∀ j,j<k→ybf (gx l j) n=0)→ybf (gx l k) n≠0→errL n l=ybf (gx l k) n
  | [],k,hk,_,_=>by simp at hk
  | d::t,0,hk,h,hn=>by
    rw [gx_zero] at hn ⊢
    unfold errL
    rw [if_neg hn]
  | d::t,k+1,hk,h,hn=>by
    have h0:=h 0 (by omega)
    rw [gx_zero] at h0
    rw [gx_succ] at hn ⊢
    unfold errL
    rw [if_pos h0]
    exact errL_at (by simpa using hk) (fun j hj=>by have:=h (j+1) (by omega);rwa [gx_succ] at this) hn
def givL(n:Int)(es:List E3)(l:List (List Int)):Int:=if yaS n es=0 then errL n l else yaS n es
theorem givL_one{n:Int}{es:List E3}{d:List Int} : givL n es [d]=ybo n es 0 d:=by
  rw [given0]
  unfold givL errL errL
  by_cases e:ybf d n=0 <;> simp [e]
theorem yiz{n:Int}{es:List E3}{l:List (List Int)}{R:Int→Prop}(hl:es.length≤1000)(hll:l.length≤1000)(h:R (givL n es l)):yc0 n es l R:=by
  unfold yc0
  refine ⟨by omega,fun hg=>⟨fun hc=>?_,fun hc=>?_⟩,fun hg=>?_⟩
  · have hj:yaS n es=0:=by
      have:=of_decide_eq_true hc
      unfold yaS;rw [if_pos this.1,if_pos this.2]
    have e:givL n es l=errL n l:=by unfold givL;rw [if_pos hj]
    rw [e] at h
    refine ⟨Cnt l.length (fun k=>∀ j,j<k→ybf (gx l j) n=0),Cnt.start (fun j hj=>absurd hj (by omega)),?_⟩
    rintro m _ ⟨k,rfl,rfl,hk,hinv⟩
    simp only [Int.toNat_natCast]
    refine ⟨fun hlt=>⟨by omega,yh3 ⟨fun h0=>Cnt.next (by omega) (by omega) fun j hj=>?_,fun hne=>?_⟩⟩,fun hge=>?_⟩
    · by_cases e:j=k
      · rw [e];exact h0
      · exact hinv j (by omega)
    · rw [errL_at (by omega) hinv hne] at h;exact h
    · have e:k=l.length:=by omega
      rw [errL_zero (by rw [←e];exact hinv)] at h;exact h
  · have hj:yaS n es=13:=by
      unfold yaS;rw [if_pos hg,if_neg]
      intro q;exact hc (decide_eq_true ⟨hg,q⟩)
    have e:givL n es l=13:=by unfold givL;rw [if_neg (by omega),hj]
    rw [e] at h;exact h
  · have hj:yaS n es=yav n es:=by unfold yaS;rw [if_neg hg]
    have e:givL n es l=yav n es:=by unfold givL;rw [if_neg (by omega),hj]
    rw [e] at h;exact h
def keyF(r:List Int):List Int:=cpy (List.replicate 12 (0:Int)) r
theorem yhp(r:List Int):(keyF r).length=12:=by unfold keyF;rw [cpy_length];simp
theorem gi_keyF{r:List Int}{i:Nat}(hi:i<12):gi (keyF r) i=if i<r.length then gi r i else 0:=by
  unfold keyF
  rw [gi_cpy (by simpa using hi),yhs hi]
theorem keyF_inj{n:Nat}{r r':List Int}(hn:n≤12)(h:r.length=n)(h':r'.length=n)(e:keyF r=keyF r'):r=r':=by
  refine ygi (by omega) fun k hk=>?_
  have h1:=gi_keyF (r:=r) (i:=k) (by omega)
  have h2:=gi_keyF (r:=r') (i:=k) (by omega)
  rw [if_pos (by omega)] at h1 h2
  rw [←h1,←h2,e]
structure MOk(n:Nat)(es:List E3)(m:List (List Int×Int)):Prop where
  keys:KOk 12 m
  vals:∀ p∈m,∃ r,p.1=keyF r∧Eff n r (dg r)∧dg r≤5∧RkOk n es r p.2
theorem MOk.nil(n:Nat)(es:List E3):MOk n es []:=⟨KOk.nil 12,fun p hp=>by simp at hp⟩
theorem keyF_ok{n:Nat}{r:List Int}(hr:Eff n r (dg r))(h5:dg r≤5):yia 12 (keyF r):=by
  refine ⟨yhp r,fun x hx=>?_⟩
  obtain ⟨i,hi,rfl⟩:=List.getElem_of_mem hx
  rw [yhp] at hi
  rw [←yaN (by rw [yhp];exact hi),gi_keyF hi]
  split
  · have hi2:i<n:=by rw [←hr.len];assumption
    have:=hr.pos i hi2
    have:=hr.le hi2
    exact i64 (by omega)
  · exact i64 (by omega)
theorem MOk.put{n:Nat}{es:List E3}{m:List (List Int×Int)}(h:MOk n es m){r:List Int}{v:Int}(hr:Eff n r (dg r))(h5:dg r≤5)(hk:RkOk n es r v):MOk n es (mput m (keyF r) v):=by
  have hK:=h.keys.put (keyF_ok hr h5) v
  refine ⟨hK,fun p hp=>?_⟩
  rcases mput_mem hp with e | e
  · obtain ⟨j,hj⟩:=List.mem_iff_getElem?.1 hp
    have h1:=mget_at hK.1 (k:=p.1) (v:=p.2) hj
    rw [e,yh0,if_pos rfl] at h1
    cases h1
    exact ⟨r,e,hr,h5,hk⟩
  · exact h.vals p e
theorem MOk.get{n:Nat}{es:List E3}{m:List (List Int×Int)}(h:MOk n es m)(hn:n≤12){r:List Int}{v:Int}(hr:r.length=n)(hg:mget m (keyF r)=some v):RkOk n es r v:=by
  obtain ⟨r',h1,h2,h3,h4⟩:=h.vals _ (yiR hg)
  have e:=keyF_inj hn hr h2.len h1
  subst e;exact h4
theorem nodup_le:∀ {l K:List (List Int)},l.Nodup→(∀ x∈l,x∈K)→l.length≤K.length
  | [],K,_,_=>Nat.zero_le _
  | a::t,K,h,hs=>by
    have h1:=List.nodup_cons.1 h
    have ha:a∈K:=hs a (by simp)
    have h2:=nodup_le (l:=t) (K:=K.erase a) h1.2 fun x hx=>(List.mem_erase_of_ne (by rintro rfl;exact h1.1 hx)).2 (hs x (by simp [hx]))
    rw [List.length_erase_of_mem ha] at h2
    have:0<K.length:=List.length_pos_of_mem ha
    simp only [List.length_cons]
    omega
theorem flat_le{f:Nat→List (List Int)}{B:Nat} : ∀ {l:List Nat},(∀ a∈l,(f a).length≤B)→(l.flatMap f).length≤l.length*B
  | [],_=>by simp
  | a::t,h=>by
    rw [List.flatMap_cons,List.length_append,List.length_cons,Nat.add_mul,Nat.one_mul]
    have:=h a (by simp)
    have:=flat_le (f:=f) (l:=t) fun b hb=>h b (by simp [hb])
    omega
theorem eff_list{n k:Nat}{e:List Int}(h:Eff (n+1) e (k:Int)):e∈ycp (n+1) k:=by
  refine (yed n k e).2 ⟨h.len,fun a ha=>?_,by rw [sum_dg,h.deg]⟩
  obtain ⟨i,hi,rfl⟩:=List.getElem_of_mem ha
  rw [←yaN hi]
  exact h.pos i (by rw [←h.len];exact hi)
theorem yku{n k:Nat}{e:List Int}(h:e∈ycp (n+1) k):Eff (n+1) e (k:Int):=by
  obtain ⟨h1,h2,h3⟩:=(yed n k e).1 h
  exact ⟨h1,fun v hv=>(dg_entry h2 (by omega)).1,by rw [←sum_dg,h3]⟩
theorem MOk.len{n:Nat}{es:List E3}{m:List (List Int×Int)}(h:MOk n es m)(h1:1≤n)(hn:n≤5):m.length≤7776:=by
  obtain ⟨n,rfl⟩:∃ k,n=k+1:=⟨n-1,by omega⟩
  have hN:(m.map (·.1)).Nodup:=by
    have:=h.keys.1
    unfold List.Nodup
    rw [List.pairwise_map]
    exact this
  have h2:=nodup_le (K:=(List.range 6).flatMap fun k=>(ycp (n+1) k).map keyF) hN fun x hx=>by
    obtain ⟨p,hp,rfl⟩:=List.mem_map.1 hx
    obtain ⟨r,e,hr,h5, -⟩:=h.vals p hp
    obtain ⟨k,hk⟩:∃ k:Nat,dg r=(k:Int):=⟨(dg r).toNat,by have:=hr.nonneg;omega⟩
    rw [hk] at hr
    rw [List.mem_flatMap]
    exact ⟨k,List.mem_range.2 (by omega),List.mem_map.2 ⟨r,eff_list hr,e.symm⟩⟩
  have h3:=flat_le (f:=fun k=>(ycp (n+1) k).map keyF) (B:=1296) (l:=List.range 6) fun k hk=>by
    rw [List.length_map]
    have h1:=yim n k
    have h2:(k+1)^n≤6^n:=Nat.pow_le_pow_left (by have:=List.mem_range.1 hk;omega) n
    have h3:6^n≤6^4:=Nat.pow_le_pow_right (by omega) (by omega)
    omega
  simp only [List.length_map,List.length_range] at h2 h3
  omega
structure GOk(n:Nat)(es:List E3):Prop where
  g:yav n es=0
  c:ydD n es=true
  el:es.length≤40
  n1:1≤n
  n5:n≤5
  su:(es.map (·.2.2)).sum≤9
section
variable {n : Nat} {es : List E3}
theorem GOk.E(G:GOk n es):EOk n es:=(ybW G.g).1
theorem GOk.C(G:GOk n es):∀ q,q<n→Conn n es q:=conn_all G.g G.c
theorem GOk.tot(G:GOk n es):tot n es≤18:=tot_few G.E G.n1 (by have:=G.n5;omega) G.su
theorem GOk.giv(G:GOk n es){d:List Int}(hd:d.length=n)(hb:∀ v,v<n → -1000000≤gi d v∧gi d v≤1000000):ybo n es 0 d=0:=by
  have:=G.n1
  have:=G.n5
  unfold ybo;rw [if_pos G.g,if_pos G.c,if_pos ⟨by omega,by omega⟩]
  exact yfE hd (by omega) (by omega) fun v hv=>by have:=hb v hv;omega
theorem GOk.small(G:GOk n es){d:List Int}(hb:∀ v,v<n → -200≤gi d v∧gi d v≤200):Small (n:Int) es d :=
  ⟨G.el,fun _=>⟨by have:=G.n5;omega,G.su⟩,fun _ v hv=>hb v (by omega)⟩
theorem set_back{r:List Int}{k:Nat}(hk:k<r.length):(r.set k (gi r k-1)).set k (gi (r.set k (gi r k-1)) k+1)=r:=by
  refine ygi (by simp) fun i hi=>?_
  rw [ycQ (by simpa using hk),ycQ hk,ycQ hk]
  split
  · rename_i e;subst e;simp
  · rfl
theorem RkOk.few(hn:1≤n){d:List Int}(hd:d.length=n){k:Int}(h:RkOk n es d k) : -1≤k∧(k = -1∨k≤dg d):=by
  refine ⟨h.lo,?_⟩
  by_cases hw:Win n es d
  · exact .inr (h.top hn hd hw)
  · exact .inl (h.eq hn (rk_lose hw))
theorem fr_find{Rec:Int→List (Int×Int×Int)→Int→List (List Int×Int)→List Int→(Int→Int→List (List Int×Int)→Prop)→Prop}(G:GOk n es){d:List Int}{m:List (List Int×Int)}{R:Int→Int→List (List Int×Int)→Prop}
    (hd:d.length=n) (hb:∀ v,v<n → -200≤gi d v∧gi d v≤200) (h5:dg d≤5) (hm:MOk n es m)
    (hrec:∀ (d':List Int) (m':List (List Int×Int)) (R':Int→Int→List (List Int×Int)→Prop),d'.length=n→(∀ v,v<n → -200≤gi d' v∧gi d' v≤200)→dg d'=dg d-1→0≤dg d→MOk n es m'→(∀ k m'',RkOk n es d' k→MOk n es m''→R' k 0 m'')→Rec n es (yc9 es+1-n) m' d' R')
    (h:∀ k m',RkOk n es d k→MOk n es m'→R k 0 m'):ya3 Rec n es (yc9 es+1-n) m d R:=by
  have hn1:=G.n1
  have hn5:=G.n5
  have hpm:0≤2*yc9 es∧2*yc9 es≤18:=by
    have h1:=yh1 G.E
    have h2:=G.tot
    have h3:0≤tot n es:=ya5 fun v _=>ya5 fun u _=>ya2 G.E v u
    omega
  have hdb : -1000≤dg d∧dg d≤5:=by
    have:=yiV (f:=gi d) (B:=200) (by omega) (n:=n) (fun i hi=>by have:=hb i hi;omega)
    rw [dg_n hd] at h5 ⊢
    omega
  unfold ya3
  refine yk0 ⟨hn1,by omega⟩ hd (fun j hj=>by have:=hb j hj;omega) ⟨fun _=>⟨fun hneg=>h _ _ (rk_lose fun q=>by have:=win_dg hd q;omega) hm,fun hnn=>⟨i64 (by omega),i64 (by omega),fun hbig=>⟨i64 (by omega),h _ _ (rk_big G.g G.C hn1 (by omega) hd hb (by omega) G.tot (by omega)) hm⟩,fun hsm=>?_⟩⟩,fun q=>absurd rfl q⟩
  refine yg7 (.inl (G.small hb)) (by omega) (fun q=>absurd (G.giv hd fun v hv=>by have:=hb v hv;omega) q) fun _ r s hr b hbw=>⟨fun _=>⟨fun hbt=>?_,fun hbf=>h _ _ (rk_lose fun q=>hbf (hbw.2 (by simpa using q))) hm⟩,fun q=>absurd rfl q⟩
  simp only [Int.toNat_natCast] at hr hbw
  have hw:=hbw.1 hbt
  have hrl:r.length=n:=hr.dl
  have hrq:0≤gi r 0:=(win_red G.E (by omega) hr.red hr.lp).1 hw
  have hrd:dg r=dg d:=dg_lp hrl hd hr.lp
  have heff:Eff n r (dg r):=⟨hrl,fun v hv=>by
    by_cases e:v=0
    · subst e;exact hrq
    · exact hr.pos v hv e,rfl⟩
  have hrw:Win n es r:=(win_eqv hr.lp).1 hw
  have hre:∀ v,v<n→0≤gi r v∧gi r v≤5:=fun v hv=>by have:=heff.pos v hv;have:=heff.le hv;omega
  have back:∀ {k:Int},RkOk n es r k→RkOk n es d k:=fun q=>(rk_eqv hr.lp).2 q
  refine ⟨by omega,hm.keys,keyF_ok heff (by omega),fun hsome=>?_,fun hnone=>⟨fun hfull=>absurd hfull (by have:=hm.len hn1 hn5;omega),fun _=>?_⟩⟩
  · obtain ⟨v,hv⟩:=Option.isSome_iff_exists.1 hsome
    rw [hv]
    exact h _ _ (back (hm.get (by omega) hrl hv)) hm
  refine ⟨fun c least i m' r'=>Cnt n (fun k=>MOk n es m'∧r'=r∧∃ κ:Nat→Int,(∀ u,u<k→RkOk n es (yfw r u (-1)) (κ u))∧(∀ u,u<k→least≤κ u+1)∧(least=dg d∨∃ u,u<k∧least=κ u+1)) c i,
    Cnt.start ⟨hm,rfl,fun _=>0,fun u hu=>absurd hu (by omega),fun u hu=>absurd hu (by omega), .inl rfl⟩,?_⟩
  rintro c least _ m' r' ⟨k,rfl,rfl,hk,hm',rfl,κ,hκ,hle,hat⟩
  simp only [Int.toNat_natCast]
  have hal:∀ u,(yfw r' u (-1)).length=n:=fun u=>by rw [yfa,hrl]
  have hadg:∀ u,u<n→dg (yfw r' u (-1))=dg d-1:=fun u hu=>by rw [ykM (by omega),hrd];omega
  have hse:∀ {x:Int},dg d=x→0≤x:=fun e=>by have:=heff.nonneg;omega
  refine ⟨fun hlt=>⟨by omega,i64 (by have:=hre k (by omega);omega),?_⟩,fun hge=>⟨hm'.keys,?_⟩⟩
  · refine hrec (yfw r' k (-1)) m' _ (hal k) (fun v hv=>?_) (hadg k (by omega)) (hse rfl) hm' fun j m'' hj hm''=>?_
    · rw [yd5 (by omega)]
      have:=hre v hv
      have:=hre k (by omega)
      split <;> omega
    · have hj2:=hj.few hn1 (hal k)
      rw [hadg k (by omega)] at hj2
      have hgk:=hre k (by omega)
      refine ⟨by rw [List.length_set];omega,?_,fun _=>⟨i64 (by omega),?_⟩,fun q=>absurd rfl q⟩
      · rw [ycQ (by omega),if_pos rfl]
        exact i64 (by omega)
      · refine Cnt.next (by omega) (by omega) ⟨hm'',set_back (by omega),fun u=>if u=k then j else κ u,fun u hu=>?_,fun u hu=>?_,?_⟩
        · show RkOk n es (yfw r' u (-1)) (if u=k then j else κ u)
          by_cases e:u=k
          · subst e;rw [if_pos rfl];exact hj
          · rw [if_neg e];exact hκ u (by omega)
        · show mnF least (j+1)≤(if u=k then j else κ u)+1
          rw [mnF_eq]
          by_cases e:u=k
          · rw [if_pos e];omega
          · rw [if_neg e];have:=hle u (by omega);omega
        · rw [mnF_eq]
          rcases Int.le_total least (j+1) with q | q
          · rw [Int.min_eq_left q]
            rcases hat with a | ⟨u,hu,a⟩
            · exact .inl a
            · refine .inr ⟨u,by omega,?_⟩
              show least=(if u=k then j else κ u)+1
              rw [if_neg (by omega)];exact a
          · rw [Int.min_eq_right q]
            refine .inr ⟨k,by omega,?_⟩
            show j+1=(if k=k then j else κ k)+1
            rw [if_pos rfl]
  · have e:k=n:=by omega
    subst e
    have hk0:=hκ 0 (by omega)
    have hst:RkOk k es r' least:=rk_step hn1 hrl hrw hκ hle (by
      rcases hat with a | a
      · refine ⟨0,by omega,?_⟩
        have h1:=hle 0 (by omega)
        have h2:=hk0.few hn1 (hal 0)
        rw [hadg 0 (by omega)] at h2
        have h3:=heff.nonneg
        omega
      · exact a)
    exact h _ _ (back hst) (hm'.put heff (by omega) hst)
theorem p_find2(G:GOk n es):∀ (fu:Nat) {d:List Int} {m:List (List Int×Int)} {R:Int→Int→List (List Int×Int)→Prop},dg d+1<fu → -1≤dg d→d.length=n→(∀ v,v<n → -200≤gi d v∧gi d v≤200)→dg d≤5→MOk n es m →
    (∀ k m',RkOk n es d k→MOk n es m'→R k 0 m')→ybe fu n es (yc9 es+1-n) m d R
  | 0,_,_,_,hf,h1,_,_,_,_,_=>by omega
  | fu+1,d,m,R,hf,h1,hd,hb,h5,hm,h=>by
    show ya3 (ybe fu) n es (yc9 es+1-n) m d R
    exact fr_find G hd hb h5 hm (fun d' m' R' hd' hb' hdg h0 hm' h'=>p_find2 G fu (by omega) (by omega) hd' hb' (by omega) hm' h') h
theorem p_find(G:GOk n es){d:List Int}{m:List (List Int×Int)}{R:Int→Int→List (List Int×Int)→Prop}(hd:d.length=n)(hb:∀ v,v<n → -200≤gi d v∧gi d v≤200)(h5:dg d≤5)(hm:MOk n es m)
    (h:∀ k m',RkOk n es d k→MOk n es m'→R k 0 m'):∃ fu,ycv fu n es (yc9 es+1-n) m d R:=by
  refine ⟨1,?_⟩
  show ya3 (fun a b c e f R'=>∃ fu,ybe fu a b c e f R') n es (yc9 es+1-n) m d R
  exact fr_find G hd hb h5 hm (fun d' m' R' hd' hb' hdg h0 hm' h'=>⟨8,p_find2 G 8 (by omega) (by omega) hd' hb' (by omega) hm' h'⟩) h
end
def yfy(es:List E3):List E3:=es.filter fun x=>decide (x.1≠x.2.1)
theorem yjz{es:List E3}{k:Nat}(hk:k<es.length):yfy (es.take (k+1))=yfy (es.take k)++if (ge es k).1=(ge es k).2.1 then [] else [ge es k]:=by
  have e:es.take (k+1)=es.take k++[ge es k]:=by rw [List.take_add_one,List.getElem?_eq_getElem hk,yc4 hk];rfl
  unfold yfy
  rw [e,List.filter_append]
  congr 1
  by_cases q:(ge es k).1=(ge es k).2.1
  · rw [if_pos q];simp [q]
  · rw [if_neg q];simp [q]
theorem yla:∀ (es:List E3) (v u:Nat),W (yfy es) v u=W es v u
  | [],v,u=>rfl
  | x::es,v,u=>by
    unfold yfy
    rw [List.filter_cons,ygd]
    by_cases q:x.1=x.2.1
    · have:w1 x v u=0:=by unfold w1;rw [if_neg (fun h=>h.1 q)]
      rw [if_neg (by simpa using q),this]
      have:=yla es v u
      unfold yfy at this
      rw [this];omega
    · rw [if_pos (by simpa using q),ygd]
      have:=yla es v u
      unfold yfy at this
      rw [this]
theorem pcmp_le{a b c d:Int} : ydR a b c d≤0↔a<c∨(a=c∧b≤d):=by
  unfold ydR orF cmpF
  (repeat' split) <;> omega
theorem pcmp_trans{a b c d e f:Int}(h1:ydR a b c d≤0)(h2:ydR c d e f<0):ydR a b e f<0:=by
  have h1:=pcmp_le.1 h1
  have h2:=(yh6 _ _ _ _).1 h2
  exact (yh6 _ _ _ _).2 (by omega)
theorem yhm{n:Int}{p:E3→Bool} : ∀ (es:List E3) (a b a' b':Int),ydR a' b' a b≤0→gchk n a b es=0→gchk n a' b' (es.filter p)=0
  | [],a,b,a',b',_,_=>rfl
  | x::t,a,b,a',b',h,hg=>by
    unfold gchk at hg
    by_cases c1:(0≤x.1∧x.1<n)∧(0≤x.2.1∧x.2.1<n)∧1≤x.2.2∧x.2.2≤50
    · rw [if_pos c1] at hg
      by_cases c2:x.1≤x.2.1∧ydR a b x.1 x.2.1<0
      · rw [if_pos c2] at hg
        have h3:=pcmp_trans h c2.2
        rw [List.filter_cons]
        split
        · unfold gchk
          rw [if_pos c1,if_pos ⟨c2.1,h3⟩]
          exact yhm t _ _ _ _ (pcmp_le.2 (by omega)) hg
        · exact yhm t _ _ _ _ (by omega) hg
      · rw [if_neg c2] at hg;omega
    · rw [if_neg c1] at hg;omega
theorem yk7{n:Int}{es:List E3}(h:yav n es=0):yav n (yfy es)=0:=by
  unfold yav at h ⊢
  split
  · rename_i c
    rw [if_pos c] at h
    exact yhm es _ _ _ _ (by decide) h
  · rename_i c;rw [if_neg c] at h;exact h
theorem yiD{n:Nat}{es:List E3}{R:Int→List E3→Int→Prop}(hl:es.length≤1000)(hg:yav n es=0)(h:R n (yfy es) 0):ycn n es R:=by
  unfold ycn ydq
  refine ydK (by omega) ⟨fun _=>?_,fun q=>absurd hg q⟩
  refine ⟨fun m v out=>Cnt es.length (fun k=>out=yfy (es.take k)∧out.length≤k) m v,Cnt.start ⟨rfl,Nat.le_refl _⟩,?_⟩
  rintro m _ out ⟨k,rfl,rfl,hk,hout,hol⟩
  simp only [Int.toNat_natCast]
  refine ⟨fun hlt=>⟨by omega,fun q=>Cnt.next (by omega) (by omega) ⟨?_,by omega⟩,fun q=>⟨by omega,Cnt.next (by omega) (by omega) ⟨?_,by simpa using hol⟩⟩⟩,fun hge=>?_⟩
  · rw [yjz (by omega),if_pos q,List.append_nil];exact hout
  · rw [yjz (by omega),if_neg q,hout]
    have hx:=(ybW hg).1 _ (List.mem_of_getElem? (ydu (show k<es.length by omega)))
    have e:mnF (ge es k).2.2 50=(ge es k).2.2:=by rw [mnF_eq];omega
    rw [e]
  · have e:k=es.length:=by omega
    rw [e,List.take_length] at hout
    rw [hout];exact h
def sF:List E3→List E3
  | []=>[]
  | x::t=>List.replicate x.2.2.toNat (x.1,x.2.1,1)++sF t
theorem yjh:∀ (a b:List E3),sF (a++b)=sF a++sF b
  | [],b=>rfl
  | x::t,b=>by rw [List.cons_append,sF,sF,yjh t b,List.append_assoc]
theorem sF_take{es:List E3}{k:Nat}(hk:k<es.length):sF (es.take (k+1))=sF (es.take k)++List.replicate (ge es k).2.2.toNat ((ge es k).1,(ge es k).2.1,1):=by
  rw [List.take_add_one,List.getElem?_eq_getElem hk,←yc4 hk,yjh]
  simp [sF]
theorem sF_pre{es:List E3}{k:Nat}(hk:k<es.length){j:Nat}(hj:j≤(ge es k).2.2.toNat):sF (es.take k)++List.replicate j ((ge es k).1,(ge es k).2.1,1) <+: sF es:=by
  have h1:es=es.take (k+1)++es.drop (k+1):=(List.take_append_drop _ _).symm
  have h2:sF es=sF (es.take k)++List.replicate (ge es k).2.2.toNat ((ge es k).1,(ge es k).2.1,1)++sF (es.drop (k+1)):=by
    conv=>lhs;rw [h1]
    rw [yjh,sF_take hk]
  obtain ⟨i,hi⟩:∃ i,(ge es k).2.2.toNat=j+i:=⟨(ge es k).2.2.toNat-j,by omega⟩
  rw [h2,hi,←List.replicate_append_replicate]
  exact ⟨List.replicate i ((ge es k).1,(ge es k).2.1,1)++sF (es.drop (k+1)),by simp only [List.append_assoc]⟩
theorem sF_ok{n:Nat} : ∀ {es:List E3},EOk n es→EOk n (sF es)
  | [],_=>fun x hx=>by simp [sF] at hx
  | y::t,h=>fun x hx=>by
    rw [sF,List.mem_append] at hx
    rcases hx with q | q
    · have:=h y (by simp)
      have e:=(List.mem_replicate.1 q).2
      subst e
      simp only
      omega
    · exact sF_ok (fun z hz=>h z (by simp [hz])) x q
theorem W_rep(a b:Int)(l:List E3)(v u:Nat):∀ k:Nat,W (List.replicate k (a,b,1)++l) v u=(k:Int)*w1 (a,b,1) v u+W l v u
  | 0=>by simp
  | k+1=>by
    rw [List.replicate_succ,List.cons_append,ygd,W_rep a b l v u k,Int.natCast_add,Int.add_mul]
    omega
theorem W_sF{n:Nat}(v u:Nat):∀ {es:List E3},EOk n es→W (sF es) v u=W es v u
  | [],_=>rfl
  | x::t,h=>by
    have hx:=h x (by simp)
    rw [sF,W_rep,ygd,W_sF v u (fun z hz=>h z (by simp [hz]))]
    have:((x.2.2.toNat:Nat):Int)*w1 (x.1,x.2.1,1) v u=w1 x v u:=by
      unfold w1
      simp only
      split
      · omega
      · omega
    omega
theorem sF_len{n:Nat} : ∀ {es:List E3},EOk n es→((sF es).length:Int)=(es.map (·.2.2)).sum
  | [],_=>rfl
  | x::t,h=>by
    have hx:=h x (by simp)
    have:=sF_len (es:=t) fun z hz=>h z (by simp [hz])
    rw [sF,List.length_append,List.length_replicate,List.map_cons,List.sum_cons,←this]
    omega
theorem yk3:∀ (es:List E3),((yfy es).map (·.2.2)).sum=yc9 es
  | []=>rfl
  | x::t=>by
    have ih:=yk3 t
    unfold yfy yc9 at *
    rw [List.filter_cons,List.map_cons,List.sum_cons]
    by_cases q:x.1=x.2.1
    · rw [if_neg (by simpa using q),if_pos q,ih];omega
    · rw [if_pos (by simpa using q),if_neg q,List.map_cons,List.sum_cons,ih]
theorem sF_few{n:Nat} : ∀ {es:List E3},EOk n es→(sF es).length≤50*es.length
  | [],_=>Nat.le_refl _
  | x::t,h=>by
    have hx:=h x (by simp)
    have:=sF_few (es:=t) fun z hz=>h z (by simp [hz])
    rw [sF,List.length_append,List.length_replicate,List.length_cons]
    omega
def gmap(y:Int×Int×Int):E3:=(y.2.1,y.2.2,1)
theorem yd3{n:Nat}{es:List E3}(hE:EOk n es)(hl:es.length≤1000):ybk (n:Int) es (fun l=>l.map gmap <+: sF es) (fun l=>l.map gmap=sF es):=by
  unfold ybk
  refine ⟨fun m pre e2 v=>Cnt es.length (fun k=>pre.map gmap=sF (es.take k)∧0≤e2∧e2≤50*k) m v,Cnt.start ⟨rfl,by omega,by omega⟩,?_⟩
  rintro m pre e2 _ ⟨k,rfl,rfl,hk,hpre,he0,he1⟩
  simp only [Int.toNat_natCast]
  refine ⟨fun hlt=>⟨by omega,?_⟩,fun hge=>?_⟩
  · have hkl:k<es.length:=by omega
    have hx:=hE _ (List.mem_of_getElem? (ydu hkl))
    refine ⟨fun m pre e3 v=>Cnt (ge es k).2.2.toNat (fun j=>pre.map gmap=sF (es.take k)++List.replicate j ((ge es k).1,(ge es k).2.1,1)∧0≤e3∧e3≤50*k+j) m v,Cnt.start ⟨by simpa using hpre,he0,by omega⟩,?_⟩
    rintro m3 pre3 e3 _ ⟨j,rfl,rfl,hj,hp3,h30,h31⟩
    have hstep:∀ e:Int,(pre3++[(e,(ge es k).1,(ge es k).2.1)]).map gmap=sF (es.take k)++List.replicate (j+1) ((ge es k).1,(ge es k).2.1,1):=fun e=>by
      rw [List.map_append,hp3,List.replicate_succ',List.append_assoc];rfl
    refine ⟨fun h1=>⟨?_,⟨i64 (by omega),Cnt.next (by omega) (by omega) ⟨hstep e3,by omega,by omega⟩⟩,trivial⟩,fun h1=>Cnt.next (by omega) (by omega) ⟨?_,by omega,by omega⟩⟩
    · show (pre3++[(e3,(ge es k).1,(ge es k).2.1)]).map gmap <+: sF es
      rw [hstep];exact sF_pre hkl (by omega)
    · have e:j=(ge es k).2.2.toNat:=by omega
      rw [sF_take hkl,hp3,e]
  · have e:k=es.length:=by omega
    rw [e,List.take_length] at hpre
    exact hpre
def castF(F:List Nat):List Int:=F.map fun v:Nat=>(v:Int)
theorem gi_castF{F:List Nat}{v:Nat}(hv:v<F.length):gi (castF F) v=(gn F v:Int):=by
  unfold castF
  rw [yaN (by simpa using hv),ygZ hv];simp
theorem yhy{F:List Nat}(hF:ydb F){v:Nat}(hv:v<12){R:Int→Prop}(h:R (root F v)):ybp (castF F) (v:Int) R:=by
  unfold ybp
  refine ⟨fun m x=>∃ u:Nat,x=u∧m=u∧u<12∧root F u=root F v,⟨v,v,rfl,rfl,hv,rfl⟩,?_⟩
  rintro m _ ⟨u,rfl,hm,hu,hr⟩
  have hg:gi (castF F) u=(gn F u:Int):=gi_castF (by rw [hF.1];exact hu)
  have hle:=hF.2 u hu
  simp only [Int.toNat_natCast,hg]
  refine ⟨by omega,fun e=>?_,fun e=>⟨gn F u,by omega,gn F u,rfl,rfl,by omega,?_⟩⟩
  · rw [ycT (F:=F) (v:=u) (by omega)] at hr
    rw [hr];exact h
  · rw [←yfK hF hu (by omega)];exact hr
theorem yjr{F:List Nat}(hF:ydb F){a b:Nat}(ha:a<12)(hb:b<12)(hne:root F a≠root F b):∀ k,k≤12→yaH (ycV F a b) k+(if max (root F a) (root F b)<k then 1 else 0)=yaH F k
  | 0,_=>by simp [yaH]
  | k+1,hk=>by
    have ih:=yjr hF ha hb hne k (by omega)
    have hj:=yg4 hF ha hb k (by omega)
    have ra:=ygO hF ha
    have rb:=ygO hF hb
    rw [yaH,yaH]
    have hM:root F (max (root F a) (root F b))=max (root F a) (root F b):=by
      rcases Nat.le_total (root F a) (root F b) with q | q
      · rw [Nat.max_eq_right q];exact rb
      · rw [Nat.max_eq_left q];exact ra
    have hm:root F (min (root F a) (root F b))=min (root F a) (root F b):=by
      rcases Nat.le_total (root F a) (root F b) with q | q
      · rw [Nat.min_eq_left q];exact ra
      · rw [Nat.min_eq_right q];exact rb
    by_cases e1:k=max (root F a) (root F b)
    · have h1:root F k=k:=by rw [e1];exact hM
      rw [if_pos (h1.trans e1)] at hj
      rw [if_neg (by omega:¬root (ycV F a b) k=k),if_pos h1,if_pos (by omega)]
      rw [if_neg (by omega)] at ih
      omega
    · have h2:root (ycV F a b) k=k↔root F k=k:=by
        rw [hj]
        split
        · rename_i e2
          constructor
          · intro e3;rw [←e3] at e2;rw [hm] at e2;omega
          · intro e3;omega
        · exact Iff.rfl
      by_cases e3:root F k=k
      · rw [if_pos (h2.2 e3),if_pos e3]
        by_cases e4:max (root F a) (root F b)<k
        · rw [if_pos e4] at ih;rw [if_pos (by omega)];omega
        · rw [if_neg e4] at ih;rw [if_neg (by omega)];omega
      · rw [if_neg (fun q=>e3 (h2.1 q)),if_neg e3]
        by_cases e4:max (root F a) (root F b)<k
        · rw [if_pos e4] at ih;rw [if_pos (by omega)];omega
        · rw [if_neg e4] at ih;rw [if_neg (by omega)];omega
theorem yjP{F:List Nat}(hF:ydb F){a b:Nat}(ha:a<12)(hb:b<12)(he:root F a=root F b):∀ k,k≤12→yaH (ycV F a b) k=yaH F k
  | 0,_=>rfl
  | k+1,hk=>by
    have ih:=yjP hF ha hb he k (by omega)
    have hj:=yg4 hF ha hb k (by omega)
    rw [yaH,yaH,ih,hj,he]
    simp only [Nat.max_self,Nat.min_self]
    congr 2
    split
    · rename_i e;rw [e]
    · rfl
theorem yiw:∀ k,k≤12→yaH ydC k=k
  | 0,_=>rfl
  | k+1,hk=>by
    rw [yaH,yiw k (by omega),if_pos]
    exact ycT (by rw [ygZ (by simpa [ydC] using (by omega:k<12))];simp [ydC])
theorem joinedF_snoc(l:List E3)(x:E3):yaA (l++[x])=ycV (yaA l) x.1.toNat x.2.1.toNat:=by
  unfold yaA;rw [List.foldl_append];rfl
theorem castF_join{F:List Nat}{a b:Nat} : (castF F).set (mxF (root F a) (root F b)).toNat (mnF (root F a) (root F b))=castF (ycV F a b):=by
  unfold castF ycV
  rw [List.map_set,mxF_eq,mnF_eq]
  congr 1
  · omega
  · omega
theorem p_graph_Genus{n:Nat}{es:List E3}{R:Int→Int→Prop}(hl:es.length≤1000)(hg:yav n es=0)(hc:∀ q,q<n→Conn n es q)(h:R ((es.map (·.2.2)).sum+1-n) 0):ydl n es R:=by
  obtain ⟨hE,hn1,hn12⟩:=ybW hg
  unfold ydl
  refine ydK (by omega) ⟨fun _=>?_,fun q=>absurd hg q⟩
  refine ⟨fun m v f=>Cnt 12 (fun k=>f.length=12∧∀ i,i<k→gi f i=(i:Int)) m v,Cnt.start ⟨by simp,fun i hi=>absurd hi (by omega)⟩,?_⟩
  rintro m _ f ⟨k,rfl,rfl,hk,hfl,hf⟩
  simp only [Int.toNat_natCast]
  refine ⟨fun hlt=>⟨by omega,Cnt.next (by omega) (by omega) ⟨by simpa using hfl,fun i hi=>?_⟩⟩,fun hge=>?_⟩
  · rw [ycQ (by omega)]
    split
    · omega
    · exact hf i (by omega)
  have e12:k=12:=by omega
  subst e12
  have hf0:f=castF ydC:=ygi (by rw [hfl];rfl) fun i hi=>by
    rw [hf i (by omega),gi_castF (by show i<(List.range 12).length;simpa using (by omega:i<12)),ygZ (by simpa [ydC] using (by omega:i<12))]
    simp [ydC]
  show ∃ Pr Rr:List (Int×Int×Int)→Prop,_
  refine ⟨_,_,yd3 hE hl,fun pre f2 genus=>pre.map gmap <+: sF es∧f2=castF (yaA (pre.map gmap))∧genus+n-(yaH (yaA (pre.map gmap)) n:Int)=pre.length∧0≤genus∧genus≤pre.length,⟨List.nil_prefix,hf0,?_,by omega,by simp⟩,?_,?_⟩
  · show (0:Int)+n-(yaH ydC n:Int)=0
    rw [yiw n hn12];omega
  · rintro pre e a b f2 genus ⟨hp,rfl,hcount,h0,h1⟩ hPr
    have hPr:(pre++[(e,a,b)]).map gmap <+: sF es:=hPr
    have hE2:=sF_ok hE
    have hmem:(a,b,1)∈sF es:=hPr.subset (by simp [gmap])
    have hx:=hE2 _ hmem
    simp only at hx
    obtain ⟨a,rfl⟩:∃ k:Nat,a=(k:Int):=⟨a.toNat,by omega⟩
    obtain ⟨b,rfl⟩:∃ k:Nat,b=(k:Int):=⟨b.toNat,by omega⟩
    have hF:ydb (yaA (pre.map gmap)):=ycb _ fun x hx=>by
      have:=hE2 x (hp.subset hx)
      omega
    have hplen:pre.length≤50*es.length:=by
      have h2:=hp.length_le
      have h3:=sF_few hE
      rw [List.length_map] at h2
      omega
    have hsn:(pre++[(e,(a:Int),(b:Int))]).map gmap=pre.map gmap++[((a:Int),(b:Int),1)]:=by rw [List.map_append];rfl
    have hjs:yaA ((pre++[(e,(a:Int),(b:Int))]).map gmap)=ycV (yaA (pre.map gmap)) a b:=by rw [hsn,joinedF_snoc];simp
    have ra:=yd4 hF a (by omega)
    have rb:=yd4 hF b (by omega)
    have hrl:∀ v,v<n→root (yaA (pre.map gmap)) v<n:=fun v hv=>by have:=(yd4 hF v (by omega)).1;omega
    have hra:=hrl a (by omega)
    have hrb:=hrl b (by omega)
    refine yhy hF (by omega) (yhy hF (by omega) ?_)
    have hmx:0≤mxF (root (yaA (pre.map gmap)) a:Int) (root (yaA (pre.map gmap)) b)∧mxF (root (yaA (pre.map gmap)) a:Int) (root (yaA (pre.map gmap)) b)<12:=by rw [mxF_eq];omega
    refine ⟨fun g2=>g2=genus+if root (yaA (pre.map gmap)) a=root (yaA (pre.map gmap)) b then 1 else 0,fun g2 hg2=>⟨hmx,hPr,by rw [hjs];exact castF_join,?_,?_,?_⟩,fun q=>⟨i64 (by omega),by rw [if_pos (by omega)]⟩,fun q=>by rw [if_neg (by omega)];omega⟩
    · rw [hjs,hg2,List.length_append,List.length_singleton]
      by_cases q:root (yaA (pre.map gmap)) a=root (yaA (pre.map gmap)) b
      · rw [if_pos q,yjP hF (by omega) (by omega) q n hn12];omega
      · have:=yjr hF (by omega) (by omega) q n hn12
        rw [if_pos (by omega)] at this
        rw [if_neg q];omega
    · rw [hg2];split <;> omega
    · rw [hg2,List.length_append,List.length_singleton];split <;> omega
  · rintro ys f2 genus ⟨hp,rfl,hcount,h0,h1⟩ hR
    have hR:ys.map gmap=sF es:=hR
    have hE2:=sF_ok hE
    have hc2:ydD n (sF es)=true:=(yi7 hE2 hn1 hn12 (q:=0) (by omega)).2 fun S h0 h1=>by
      obtain ⟨v,u,a,b,c,d,e⟩:=hc 0 (by omega) S h0 h1
      exact ⟨v,u,a,b,c,d,by rw [W_sF v u hE];exact e⟩
    unfold ydD at hc2
    rw [beq_iff_eq,Int.toNat_natCast] at hc2
    rw [hR,hc2] at hcount
    have hlen:=sF_len hE
    rw [←hR,List.length_map] at hlen
    have e:genus=(es.map (·.2.2)).sum+1-n:=by omega
    rw [e];exact h
theorem p_rank_of{n:Nat}{es:List E3}{R0:Int→Prop}{R1:Int→List E3→Int→List (List Int×Int)→Int→Prop}(G:GOk n es)(h:R1 n es (yc9 es+1-n) [] 0):yfN n es R0 R1:=by
  have:=G.el
  unfold yfN
  refine yiD (by omega) G.g ⟨fun _=>?_,fun q=>absurd rfl q⟩
  refine p_graph_Genus (by have:=List.length_filter_le (fun x:E3=>decide (x.1≠x.2.1)) es;unfold yfy;omega) (yk7 G.g) (fun q hq S h0 h1=>?_) (by rw [yk3];exact h)
  obtain ⟨v,u,a,b,c,d,e⟩:=G.C q hq S h0 h1
  exact ⟨v,u,a,b,c,d,by rw [yla];exact e⟩
theorem ykT{n:Int}{es:List E3}{d:List Int}{R:Int→Int→Prop}(hl:es.length≤1000)(h0:ybo n es 0 d≠0→R 0 (ybo n es 0 d))(h1:ybo n es 0 d=0→GOk n.toNat es∧(∀ v,v<n.toNat → -200≤gi d v∧gi d v≤200)∧dg d≤5∧∀ k,RkOk n.toNat es d k→R k 0):yea n es d R:=by
  unfold yea
  refine yiz hl (by simp) ?_
  rw [givL_one]
  refine ⟨fun hg=>?_,fun hg=>h0 hg⟩
  obtain ⟨n,rfl⟩:∃ n':Nat,n=(n':Int):=⟨n.toNat,by have:=ygC hg;omega⟩
  obtain ⟨G,hb,h5,hk⟩:=h1 hg
  simp only [Int.toNat_natCast] at G hb h5 hk
  have hd:=(yl3 (q:=0) hg).2.2.2.2.2.2.1
  exact p_rank_of G ⟨fun _=>p_find G hd hb h5 (MOk.nil n es) fun k m' hk' _=>hk k hk',fun q=>absurd rfl q⟩
section
variable {n : Nat} {es : List E3} (hE : EOk n es)
include hE
omit hE in
end
theorem drop_zero{d:List Int}{k:Nat}(h:∀ i,k≤i→i<d.length→gi d i=0):(d.drop k).sum=0:=by
  rw [sum_dg]
  unfold dg
  rw [yaw (g:=fun _=>0) fun i hi=>?_]
  · exact ybJ _
  · rw [gi_drop]
    rw [List.length_drop] at hi
    exact h _ (by omega) (by omega)
theorem drop_one{d:List Int}{k:Nat}(hk:k<d.length)(h:∀ i,k<i→i<d.length→gi d i=0):(d.drop k).sum=gi d k:=by
  rw [List.drop_eq_getElem_cons hk,List.sum_cons,drop_zero (k:=k+1) fun i h1 h2=>h i (by omega) h2,yaN hk]
  omega
theorem p_chips_step{d:List Int}{R:Bool→List Int→Prop}(hl:d.length≤1000)(h0:1≤d.length)(hb:∀ j,j<d.length → -1000000≤gi d j∧gi d j≤1000000)(h1:∀ y,ygQ d=some y→R true y)(h2:ygQ d=none→R false d):ydF d R:=by
  unfold ydF
  refine ⟨i64 (by omega),fun m j=>∃ k:Nat,j=(k:Int)∧m=k∧k<d.length∧∀ i,k<i→i<d.length→gi d i=0,⟨d.length-1,d.length-1,by omega,rfl,by omega,fun i a b=>by omega⟩,?_⟩
  rintro m _ ⟨k,rfl,hm,hk,hz⟩
  simp only [Int.toNat_natCast]
  refine ⟨fun hpos=>⟨by omega,fun e=>⟨i64 (by omega),k-1,by omega,k-1,by omega,rfl,by omega,fun i a b=>?_⟩,fun e=>⟨fun q=>by omega,fun _=>?_⟩⟩,fun hneg=>⟨fun _=>h2 (yii d fun v hv=>drop_zero fun i a b=>hz i (by omega) b),fun q=>by omega⟩⟩
  · by_cases q:i=k
    · rw [q];exact e
    · exact hz i (by omega) b
  · obtain ⟨v,rfl⟩:∃ v,k=v+1:=⟨k-1,by omega⟩
    have e1:(((v+1:Nat):Int)-1).toNat=v:=by omega
    have e2:((d.length:Int)-1).toNat=d.length-1:=by omega
    have hgk:=hb (v+1) hk
    have hgv:=hb v (by omega)
    have hs:gi (d.set (v+1) 0) v=gi d v:=by rw [ycQ hk,if_neg (by omega)]
    rw [e1,e2,hs]
    refine ⟨i64 (by omega),i64 (by omega),by rw [List.length_set];omega,i64 (by omega),by rw [List.length_set,List.length_set];omega,?_⟩
    have hnx:=nextF_some d v (by omega) (by rw [drop_one hk hz];exact e) fun w hw hw2=>drop_zero fun i a b=>hz i (by omega) b
    rw [drop_one hk hz] at hnx
    have e3:((d.set (v+1) 0).set v (gi d v+1)).set (d.length-1) (gi d (v+1)-1)=d.take v++(gi d v+1)::ydX (d.length-v-1) (gi d (v+1)-1):=by
      refine ygi (by rw [List.length_set,List.length_set,List.length_set,next_length (by omega)]) fun i hi=>?_
      rw [List.length_set,List.length_set,List.length_set] at hi
      rw [gi_next (by omega) _ _ hi,ycQ (by rw [List.length_set,List.length_set];omega),ycQ (by rw [List.length_set];omega),ycQ hk]
      by_cases c1:i=d.length-1
      · rw [if_pos c1,if_neg (by omega),if_neg (by omega),if_pos (by omega)]
      · rw [if_neg c1]
        by_cases c2:i=v
        · rw [if_pos c2,if_neg (by omega),if_pos c2]
        · rw [if_neg c2]
          by_cases c3:i<v
          · rw [if_neg (by omega),if_pos c3]
          · rw [if_neg c3,if_neg c2,if_neg (show ¬i+1=d.length by omega)]
            split
            · rfl
            · exact hz i (by omega) hi
    rw [e3]
    exact h1 _ hnx
structure DOk(n:Nat)(es:List E3)(d:List Int):Prop where
  G:GOk n es
  b:∀ v,v<n → -150≤gi d v∧gi d v≤150
  d5:dg d≤5
theorem list_few{n k:Nat}(hn:n≤4)(hk:k≤6):(ycp (n+1) k).length≤2401:=by
  have h1:=yim n k
  have h2:(k+1)^n≤7^n:=Nat.pow_le_pow_left (by omega) n
  have h3:7^n≤7^4:=Nat.pow_le_pow_right (by omega) hn
  omega
theorem p_rank_AtLeast{n r:Int}{es:List E3}{d:List Int}{R:Bool→Int→Prop}(hl:es.length≤1000)(h0:ybo n es 0 d≠0→R false (ybo n es 0 d))(h1:ybo n es 0 d=0→r<0→R true 0)(h2:ybo n es 0 d=0→0≤r→DOk n.toNat es d∧∀ k,RkOk n.toNat es d k→R (decide (r≤k)) 0):ycl n es d r R:=by
  unfold ycl
  refine yiz hl (by simp) ?_
  rw [givL_one]
  refine ⟨ybo n es 0 d=0∧0≤r,fun ⟨hg,hr⟩=>?_,fun hg=>⟨fun hr=>?_,fun hr=>⟨hg,by omega⟩⟩,fun hg=>?_⟩
  · obtain ⟨hD,hk⟩:=h2 hg hr
    exact ykT hl (fun q=>absurd hg q) fun _=>⟨hD.G,fun v hv=>by have:=hD.b v hv;omega,hD.d5,fun k hk'=>⟨fun _=>hk k hk',fun q=>absurd rfl q⟩⟩
  · rw [hg,decide_eq_true rfl];exact h1 hg hr
  · rw [decide_eq_false hg];exact h0 hg
theorem flat_mono{f:Nat→List (List Int)}{a b:Nat}(h:a≤b):((List.range a).flatMap f).length≤((List.range b).flatMap f).length:=by
  induction b with
  | zero=>rw [show a=0 by omega];exact Nat.le_refl _
  | succ b ih =>
    by_cases e:a=b+1
    · rw [e];exact Nat.le_refl _
    · have:=ih (by omega)
      rw [List.range_succ,List.flatMap_append,List.length_append];omega
theorem ykn:∀ (N fu k:Nat) {R:List (List Int)→Prop},N<fu→(k+1)^N≤1000000→N≤11→k≤1000→R (ycp (N+1) k)→yka fu ((N+1:Nat):Int) (k:Int) R
  | N,0,k,R,hf,_,_,_,_=>by omega
  | 0,fu+1,k,R,_,_,_,_,h=>by
    show yj9 (yka fu) ((0+1:Nat):Int) (k:Int) R
    unfold yj9
    exact ⟨fun q=>by omega,fun _=>⟨fun _=>h,fun q=>by omega⟩⟩
  | N+1,fu+1,k,R,hf,hp,hN,hk,h=>by
    show yj9 (yka fu) ((N+1+1:Nat):Int) (k:Int) R
    unfold yj9
    refine ⟨fun q=>by omega,fun _=>⟨fun q=>by omega,fun _=>?_⟩⟩
    have hlen:=yim (N+1) k
    obtain ⟨f,hfd⟩:∃ f:Nat→List (List Int),f=fun i=>(ycp (N+1) (k-i)).map ((i:Int) :: ·):=⟨_,rfl⟩
    have hL:ycp (N+1+1) k=(List.range (k+1)).flatMap f:=by rw [hfd];rfl
    rw [hL] at h hlen
    refine ⟨fun m out v=>Cnt (k+1) (fun i=>out=(List.range i).flatMap f) m v,Cnt.start rfl,?_⟩
    rintro m out _ ⟨i,rfl,rfl,hi,rfl⟩
    refine ⟨fun hle=>⟨i64 (by omega),i64 (by omega),?_⟩,fun hgt=>?_⟩
    · have e1:((N+1+1:Nat):Int)-1=((N+1:Nat):Int):=by omega
      have e2:(k:Int)-(i:Int)=((k-i:Nat):Int):=by omega
      rw [e1,e2]
      have hpw:(k-i+1)^N≤1000000:=by
        have h1:(k-i+1)^N≤(k+1)^N:=Nat.pow_le_pow_left (by omega) N
        have h2:(k+1)^N≤(k+1)^(N+1):=Nat.pow_le_pow_right (by omega) (by omega)
        omega
      refine ykn N fu (k-i) (by omega) hpw (by omega) (by omega) ?_
      have hsucc:(List.range (i+1)).flatMap f=(List.range i).flatMap f++(ycp (N+1) (k-i)).map ((i:Int) :: ·):=by
        rw [List.range_succ,List.flatMap_append]
        simp [hfd]
      have htot:((List.range (i+1)).flatMap f).length≤1000000:=by
        have:=flat_mono (f:=f) (a:=i+1) (b:=k+1) (by omega)
        omega
      rw [hsucc,List.length_append,List.length_map] at htot
      have hml:∀ e∈ycp (N+1) (k-i),e.length=N+1:=fun e he=>((yed N (k-i) e).1 he).1
      generalize ycp (N+1) (k-i)=r at hsucc htot hml
      refine ⟨fun m out v=>Cnt r.length (fun j=>out=(List.range i).flatMap f++(r.take j).map ((i:Int) :: ·)) m v,Cnt.start (by simp),?_⟩
      rintro m2 _ _ ⟨j,rfl,rfl,hj,rfl⟩
      simp only [Int.toNat_natCast]
      refine ⟨fun hlt=>⟨by omega,?_,?_,Cnt.next (by omega) (by omega) ?_⟩,fun hge=>Cnt.next (by omega) (by omega) ?_⟩
      · have:=hml _ (List.mem_of_getElem? (yfY (show j<r.length by omega)))
        simp only [List.length_singleton];omega
      · rw [List.length_append,List.length_map,List.length_take];omega
      · rw [List.take_add_one,yfY (show j<r.length by omega),List.map_append,List.append_assoc];rfl
      · have e:j=r.length:=by omega
        rw [hsucc,e,List.take_length]
    · have e:i=k+1:=by omega
      rw [e];exact h
theorem plus_sb{n:Nat}{d e:List Int}(hd:d.length=n):plusF d e (-1)=sb n d e:=by
  unfold plusF sb
  rw [hd]
  exact tab_congr fun i _=>by omega
section
variable {N : Nat} {es : List E3} {d : List Int}
end
structure FewOk(n:Int)(es:List E3)(d:List Int)(most:Int):Prop where
  s:yi8 n es 5 7=true
  l:d.length≤100
  g:ybo n es 0 d=0→lowF n d=true∧dg d≤most
theorem FewOk.el{n:Int}{es:List E3}{d:List Int}{most:Int}(h:FewOk n es d most):es.length≤40:=(of_decide_eq_true h.s).1
theorem gok_of{n:Int}{es:List E3}(hs:yi8 n es 5 7=true)(hg:yav n es=0)(hc:ydD n es=true):GOk n.toNat es:=by
  obtain ⟨h1,h2⟩:=of_decide_eq_true hs
  have h3:=h2 hg
  have hn : 1 ≤ n ∧ n ≤ 12 := by unfold yav at hg; split at hg; · assumption
                                 · omega
  have e:((n.toNat:Nat):Int)=n:=by omega
  exact ⟨by rw [e];exact hg,by rw [e];exact hc,h1,by omega,by omega,by omega⟩
theorem p_r38_Few{n most:Int}{es:List E3}{d:List Int}{R:Bool→Prop}(h1:FewOk n es d most→R true)(h2:¬FewOk n es d most→R false):ylY n es d most R:=by
  unfold ylY
  refine ⟨yi8 n es 5 7=true∧d.length≤100,fun ⟨hs,hl⟩=>?_,p_r08_small ⟨fun hs=>⟨fun hl=>h2 fun q=>by have:=q.l;omega,fun hl=>⟨hs,by omega⟩⟩,fun hs=>h2 fun q=>hs q.s⟩⟩
  have hel:=(of_decide_eq_true hs).1
  refine p_r35_Given (by omega) ⟨fun hg=>p_r34_Low ⟨fun hlo=>ykS (by omega) (fun i hi=>?_) ?_,fun hlo=>h2 fun q=>hlo (q.g hg).1⟩,fun hg=>h1 ⟨hs,hl,fun q=>absurd q hg⟩⟩
  · have h3:=ygC hg
    have e:((n.toNat:Nat):Int)=n:=by omega
    have h4:=yl3 (n:=n.toNat) (q:=0) (es:=es) (d:=d) (by rw [e];exact hg)
    have:=(yl2.1 hlo).2 (by have:=h4.2.2.2.2.2.2.2;rwa [e] at this) i hi
    omega
  · by_cases q:dg d≤most
    · rw [decide_eq_true q];exact h1 ⟨hs,hl,fun _=>⟨hlo,q⟩⟩
    · rw [decide_eq_false q];exact h2 fun f=>q (f.g hg).2
section
variable {n : Nat} {es : List E3} {d : List Int}
end
def tri:List E3:=[(0,1,1),(0,2,1),(1,2,1)]
theorem tri_ok:GOk 3 tri:=⟨by decide,by decide,by decide,by decide,by decide,by decide⟩
end Go.Proofs.YtadpnlimiblniaaGreat
