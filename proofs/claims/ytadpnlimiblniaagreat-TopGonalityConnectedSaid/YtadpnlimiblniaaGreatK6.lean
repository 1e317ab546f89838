/- Texts laid together: RkM, RkF, RkG, Scr, RkW, RkR, Rr, L38, Tri4. -/
import Derived.Test.YtadpnlimiblniaaGreatK5
set_option linter.unusedVariables false
set_option linter.unusedSimpArgs false
set_option linter.unusedSectionVars false
/- Ranks of divisors, plainly: what takes any effective divisor of a degree away. No program in sight. -/
namespace Go.Proofs.YtadpnlimiblniaaGreat
open Go Go.Proofs.Tryz
theorem dg_n{d:List Int}{n:Nat}(h:d.length=n):dg d=sm n (gi d):=by unfold dg;rw [h]
theorem yhY{n:Nat}{es:List E3}{a b:List Int}(h:∀ v,v<n→gi a v≤gi b v)(ha:Win n es a):Win n es b:=by
  obtain ⟨s,hs⟩:=ha
  exact ⟨s,fun v hv=>by have:=hs v hv;have:=h v hv;omega⟩
theorem win_eqv{n:Nat}{es:List E3}{x y:List Int}{s:Nat→Int}(h:∀ v,v<n→gi y v=gi x v-Lp n es s v):Win n es x↔Win n es y:=by
  constructor
  · rintro ⟨t,ht⟩
    refine ⟨fun i=>t i+(-1)*s i,fun v hv=>?_⟩
    rw [ygJ t (fun i=>(-1)*s i),yip,h v hv]
    have:=ht v hv
    omega
  · rintro ⟨t,ht⟩
    refine ⟨fun i=>t i+s i,fun v hv=>?_⟩
    rw [ygJ t s]
    have:=ht v hv
    rw [h v hv] at this
    omega
def half(n:Nat)(es:List E3)(r:Nat→Nat→Bool):Int:=sm n (fun v=>sm n (fun u=>if r u v=true then W es v u else 0))
theorem ylh{n:Nat}{es:List E3}{r:Nat→Nat→Bool} : half n es r=half n es (fun u v=>r v u):=by
  unfold half
  rw [ylP (fun v u=>if r u v=true then W es v u else 0)]
  refine yaw fun v hv=>yaw fun u hu=>?_
  show (if r v u=true then W es u v else 0)=if r v u=true then W es v u else 0
  rw [ye0]
theorem half_le{n:Nat}{es:List E3}(hE:EOk n es){r:Nat→Nat→Bool}(h:∀ u v,r u v=true→r v u=true→False):2*half n es r≤tot n es:=by
  have h1:half n es r+half n es r≤tot n es:=by
    conv=>lhs;arg 2;rw [ylh]
    unfold half tot
    rw [←ycc]
    refine ydh fun v hv=>?_
    show _+_≤_
    rw [←ycc]
    refine ydh fun u hu=>?_
    show (if r u v=true then W es v u else 0)+(if r v u=true then W es v u else 0)≤W es v u
    have:=ya2 hE v u
    by_cases e1:r u v=true
    · rw [if_pos e1,if_neg (fun e2=>h u v e1 e2)];omega
    · rw [if_neg e1];split <;> omega
  omega
theorem half_ge{n:Nat}{es:List E3}(hE:EOk n es){r:Nat→Nat→Bool}(h:∀ u v,u≠v→r u v=true∨r v u=true):tot n es≤2*half n es r:=by
  have h1:tot n es≤half n es r+half n es r:=by
    conv=>rhs;arg 2;rw [ylh]
    unfold half tot
    rw [←ycc]
    refine ydh fun v hv=>?_
    show _≤_+_
    rw [←ycc]
    refine ydh fun u hu=>?_
    show W es v u≤(if r u v=true then W es v u else 0)+(if r v u=true then W es v u else 0)
    have:=ya2 hE v u
    by_cases e:u=v
    · subst e;rw [yhC];split <;> omega
    · rcases h u v e with q | q
      · rw [if_pos q];split <;> omega
      · rw [if_pos q];split <;> omega
  omega
def ords(n:Nat)(es:List E3)(b:List Bool)(ρ:Nat→Nat)(v:Nat):Int:=sm n (fun u=>if gb b u=true∧¬ρ u<ρ v then 0 else W es v u)
theorem bor_all{n:Nat}{es:List E3}{d:List Int}(hg:yav n es=0)(hE:EOk n es)(hC:∀ q,q<n→Conn n es q)(hn:n≤12)(hdb:∀ v,v<n → -1000≤gi d v)(hw:¬Win n es d) :
    ∀ (N:Nat) (c:Nat→Int) (x:List Int) (b:List Bool) (ρ:Nat→Nat) (K:Nat),3456001-sm n c≤N→Bor n es d c x b→(∀ u,u<n→ρ u<K)→(∀ v,v<n→gb b v=true→gi x v≤ords n es b ρ v-1) →
      ∃ c x b ρ,Bor n es d c x b∧(∀ v,v<n→gb b v=true)∧∀ v,v<n→gi x v≤ords n es b ρ v-1:=by
  intro N
  induction N with
  | zero =>
    intro c x b ρ K hN hB hρ hx
    by_cases hall:∀ v,v<n→gb b v=true
    · exact ⟨c,x,b,ρ,hB,hall,fun v hv=>hx v hv (hall v hv)⟩
    · exfalso
      obtain ⟨w,hw1⟩:=Classical.not_forall.1 hall
      obtain ⟨hw2,hw3⟩:=Classical.not_imp.1 hw1
      have:=bor_total hn (bor_few hE hC hn hdb hB hw2 hw3)
      omega
  | succ N ih =>
    intro c x b ρ K hN hB hρ hx
    by_cases hall:∀ v,v<n→gb b v=true
    · exact ⟨c,x,b,ρ,hB,hall,fun v hv=>hx v hv (hall v hv)⟩
    · have hdebt:¬ ∀ v,v<n→0≤gi x v:=fun q=>hw (bor_win hB q)
      obtain ⟨v,hv1⟩:=Classical.not_forall.1 hdebt
      obtain ⟨hv,hv3⟩:=Classical.not_imp.1 hv1
      have hneg:gi x v<0:=by omega
      have hy:∀ i,i<n→gi (tab (fun i=>if i=v then gi x v+deg n es v else gi x i-W es i v) n) i=if i=v then gi x v+deg n es v else gi x i-W es i v:=fun i hi=>ygt _ hi
      have hB2:=bor_step hg hE hn hB hv hneg (yc6 _ n) hy
      refine ih _ _ _ (fun u=>if u=v then K else ρ u) (K+1) (by rw [bor_count hv];omega) hB2 (fun u hu=>?_) fun i hi hbi=>?_
      · show (if u=v then K else ρ u)<K+1
        have:=hρ u hu
        split <;> omega
      · rw [hy i hi]
        have hgb:∀ u,gb (b.set v true) u=if u=v then true else gb b u:=fun u=>by
          rw [yeA (by rw [hB.bl];exact hv)]
        by_cases e:i=v
        · subst e
          rw [if_pos rfl]
          have h1:ords n es (b.set i true) (fun u=>if u=i then K else ρ u) i=deg n es i:=by
            unfold ords deg
            refine yaw fun u hu=>?_
            show (if gb (b.set i true) u=true∧¬(if u=i then K else ρ u)<(if i=i then K else ρ i) then 0 else W es i u)=W es i u
            by_cases e:u=i
            · subst e;rw [yhC];exact ite_self _
            · rw [if_neg]
              rintro ⟨_,h⟩
              rw [if_neg e,if_pos rfl] at h
              exact h (hρ u hu)
          rw [h1];omega
        · rw [if_neg e]
          rw [hgb,if_neg e] at hbi
          have h0:=hx i hi hbi
          have h1:ords n es b ρ i≤ords n es (b.set v true) (fun u=>if u=v then K else ρ u) i+W es i v:=by
            have h2:ords n es (b.set v true) (fun u=>if u=v then K else ρ u) i+W es i v=sm n (fun u=>(if gb (b.set v true) u=true∧¬(if u=v then K else ρ u)<(if i=v then K else ρ i) then 0 else W es i u)+if u=v then W es i v else 0):=by
              rw [ycc,ye9 _ hv];rfl
            rw [h2]
            unfold ords
            refine ydh fun u hu=>?_
            show (if gb b u=true∧¬ρ u<ρ i then 0 else W es i u)≤(if gb (b.set v true) u=true∧¬(if u=v then K else ρ u)<(if i=v then K else ρ i) then 0 else W es i u)+if u=v then W es i v else 0
            rw [hgb,if_neg e]
            have:=ya2 hE i u
            by_cases e2:u=v
            · subst e2
              rw [if_pos rfl,if_pos rfl,if_pos rfl]
              split <;> split <;> omega
            · rw [if_neg e2,if_neg e2,if_neg e2];omega
          omega
theorem yk9{n:Nat}{es:List E3}{d:List Int}(hg:yav n es=0)(hC:∀ q,q<n→Conn n es q)(hn:n≤12)(hd:d.length=n)(hdb:∀ v,v<n → -1000≤gi d v∧gi d v≤1000)(h:yc9 es+1-n≤dg d):Win n es d:=by
  apply Classical.byContradiction
  intro hw
  have hE:=(ybW hg).1
  obtain ⟨c,x,b,ρ,hB,hall,hx⟩:=bor_all hg hE hC hn (fun v hv=>(hdb v hv).1) hw 3456001 (fun _=>0) d (List.replicate n false) (fun _=>0) 1 (by rw [ybJ];omega) (bor_start hd fun v hv=>(hdb v hv).2) (fun _ _=>by omega) (fun v hv h=>by rw [gb_rep] at h;cases h)
  have h1:dg x=dg d:=dg_lp (n:=n) (es:=es) hB.xl hd (s:=fun i=>(-1)*c i) fun v hv=>by rw [yip,hB.val v hv];omega
  have h2:dg x≤half n es (fun u v=>decide (ρ u<ρ v))-n:=by
    rw [dg_n hB.xl]
    have h3:half n es (fun u v=>decide (ρ u<ρ v))-n=sm n (fun v=>ords n es b ρ v-1):=by
      rw [yfB,yd8]
      have:half n es (fun u v=>decide (ρ u<ρ v))=sm n (fun v=>ords n es b ρ v):=by
        unfold half ords
        refine yaw fun v hv=>yaw fun u hu=>?_
        show (if decide (ρ u<ρ v)=true then W es v u else 0)=if gb b u=true∧¬ρ u<ρ v then 0 else W es v u
        by_cases e:ρ u<ρ v
        · rw [if_pos (by simpa using e),if_neg (fun q=>q.2 e)]
        · rw [if_neg (by simpa using e),if_pos ⟨hall u hu,e⟩]
      have e9:sm n (ords n es b ρ)=sm n (fun v=>ords n es b ρ v):=rfl
      rw [this,e9];omega
    rw [h3]
    exact ydh hx
  have h4:=half_le hE (r:=fun u v=>decide (ρ u<ρ v)) (fun u v a b=>by simp at a b;omega)
  rw [yh1 hE] at h4
  omega
def nu(n:Nat)(es:List E3):List Int:=tab (fun v=>sm n (fun u=>if decide (u<v)=true then W es v u else 0)-1) n
theorem nu_dg{n:Nat}{es:List E3}(hE:EOk n es):dg (nu n es)=yc9 es-n:=by
  have h1:dg (nu n es)=half n es (fun u v=>decide (u<v))-n:=by
    rw [dg_n (show (nu n es).length=n from yc6 _ n)]
    have:sm n (gi (nu n es))=sm n (fun v=>sm n (fun u=>if decide (u<v)=true then W es v u else 0)-1):=yaw fun v hv=>ygt _ hv
    rw [this,yfB,yd8]
    show _-_=half n es (fun u v=>decide (u<v))-n
    have e9:half n es (fun u v=>decide (u<v))=sm n (fun v=>sm n (fun u=>if decide (u<v)=true then W es v u else 0)):=rfl
    rw [e9];omega
  have h2:=half_le hE (r:=fun u v=>decide (u<v)) (fun u v a b=>by simp at a b;omega)
  have h3:=half_ge hE (r:=fun u v=>decide (u<v)) (fun u v h=>by simp;omega)
  rw [yh1 hE] at h2 h3
  omega
theorem least_at(p:Nat→Prop){n:Nat}(h:∃ v,v<n∧p v):∃ v,v<n∧p v∧∀ u,u<v→¬p u:=by
  obtain ⟨v,hv,hp⟩:=h
  have:∀ v,v<n→p v→∃ v,v<n∧p v∧∀ u,u<v→¬p u:=by
    intro v
    induction v using Nat.strongRecOn with
    | ind v ih =>
      intro hv hp
      by_cases q:∃ u,u<v∧p u
      · obtain ⟨u,hu,hpu⟩:=q
        exact ih u hu (by omega) hpu
      · exact ⟨v,hv,hp,fun u hu hpu=>q ⟨u,hu,hpu⟩⟩
  exact this v hv hp
theorem nu_lose{n:Nat}{es:List E3}(hE:EOk n es)(hn:1≤n):¬Win n es (nu n es):=by
  rintro ⟨s,hs⟩
  obtain ⟨w,hw,hmax⟩:=max_at s n hn
  obtain ⟨v,hv,hp,hlow⟩:=least_at (fun v=>s v=s w) (n:=n) ⟨w,hw,rfl⟩
  have h1:=hs v hv
  have h2:sm n (fun u=>if decide (u<v)=true then W es v u else 0)≤Lp n es s v:=by
    unfold Lp
    refine ydh fun u hu=>?_
    show (if decide (u<v)=true then W es v u else 0)≤W es v u*(s v-s u)
    have h3:=ya2 hE v u
    have h4:=hmax u hu
    by_cases e:u<v
    · rw [if_pos (by simpa using e)]
      have h5:s u≠s w:=hlow u e
      have h6:W es v u*1≤W es v u*(s v-s u):=Int.mul_le_mul_of_nonneg_left (by omega) h3
      omega
    · rw [if_neg (by simpa using e)]
      exact Int.mul_nonneg h3 (by omega)
  have h3:gi (nu n es) v=sm n (fun u=>if decide (u<v)=true then W es v u else 0)-1:=ygt _ hv
  omega
theorem nu_bound{n:Nat}{es:List E3}(hE:EOk n es){T:Int}(ht:tot n es≤T){v:Nat}(hv:v<n) : -1≤gi (nu n es) v∧gi (nu n es) v≤T:=by
  have h3:gi (nu n es) v=sm n (fun u=>if decide (u<v)=true then W es v u else 0)-1:=ygt _ hv
  have h4:0≤sm n (fun u=>if decide (u<v)=true then W es v u else 0):=ya5 fun u _=>by
    have:=ya2 hE v u
    show 0≤if decide (u<v)=true then W es v u else 0
    split <;> omega
  have h5:sm n (fun u=>if decide (u<v)=true then W es v u else 0)≤deg n es v:=ydh fun u _=>by
    have:=ya2 hE v u
    show (if decide (u<v)=true then W es v u else 0)≤W es v u
    split <;> omega
  have h6:deg n es v≤tot n es:=yik (f:=fun v=>sm n (fun u=>W es v u)) (fun i _=>ya5 fun u _=>ya2 hE i u) v hv
  omega
def sb(n:Nat)(d e:List Int):List Int:=tab (fun i=>gi d i-gi e i) n
theorem ygG(n:Nat)(d e:List Int):(sb n d e).length=n:=yc6 _ _
theorem ygA{n:Nat}{d e:List Int}{v:Nat}(hv:v<n):gi (sb n d e) v=gi d v-gi e v:=ygt _ hv
theorem ylg{n:Nat}{d e:List Int}(hd:d.length=n)(he:e.length=n):dg (sb n d e)=dg d-dg e:=by
  rw [dg_n (ygG n d e),dg_n hd,dg_n he,←yfB]
  exact yaw fun v hv=>ygA hv
structure Eff(n:Nat)(e:List Int)(r:Int):Prop where
  len:e.length=n
  pos:∀ v,v<n→0≤gi e v
  deg:dg e=r
theorem Eff.nonneg{n:Nat}{e:List Int}{r:Int}(h:Eff n e r):0≤r:=by
  rw [←h.deg,dg_n h.len];exact ya5 h.pos
theorem Eff.le{n:Nat}{e:List Int}{r:Int}(h:Eff n e r){v:Nat}(hv:v<n):gi e v≤r:=by
  rw [←h.deg,dg_n h.len];exact yik h.pos v hv
theorem Eff.add{n:Nat}{e:List Int}{r:Int}(h:Eff n e r){v:Nat}(hv:v<n){k:Int}(hk:0≤gi e v+k):Eff n (yfw e v k) (r+k) :=
  ⟨by rw [yfa,h.len],fun i hi=>by
    rw [yd5 (by rw [h.len];exact hv)]
    have:=h.pos i hi
    split <;> omega,by rw [ykM (by rw [h.len];exact hv),h.deg]⟩
theorem yfe(n:Nat):Eff n (List.replicate n 0) 0 :=
  ⟨by simp,fun v hv=>by rw [yaN (by simpa using hv)];simp,by
    rw [dg_n (n:=n) (by simp),yaw (g:=fun _=>0) fun v hv=>by rw [yaN (by simpa using hv)];simp]
    exact ybJ n⟩
theorem ykY{n:Nat}(hn:1≤n){k:Int}(hk:0≤k):Eff n (yfw (List.replicate n 0) 0 k) k:=by
  have h:=(yfe n).add (v:=0) (by omega) (k:=k) (by have:=(yfe n).pos 0 (by omega);omega)
  rwa [Int.zero_add] at h
theorem yhs{n v:Nat}(hv:v<n):gi (List.replicate n 0) v=0:=by rw [yaN (by simpa using hv)];simp
def AL(n:Nat)(es:List E3)(d:List Int)(r:Int):Prop:=∀ e,Eff n e r→Win n es (sb n d e)
structure RkOk(n:Nat)(es:List E3)(d:List Int)(k:Int):Prop where
  lo : -1≤k
  al:AL n es d k
  no:¬AL n es d (k+1)
section
variable {n : Nat} {es : List E3} {d : List Int}
theorem al_neg{r:Int}(hr:r<0):AL n es d r:=fun e he=>by have:=he.nonneg;omega
theorem al_down(hn:1≤n){r:Int}(h:AL n es d (r+1)):AL n es d r:=fun e he=>by
  have h1:=h _ (he.add (v:=0) (k:=1) (by omega) (by have:=he.pos 0 (by omega);omega))
  refine yhY (fun v hv=>?_) h1
  rw [ygA hv,ygA hv,yd5 (by rw [he.len];omega)]
  split
  · rename_i e;subst e;omega
  · omega
theorem al_le(hn:1≤n):∀ (k:Nat) {r:Int},AL n es d (r+k)→AL n es d r
  | 0,r,h=>by simpa using h
  | k+1,r,h=>al_le hn k (al_down hn (by rw [Int.add_assoc];exact_mod_cast h))
theorem yhD(hn:1≤n){r r':Int}(h:r≤r')(ha:AL n es d r'):AL n es d r:=by
  refine al_le hn (r'-r).toNat ?_
  rwa [show r+((r'-r).toNat:Int)=r' from by omega]
theorem RkOk.eq(hn:1≤n){k k':Int}(h:RkOk n es d k)(h':RkOk n es d k'):k=k':=by
  rcases Int.lt_trichotomy k k' with q | q | q
  · exact absurd (yhD hn (by omega) h'.al) h.no
  · exact q
  · exact absurd (yhD hn (by omega) h.al) h'.no
theorem RkOk.ge(hn:1≤n){k r:Int}(h:RkOk n es d k):r≤k↔AL n es d r :=
  ⟨fun q=>yhD hn q h.al,fun q=>Int.not_lt.1 fun lt=>h.no (yhD hn (by omega) q)⟩
theorem sb_zero{v:Nat}(hv:v<n):gi (sb n d (List.replicate n 0)) v=gi d v:=by rw [ygA hv,yhs hv];omega
theorem yk5:AL n es d 0↔Win n es d:=by
  constructor
  · intro h;exact yhY (fun v hv=>by rw [sb_zero hv];exact Int.le_refl _) (h _ (yfe n))
  · intro h e he
    refine yhY (fun v hv=>?_) h
    have h1:=he.pos v hv
    have h2:=he.le hv
    rw [ygA hv];omega
theorem rk_lose(h:¬Win n es d):RkOk n es d (-1):=⟨by omega,al_neg (by omega),fun q=>h (yk5.1 q)⟩
theorem RkOk.win(hn:1≤n){k:Int}(h:RkOk n es d k):0≤k↔Win n es d:=(h.ge hn).trans yk5
theorem RkOk.top(hn:1≤n)(hd:d.length=n){k:Int}(h:RkOk n es d k)(hw:Win n es d):k≤dg d:=by
  have h0:=(h.win hn).2 hw
  have h1:=win_dg (ygG n d _) (h.al _ (ykY hn h0))
  rw [ylg hd (ykY hn h0).len,(ykY hn h0).deg] at h1
  omega
theorem al_eqv{x y:List Int}{s:Nat→Int}(h:∀ v,v<n→gi y v=gi x v-Lp n es s v){r:Int} : AL n es x r↔AL n es y r:=by
  have key:∀ e,Win n es (sb n x e)↔Win n es (sb n y e):=fun e=>win_eqv (s:=s) fun v hv=>by rw [ygA hv,ygA hv,h v hv];omega
  exact ⟨fun q e he=>(key e).1 (q e he),fun q e he=>(key e).2 (q e he)⟩
theorem rk_eqv{x y:List Int}{s:Nat→Int}(h:∀ v,v<n→gi y v=gi x v-Lp n es s v){k:Int} : RkOk n es x k↔RkOk n es y k :=
  ⟨fun q=>⟨q.lo,(al_eqv h).1 q.al,fun a=>q.no ((al_eqv h).2 a)⟩,fun q=>⟨q.lo,(al_eqv h).2 q.al,fun a=>q.no ((al_eqv h).1 a)⟩⟩
theorem rk_big(hg:yav n es=0)(hC:∀ q,q<n→Conn n es q)(h1:1≤n)(hn:n≤12)(hd:d.length=n)(hdb:∀ v,v<n → -200≤gi d v∧gi d v≤200)(hdg:dg d≤200)(ht:tot n es≤18)(h:2*(yc9 es+1-n)-2<dg d) :
    RkOk n es d (dg d-(yc9 es+1-n)):=by
  have hE:=(ybW hg).1
  have hg0:0≤yc9 es+1-n:=by
    apply Classical.byContradiction
    intro q
    have hl:(yfw (List.replicate n (0:Int)) 0 (-1)).length=n:=by rw [yfa];simp
    have hdg1:dg (yfw (List.replicate n (0:Int)) 0 (-1)) = -1:=by rw [ykM (by simp;omega),(yfe n).deg];rfl
    have hw:=yk9 hg hC hn hl (fun v hv=>by
      rw [yd5 (by simp;omega),yhs hv,yhs (by omega)]
      split <;> omega) (by rw [hdg1];omega)
    have:=win_dg hl hw
    omega
  refine ⟨by omega,fun e he=>?_,fun hal=>?_⟩
  · refine yk9 hg hC hn (ygG n d e) (fun v hv=>?_) ?_
    · rw [ygA hv]
      have:=he.pos v hv
      have:=he.le hv
      have:=hdb v hv
      omega
    · rw [ylg hd he.len,he.deg];omega
  · have hnl:(nu n es).length=n:=yc6 _ n
    have h2:Win n es (sb n d (nu n es)):=by
      refine yk9 hg hC hn (ygG n d _) (fun v hv=>?_) ?_
      · rw [ygA hv]
        have:=nu_bound hE ht hv
        have:=hdb v hv
        omega
      · rw [ylg hd hnl,nu_dg hE];omega
    obtain ⟨s,hs⟩:=h2
    obtain ⟨e,he⟩:∃ e,e=tab (fun v=>gi (sb n d (nu n es)) v-Lp n es s v) n:=⟨_,rfl⟩
    have hge:∀ v,v<n→gi e v=gi (sb n d (nu n es)) v-Lp n es s v:=fun v hv=>by rw [he];exact ygt _ hv
    have hel:e.length=n:=by rw [he];exact yc6 _ n
    have heff:Eff n e (dg d-(yc9 es+1-n)+1):=⟨hel,fun v hv=>by rw [hge v hv];exact hs v hv,by
      rw [dg_lp hel (ygG n d _) hge,ylg hd hnl,nu_dg hE];omega⟩
    have h3:=hal e heff
    refine nu_lose hE h1 ((win_eqv (x:=nu n es) (y:=sb n d e) (s:=fun i=>(-1)*s i) fun v hv=>?_).2 h3)
    rw [yip,ygA hv,hge v hv,ygA hv]
    omega
theorem rk_step(hn:1≤n)(hd:d.length=n)(hw:Win n es d){k:Nat→Int}(hk:∀ v,v<n→RkOk n es (yfw d v (-1)) (k v)){m:Int}(h1:∀ v,v<n→m≤k v+1)(h2:∃ v,v<n∧m=k v+1):RkOk n es d m:=by
  obtain ⟨v,hv,hm⟩:=h2
  refine ⟨by have:=(hk v hv).lo;omega,fun e he=>?_,fun q=>?_⟩
  · by_cases e0:m=0
    · subst e0;exact yk5.2 hw e he
    · have hpos:∃ u,u<n∧1≤gi e u:=by
        apply Classical.byContradiction
        intro q
        have:dg e≤0:=by
          rw [dg_n he.len,←ybJ n]
          exact ydh fun u hu=>Int.not_lt.1 fun lt=>q ⟨u,hu,lt⟩
        have:=he.nonneg
        have:=he.deg
        omega
      obtain ⟨u,hu,hu1⟩:=hpos
      have h3:=yhD hn (r:=m-1) (by have:=h1 u hu;omega) (hk u hu).al (yfw e u (-1)) (by have:=he.add hu (k := -1) (by omega);exact this)
      refine yhY (fun i hi=>?_) h3
      rw [ygA hi,ygA hi,yd5 (by rw [hd];exact hu),yd5 (by rw [he.len];exact hu)]
      split
      · rename_i e;subst e;omega
      · omega
  · refine (hk v hv).no fun e he=>?_
    have h3:=q (yfw e v 1) (by have:=he.add hv (k:=1) (by have:=he.pos v hv;omega);rwa [show k v+1+1=m+1 from by omega] at this)
    refine yhY (fun i hi=>?_) h3
    rw [ygA hi,ygA hi,yd5 (d:=e) (by rw [he.len];exact hv),yd5 (d:=d) (by rw [hd];exact hv)]
    split
    · rename_i e;subst e;omega
    · omega
end
end Go.Proofs.YtadpnlimiblniaaGreat

/- What the finder of ranks comes to. -/
namespace Go.Proofs.YtadpnlimiblniaaGreat
open Go Go.Proofs.Tryz
theorem yk0{n:Nat}{d:List Int}{R:Int→Int→Prop}(hn:1≤n∧n≤12)(hd:d.length=n)(hb:∀ j,j<n → -1000000≤gi d j∧gi d j≤1000000)(h:R (dg d) 0):ych d R:=by
  unfold ych
  refine p_chips_own (n:=n) (by simp) (by simp) (fun k hk=>?_) ⟨fun _=>?_,fun q=>absurd rfl q⟩
  · have e:k=0:=by simp at hk;omega
    subst e
    exact ⟨hd,yfE hd hn.1 hn.2 fun j hj=>by have:=hb j hj;show -1048576≤gi d j∧gi d j≤1048576;omega⟩
  refine ⟨fun m s v=>Cnt d.length (fun k=>s=sm k (gi d)) m v,Cnt.start rfl,?_⟩
  rintro m _ _ ⟨k,rfl,rfl,hk,rfl⟩
  simp only [Int.toNat_natCast]
  refine ⟨fun hlt=>⟨by omega,?_,?_⟩,fun hge=>?_⟩
  · have h1:=yiV (f:=gi d) (B:=1000000) (by omega) (n:=k) (fun i hi=>hb i (by omega))
    have h2:=hb k (by omega)
    exact i64 (by omega)
  · exact Cnt.next (by omega) (by omega) rfl
  · have e:k=d.length:=by omega
    subst e;exact h
def errL(n:Int):List (List Int)→Int
  | []=>0
  | d::t=>if ybf d n=0 then errL n t else ybf d n
theorem gx_succ{d:List Int}{t:List (List Int)}{k:Nat} : gx (d::t) (k+1)=gx t k:=by simp [gx]
theorem gx_zero{d:List Int}{t:List (List Int)} : gx (d::t) 0=d:=by simp [gx]
theorem errL_zero{n:Int} : ∀ {l:List (List Int)},(∀ j,j<l.length→ybf (gx l j) n=0)→errL n l=0
  | [],_=>rfl
  | d::t,h=>by
    have h0:=h 0 (by simp)
    rw [gx_zero] at h0
    unfold errL
    rw [if_pos h0]
    exact errL_zero fun j hj=>by have:=h (j+1) (by simpa using hj);rwa [gx_succ] at this
theorem errL_at{n:Int} : ∀ {l:List (List Int)} {k:Nat},k<l.length→(∀ j,j<k→ybf (gx l j) n=0)→ybf (gx l k) n≠0→errL n l=ybf (gx l k) n
  | [],k,hk,_,_=>by simp at hk
  | d::t,0,hk,h,hn=>by
    rw [gx_zero] at hn ⊢
    unfold errL
    rw [if_neg hn]
  | d::t,k+1,hk,h,hn=>by
    have h0:=h 0 (by omega)
    rw [gx_zero] at h0
    rw [gx_succ] at hn ⊢
    unfold errL
    rw [if_pos h0]
    exact errL_at (by simpa using hk) (fun j hj=>by have:=h (j+1) (by omega);rwa [gx_succ] at this) hn
def givL(n:Int)(es:List E3)(l:List (List Int)):Int:=if yaS n es=0 then errL n l else yaS n es
theorem givL_one{n:Int}{es:List E3}{d:List Int} : givL n es [d]=ybo n es 0 d:=by
  rw [given0]
  unfold givL errL errL
  by_cases e:ybf d n=0 <;> simp [e]
theorem yiz{n:Int}{es:List E3}{l:List (List Int)}{R:Int→Prop}(hl:es.length≤1000)(hll:l.length≤1000)(h:R (givL n es l)):yc0 n es l R:=by
  unfold yc0
  refine ⟨by omega,fun hg=>⟨fun hc=>?_,fun hc=>?_⟩,fun hg=>?_⟩
  · have hj:yaS n es=0:=by
      have:=of_decide_eq_true hc
      unfold yaS;rw [if_pos this.1,if_pos this.2]
    have e:givL n es l=errL n l:=by unfold givL;rw [if_pos hj]
    rw [e] at h
    refine ⟨Cnt l.length (fun k=>∀ j,j<k→ybf (gx l j) n=0),Cnt.start (fun j hj=>absurd hj (by omega)),?_⟩
    rintro m _ ⟨k,rfl,rfl,hk,hinv⟩
    simp only [Int.toNat_natCast]
    refine ⟨fun hlt=>⟨by omega,yh3 ⟨fun h0=>Cnt.next (by omega) (by omega) fun j hj=>?_,fun hne=>?_⟩⟩,fun hge=>?_⟩
    · by_cases e:j=k
      · rw [e];exact h0
      · exact hinv j (by omega)
    · rw [errL_at (by omega) hinv hne] at h;exact h
    · have e:k=l.length:=by omega
      rw [errL_zero (by rw [←e];exact hinv)] at h;exact h
  · have hj:yaS n es=13:=by
      unfold yaS;rw [if_pos hg,if_neg]
      intro q;exact hc (decide_eq_true ⟨hg,q⟩)
    have e:givL n es l=13:=by unfold givL;rw [if_neg (by omega),hj]
    rw [e] at h;exact h
  · have hj:yaS n es=yav n es:=by unfold yaS;rw [if_neg hg]
    have e:givL n es l=yav n es:=by unfold givL;rw [if_neg (by omega),hj]
    rw [e] at h;exact h
def keyF(r:List Int):List Int:=cpy (List.replicate 12 (0:Int)) r
theorem yhp(r:List Int):(keyF r).length=12:=by unfold keyF;rw [cpy_length];simp
theorem gi_keyF{r:List Int}{i:Nat}(hi:i<12):gi (keyF r) i=if i<r.length then gi r i else 0:=by
  unfold keyF
  rw [gi_cpy (by simpa using hi),yhs hi]
theorem keyF_inj{n:Nat}{r r':List Int}(hn:n≤12)(h:r.length=n)(h':r'.length=n)(e:keyF r=keyF r'):r=r':=by
  refine ygi (by omega) fun k hk=>?_
  have h1:=gi_keyF (r:=r) (i:=k) (by omega)
  have h2:=gi_keyF (r:=r') (i:=k) (by omega)
  rw [if_pos (by omega)] at h1 h2
  rw [←h1,←h2,e]
structure MOk(n:Nat)(es:List E3)(m:List (List Int×Int)):Prop where
  keys:KOk 12 m
  vals:∀ p∈m,∃ r,p.1=keyF r∧Eff n r (dg r)∧dg r≤5∧RkOk n es r p.2
theorem MOk.nil(n:Nat)(es:List E3):MOk n es []:=⟨KOk.nil 12,fun p hp=>by simp at hp⟩
theorem keyF_ok{n:Nat}{r:List Int}(hr:Eff n r (dg r))(h5:dg r≤5):yia 12 (keyF r):=by
  refine ⟨yhp r,fun x hx=>?_⟩
  obtain ⟨i,hi,rfl⟩:=List.getElem_of_mem hx
  rw [yhp] at hi
  rw [←yaN (by rw [yhp];exact hi),gi_keyF hi]
  split
  · have hi2:i<n:=by rw [←hr.len];assumption
    have:=hr.pos i hi2
    have:=hr.le hi2
    exact i64 (by omega)
  · exact i64 (by omega)
theorem MOk.put{n:Nat}{es:List E3}{m:List (List Int×Int)}(h:MOk n es m){r:List Int}{v:Int}(hr:Eff n r (dg r))(h5:dg r≤5)(hk:RkOk n es r v):MOk n es (mput m (keyF r) v):=by
  have hK:=h.keys.put (keyF_ok hr h5) v
  refine ⟨hK,fun p hp=>?_⟩
  rcases mput_mem hp with e | e
  · obtain ⟨j,hj⟩:=List.mem_iff_getElem?.1 hp
    have h1:=mget_at hK.1 (k:=p.1) (v:=p.2) hj
    rw [e,yh0,if_pos rfl] at h1
    cases h1
    exact ⟨r,e,hr,h5,hk⟩
  · exact h.vals p e
theorem MOk.get{n:Nat}{es:List E3}{m:List (List Int×Int)}(h:MOk n es m)(hn:n≤12){r:List Int}{v:Int}(hr:r.length=n)(hg:mget m (keyF r)=some v):RkOk n es r v:=by
  obtain ⟨r',h1,h2,h3,h4⟩:=h.vals _ (yiR hg)
  have e:=keyF_inj hn hr h2.len h1
  subst e;exact h4
theorem nodup_le:∀ {l K:List (List Int)},l.Nodup→(∀ x∈l,x∈K)→l.length≤K.length
  | [],K,_,_=>Nat.zero_le _
  | a::t,K,h,hs=>by
    have h1:=List.nodup_cons.1 h
    have ha:a∈K:=hs a (by simp)
    have h2:=nodup_le (l:=t) (K:=K.erase a) h1.2 fun x hx=>(List.mem_erase_of_ne (by rintro rfl;exact h1.1 hx)).2 (hs x (by simp [hx]))
    rw [List.length_erase_of_mem ha] at h2
    have:0<K.length:=List.length_pos_of_mem ha
    simp only [List.length_cons]
    omega
theorem flat_le{f:Nat→List (List Int)}{B:Nat} : ∀ {l:List Nat},(∀ a∈l,(f a).length≤B)→(l.flatMap f).length≤l.length*B
  | [],_=>by simp
  | a::t,h=>by
    rw [List.flatMap_cons,List.length_append,List.length_cons,Nat.add_mul,Nat.one_mul]
    have:=h a (by simp)
    have:=flat_le (f:=f) (l:=t) fun b hb=>h b (by simp [hb])
    omega
theorem eff_list{n k:Nat}{e:List Int}(h:Eff (n+1) e (k:Int)):e∈ycp (n+1) k:=by
  refine (yed n k e).2 ⟨h.len,fun a ha=>?_,by rw [sum_dg,h.deg]⟩
  obtain ⟨i,hi,rfl⟩:=List.getElem_of_mem ha
  rw [←yaN hi]
  exact h.pos i (by rw [←h.len];exact hi)
theorem yku{n k:Nat}{e:List Int}(h:e∈ycp (n+1) k):Eff (n+1) e (k:Int):=by
  obtain ⟨h1,h2,h3⟩:=(yed n k e).1 h
  exact ⟨h1,fun v hv=>(dg_entry h2 (by omega)).1,by rw [←sum_dg,h3]⟩
theorem MOk.len{n:Nat}{es:List E3}{m:List (List Int×Int)}(h:MOk n es m)(h1:1≤n)(hn:n≤5):m.length≤7776:=by
  obtain ⟨n,rfl⟩:∃ k,n=k+1:=⟨n-1,by omega⟩
  have hN:(m.map (·.1)).Nodup:=by
    have:=h.keys.1
    unfold List.Nodup
    rw [List.pairwise_map]
    exact this
  have h2:=nodup_le (K:=(List.range 6).flatMap fun k=>(ycp (n+1) k).map keyF) hN fun x hx=>by
    obtain ⟨p,hp,rfl⟩:=List.mem_map.1 hx
    obtain ⟨r,e,hr,h5, -⟩:=h.vals p hp
    obtain ⟨k,hk⟩:∃ k:Nat,dg r=(k:Int):=⟨(dg r).toNat,by have:=hr.nonneg;omega⟩
    rw [hk] at hr
    rw [List.mem_flatMap]
    exact ⟨k,List.mem_range.2 (by omega),List.mem_map.2 ⟨r,eff_list hr,e.symm⟩⟩
  have h3:=flat_le (f:=fun k=>(ycp (n+1) k).map keyF) (B:=1296) (l:=List.range 6) fun k hk=>by
    rw [List.length_map]
    have h1:=yim n k
    have h2:(k+1)^n≤6^n:=Nat.pow_le_pow_left (by have:=List.mem_range.1 hk;omega) n
    have h3:6^n≤6^4:=Nat.pow_le_pow_right (by omega) (by omega)
    omega
  simp only [List.length_map,List.length_range] at h2 h3
  omega
structure GOk(n:Nat)(es:List E3):Prop where
  g:yav n es=0
  c:ydD n es=true
  el:es.length≤40
  n1:1≤n
  n5:n≤5
  su:(es.map (·.2.2)).sum≤9
section
variable {n : Nat} {es : List E3}
theorem GOk.E(G:GOk n es):EOk n es:=(ybW G.g).1
theorem GOk.C(G:GOk n es):∀ q,q<n→Conn n es q:=conn_all G.g G.c
theorem GOk.tot(G:GOk n es):tot n es≤18:=tot_few G.E G.n1 (by have:=G.n5;omega) G.su
theorem GOk.giv(G:GOk n es){d:List Int}(hd:d.length=n)(hb:∀ v,v<n → -1000000≤gi d v∧gi d v≤1000000):ybo n es 0 d=0:=by
  have:=G.n1
  have:=G.n5
  unfold ybo;rw [if_pos G.g,if_pos G.c,if_pos ⟨by omega,by omega⟩]
  exact yfE hd (by omega) (by omega) fun v hv=>by have:=hb v hv;omega
theorem GOk.small(G:GOk n es){d:List Int}(hb:∀ v,v<n → -200≤gi d v∧gi d v≤200):Small (n:Int) es d :=
  ⟨G.el,fun _=>⟨by have:=G.n5;omega,G.su⟩,fun _ v hv=>hb v (by omega)⟩
theorem set_back{r:List Int}{k:Nat}(hk:k<r.length):(r.set k (gi r k-1)).set k (gi (r.set k (gi r k-1)) k+1)=r:=by
  refine ygi (by simp) fun i hi=>?_
  rw [ycQ (by simpa using hk),ycQ hk,ycQ hk]
  split
  · rename_i e;subst e;simp
  · rfl
theorem RkOk.few(hn:1≤n){d:List Int}(hd:d.length=n){k:Int}(h:RkOk n es d k) : -1≤k∧(k = -1∨k≤dg d):=by
  refine ⟨h.lo,?_⟩
  by_cases hw:Win n es d
  · exact .inr (h.top hn hd hw)
  · exact .inl (h.eq hn (rk_lose hw))
theorem fr_find{Rec:Int→List (Int×Int×Int)→Int→List (List Int×Int)→List Int→(Int→Int→List (List Int×Int)→Prop)→Prop}(G:GOk n es){d:List Int}{m:List (List Int×Int)}{R:Int→Int→List (List Int×Int)→Prop}
    (hd:d.length=n) (hb:∀ v,v<n → -200≤gi d v∧gi d v≤200) (h5:dg d≤5) (hm:MOk n es m)
    (hrec:∀ (d':List Int) (m':List (List Int×Int)) (R':Int→Int→List (List Int×Int)→Prop),d'.length=n→(∀ v,v<n → -200≤gi d' v∧gi d' v≤200)→dg d'=dg d-1→0≤dg d→MOk n es m'→(∀ k m'',RkOk n es d' k→MOk n es m''→R' k 0 m'')→Rec n es (yc9 es+1-n) m' d' R')
    (h:∀ k m',RkOk n es d k→MOk n es m'→R k 0 m'):ya3 Rec n es (yc9 es+1-n) m d R:=by
  have hn1:=G.n1
  have hn5:=G.n5
  have hpm:0≤2*yc9 es∧2*yc9 es≤18:=by
    have h1:=yh1 G.E
    have h2:=G.tot
    have h3:0≤tot n es:=ya5 fun v _=>ya5 fun u _=>ya2 G.E v u
    omega
  have hdb : -1000≤dg d∧dg d≤5:=by
    have:=yiV (f:=gi d) (B:=200) (by omega) (n:=n) (fun i hi=>by have:=hb i hi;omega)
    rw [dg_n hd] at h5 ⊢
    omega
  unfold ya3
  refine yk0 ⟨hn1,by omega⟩ hd (fun j hj=>by have:=hb j hj;omega) ⟨fun _=>⟨fun hneg=>h _ _ (rk_lose fun q=>by have:=win_dg hd q;omega) hm,fun hnn=>⟨i64 (by omega),i64 (by omega),fun hbig=>⟨i64 (by omega),h _ _ (rk_big G.g G.C hn1 (by omega) hd hb (by omega) G.tot (by omega)) hm⟩,fun hsm=>?_⟩⟩,fun q=>absurd rfl q⟩
  refine yg7 (.inl (G.small hb)) (by omega) (fun q=>absurd (G.giv hd fun v hv=>by have:=hb v hv;omega) q) fun _ r s hr b hbw=>⟨fun _=>⟨fun hbt=>?_,fun hbf=>h _ _ (rk_lose fun q=>hbf (hbw.2 (by simpa using q))) hm⟩,fun q=>absurd rfl q⟩
  simp only [Int.toNat_natCast] at hr hbw
  have hw:=hbw.1 hbt
  have hrl:r.length=n:=hr.dl
  have hrq:0≤gi r 0:=(win_red G.E (by omega) hr.red hr.lp).1 hw
  have hrd:dg r=dg d:=dg_lp hrl hd hr.lp
  have heff:Eff n r (dg r):=⟨hrl,fun v hv=>by
    by_cases e:v=0
    · subst e;exact hrq
    · exact hr.pos v hv e,rfl⟩
  have hrw:Win n es r:=(win_eqv hr.lp).1 hw
  have hre:∀ v,v<n→0≤gi r v∧gi r v≤5:=fun v hv=>by have:=heff.pos v hv;have:=heff.le hv;omega
  have back:∀ {k:Int},RkOk n es r k→RkOk n es d k:=fun q=>(rk_eqv hr.lp).2 q
  refine ⟨by omega,hm.keys,keyF_ok heff (by omega),fun hsome=>?_,fun hnone=>⟨fun hfull=>absurd hfull (by have:=hm.len hn1 hn5;omega),fun _=>?_⟩⟩
  · obtain ⟨v,hv⟩:=Option.isSome_iff_exists.1 hsome
    rw [hv]
    exact h _ _ (back (hm.get (by omega) hrl hv)) hm
  refine ⟨fun c least i m' r'=>Cnt n (fun k=>MOk n es m'∧r'=r∧∃ κ:Nat→Int,(∀ u,u<k→RkOk n es (yfw r u (-1)) (κ u))∧(∀ u,u<k→least≤κ u+1)∧(least=dg d∨∃ u,u<k∧least=κ u+1)) c i,
    Cnt.start ⟨hm,rfl,fun _=>0,fun u hu=>absurd hu (by omega),fun u hu=>absurd hu (by omega), .inl rfl⟩,?_⟩
  rintro c least _ m' r' ⟨k,rfl,rfl,hk,hm',rfl,κ,hκ,hle,hat⟩
  simp only [Int.toNat_natCast]
  have hal:∀ u,(yfw r' u (-1)).length=n:=fun u=>by rw [yfa,hrl]
  have hadg:∀ u,u<n→dg (yfw r' u (-1))=dg d-1:=fun u hu=>by rw [ykM (by omega),hrd];omega
  have hse:∀ {x:Int},dg d=x→0≤x:=fun e=>by have:=heff.nonneg;omega
  refine ⟨fun hlt=>⟨by omega,i64 (by have:=hre k (by omega);omega),?_⟩,fun hge=>⟨hm'.keys,?_⟩⟩
  · refine hrec (yfw r' k (-1)) m' _ (hal k) (fun v hv=>?_) (hadg k (by omega)) (hse rfl) hm' fun j m'' hj hm''=>?_
    · rw [yd5 (by omega)]
      have:=hre v hv
      have:=hre k (by omega)
      split <;> omega
    · have hj2:=hj.few hn1 (hal k)
      rw [hadg k (by omega)] at hj2
      have hgk:=hre k (by omega)
      refine ⟨by rw [List.length_set];omega,?_,fun _=>⟨i64 (by omega),?_⟩,fun q=>absurd rfl q⟩
      · rw [ycQ (by omega),if_pos rfl]
        exact i64 (by omega)
      · refine Cnt.next (by omega) (by omega) ⟨hm'',set_back (by omega),fun u=>if u=k then j else κ u,fun u hu=>?_,fun u hu=>?_,?_⟩
        · show RkOk n es (yfw r' u (-1)) (if u=k then j else κ u)
          by_cases e:u=k
          · subst e;rw [if_pos rfl];exact hj
          · rw [if_neg e];exact hκ u (by omega)
        · show mnF least (j+1)≤(if u=k then j else κ u)+1
          rw [mnF_eq]
          by_cases e:u=k
          · rw [if_pos e];omega
          · rw [if_neg e];have:=hle u (by omega);omega
        · rw [mnF_eq]
          rcases Int.le_total least (j+1) with q | q
          · rw [Int.min_eq_left q]
            rcases hat with a | ⟨u,hu,a⟩
            · exact .inl a
            · refine .inr ⟨u,by omega,?_⟩
              show least=(if u=k then j else κ u)+1
              rw [if_neg (by omega)];exact a
          · rw [Int.min_eq_right q]
            refine .inr ⟨k,by omega,?_⟩
            show j+1=(if k=k then j else κ k)+1
            rw [if_pos rfl]
  · have e:k=n:=by omega
    subst e
    have hk0:=hκ 0 (by omega)
    have hst:RkOk k es r' least:=rk_step hn1 hrl hrw hκ hle (by
      rcases hat with a | a
      · refine ⟨0,by omega,?_⟩
        have h1:=hle 0 (by omega)
        have h2:=hk0.few hn1 (hal 0)
        rw [hadg 0 (by omega)] at h2
        have h3:=heff.nonneg
        omega
      · exact a)
    exact h _ _ (back hst) (hm'.put heff (by omega) hst)
theorem p_find2(G:GOk n es):∀ (fu:Nat) {d:List Int} {m:List (List Int×Int)} {R:Int→Int→List (List Int×Int)→Prop},dg d+1<fu → -1≤dg d→d.length=n→(∀ v,v<n → -200≤gi d v∧gi d v≤200)→dg d≤5→MOk n es m →
    (∀ k m',RkOk n es d k→MOk n es m'→R k 0 m')→ybe fu n es (yc9 es+1-n) m d R
  | 0,_,_,_,hf,h1,_,_,_,_,_=>by omega
  | fu+1,d,m,R,hf,h1,hd,hb,h5,hm,h=>by
    show ya3 (ybe fu) n es (yc9 es+1-n) m d R
    exact fr_find G hd hb h5 hm (fun d' m' R' hd' hb' hdg h0 hm' h'=>p_find2 G fu (by omega) (by omega) hd' hb' (by omega) hm' h') h
theorem p_find(G:GOk n es){d:List Int}{m:List (List Int×Int)}{R:Int→Int→List (List Int×Int)→Prop}(hd:d.length=n)(hb:∀ v,v<n → -200≤gi d v∧gi d v≤200)(h5:dg d≤5)(hm:MOk n es m)
    (h:∀ k m',RkOk n es d k→MOk n es m'→R k 0 m'):∃ fu,ycv fu n es (yc9 es+1-n) m d R:=by
  refine ⟨1,?_⟩
  show ya3 (fun a b c e f R'=>∃ fu,ybe fu a b c e f R') n es (yc9 es+1-n) m d R
  exact fr_find G hd hb h5 hm (fun d' m' R' hd' hb' hdg h0 hm' h'=>⟨8,p_find2 G 8 (by omega) (by omega) hd' hb' (by omega) hm' h'⟩) h
end
end Go.Proofs.YtadpnlimiblniaaGreat

/- What graph.Loopless and graph.Genus come to. -/
namespace Go.Proofs.YtadpnlimiblniaaGreat
open Go Go.Proofs.Tryz
def yfy(es:List E3):List E3:=es.filter fun x=>decide (x.1≠x.2.1)
theorem yjz{es:List E3}{k:Nat}(hk:k<es.length):yfy (es.take (k+1))=yfy (es.take k)++if (ge es k).1=(ge es k).2.1 then [] else [ge es k]:=by
  have e:es.take (k+1)=es.take k++[ge es k]:=by rw [List.take_add_one,List.getElem?_eq_getElem hk,yc4 hk];rfl
  unfold yfy
  rw [e,List.filter_append]
  congr 1
  by_cases q:(ge es k).1=(ge es k).2.1
  · rw [if_pos q];simp [q]
  · rw [if_neg q];simp [q]
theorem yla:∀ (es:List E3) (v u:Nat),W (yfy es) v u=W es v u
  | [],v,u=>rfl
  | x::es,v,u=>by
    unfold yfy
    rw [List.filter_cons,ygd]
    by_cases q:x.1=x.2.1
    · have:w1 x v u=0:=by unfold w1;rw [if_neg (fun h=>h.1 q)]
      rw [if_neg (by simpa using q),this]
      have:=yla es v u
      unfold yfy at this
      rw [this];omega
    · rw [if_pos (by simpa using q),ygd]
      have:=yla es v u
      unfold yfy at this
      rw [this]
theorem pcmp_le{a b c d:Int} : ydR a b c d≤0↔a<c∨(a=c∧b≤d):=by
  unfold ydR orF cmpF
  (repeat' split) <;> omega
theorem pcmp_trans{a b c d e f:Int}(h1:ydR a b c d≤0)(h2:ydR c d e f<0):ydR a b e f<0:=by
  have h1:=pcmp_le.1 h1
  have h2:=(yh6 _ _ _ _).1 h2
  exact (yh6 _ _ _ _).2 (by omega)
theorem yhm{n:Int}{p:E3→Bool} : ∀ (es:List E3) (a b a' b':Int),ydR a' b' a b≤0→gchk n a b es=0→gchk n a' b' (es.filter p)=0
  | [],a,b,a',b',_,_=>rfl
  | x::t,a,b,a',b',h,hg=>by
    unfold gchk at hg
    by_cases c1:(0≤x.1∧x.1<n)∧(0≤x.2.1∧x.2.1<n)∧1≤x.2.2∧x.2.2≤50
    · rw [if_pos c1] at hg
      by_cases c2:x.1≤x.2.1∧ydR a b x.1 x.2.1<0
      · rw [if_pos c2] at hg
        have h3:=pcmp_trans h c2.2
        rw [List.filter_cons]
        split
        · unfold gchk
          rw [if_pos c1,if_pos ⟨c2.1,h3⟩]
          exact yhm t _ _ _ _ (pcmp_le.2 (by omega)) hg
        · exact yhm t _ _ _ _ (by omega) hg
      · rw [if_neg c2] at hg;omega
    · rw [if_neg c1] at hg;omega
theorem yk7{n:Int}{es:List E3}(h:yav n es=0):yav n (yfy es)=0:=by
  unfold yav at h ⊢
  split
  · rename_i c
    rw [if_pos c] at h
    exact yhm es _ _ _ _ (by decide) h
  · rename_i c;rw [if_neg c] at h;exact h
theorem yiD{n:Nat}{es:List E3}{R:Int→List E3→Int→Prop}(hl:es.length≤1000)(hg:yav n es=0)(h:R n (yfy es) 0):ycn n es R:=by
  unfold ycn ydq
  refine ydK (by omega) ⟨fun _=>?_,fun q=>absurd hg q⟩
  refine ⟨fun m v out=>Cnt es.length (fun k=>out=yfy (es.take k)∧out.length≤k) m v,Cnt.start ⟨rfl,Nat.le_refl _⟩,?_⟩
  rintro m _ out ⟨k,rfl,rfl,hk,hout,hol⟩
  simp only [Int.toNat_natCast]
  refine ⟨fun hlt=>⟨by omega,fun q=>Cnt.next (by omega) (by omega) ⟨?_,by omega⟩,fun q=>⟨by omega,Cnt.next (by omega) (by omega) ⟨?_,by simpa using hol⟩⟩⟩,fun hge=>?_⟩
  · rw [yjz (by omega),if_pos q,List.append_nil];exact hout
  · rw [yjz (by omega),if_neg q,hout]
    have hx:=(ybW hg).1 _ (List.mem_of_getElem? (ydu (show k<es.length by omega)))
    have e:mnF (ge es k).2.2 50=(ge es k).2.2:=by rw [mnF_eq];omega
    rw [e]
  · have e:k=es.length:=by omega
    rw [e,List.take_length] at hout
    rw [hout];exact h
def sF:List E3→List E3
  | []=>[]
  | x::t=>List.replicate x.2.2.toNat (x.1,x.2.1,1)++sF t
theorem yjh:∀ (a b:List E3),sF (a++b)=sF a++sF b
  | [],b=>rfl
  | x::t,b=>by rw [List.cons_append,sF,sF,yjh t b,List.append_assoc]
theorem sF_take{es:List E3}{k:Nat}(hk:k<es.length):sF (es.take (k+1))=sF (es.take k)++List.replicate (ge es k).2.2.toNat ((ge es k).1,(ge es k).2.1,1):=by
  rw [List.take_add_one,List.getElem?_eq_getElem hk,←yc4 hk,yjh]
  simp [sF]
theorem sF_pre{es:List E3}{k:Nat}(hk:k<es.length){j:Nat}(hj:j≤(ge es k).2.2.toNat):sF (es.take k)++List.replicate j ((ge es k).1,(ge es k).2.1,1) <+: sF es:=by
  have h1:es=es.take (k+1)++es.drop (k+1):=(List.take_append_drop _ _).symm
  have h2:sF es=sF (es.take k)++List.replicate (ge es k).2.2.toNat ((ge es k).1,(ge es k).2.1,1)++sF (es.drop (k+1)):=by
    conv=>lhs;rw [h1]
    rw [yjh,sF_take hk]
  obtain ⟨i,hi⟩:∃ i,(ge es k).2.2.toNat=j+i:=⟨(ge es k).2.2.toNat-j,by omega⟩
  rw [h2,hi,←List.replicate_append_replicate]
  exact ⟨List.replicate i ((ge es k).1,(ge es k).2.1,1)++sF (es.drop (k+1)),by simp only [List.append_assoc]⟩
theorem sF_ok{n:Nat} : ∀ {es:List E3},EOk n es→EOk n (sF es)
  | [],_=>fun x hx=>by simp [sF] at hx
  | y::t,h=>fun x hx=>by
    rw [sF,List.mem_append] at hx
    rcases hx with q | q
    · have:=h y (by simp)
      have e:=(List.mem_replicate.1 q).2
      subst e
      simp only
      omega
    · exact sF_ok (fun z hz=>h z (by simp [hz])) x q
theorem W_rep(a b:Int)(l:List E3)(v u:Nat):∀ k:Nat,W (List.replicate k (a,b,1)++l) v u=(k:Int)*w1 (a,b,1) v u+W l v u
  | 0=>by simp
  | k+1=>by
    rw [List.replicate_succ,List.cons_append,ygd,W_rep a b l v u k,Int.natCast_add,Int.add_mul]
    omega
theorem W_sF{n:Nat}(v u:Nat):∀ {es:List E3},EOk n es→W (sF es) v u=W es v u
  | [],_=>rfl
  | x::t,h=>by
    have hx:=h x (by simp)
    rw [sF,W_rep,ygd,W_sF v u (fun z hz=>h z (by simp [hz]))]
    have:((x.2.2.toNat:Nat):Int)*w1 (x.1,x.2.1,1) v u=w1 x v u:=by
      unfold w1
      simp only
      split
      · omega
      · omega
    omega
theorem sF_len{n:Nat} : ∀ {es:List E3},EOk n es→((sF es).length:Int)=(es.map (·.2.2)).sum
  | [],_=>rfl
  | x::t,h=>by
    have hx:=h x (by simp)
    have:=sF_len (es:=t) fun z hz=>h z (by simp [hz])
    rw [sF,List.length_append,List.length_replicate,List.map_cons,List.sum_cons,←this]
    omega
theorem yk3:∀ (es:List E3),((yfy es).map (·.2.2)).sum=yc9 es
  | []=>rfl
  | x::t=>by
    have ih:=yk3 t
    unfold yfy yc9 at *
    rw [List.filter_cons,List.map_cons,List.sum_cons]
    by_cases q:x.1=x.2.1
    · rw [if_neg (by simpa using q),if_pos q,ih];omega
    · rw [if_pos (by simpa using q),if_neg q,List.map_cons,List.sum_cons,ih]
theorem sF_few{n:Nat} : ∀ {es:List E3},EOk n es→(sF es).length≤50*es.length
  | [],_=>Nat.le_refl _
  | x::t,h=>by
    have hx:=h x (by simp)
    have:=sF_few (es:=t) fun z hz=>h z (by simp [hz])
    rw [sF,List.length_append,List.length_replicate,List.length_cons]
    omega
def gmap(y:Int×Int×Int):E3:=(y.2.1,y.2.2,1)
theorem yd3{n:Nat}{es:List E3}(hE:EOk n es)(hl:es.length≤1000):ybk (n:Int) es (fun l=>l.map gmap <+: sF es) (fun l=>l.map gmap=sF es):=by
  unfold ybk
  refine ⟨fun m pre e2 v=>Cnt es.length (fun k=>pre.map gmap=sF (es.take k)∧0≤e2∧e2≤50*k) m v,Cnt.start ⟨rfl,by omega,by omega⟩,?_⟩
  rintro m pre e2 _ ⟨k,rfl,rfl,hk,hpre,he0,he1⟩
  simp only [Int.toNat_natCast]
  refine ⟨fun hlt=>⟨by omega,?_⟩,fun hge=>?_⟩
  · have hkl:k<es.length:=by omega
    have hx:=hE _ (List.mem_of_getElem? (ydu hkl))
    refine ⟨fun m pre e3 v=>Cnt (ge es k).2.2.toNat (fun j=>pre.map gmap=sF (es.take k)++List.replicate j ((ge es k).1,(ge es k).2.1,1)∧0≤e3∧e3≤50*k+j) m v,Cnt.start ⟨by simpa using hpre,he0,by omega⟩,?_⟩
    rintro m3 pre3 e3 _ ⟨j,rfl,rfl,hj,hp3,h30,h31⟩
    have hstep:∀ e:Int,(pre3++[(e,(ge es k).1,(ge es k).2.1)]).map gmap=sF (es.take k)++List.replicate (j+1) ((ge es k).1,(ge es k).2.1,1):=fun e=>by
      rw [List.map_append,hp3,List.replicate_succ',List.append_assoc];rfl
    refine ⟨fun h1=>⟨?_,⟨i64 (by omega),Cnt.next (by omega) (by omega) ⟨hstep e3,by omega,by omega⟩⟩,trivial⟩,fun h1=>Cnt.next (by omega) (by omega) ⟨?_,by omega,by omega⟩⟩
    · show (pre3++[(e3,(ge es k).1,(ge es k).2.1)]).map gmap <+: sF es
      rw [hstep];exact sF_pre hkl (by omega)
    · have e:j=(ge es k).2.2.toNat:=by omega
      rw [sF_take hkl,hp3,e]
  · have e:k=es.length:=by omega
    rw [e,List.take_length] at hpre
    exact hpre
def castF(F:List Nat):List Int:=F.map fun v:Nat=>(v:Int)
theorem gi_castF{F:List Nat}{v:Nat}(hv:v<F.length):gi (castF F) v=(gn F v:Int):=by
  unfold castF
  rw [yaN (by simpa using hv),ygZ hv];simp
theorem yhy{F:List Nat}(hF:ydb F){v:Nat}(hv:v<12){R:Int→Prop}(h:R (root F v)):ybp (castF F) (v:Int) R:=by
  unfold ybp
  refine ⟨fun m x=>∃ u:Nat,x=u∧m=u∧u<12∧root F u=root F v,⟨v,v,rfl,rfl,hv,rfl⟩,?_⟩
  rintro m _ ⟨u,rfl,hm,hu,hr⟩
  have hg:gi (castF F) u=(gn F u:Int):=gi_castF (by rw [hF.1];exact hu)
  have hle:=hF.2 u hu
  simp only [Int.toNat_natCast,hg]
  refine ⟨by omega,fun e=>?_,fun e=>⟨gn F u,by omega,gn F u,rfl,rfl,by omega,?_⟩⟩
  · rw [ycT (F:=F) (v:=u) (by omega)] at hr
    rw [hr];exact h
  · rw [←yfK hF hu (by omega)];exact hr
theorem yjr{F:List Nat}(hF:ydb F){a b:Nat}(ha:a<12)(hb:b<12)(hne:root F a≠root F b):∀ k,k≤12→yaH (ycV F a b) k+(if max (root F a) (root F b)<k then 1 else 0)=yaH F k
  | 0,_=>by simp [yaH]
  | k+1,hk=>by
    have ih:=yjr hF ha hb hne k (by omega)
    have hj:=yg4 hF ha hb k (by omega)
    have ra:=ygO hF ha
    have rb:=ygO hF hb
    rw [yaH,yaH]
    have hM:root F (max (root F a) (root F b))=max (root F a) (root F b):=by
      rcases Nat.le_total (root F a) (root F b) with q | q
      · rw [Nat.max_eq_right q];exact rb
      · rw [Nat.max_eq_left q];exact ra
    have hm:root F (min (root F a) (root F b))=min (root F a) (root F b):=by
      rcases Nat.le_total (root F a) (root F b) with q | q
      · rw [Nat.min_eq_left q];exact ra
      · rw [Nat.min_eq_right q];exact rb
    by_cases e1:k=max (root F a) (root F b)
    · have h1:root F k=k:=by rw [e1];exact hM
      rw [if_pos (h1.trans e1)] at hj
      rw [if_neg (by omega:¬root (ycV F a b) k=k),if_pos h1,if_pos (by omega)]
      rw [if_neg (by omega)] at ih
      omega
    · have h2:root (ycV F a b) k=k↔root F k=k:=by
        rw [hj]
        split
        · rename_i e2
          constructor
          · intro e3;rw [←e3] at e2;rw [hm] at e2;omega
          · intro e3;omega
        · exact Iff.rfl
      by_cases e3:root F k=k
      · rw [if_pos (h2.2 e3),if_pos e3]
        by_cases e4:max (root F a) (root F b)<k
        · rw [if_pos e4] at ih;rw [if_pos (by omega)];omega
        · rw [if_neg e4] at ih;rw [if_neg (by omega)];omega
      · rw [if_neg (fun q=>e3 (h2.1 q)),if_neg e3]
        by_cases e4:max (root F a) (root F b)<k
        · rw [if_pos e4] at ih;rw [if_pos (by omega)];omega
        · rw [if_neg e4] at ih;rw [if_neg (by omega)];omega
theorem yjP{F:List Nat}(hF:ydb F){a b:Nat}(ha:a<12)(hb:b<12)(he:root F a=root F b):∀ k,k≤12→yaH (ycV F a b) k=yaH F k
  | 0,_=>rfl
  | k+1,hk=>by
    have ih:=yjP hF ha hb he k (by omega)
    have hj:=yg4 hF ha hb k (by omega)
    rw [yaH,yaH,ih,hj,he]
    simp only [Nat.max_self,Nat.min_self]
    congr 2
    split
    · rename_i e;rw [e]
    · rfl
theorem yiw:∀ k,k≤12→yaH ydC k=k
  | 0,_=>rfl
  | k+1,hk=>by
    rw [yaH,yiw k (by omega),if_pos]
    exact ycT (by rw [ygZ (by simpa [ydC] using (by omega:k<12))];simp [ydC])
theorem joinedF_snoc(l:List E3)(x:E3):yaA (l++[x])=ycV (yaA l) x.1.toNat x.2.1.toNat:=by
  unfold yaA;rw [List.foldl_append];rfl
theorem castF_join{F:List Nat}{a b:Nat} : (castF F).set (mxF (root F a) (root F b)).toNat (mnF (root F a) (root F b))=castF (ycV F a b):=by
  unfold castF ycV
  rw [List.map_set,mxF_eq,mnF_eq]
  congr 1
  · omega
  · omega
theorem p_graph_Genus{n:Nat}{es:List E3}{R:Int→Int→Prop}(hl:es.length≤1000)(hg:yav n es=0)(hc:∀ q,q<n→Conn n es q)(h:R ((es.map (·.2.2)).sum+1-n) 0):ydl n es R:=by
  obtain ⟨hE,hn1,hn12⟩:=ybW hg
  unfold ydl
  refine ydK (by omega) ⟨fun _=>?_,fun q=>absurd hg q⟩
  refine ⟨fun m v f=>Cnt 12 (fun k=>f.length=12∧∀ i,i<k→gi f i=(i:Int)) m v,Cnt.start ⟨by simp,fun i hi=>absurd hi (by omega)⟩,?_⟩
  rintro m _ f ⟨k,rfl,rfl,hk,hfl,hf⟩
  simp only [Int.toNat_natCast]
  refine ⟨fun hlt=>⟨by omega,Cnt.next (by omega) (by omega) ⟨by simpa using hfl,fun i hi=>?_⟩⟩,fun hge=>?_⟩
  · rw [ycQ (by omega)]
    split
    · omega
    · exact hf i (by omega)
  have e12:k=12:=by omega
  subst e12
  have hf0:f=castF ydC:=ygi (by rw [hfl];rfl) fun i hi=>by
    rw [hf i (by omega),gi_castF (by show i<(List.range 12).length;simpa using (by omega:i<12)),ygZ (by simpa [ydC] using (by omega:i<12))]
    simp [ydC]
  show ∃ Pr Rr:List (Int×Int×Int)→Prop,_
  refine ⟨_,_,yd3 hE hl,fun pre f2 genus=>pre.map gmap <+: sF es∧f2=castF (yaA (pre.map gmap))∧genus+n-(yaH (yaA (pre.map gmap)) n:Int)=pre.length∧0≤genus∧genus≤pre.length,⟨List.nil_prefix,hf0,?_,by omega,by simp⟩,?_,?_⟩
  · show (0:Int)+n-(yaH ydC n:Int)=0
    rw [yiw n hn12];omega
  · rintro pre e a b f2 genus ⟨hp,rfl,hcount,h0,h1⟩ hPr
    have hPr:(pre++[(e,a,b)]).map gmap <+: sF es:=hPr
    have hE2:=sF_ok hE
    have hmem:(a,b,1)∈sF es:=hPr.subset (by simp [gmap])
    have hx:=hE2 _ hmem
    simp only at hx
    obtain ⟨a,rfl⟩:∃ k:Nat,a=(k:Int):=⟨a.toNat,by omega⟩
    obtain ⟨b,rfl⟩:∃ k:Nat,b=(k:Int):=⟨b.toNat,by omega⟩
    have hF:ydb (yaA (pre.map gmap)):=ycb _ fun x hx=>by
      have:=hE2 x (hp.subset hx)
      omega
    have hplen:pre.length≤50*es.length:=by
      have h2:=hp.length_le
      have h3:=sF_few hE
      rw [List.length_map] at h2
      omega
    have hsn:(pre++[(e,(a:Int),(b:Int))]).map gmap=pre.map gmap++[((a:Int),(b:Int),1)]:=by rw [List.map_append];rfl
    have hjs:yaA ((pre++[(e,(a:Int),(b:Int))]).map gmap)=ycV (yaA (pre.map gmap)) a b:=by rw [hsn,joinedF_snoc];simp
    have ra:=yd4 hF a (by omega)
    have rb:=yd4 hF b (by omega)
    have hrl:∀ v,v<n→root (yaA (pre.map gmap)) v<n:=fun v hv=>by have:=(yd4 hF v (by omega)).1;omega
    have hra:=hrl a (by omega)
    have hrb:=hrl b (by omega)
    refine yhy hF (by omega) (yhy hF (by omega) ?_)
    have hmx:0≤mxF (root (yaA (pre.map gmap)) a:Int) (root (yaA (pre.map gmap)) b)∧mxF (root (yaA (pre.map gmap)) a:Int) (root (yaA (pre.map gmap)) b)<12:=by rw [mxF_eq];omega
    refine ⟨fun g2=>g2=genus+if root (yaA (pre.map gmap)) a=root (yaA (pre.map gmap)) b then 1 else 0,fun g2 hg2=>⟨hmx,hPr,by rw [hjs];exact castF_join,?_,?_,?_⟩,fun q=>⟨i64 (by omega),by rw [if_pos (by omega)]⟩,fun q=>by rw [if_neg (by omega)];omega⟩
    · rw [hjs,hg2,List.length_append,List.length_singleton]
      by_cases q:root (yaA (pre.map gmap)) a=root (yaA (pre.map gmap)) b
      · rw [if_pos q,yjP hF (by omega) (by omega) q n hn12];omega
      · have:=yjr hF (by omega) (by omega) q n hn12
        rw [if_pos (by omega)] at this
        rw [if_neg q];omega
    · rw [hg2];split <;> omega
    · rw [hg2,List.length_append,List.length_singleton];split <;> omega
  · rintro ys f2 genus ⟨hp,rfl,hcount,h0,h1⟩ hR
    have hR:ys.map gmap=sF es:=hR
    have hE2:=sF_ok hE
    have hc2:ydD n (sF es)=true:=(yi7 hE2 hn1 hn12 (q:=0) (by omega)).2 fun S h0 h1=>by
      obtain ⟨v,u,a,b,c,d,e⟩:=hc 0 (by omega) S h0 h1
      exact ⟨v,u,a,b,c,d,by rw [W_sF v u hE];exact e⟩
    unfold ydD at hc2
    rw [beq_iff_eq,Int.toNat_natCast] at hc2
    rw [hR,hc2] at hcount
    have hlen:=sF_len hE
    rw [←hR,List.length_map] at hlen
    have e:genus=(es.map (·.2.2)).sum+1-n:=by omega
    rw [e];exact h
theorem p_rank_of{n:Nat}{es:List E3}{R0:Int→Prop}{R1:Int→List E3→Int→List (List Int×Int)→Int→Prop}(G:GOk n es)(h:R1 n es (yc9 es+1-n) [] 0):yfN n es R0 R1:=by
  have:=G.el
  unfold yfN
  refine yiD (by omega) G.g ⟨fun _=>?_,fun q=>absurd rfl q⟩
  refine p_graph_Genus (by have:=List.length_filter_le (fun x:E3=>decide (x.1≠x.2.1)) es;unfold yfy;omega) (yk7 G.g) (fun q hq S h0 h1=>?_) (by rw [yk3];exact h)
  obtain ⟨v,u,a,b,c,d,e⟩:=G.C q hq S h0 h1
  exact ⟨v,u,a,b,c,d,by rw [yla];exact e⟩
theorem ykT{n:Int}{es:List E3}{d:List Int}{R:Int→Int→Prop}(hl:es.length≤1000)(h0:ybo n es 0 d≠0→R 0 (ybo n es 0 d))(h1:ybo n es 0 d=0→GOk n.toNat es∧(∀ v,v<n.toNat → -200≤gi d v∧gi d v≤200)∧dg d≤5∧∀ k,RkOk n.toNat es d k→R k 0):yea n es d R:=by
  unfold yea
  refine yiz hl (by simp) ?_
  rw [givL_one]
  refine ⟨fun hg=>?_,fun hg=>h0 hg⟩
  obtain ⟨n,rfl⟩:∃ n':Nat,n=(n':Int):=⟨n.toNat,by have:=ygC hg;omega⟩
  obtain ⟨G,hb,h5,hk⟩:=h1 hg
  simp only [Int.toNat_natCast] at G hb h5 hk
  have hd:=(given_all (q:=0) hg).2.2.2.2.2.2.1
  exact p_rank_of G ⟨fun _=>p_find G hd hb h5 (MOk.nil n es) fun k m' hk' _=>hk k hk',fun q=>absurd rfl q⟩
end Go.Proofs.YtadpnlimiblniaaGreat

/- Scrambles, plainly: a divisor of rank 1 that is effective has as many chips as the order of a scramble. -/
namespace Go.Proofs.YtadpnlimiblniaaGreat
open Go Go.Proofs.Tryz
structure EggP(n:Nat)(es:List E3)(E:Nat→Bool):Prop where
  ne:∃ v,v<n∧E v=true
  con:∀ S:Nat→Bool,(∃ a,a<n∧E a=true∧S a=true)→(∃ b,b<n∧E b=true∧S b=false)→∃ v u,v<n∧u<n∧E v=true∧S v=true∧E u=true∧S u=false∧0<W es v u
def hitP(n:Nat)(E:Nat→Bool)(x:Nat→Int):Prop:=∃ v,v<n∧E v=true∧1≤x v
def cutW(n:Nat)(es:List E3)(U:Nat→Bool):Int:=sm n (fun v=>sm n fun u=>if U v && !U u then W es v u else 0)
def lvl(f:Nat→Int)(t:Int)(v:Nat):Bool:=decide (t≤f v)
def indB(U:Nat→Bool)(v:Nat):Int:=if U v then 1 else 0
def cutf(f:Nat→Int)(t:Int)(v:Nat):Int:=if t≤f v then f v-t else 0
section
variable {n : Nat} {es : List E3} (hE : EOk n es)
include hE
theorem Lp_in{U:Nat→Bool}{v:Nat}(hU:U v=true):0≤Lp n es (indB U) v:=by
  unfold Lp
  refine ya5 fun u hu=>Int.mul_nonneg (ya2 hE v u) ?_
  unfold indB;rw [if_pos hU];split <;> omega
theorem Lp_out{U:Nat→Bool}{v:Nat}(hU:U v=false):Lp n es (indB U) v≤0:=by
  unfold Lp
  have:sm n (fun u=>W es v u*(indB U v-indB U u))≤sm n (fun _=>0):=ydh fun u hu=>by
    have h1:=ya2 hE v u
    unfold indB;rw [hU,if_neg (by simp)]
    split
    · omega
    · omega
  rwa [ybJ] at this
theorem Lp_in_ge{U:Nat→Bool}{v u:Nat}(hu:u<n)(hU:U v=true)(hu2:U u=false):W es v u≤Lp n es (indB U) v:=by
  have h:=yik (n:=n) (f:=fun u=>W es v u*(indB U v-indB U u)) (fun u hu=>Int.mul_nonneg (ya2 hE v u) (by unfold indB;rw [if_pos hU];split <;> omega)) u hu
  have e:W es v u*(indB U v-indB U u)=W es v u:=by
    unfold indB;rw [if_pos hU,hu2,if_neg (by simp)];omega
  rw [←e];exact h
theorem Lp_out_le{U:Nat→Bool}{v u:Nat}(hu:u<n)(hU:U v=false)(hu2:U u=true):Lp n es (indB U) v ≤ - W es v u:=by
  have h:=yik (n:=n) (f:=fun u=>W es v u*(indB U u-indB U v)) (fun u hu=>Int.mul_nonneg (ya2 hE v u) (by unfold indB;rw [hU];simp only [Bool.false_eq_true,if_false];split <;> omega)) u hu
  have e:W es v u*(indB U u-indB U v)=W es v u:=by
    unfold indB;rw [hu2,hU];simp
  have e2:Lp n es (indB U) v = -1*sm n (fun u=>W es v u*(indB U u-indB U v)):=by
    unfold Lp
    rw [←yjS]
    refine yaw fun u hu=>?_
    rw [show indB U v-indB U u = -1*(indB U u-indB U v) by omega,Int.mul_left_comm]
  have h:W es v u*(indB U u-indB U v)≤sm n (fun u=>W es v u*(indB U u-indB U v)):=h
  omega
omit hE in
theorem cutf_step(f:Nat→Int)(t:Int)(v:Nat):cutf f (t-1) v=cutf f t v+indB (lvl f t) v:=by
  unfold cutf indB lvl
  by_cases h:t≤f v
  · rw [if_pos h,if_pos (by omega),if_pos (by simpa using h)];omega
  · rw [if_neg h,decide_eq_false h]
    simp only [Bool.false_eq_true,if_false]
    split <;> omega
theorem chain_eff{x:Nat→Int}{f:Nat→Int}(hx:∀ v,v<n→0≤x v)(hy:∀ v,v<n→0≤x v-Lp n es f v)(t:Int){v:Nat}(hv:v<n):0≤x v-Lp n es (cutf f t) v:=by
  by_cases h:t≤f v
  · have:Lp n es (cutf f t) v≤Lp n es f v:=by
      unfold Lp
      refine ydh fun u hu=>Int.mul_le_mul_of_nonneg_left ?_ (ya2 hE v u)
      unfold cutf;rw [if_pos h];split <;> omega
    have:=hy v hv;omega
  · have:Lp n es (cutf f t) v≤sm n (fun _=>0):=by
      unfold Lp
      refine ydh fun u hu=>?_
      have h1:=ya2 hE v u
      refine Int.mul_nonpos_of_nonneg_of_nonpos h1 ?_
      unfold cutf;rw [if_neg h];split <;> omega
    rw [ybJ] at this
    have:=hx v hv;omega
theorem egg_out{E U:Nat→Bool}(hEg:EggP n es E){x y:Nat→Int}(hy:∀ v,v<n→y v=x v-Lp n es (indB U) v)(hy0:∀ v,v<n→0≤y v)(h0:¬hitP n E x)(h1:hitP n E y):∀ v,v<n→E v=true→U v=false:=by
  have hx:∀ v,v<n→E v=true→x v≤0:=fun v hv he=>Int.not_lt.1 fun lt=>h0 ⟨v,hv,he,by omega⟩
  intro v hv he
  cases hU:U v
  · rfl
  · exfalso
    obtain ⟨b,hb,hbE,hb1⟩:=h1
    have hbU:U b=false:=by
      cases q:U b
      · rfl
      · have:=Lp_in (n:=n) hE q
        have:=hx b hb hbE;have:=hy b hb;omega
    obtain ⟨p,u,hp,hu,hpE,hpU,huE,huU,hW⟩:=hEg.con U ⟨v,hv,he,hU⟩ ⟨b,hb,hbE,hbU⟩
    have:=Lp_in_ge hE hu hpU huU
    have:=hx p hp hpE;have:=hy p hp;have:=hy0 p hp;omega
theorem egg_in{E U:Nat→Bool}(hEg:EggP n es E){x y:Nat→Int}(hy:∀ v,v<n→y v=x v-Lp n es (indB U) v)(hx0:∀ v,v<n→0≤x v)(h0:hitP n E x)(h1:¬hitP n E y):∀ v,v<n→E v=true→U v=true:=by
  have hyE:∀ v,v<n→E v=true→y v≤0:=fun v hv he=>Int.not_lt.1 fun lt=>h1 ⟨v,hv,he,by omega⟩
  intro v hv he
  cases hU:U v
  · exfalso
    obtain ⟨b,hb,hbE,hb1⟩:=h0
    have hbU:U b=true:=by
      cases q:U b
      · have:=Lp_out (n:=n) hE q
        have:=hyE b hb hbE;have:=hy b hb;omega
      · rfl
    obtain ⟨p,u,hp,hu,hpE,hpU,huE,huU,hW⟩:=hEg.con U ⟨b,hb,hbE,hbU⟩ ⟨v,hv,he,hU⟩
    have:=Lp_out_le hE hp huU hpU
    rw [ye0 es u p] at this
    have:=hyE u hu huE;have:=hy u hu;have:=hx0 u hu;omega
  · rfl
omit hE in
theorem cut_le{U:Nat→Bool}{x y:Nat→Int}(hy:∀ v,v<n→y v=x v-Lp n es (indB U) v)(hx0:∀ v,v<n→0≤x v)(hy0:∀ v,v<n→0≤y v):cutW n es U≤sm n x:=by
  have h1:cutW n es U=sm n (fun v=>if U v then Lp n es (indB U) v else 0):=by
    rw [Lp_cut (n:=n) (es:=es) U (indB U)]
    unfold cutW
    refine yaw fun v hv=>yaw fun u hu=>?_
    by_cases h:(U v && !U u)=true
    · rw [if_pos h,if_pos h]
      simp only [Bool.and_eq_true,Bool.not_eq_true'] at h
      unfold indB;rw [if_pos h.1,h.2,if_neg (by simp)];omega
    · rw [if_neg h,if_neg h]
  rw [h1]
  refine ydh fun v hv=>?_
  split
  · have:=hy v hv;have:=hy0 v hv;omega
  · exact hx0 v hv
omit hE in
theorem countP_lt{α:Type}{p p':α→Bool} : ∀ {l:List α},(∀ e∈l,p' e=true→p e=true)→(∃ e∈l,p e=true∧p' e=false)→l.countP p'<l.countP p:=by
  intro l
  induction l with
  | nil=>rintro _ ⟨e,he,_⟩;simp at he
  | cons a t ih =>
    intro h1 h2
    have hle:t.countP p'≤t.countP p:=List.countP_mono_left fun e he=>h1 e (List.mem_cons_of_mem _ he)
    rw [List.countP_cons,List.countP_cons]
    obtain ⟨e,he,h3,h4⟩:=h2
    rcases List.mem_cons.1 he with rfl | he
    · rw [h3,h4];simp;omega
    · have:=ih (fun e he=>h1 e (List.mem_cons_of_mem _ he)) ⟨e,he,h3,h4⟩
      have:=h1 a (by simp)
      cases q:p' a
      · simp;split <;> omega
      · rw [this q];simp;omega
omit hE in
theorem first_step(p:Nat→Prop):∀ m:Nat,¬p 0→p m→∃ i,i<m∧(∀ j,j≤i→¬p j)∧p (i+1)
  | 0,h0,h1=>absurd h1 h0
  | m+1,h0,h1=>by
    by_cases q:∃ j,j≤m∧p j
    · obtain ⟨j,hj,hp⟩:=q
      have:=first_step p j h0 hp
      obtain ⟨i,hi,h2,h3⟩:=this
      exact ⟨i,by omega,h2,h3⟩
    · exact ⟨m,by omega,fun j hj hp=>q ⟨j,hj,hp⟩,h1⟩
  termination_by m=>m
omit hE in
theorem last_step(p:Nat→Prop):∀ m:Nat,p 0→¬p m→∃ i,i<m∧p i∧¬p (i+1)
  | 0,h0,h1=>absurd h0 h1
  | m+1,h0,h1=>by
    by_cases q:p m
    · exact ⟨m,by omega,q,h1⟩
    · obtain ⟨i,hi,h2⟩:=last_step p m h0 q
      exact ⟨i,by omega,h2⟩
end
theorem scr_main{n:Nat}{es:List E3}(hE:EOk n es){d:List Int}(hd:d.length=n)(h0:∀ v,v<n→0≤gi d v)(hal:AL n es d 1)(eggs:List (Nat→Bool))(hegg:∀ E∈eggs,EggP n es E) :
    (∃ x:Nat→Int,(∀ v,v<n→0≤x v)∧sm n x=dg d∧∀ E∈eggs,hitP n E x) ∨
    (∃ U:Nat→Bool,(∃ E∈eggs,∀ v,v<n→E v=true→U v=true)∧(∃ E∈eggs,∀ v,v<n→E v=true→U v=false)∧cutW n es U≤dg d):=by
  have main:∀ (m:Nat) (x s:Nat→Int),(∀ v,v<n→0≤x v)→(∀ v,v<n→x v=gi d v-Lp n es s v)→eggs.countP (fun E=>@decide (¬hitP n E x) (Classical.propDecidable _))≤m →
      (∃ x:Nat→Int,(∀ v,v<n→0≤x v)∧sm n x=dg d∧∀ E∈eggs,hitP n E x) ∨
      (∃ U:Nat→Bool,(∃ E∈eggs,∀ v,v<n→E v=true→U v=true)∧(∃ E∈eggs,∀ v,v<n→E v=true→U v=false)∧cutW n es U≤dg d):=by
    intro m
    induction m with
    | zero =>
      intro x s hx hs hm
      left
      refine ⟨x,hx,?_,fun E hEm=>?_⟩
      · rw [dg_n hd,yaw hs,yfB,yf8];omega
      · by_cases q:hitP n E x
        · exact q
        · have:0<eggs.countP (fun E=>@decide (¬hitP n E x) (Classical.propDecidable _)):=List.countP_pos_iff.2 ⟨E,hEm,@decide_eq_true _ (Classical.propDecidable _) q⟩
          omega
    | succ m ih =>
      intro x s hx hs hm
      have hdx:sm n x=dg d:=by rw [dg_n hd,yaw hs,yfB,yf8];omega
      by_cases q:∀ E∈eggs,hitP n E x
      · exact .inl ⟨x,hx,hdx,q⟩
      · obtain ⟨E,hEm,hEx⟩:∃ E∈eggs,¬hitP n E x:=Classical.byContradiction fun c=>q fun E hEm=>Classical.byContradiction fun c2=>c ⟨E,hEm,c2⟩
        obtain ⟨v,hv,hvE⟩:=(hegg E hEm).ne
        have hn:1≤n:=by omega
        obtain ⟨s2,hs2⟩:=hal _ ((yfe n).add (v:=v) hv (k:=1) (by have:=(yfe n).pos v hv;omega))
        have hy:∀ w,w<n→(if w=v then 1 else 0)≤gi d w-Lp n es s2 w:=fun w hw=>by
          have:=hs2 w hw
          rw [ygA hw,yd5 (by simpa using hv)] at this
          split at this
          · rename_i e;subst e;rw [yhs hw] at this;rw [if_pos rfl];omega
          · rename_i e;rw [if_neg e];rw [yhs hw] at this;omega
        -- the script from x to there, without negative numbers
        obtain ⟨w,hw,hmin⟩:=max_at (fun i => -1*(s2 i-s i)) n hn
        let f:Nat→Int:=fun i=>(s2 i+(-1)*s i)+(-1*(s2 w-s w))
        have hf0:∀ i,i<n→0≤f i:=fun i hi=>by
          have:=hmin i hi
          show 0≤(s2 i+(-1)*s i)+(-1*(s2 w-s w));omega
        have hfL:∀ i,x i-Lp n es f i=x i-(Lp n es s2 i-Lp n es s i):=fun i=>by
          show x i-Lp n es (fun i=>(s2 i+(-1)*s i)+(-1*(s2 w-s w))) i=_
          rw [ygJ (fun i=>s2 i+(-1)*s i) (fun _ => -1*(s2 w-s w)),yfl,ygJ s2 (fun i=>(-1)*s i),yip];omega
        have hfy:∀ i,i<n→x i-Lp n es f i=gi d i-Lp n es s2 i:=fun i hi=>by rw [hfL,hs i hi];omega
        obtain ⟨w2,hw2,hmax⟩:=max_at f n hn
        -- all steps
        let M:Nat:=(f w2).toNat+1
        let D:Nat→Nat→Int:=fun i u=>x u-Lp n es (cutf f ((M:Int)-i)) u
        let U:Nat→Nat→Bool:=fun i=>lvl f ((M:Int)-i)
        have hD0:∀ i u,u<n→0≤D i u:=fun i u hu=>chain_eff hE hx (fun u hu=>by rw [hfy u hu];have:=hy u hu;split at this <;> omega) _ hu
        have hDs:∀ i u,u<n→D (i+1) u=D i u-Lp n es (indB (U i)) u:=fun i u hu=>by
          show x u-Lp n es (cutf f ((M:Int)-((i+1:Nat):Int))) u=x u-Lp n es (cutf f ((M:Int)-i)) u-Lp n es (indB (lvl f ((M:Int)-i))) u
          have e:Lp n es (cutf f ((M:Int)-((i+1:Nat):Int))) u=Lp n es (fun v=>cutf f ((M:Int)-i) v+indB (lvl f ((M:Int)-i)) v) u:=yfZ (fun j hj=>by
            rw [show ((M:Int)-((i+1:Nat):Int))=((M:Int)-i)-1 by omega];exact cutf_step f _ j) hu
          rw [e,ygJ];omega
        have hDz:∀ u,u<n→D 0 u=x u:=fun u hu=>by
          show x u-Lp n es (cutf f ((M:Int)-(0:Nat))) u=x u
          have e:Lp n es (cutf f ((M:Int)-(0:Nat))) u=Lp n es (fun _=>0) u:=yfZ (fun j hj=>by
            have h1:=hmax j hj;have h2:=hf0 w2 hw2
            unfold cutf;rw [if_neg (by show ¬(((f w2).toNat+1:Nat):Int)-(0:Nat)≤f j;omega)]) hu
          rw [e,yfl];omega
        have hDm:∀ u,u<n→D M u=x u-Lp n es f u:=fun u hu=>by
          show x u-Lp n es (cutf f ((M:Int)-M)) u=_
          have e:Lp n es (cutf f ((M:Int)-M)) u=Lp n es f u:=yfZ (fun j hj=>by
            have:=hf0 j hj
            unfold cutf;rw [if_pos (by omega)];omega) hu
          rw [e]
        have hDd:∀ i,sm n (D i)=dg d:=fun i=>by
          rw [←hdx]
          show sm n (fun u=>x u-Lp n es (cutf f ((M:Int)-i)) u)=_
          rw [yfB,yf8];omega
        have hDe:∀ i,∃ s':Nat→Int,∀ u,u<n→D i u=gi d u-Lp n es s' u:=fun i=>⟨fun j=>s j+cutf f ((M:Int)-i) j,fun u hu=>by
          show x u-Lp n es (cutf f ((M:Int)-i)) u=_
          rw [ygJ,hs u hu];omega⟩
        obtain ⟨i,hi,hbef,haft⟩:=first_step (fun i=>hitP n E (D i)) M (fun ⟨u,hu,h1,h2⟩=>hEx ⟨u,hu,h1,by rw [hDz u hu] at h2;exact h2⟩) ⟨v,hv,hvE,by
          rw [hDm v hv,hfy v hv];have:=hy v hv;rwa [if_pos rfl] at this⟩
        have hout:=egg_out hE (hegg E hEm) (hDs i) (hD0 (i+1)) (hbef i (Nat.le_refl _)) haft
        by_cases q2:∀ E'∈eggs,hitP n E' x→hitP n E' (D (i+1))
        · obtain ⟨s',hs'⟩:=hDe (i+1)
          refine ih (D (i+1)) s' (hD0 (i+1)) hs' ?_
          have:=countP_lt (l:=eggs) (p:=fun E=>@decide (¬hitP n E x) (Classical.propDecidable _)) (p':=fun E=>@decide (¬hitP n E (D (i+1))) (Classical.propDecidable _))
            (fun e he h=>by
              have h:=@of_decide_eq_true _ (Classical.propDecidable _) h
              exact @decide_eq_true _ (Classical.propDecidable _) fun c=>h (q2 e he c))
            ⟨E,hEm,@decide_eq_true _ (Classical.propDecidable _) hEx,@decide_eq_false _ (Classical.propDecidable _) fun c=>c haft⟩
          omega
        · right
          obtain ⟨E',hE'm,hE'x,hE'y⟩:∃ E'∈eggs,hitP n E' x∧¬hitP n E' (D (i+1)):=Classical.byContradiction fun c=>q2 fun E' hm' hx'=>Classical.byContradiction fun c2=>c ⟨E',hm',hx',c2⟩
          obtain ⟨j,hj,hj1,hj2⟩:=last_step (fun j=>hitP n E' (D j)) (i+1) (by obtain ⟨u,hu,h1,h2⟩:=hE'x;exact ⟨u,hu,h1,by rw [hDz u hu];exact h2⟩) hE'y
          have hin:=egg_in hE (hegg E' hE'm) (hDs j) (hD0 j) hj1 hj2
          refine ⟨U i,⟨E',hE'm,fun u hu he=>?_⟩,⟨E,hEm,hout⟩,?_⟩
          · have:=hin u hu he
            have h1:((M:Int)-j)≤f u:=by simpa [U,lvl] using this
            show decide ((M:Int)-i≤f u)=true
            exact decide_eq_true (by omega)
          · have:=cut_le (hDs i) (hD0 i) (hD0 (i+1))
            rwa [hDd] at this
  refine main _ (gi d) (fun _=>0) h0 (fun v hv=>by rw [yfl];omega) (Nat.le_refl _)
end Go.Proofs.YtadpnlimiblniaaGreat

/- What chips.Next, rank.taken, rank.Witness and rank.AtLeast come to. -/
namespace Go.Proofs.YtadpnlimiblniaaGreat
open Go Go.Proofs.Tryz
theorem drop_zero{d:List Int}{k:Nat}(h:∀ i,k≤i→i<d.length→gi d i=0):(d.drop k).sum=0:=by
  rw [sum_dg]
  unfold dg
  rw [yaw (g:=fun _=>0) fun i hi=>?_]
  · exact ybJ _
  · rw [gi_drop]
    rw [List.length_drop] at hi
    exact h _ (by omega) (by omega)
theorem drop_one{d:List Int}{k:Nat}(hk:k<d.length)(h:∀ i,k<i→i<d.length→gi d i=0):(d.drop k).sum=gi d k:=by
  rw [List.drop_eq_getElem_cons hk,List.sum_cons,drop_zero (k:=k+1) fun i h1 h2=>h i (by omega) h2,yaN hk]
  omega
theorem p_chips_step{d:List Int}{R:Bool→List Int→Prop}(hl:d.length≤1000)(h0:1≤d.length)(hb:∀ j,j<d.length → -1000000≤gi d j∧gi d j≤1000000)(h1:∀ y,ygQ d=some y→R true y)(h2:ygQ d=none→R false d):ydF d R:=by
  unfold ydF
  refine ⟨i64 (by omega),fun m j=>∃ k:Nat,j=(k:Int)∧m=k∧k<d.length∧∀ i,k<i→i<d.length→gi d i=0,⟨d.length-1,d.length-1,by omega,rfl,by omega,fun i a b=>by omega⟩,?_⟩
  rintro m _ ⟨k,rfl,hm,hk,hz⟩
  simp only [Int.toNat_natCast]
  refine ⟨fun hpos=>⟨by omega,fun e=>⟨i64 (by omega),k-1,by omega,k-1,by omega,rfl,by omega,fun i a b=>?_⟩,fun e=>⟨fun q=>by omega,fun _=>?_⟩⟩,fun hneg=>⟨fun _=>h2 (yii d fun v hv=>drop_zero fun i a b=>hz i (by omega) b),fun q=>by omega⟩⟩
  · by_cases q:i=k
    · rw [q];exact e
    · exact hz i (by omega) b
  · obtain ⟨v,rfl⟩:∃ v,k=v+1:=⟨k-1,by omega⟩
    have e1:(((v+1:Nat):Int)-1).toNat=v:=by omega
    have e2:((d.length:Int)-1).toNat=d.length-1:=by omega
    have hgk:=hb (v+1) hk
    have hgv:=hb v (by omega)
    have hs:gi (d.set (v+1) 0) v=gi d v:=by rw [ycQ hk,if_neg (by omega)]
    rw [e1,e2,hs]
    refine ⟨i64 (by omega),i64 (by omega),by rw [List.length_set];omega,i64 (by omega),by rw [List.length_set,List.length_set];omega,?_⟩
    have hnx:=nextF_some d v (by omega) (by rw [drop_one hk hz];exact e) fun w hw hw2=>drop_zero fun i a b=>hz i (by omega) b
    rw [drop_one hk hz] at hnx
    have e3:((d.set (v+1) 0).set v (gi d v+1)).set (d.length-1) (gi d (v+1)-1)=d.take v++(gi d v+1)::ydX (d.length-v-1) (gi d (v+1)-1):=by
      refine ygi (by rw [List.length_set,List.length_set,List.length_set,next_length (by omega)]) fun i hi=>?_
      rw [List.length_set,List.length_set,List.length_set] at hi
      rw [gi_next (by omega) _ _ hi,ycQ (by rw [List.length_set,List.length_set];omega),ycQ (by rw [List.length_set];omega),ycQ hk]
      by_cases c1:i=d.length-1
      · rw [if_pos c1,if_neg (by omega),if_neg (by omega),if_pos (by omega)]
      · rw [if_neg c1]
        by_cases c2:i=v
        · rw [if_pos c2,if_neg (by omega),if_pos c2]
        · rw [if_neg c2]
          by_cases c3:i<v
          · rw [if_neg (by omega),if_pos c3]
          · rw [if_neg c3,if_neg c2,if_neg (show ¬i+1=d.length by omega)]
            split
            · rfl
            · exact hz i (by omega) hi
    rw [e3]
    exact h1 _ hnx
structure FailAt(n:Nat)(es:List E3)(d:List Int)(k:Nat)(w:List Int):Prop where
  at_:∃ A B,ycp n k=A++w::B∧∀ e∈A,Win n es (sb n d e)
  no:¬Win n es (sb n d w)
theorem first_eq{α:Type}{P:α→Prop} : ∀ {A B A' B':List α} {x x':α},A++x::B=A'++x'::B'→(∀ e∈A,P e)→(∀ e∈A',P e)→¬P x→¬P x'→x=x'
  | [],B,[],B',x,x',h,_,_,_,_=>by injection h
  | [],B,a::A',B',x,x',h,_,h',hx,_=>by injection h with e _;exact absurd (e▸h' a (by simp)) hx
  | a::A,B,[],B',x,x',h,h',_,_,hx=>by injection h with e _;exact absurd (e▸h' a (by simp)) hx
  | a::A,B,a'::A',B',x,x',h,h1,h2,hx,hx'=>by injection h with _ e;exact first_eq e (fun z hz=>h1 z (by simp [hz])) (fun z hz=>h2 z (by simp [hz])) hx hx'
theorem FailAt.eq{n k:Nat}{es:List E3}{d w w':List Int}(h:FailAt n es d k w)(h':FailAt n es d k w'):w=w':=by
  obtain ⟨A,B,e,hA⟩:=h.at_
  obtain ⟨A',B',e',hA'⟩:=h'.at_
  exact first_eq (P:=fun x=>Win n es (sb n d x)) (e.symm.trans e') hA hA' h.no h'.no
theorem FailAt.mem{n k:Nat}{es:List E3}{d w:List Int}(h:FailAt (n+1) es d k w):Eff (n+1) w (k:Int):=by
  obtain ⟨A,B,e, -⟩:=h.at_
  exact yku (by rw [e];simp)
def WitOk(n:Nat)(es:List E3)(d w:List Int):Prop:=∃ k,RkOk n es d k∧FailAt n es d (k+1).toNat w
theorem WitOk.eq{n:Nat}(hn:1≤n){es:List E3}{d w w':List Int}(h:WitOk n es d w)(h':WitOk n es d w'):w=w':=by
  obtain ⟨k,h1,h2⟩:=h
  obtain ⟨k',h1',h2'⟩:=h'
  have e:=h1.eq hn h1'
  subst e
  exact h2.eq h2'
structure DOk(n:Nat)(es:List E3)(d:List Int):Prop where
  G:GOk n es
  b:∀ v,v<n → -150≤gi d v∧gi d v≤150
  d5:dg d≤5
theorem list_few{n k:Nat}(hn:n≤4)(hk:k≤6):(ycp (n+1) k).length≤2401:=by
  have h1:=yim n k
  have h2:(k+1)^n≤7^n:=Nat.pow_le_pow_left (by omega) n
  have h3:7^n≤7^4:=Nat.pow_le_pow_right (by omega) hn
  omega
theorem p_rank_AtLeast{n r:Int}{es:List E3}{d:List Int}{R:Bool→Int→Prop}(hl:es.length≤1000)(h0:ybo n es 0 d≠0→R false (ybo n es 0 d))(h1:ybo n es 0 d=0→r<0→R true 0)(h2:ybo n es 0 d=0→0≤r→DOk n.toNat es d∧∀ k,RkOk n.toNat es d k→R (decide (r≤k)) 0):ycl n es d r R:=by
  unfold ycl
  refine yiz hl (by simp) ?_
  rw [givL_one]
  refine ⟨ybo n es 0 d=0∧0≤r,fun ⟨hg,hr⟩=>?_,fun hg=>⟨fun hr=>?_,fun hr=>⟨hg,by omega⟩⟩,fun hg=>?_⟩
  · obtain ⟨hD,hk⟩:=h2 hg hr
    exact ykT hl (fun q=>absurd hg q) fun _=>⟨hD.G,fun v hv=>by have:=hD.b v hv;omega,hD.d5,fun k hk'=>⟨fun _=>hk k hk',fun q=>absurd rfl q⟩⟩
  · rw [hg,decide_eq_true rfl];exact h1 hg hr
  · rw [decide_eq_false hg];exact h0 hg
end Go.Proofs.YtadpnlimiblniaaGreat

/- What the reference of ranks comes to. -/
namespace Go.Proofs.YtadpnlimiblniaaGreat
open Go Go.Proofs.Tryz
section
variable {N : Nat} {es : List E3} {d : List Int}
end
structure FewOk(n:Int)(es:List E3)(d:List Int)(most:Int):Prop where
  s:yi8 n es 5 7=true
  l:d.length≤100
  g:ybo n es 0 d=0→lowF n d=true∧dg d≤most
theorem FewOk.el{n:Int}{es:List E3}{d:List Int}{most:Int}(h:FewOk n es d most):es.length≤40:=(of_decide_eq_true h.s).1
theorem gok_of{n:Int}{es:List E3}(hs:yi8 n es 5 7=true)(hg:yav n es=0)(hc:ydD n es=true):GOk n.toNat es:=by
  obtain ⟨h1,h2⟩:=of_decide_eq_true hs
  have h3:=h2 hg
  have hn : 1 ≤ n ∧ n ≤ 12 := by unfold yav at hg; split at hg; · assumption
                                 · omega
  have e:((n.toNat:Nat):Int)=n:=by omega
  exact ⟨by rw [e];exact hg,by rw [e];exact hc,h1,by omega,by omega,by omega⟩
end Go.Proofs.YtadpnlimiblniaaGreat

/- Riemann and Roch for graphs, plainly: orders, the canonical divisor, what is left of it. -/
namespace Go.Proofs.YtadpnlimiblniaaGreat
open Go Go.Proofs.Tryz
section
variable {n : Nat} {es : List E3} {d : List Int}
end
end Go.Proofs.YtadpnlimiblniaaGreat

/- The examples of the chapter on ranks come out right; what the law's small functions come to. -/
namespace Go.Proofs.YtadpnlimiblniaaGreat
open Go Go.Proofs.Tryz
def tri:List E3:=[(0,1,1),(0,2,1),(1,2,1)]
theorem tri_ok:GOk 3 tri:=⟨by decide,by decide,by decide,by decide,by decide,by decide⟩
end Go.Proofs.YtadpnlimiblniaaGreat

/- Four vertices and seven single edges: three chips are enough for the rank 1. Printed by tri4.py. -/
namespace Go.Proofs.YtadpnlimiblniaaGreat
open Go Go.Proofs.Tryz
end Go.Proofs.YtadpnlimiblniaaGreat
