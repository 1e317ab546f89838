/- Texts laid together: Sum, Result, Math, GoodL, GoodS, GoodT, Graph, Connect, Parts, Conn2, Con, Red, Reduce, Unb, Awake, Rm, Cnt, RedIn, Wr, Next, It, ItP, Det, Cram, Col. -/
import Derived.Maps.Own
import Derived.Maps.OwnOps
import Derived.Deep.AppendLies
import Derived.Deep.RegionLaw
import Derived.Deep.RegionHeld3
import Derived.Test.YtjepipbkiadcpaaGreatK2
set_option linter.unusedVariables false
set_option linter.unusedSimpArgs false
set_option linter.unusedSectionVars false
/- Sums, weights, the Laplacian, and what firing does to the chips. No program in sight. -/
namespace Go.Proofs.YtjepipbkiadcpaaGreat
open Go Go.Proofs.Tryz
def sm:Nat→(Nat→Int)→Int
  | 0,_=>0
  | n+1,f=>sm n f+f n
theorem yan{f g:Nat→Int} : ∀ {n:Nat},(∀ i,i<n→f i=g i)→sm n f=sm n g
  | 0,_=>rfl
  | n+1,h=>by rw [sm,sm,yan (fun i hi=>h i (by omega)),h n (by omega)]
theorem ybV:∀ n,sm n (fun _=>0)=0
  | 0=>rfl
  | n+1=>by rw [sm,ybV n];rfl
theorem yc5(f g:Nat→Int):∀ n,sm n (fun i=>f i+g i)=sm n f+sm n g
  | 0=>rfl
  | n+1=>by simp only [sm,yc5 f g n];omega
theorem ygB(f g:Nat→Int):∀ n,sm n (fun i=>f i-g i)=sm n f-sm n g
  | 0=>rfl
  | n+1=>by simp only [sm,ygB f g n];omega
theorem sm_mul(c:Int)(f:Nat→Int):∀ n,sm n (fun i=>c*f i)=c*sm n f
  | 0=>by simp [sm]
  | n+1=>by simp only [sm,sm_mul c f n,Int.mul_add]
theorem yeh{f g:Nat→Int} : ∀ {n:Nat},(∀ i,i<n→f i≤g i)→sm n f≤sm n g
  | 0,_=>Int.le_refl _
  | n+1,h=>by
    have h1:=yeh (fun i hi=>h i (by omega):∀ i,i<n→f i≤g i)
    have h2:=h n (by omega)
    rw [sm,sm];omega
theorem yaX{f:Nat→Int}{n:Nat}(h:∀ i,i<n→0≤f i):0≤sm n f:=by
  have:=yeh h
  rwa [ybV] at this
theorem yg8{f:Nat→Int} : ∀ {n:Nat},(∀ i,i<n→0≤f i)→∀ j,j<n→f j≤sm n f
  | n+1,h,j,hj=>by
    have h1:=yaX (fun i hi=>h i (by omega):∀ i,i<n→0≤f i)
    have h2:=h n (by omega)
    rw [sm]
    by_cases e:j=n
    · subst e;omega
    · have:=yg8 (fun i hi=>h i (by omega):∀ i,i<n→0≤f i) j (by omega);omega
theorem sm_swap(f:Nat→Nat→Int)(m:Nat):∀ n,sm n (fun i=>sm m (fun j=>f i j))=sm m (fun j=>sm n (fun i=>f i j))
  | 0=>by simp only [sm];rw [ybV]
  | n+1=>by
    simp only [sm]
    rw [sm_swap f m n,←yc5]
theorem yfu(c:Int):∀ {n j:Nat},j<n→sm n (fun i=>if i=j then c else 0)=c
  | n+1,j,h=>by
    rw [sm]
    by_cases e:j=n
    · subst e
      rw [if_pos rfl,yan (g:=fun _=>0) (fun i hi=>if_neg (by omega)),ybV];omega
    · rw [yfu c (by omega:j<n),if_neg (by omega)];omega
def addG(p:Int→Bool):List (Int×Int)→Int
  | []=>0
  | x::l=>(if p x.1 then x.2 else 0)+addG p l
theorem ygX(p:Int→Bool)(l:List (Int×Int)):addF p l=addG p l:=by
  suffices H:∀ (l:List (Int×Int)) (a:Int),l.foldl (fun n x=>if p x.1 then n+x.2 else n) a=a+addG p l by
    unfold addF;rw [H];omega
  intro l
  induction l with
  | nil=>intro a;simp [addG]
  | cons x l ih=>intro a;rw [List.foldl_cons,ih,addG];split <;> omega
theorem addG_sum{n:Nat}(p:Int→Bool):∀ (l:List (Int×Int)),(∀ x∈l,0≤x.1∧x.1<n)→addG p l=sm n (fun u=>if p (u:Int) then addG (fun x=>x==(u:Int)) l else 0)
  | [],_=>by
    rw [addG,yan (g:=fun _=>0) (fun i _=>by simp [addG]),ybV]
  | x::l,h=>by
    have hx:=h x (by simp)
    have ih:=addG_sum p l (fun y hy=>h y (by simp [hy]))
    have h1:sm n (fun u=>if p (u:Int) then addG (fun y=>y==(u:Int)) (x::l) else 0)=sm n (fun u=>(if u=x.1.toNat then (if p x.1 then x.2 else 0) else 0)+(if p (u:Int) then addG (fun y=>y==(u:Int)) l else 0)):=by
      refine yan (fun u hu=>?_)
      simp only [addG]
      by_cases e:u=x.1.toNat
      · have e2:x.1=(u:Int):=by omega
        rw [if_pos e,e2]
        simp only [beq_self_eq_true,if_true]
        split <;> omega
      · have e2:(x.1==(u:Int))=false:=by simp;omega
        rw [if_neg e]
        simp only [e2,Bool.false_eq_true,if_false]
        split <;> omega
    rw [h1,yc5,yfu _ (by omega),addG,ih]
def W(es:List E3)(v u:Nat):Int:=yaG es (v:Int) (fun x=>x==(u:Int))
def EOk(n:Nat)(es:List E3):Prop:=∀ x∈es,0≤x.1∧x.1<n∧0≤x.2.1∧x.2.1<n∧1≤x.2.2∧x.2.2≤50
theorem EOk.range{n:Nat}{es:List E3}(h:EOk n es):∀ x∈es,0≤x.1∧x.1<n∧0≤x.2.1∧x.2.1<n∧0≤x.2.2∧x.2.2≤50:=fun x hx=>by have:=h x hx;omega
theorem ydS{n:Nat}{es:List E3}(h:EOk n es)(v:Nat)(p:Int→Bool):yaG es (v:Int) p=sm n (fun u=>if p (u:Int) then W es v u else 0):=by
  have h1:∀ x∈ycr es (v:Int),0≤x.1∧x.1<n:=fun x hx=>by
    have:=yb4 h.range (v:=(v:Int)) (u:=x.1) (m:=x.2) hx;omega
  unfold yaG
  rw [ygX,addG_sum p _ h1]
  refine yan fun u _=>?_
  unfold W yaG
  rw [ygX]
def w1(x:E3)(v u:Nat):Int:=if x.1≠x.2.1∧((x.1=v∧x.2.1=u)∨(x.1=u∧x.2.1=v)) then x.2.2 else 0
theorem ye4(x:E3)(es:List E3)(v u:Nat):W (x::es) v u=w1 x v u+W es v u:=by
  unfold W yaG ycr w1
  rw [ygX,ygX,List.filterMap_cons]
  unfold link
  by_cases c:x.1≠x.2.1∧(x.1=v∨x.2.1=v)
  · rw [if_pos c]
    simp only [addG]
    by_cases e:x.1+x.2.1-v=u
    · rw [if_pos (by simpa using e),if_pos ⟨c.1,by omega⟩]
    · rw [if_neg (by simpa using e),if_neg (fun h=>by omega)]
  · simp only [if_neg c]
    rw [if_neg (fun h=>c ⟨h.1,by omega⟩)]
    omega
theorem W_nil(v u:Nat):W [] v u=0:=rfl
theorem w1_symm(x:E3)(v u:Nat):w1 x v u=w1 x u v:=by
  unfold w1
  by_cases c:x.1≠x.2.1∧((x.1=v∧x.2.1=u)∨(x.1=u∧x.2.1=v))
  · rw [if_pos c,if_pos ⟨c.1,by omega⟩]
  · rw [if_neg c,if_neg (fun h=>c ⟨h.1,by omega⟩)]
theorem ygU:∀ (es:List E3) (v u:Nat),W es v u=W es u v
  | [],v,u=>rfl
  | x::es,v,u=>by rw [ye4,ye4,w1_symm,ygU es v u]
theorem W_self:∀ (es:List E3) (v:Nat),W es v v=0
  | [],v=>rfl
  | x::es,v=>by
    rw [ye4,W_self es v]
    unfold w1
    rw [if_neg (fun h=>h.1 (by omega))];rfl
theorem ya5{n:Nat}{es:List E3}(h:EOk n es):∀ v u,0≤W es v u:=by
  induction es with
  | nil=>intro v u;rw [W_nil];omega
  | cons x es ih =>
    intro v u
    have h1:=ih (fun y hy=>h y (by simp [hy])) v u
    have h2:=h x (by simp)
    rw [ye4]
    unfold w1
    split <;> omega
theorem W_adj{n:Nat}{es:List E3}(h:EOk n es){v u:Nat} : 0<W es v u↔Adj es v u:=by
  induction es with
  | nil=>rw [W_nil];constructor;(intro h;omega);rintro ⟨m,hm⟩;exact absurd hm (by simp [ycr])
  | cons x es ih =>
    have h1:=ih (fun y hy=>h y (by simp [hy]))
    have h2:=h x (by simp)
    have h3:=ya5 (fun y hy=>h y (by simp [hy]):EOk n es) v u
    rw [ye4]
    have h4:Adj (x::es) v u↔(x.1≠x.2.1∧((x.1=v∧x.2.1=u)∨(x.1=u∧x.2.1=v)))∨Adj es v u:=by
      constructor
      · rintro ⟨m,hm⟩
        obtain ⟨y,hy,q1,q2,q3,q4⟩:=ybY.1 hm
        rcases List.mem_cons.1 hy with rfl | hy
        · exact .inl ⟨q1,by omega⟩
        · exact .inr ⟨m,ybY.2 ⟨y,hy,q1,q2,q3,q4⟩⟩
      · rintro (q | ⟨m,hm⟩)
        · exact ⟨x.2.2,ybY.2 ⟨x,by simp,q.1,by omega,by omega,rfl⟩⟩
        · obtain ⟨y,hy,q1,q2,q3,q4⟩:=ybY.1 hm
          exact ⟨m,ybY.2 ⟨y,by simp [hy],q1,q2,q3,q4⟩⟩
    rw [h4,←h1]
    unfold w1
    constructor
    · intro hh
      split at hh
      · rename_i c;exact .inl c
      · exact .inr (by omega)
    · rintro (c | c)
      · rw [if_pos c];omega
      · split <;> omega
def Lp(n:Nat)(es:List E3)(s:Nat→Int)(v:Nat):Int:=sm n (fun u=>W es v u*(s v-s u))
def deg(n:Nat)(es:List E3)(v:Nat):Int:=sm n (fun u=>W es v u)
theorem gi_pay{t:Int}{v:Nat}{x:Int×Int}{d:List Int}(hv:v<d.length)(hu:x.1.toNat<d.length)(hne:x.1.toNat≠v)(i:Nat) :
    gi (pay t v d x) i=gi d i-(if i=v then x.2*t else 0)+(if i=x.1.toNat then x.2*t else 0):=by
  unfold pay
  rw [ya7 (by simpa using hu),ya7 hv]
  by_cases e:i=x.1.toNat
  · subst e;rw [if_pos rfl,if_pos rfl,if_neg hne];rw [if_neg hne];omega
  · rw [if_neg e,if_neg e,ya7 hv];split <;> (try subst_vars) <;> omega
theorem gi_payAll{t:Int}{v n:Nat} : ∀ (l:List (Int×Int)) (d:List Int),d.length=n→v<n→(∀ x∈l,0≤x.1∧x.1<n∧x.1.toNat≠v)→∀ i,
    gi (yd7 t v l d) i=gi d i-(if i=v then t*addG (fun _=>true) l else 0)+t*addG (fun y=>y==(i:Int)) l
  | [],d,_,_,_,i=>by simp [yd7,addG]
  | x::l,d,hd,hv,h,i=>by
    have hx:=h x (by simp)
    have h1:=gi_payAll (t:=t) (v:=v) l (pay t v d x) (by simp [pay,hd]) hv (fun y hy=>h y (by simp [hy])) i
    have h2:yd7 t v (x::l) d=yd7 t v l (pay t v d x):=rfl
    rw [h2,h1,gi_pay (by omega) (by omega) hx.2.2]
    simp only [addG,if_true]
    have hb:(x.1==(i:Int))=decide (i=x.1.toNat):=by
      rw [Bool.eq_iff_iff];simp;omega
    simp only [hb,decide_eq_true_eq]
    have e1:t*(x.2+addG (fun _=>true) l)=x.2*t+t*addG (fun _=>true) l:=by rw [Int.mul_add,Int.mul_comm t x.2]
    have e2:∀ a:Int,t*(x.2+a)=x.2*t+t*a:=fun a=>by rw [Int.mul_add,Int.mul_comm t x.2]
    by_cases c1:i=v <;> by_cases c2:i=x.1.toNat <;> simp only [c1,c2,if_true,if_false,e2,Int.zero_add] <;> (try split) <;> (try split) <;> (try simp only [e2,Int.zero_add]) <;> omega
def ind(inn:List Bool)(v:Nat):Int:=if gb inn v then 1 else 0
theorem links_ok{n:Nat}{es:List E3}(h:EOk n es)(v:Nat):∀ x∈ycr es (v:Int),0≤x.1∧x.1<n∧x.1.toNat≠v:=fun x hx=>by
  have h1:=yb4 h.range (v:=(v:Int)) (u:=x.1) (m:=x.2) hx
  obtain ⟨y,hy,q1,q2,q3,q4⟩:=(ybY (u:=x.1) (m:=x.2)).1 hx
  omega
theorem addG_true{n:Nat}{es:List E3}(h:EOk n es)(v:Nat):addG (fun _=>true) (ycr es (v:Int))=deg n es v:=by
  have:=ydS h v (fun _=>true)
  unfold yaG at this
  rw [ygX] at this
  rw [this]
  exact yan fun u _=>by simp
theorem gi_fireD{n:Nat}{es:List E3}(h:EOk n es)(inn:List Bool)(t:Int)(d:List Int)(hd:d.length=n):∀ k,k≤n→∀ i,i<n →
    gi (ycA es inn t d k) i=gi d i-t*(if i<k then ind inn i*deg n es i else 0)+t*sm k (fun j=>ind inn j*W es j i)
  | 0,_,i,_=>by simp [ycA,sm]
  | k+1,hk,i,hi=>by
    have ih:=gi_fireD h inn t d hd k (by omega) i hi
    rw [ycA,sm]
    by_cases hb:gb inn k=true
    · rw [if_pos hb,gi_payAll (n:=n) _ _ (by rw [ybM];exact hd) (by omega) (links_ok h k),ih,addG_true h]
      have hW:addG (fun y=>y==(i:Int)) (ycr es (k:Int))=W es k i:=by unfold W yaG;rw [ygX]
      rw [hW]
      have hind:ind inn k=1:=by simp [ind,hb]
      rw [hind]
      by_cases c1:i=k
      · subst c1
        rw [if_neg (by omega),if_pos rfl,if_pos (by omega),hind]
        simp only [Int.mul_add,Int.one_mul,Int.mul_zero];omega
      · rw [if_neg c1]
        by_cases c2:i<k
        · rw [if_pos c2,if_pos (by omega)];simp only [Int.mul_add,Int.one_mul];omega
        · rw [if_neg c2,if_neg (by omega)];simp only [Int.mul_add,Int.one_mul];omega
    · rw [if_neg hb,ih]
      have hind:ind inn k=0:=by simp [ind,hb]
      rw [hind]
      by_cases c1:i=k
      · subst c1
        rw [if_neg (by omega),if_pos (by omega),hind]
        simp
      · by_cases c2:i<k
        · rw [if_pos c2,if_pos (by omega)];simp
        · rw [if_neg c2,if_neg (by omega)];simp
theorem Lp_ind{n:Nat}{es:List E3}(s:Nat→Int)(v:Nat):Lp n es s v=s v*deg n es v-sm n (fun u=>s u*W es u v):=by
  unfold Lp deg
  rw [←sm_mul,←ygB]
  refine yan fun u _=>?_
  rw [Int.mul_sub,Int.mul_comm (W es v u) (s v),ygU es v u,Int.mul_comm (W es u v) (s u)]
theorem fire_lp{n:Nat}{es:List E3}(h:EOk n es)(inn:List Bool)(t:Int)(d:List Int)(hd:d.length=n){i:Nat}(hi:i<n):gi (ycA es inn t d n) i=gi d i-t*Lp n es (ind inn) i:=by
  rw [gi_fireD h inn t d hd n (Nat.le_refl _) i hi,if_pos hi,Lp_ind,Int.mul_sub];omega
theorem ygc{n:Nat}{es:List E3}(a b:Nat→Int)(v:Nat):Lp n es (fun i=>a i+b i) v=Lp n es a v+Lp n es b v:=by
  unfold Lp
  rw [←yc5]
  exact yan fun u _=>by rw [←Int.mul_add];congr 1;show a v+b v-(a u+b u)=_;omega
theorem ygG{n:Nat}{es:List E3}(c:Int)(a:Nat→Int)(v:Nat):Lp n es (fun i=>c*a i) v=c*Lp n es a v:=by
  unfold Lp
  rw [←sm_mul]
  exact yan fun u _=>by rw [←Int.mul_sub,Int.mul_left_comm]
theorem yeA{n:Nat}{es:List E3}(c:Int)(v:Nat):Lp n es (fun _=>c) v=0:=by
  unfold Lp
  rw [yan (g:=fun _=>0) (fun u _=>by simp),ybV]
theorem yeC{n:Nat}{es:List E3}{a b:Nat→Int}(h:∀ i,i<n→a i=b i){v:Nat}(hv:v<n):Lp n es a v=Lp n es b v:=by
  unfold Lp
  exact yan fun u hu=>by rw [h v hv,h u hu]
theorem Lp_cut{n:Nat}{es:List E3}(S:Nat→Bool)(s:Nat→Int):sm n (fun v=>if S v then Lp n es s v else 0)=sm n (fun v=>sm n (fun u=>if S v && !S u then W es v u*(s v-s u) else 0)):=by
  have h1:sm n (fun v=>if S v then Lp n es s v else 0)=sm n (fun v=>sm n (fun u=>(if S v && !S u then W es v u*(s v-s u) else 0)))+sm n (fun v=>sm n (fun u=>(if S v&&S u then W es v u*(s v-s u) else 0))):=by
    rw [←yc5]
    refine yan fun v _=>?_
    rw [←yc5]
    cases hv:S v with
    | false=>simp [ybV]
    | true =>
      simp only [if_true,Bool.true_and]
      unfold Lp
      refine yan fun u _=>?_
      cases S u <;> simp
  have h2:sm n (fun v=>sm n (fun u=>(if S v&&S u then W es v u*(s v-s u) else 0)))=0:=by
    have h3:sm n (fun v=>sm n (fun u=>(if S v&&S u then W es v u*(s v-s u) else 0))) = - sm n (fun v=>sm n (fun u=>(if S v&&S u then W es v u*(s v-s u) else 0))):=by
      conv=>lhs;rw [sm_swap]
      have:∀ m (f:Nat→Int), - sm m f=sm m (fun i => - f i):=fun m f=>by
        have:=sm_mul (-1) f m
        simp only [Int.neg_mul,Int.one_mul] at this
        exact this.symm
      rw [this]
      refine yan fun v _=>?_
      rw [this]
      refine yan fun u _=>?_
      cases S u <;> cases S v <;> simp
      rw [ygU es u v,←Int.mul_neg];congr 1;omega
    omega
  rw [h1,h2];omega
theorem ygK{n:Nat}{es:List E3}(s:Nat→Int):sm n (fun v=>Lp n es s v)=0:=by
  have:=Lp_cut (n:=n) (es:=es) (fun _=>true) s
  simp only [if_true,Bool.not_true,Bool.and_false,Bool.false_eq_true,if_false] at this
  rw [this,yan (g:=fun _=>0) (fun v _=>ybV n),ybV]
end Go.Proofs.YtjepipbkiadcpaaGreat

/- The contract of result: the script is laid so that q does not fire; numbers out of range are an error. -/
namespace Go.Proofs.YtjepipbkiadcpaaGreat
open Go Go.RowKit Go.Shelf Go.Proofs.Tryz
set_option maxRecDepth 100000
set_option maxHeartbeats 8000000
def yd3(s:List Int)(q:Nat):List Int:=s.map fun x=>x-gi s q
theorem yh6{s:List Int}{q j:Nat}(h:j<s.length):gi (yd3 s q) j=gi s j-gi s q:=by
  rw [ybk (by simpa [yd3] using h),ybk h]
  simp [yd3]
structure ResNil(A1:Option Addr)(l1 c1:Nat)(A2:Option Addr)(l2 c2:Nat):Prop where
  a1:A1=none
  l1:l1=0
  c1:c1=0
  a2:A2=none
  l2:l2=0
  c2:c2=0
structure ResOk(gd gs n cd cs:Nat)(d s:List Int)(A1:Option Addr)(l1 c1:Nat)(A2:Option Addr)(l2 c2:Nat)(w':World):Prop where
  a1:A1=some ⟨gd,0,none⟩
  l1:l1=n
  c1:c1=cd
  a2:A2=some ⟨gs,0,none⟩
  l2:l2=n
  c2:c2=cs
  row1:IRow w' gd 3 cd d
  row2:IRow w' gs 3 cs s
def ResPost(gd gs n cd cs q:Nat)(d s:List Int)(e:Int)(w:World)(A1:Option Addr)(l1 c1:Nat)(A2:Option Addr)(l2 c2:Nat)(er:Int)(w':World):Prop :=
  Keeps (fun j=>j=gs) w w'∧((e≠0∧er=e∧ResNil A1 l1 c1 A2 l2 c2)∨(e=0∧(ya6 d n≠0∨ya6 (yd3 s q) n≠0)∧er=11∧ResNil A1 l1 c1 A2 l2 c2) ∨
    (e=0∧ya6 d n=0∧ya6 (yd3 s q) n=0∧er=0∧ResOk gd gs n cd cs d (yd3 s q) A1 l1 c1 A2 l2 c2 w'))
theorem result_any(X gd gs n:Nat)(A:Option Addr)(es:List E3)(cap cd cs q:Nat)(d s:List Int)(e:Int)(w:World)(hS:ye7 w X gd gs n A es cap cd cs q d s e)(hq:q<n)(hn:n≤12)(hbs:e=0→Bnd 100000000000 s) :
    Calls Tryz.prog 69 #[.pointer (some ⟨X,0,none⟩)] w fun e' w'=>∃ A1 l1 c1 A2 l2 c2 er,e' = .returned (.tuple #[.slice A1 l1 c1, .slice A2 l2 c2, .int .i64 er])∧ResPost gd gs n cd cs q d s e w A1 l1 c1 A2 l2 c2 er w':=by
  refine yfc _ w (ResPost gd gs n cd cs q d s e w) ?_
  unfold ycx
  obtain ⟨hX,hd,hs,hne,hdl,hsl⟩:=hS
  have hXs:=hX.ne_ hs (by decide)
  refine ⟨e,hX.at_ 5 rfl,fun he=>?_,fun he=>⟨e,hX.drew.at_ 5 rfl,(Keeps.refl _ _).drew, .inl ⟨he,rfl,⟨rfl,rfl,rfl,rfl,rfl,rfl⟩⟩⟩⟩
  have hbs:=hbs he
  have ldq:=ild (Row.drew hs) (i:=(q:Int)) (by omega) (by omega)
  simp only [Int.toNat_natCast] at ldq
  refine ⟨_,_,_,hX.drew.at_ 4 rfl,_,hX.drew.at_ 2 rfl,ybr (by omega) (by omega),_,ldq,_,_,_,hX.drew.at_ 4 rfl,?_⟩
  refine ⟨fun m i w2=>∃ (k:Nat) (l:List Int),m=n-k∧k≤n∧i=(k:Int)∧l.length=n∧(∀ j,j<n→gi l j=if j<k then gi s j-gi s q else gi s j)∧IRow w2 gs 3 cs l∧Keeps (fun j=>j=gs) w w2,⟨n,0,s,rfl,by omega,rfl,hsl,fun j _=>by simp,Row.drew hs,(Keeps.refl _ _).drew⟩,?_⟩
  rintro m i w2 ⟨k,l,rfl,hk,rfl,hll,hlf,hs2,K2⟩
  have hX2:=K2.row hX hXs
  have hd2:IRow w2 gd 3 cd d:=K2.row hd hne
  refine ⟨fun hlt=>?_,fun hge=>?_⟩
  · have ldk:=ild hs2 (i:=(k:Int)) (by omega) (by omega)
    simp only [Int.toNat_natCast] at ldk
    have h1:=hlf k (by omega)
    rw [if_neg (by omega)] at h1
    have h2:=hbs k
    have h3:=hbs q
    refine ⟨_,_,_,hX2.at_ 4 rfl,ybr (by omega) (by omega),_,ldk,in64 (by omega),ybr (by omega) (by omega),iwr hs2 (by omega) (by omega),fun w3 e3=>⟨in64 (by omega),n-(k+1),by omega,k+1,l.set k (gi l k-gi s q),rfl,by omega,by omega,by simpa using hll,fun j hj=>?_,?_,?_⟩⟩
    · rw [ya7 (by omega)]
      split
      · rename_i e';subst e';rw [if_pos (by omega),h1]
      · rw [hlf j hj]
        by_cases h4:j<k
        · rw [if_pos h4,if_pos (by omega)]
        · rw [if_neg h4,if_neg (by omega)]
    · rw [e3];simpa using ist hs2 (k:Int) (gi l k-gi s q)
    · rw [e3];exact K2.set_ rfl _ _
  · obtain rfl:k=n:=by omega
    have hl:l=yd3 s q:=yfv (by rw [hll];simp [yd3,hsl]) (fun j hj=>by rw [hlf j (by omega),if_pos (by omega),yh6 (by omega)])
    subst hl
    refine ⟨fun w'=>w'=w2.drew∧ya6 d k=0∧ya6 (yd3 s q) k=0,?_,_,_,_,hX2.drew.at_ 3 rfl,_,by rw [ygC,ycB];exact Row.cell hX2.drew (i:=0) rfl,?_⟩
    · rintro w4 ⟨hw4,h1,h2⟩
      have hw4:=hw4.symm
      subst hw4
      exact ⟨_,_,_,hX2.drew.drew.at_ 3 rfl,_,_,_,hX2.drew.drew.at_ 4 rfl,K2.drew.drew, .inr (.inr ⟨he,h1,h2,rfl,⟨rfl,hdl,rfl,rfl,hsl,rfl,Row.drew (Row.drew hd2),Row.drew (Row.drew hs2)⟩⟩)⟩
    · have hc1:=yir (some ⟨gd,0,none⟩) d cd (k:Int) w2.drew (IRow.ints (Row.drew hd2)) (by omega)
      have hc2:=yir (some ⟨gs,0,none⟩) (yd3 s q) cs (k:Int) w2.drew (IRow.ints (Row.drew hs2)) (by omega)
      rw [show (yd3 s q).length=s.length by simp [yd3]] at hc2
      refine hc1.mono ?_
      rintro _ w5 ⟨rfl,h5⟩
      have h5:=h5.symm
      subst h5
      refine ⟨_,rfl,fun h0=>⟨_,_,_,hX2.drew.at_ 4 rfl,_,by rw [ygC,ycB];exact Row.cell hX2.drew (i:=0) rfl,hc2.mono ?_⟩,fun h0=>⟨K2.drew, .inr (.inl ⟨he, .inl h0,rfl,⟨rfl,rfl,rfl,rfl,rfl,rfl⟩⟩)⟩⟩
      rintro _ w6 ⟨rfl,h6⟩
      have h6:=h6.symm
      subst h6
      exact ⟨_,rfl,fun h1=>⟨rfl,h0,h1⟩,fun h1=>⟨K2.drew, .inr (.inl ⟨he, .inr h1,rfl,⟨rfl,rfl,rfl,rfl,rfl,rfl⟩⟩)⟩⟩
end Go.Proofs.YtjepipbkiadcpaaGreat

/- The plain laws behind lending: levels, cuts, bounds. No program in sight. -/
namespace Go.Proofs.YtjepipbkiadcpaaGreat
open Go Go.Proofs.Tryz
theorem fireE_ok{d s:List Int}(hd:∀ j, -2097152≤gi d j∧gi d j≤2097152)(hs:∀ j, -2097152≤gi s j∧gi s j≤2097152)(e:Int):∀ j,yg0 d s e j=e
  | 0=>rfl
  | j+1=>by
    rw [yg0,fireE_ok hd hs e j,if_neg]
    rintro ⟨h, -⟩
    have h1:=hd j
    have h2:=hs j
    unfold bigAt at h
    rw [decide_eq_true_eq] at h
    omega
theorem yhp{d:List Int}{n:Nat}(h:d.length=n){i:Nat}(hi:¬i<n):gi d i=0:=gi_ge (by omega)
theorem yiG{inn:List Bool}{t:Int}{s:List Int}{n:Nat}(hs:s.length=n){v:Nat}(hv:v<n):gi (ycL inn t s n) v=gi s v+t*ind inn v:=by
  rw [yhV inn t s n v (by omega)]
  unfold ind
  by_cases h:gb inn v=true
  · rw [if_pos ⟨hv,h⟩,if_pos h];omega
  · rw [if_neg (fun x=>h x.2),if_neg h];omega
theorem Lp_fireS{n:Nat}{es:List E3}{inn:List Bool}{t:Int}{s:List Int}(hs:s.length=n){v:Nat}(hv:v<n):Lp n es (gi (ycL inn t s n)) v=Lp n es (gi s) v+t*Lp n es (ind inn) v:=by
  rw [yeC (b:=fun i=>gi s i+t*ind inn i) (fun i hi=>yiG hs hi) hv,ygc,ygG]
theorem Lp_ind_in{n:Nat}{es:List E3}{inn:List Bool}{v:Nat}(hb:gb inn v=true):Lp n es (ind inn) v=sm n (fun u=>if gb inn u=true then 0 else W es v u):=by
  unfold Lp
  refine yan fun u _=>?_
  have:ind inn v=1:=by simp [ind,hb]
  rw [this]
  unfold ind
  split <;> simp
theorem yhf{n:Nat}{es:List E3}{inn:List Bool}{v:Nat}(hb:¬gb inn v=true):Lp n es (ind inn) v = - sm n (fun u=>if gb inn u=true then W es v u else 0):=by
  have e:∀ (f:Nat→Int), - sm n f=sm n (fun i => - f i):=fun f=>by
    have:=sm_mul (-1) f n
    simp only [Int.neg_mul,Int.one_mul] at this
    exact this.symm
  rw [e]
  unfold Lp
  refine yan fun u _=>?_
  have:ind inn v=0:=by simp [ind,hb]
  rw [this]
  unfold ind
  split <;> simp
def FF(n:Nat)(es:List E3)(o:List Int)(k:Int):Int:=sm n (fun v=>if k<gi o v then sm n (fun u=>if gi o u<gi o v then W es v u else 0) else 0)
def CC(n:Nat)(es:List E3)(o:List Int)(k:Int):Int:=sm n (fun v=>if gi o v=k then sm n (fun u=>if gi o u<k then W es v u else 0) else 0)
def tot(n:Nat)(es:List E3):Int:=sm n (fun v=>sm n (fun u=>W es v u))
theorem FF_step(n:Nat)(es:List E3)(o:List Int)(k:Int):FF n es o k=FF n es o (k+1)+CC n es o (k+1):=by
  unfold FF CC
  rw [←yc5]
  refine yan fun v _=>?_
  by_cases h:gi o v=k+1
  · rw [if_pos (by omega),if_neg (by omega),if_pos h,h];omega
  · by_cases h2:k<gi o v
    · rw [if_pos h2,if_pos (by omega),if_neg h];omega
    · rw [if_neg h2,if_neg (by omega),if_neg h];omega
section
variable {n : Nat} {es : List E3} (hE : EOk n es)
include hE
theorem CC_nonneg(o:List Int)(k:Int):0≤CC n es o k:=yaX fun v _=>by
  split
  · exact yaX fun u _=>by have:=ya5 hE v u;split <;> omega
  · omega
theorem FF_nonneg(o:List Int)(k:Int):0≤FF n es o k:=yaX fun v _=>by
  split
  · exact yaX fun u _=>by have:=ya5 hE v u;split <;> omega
  · omega
theorem FF_half(o:List Int)(k:Int):2*FF n es o k≤tot n es:=by
  have h1:FF n es o k≤sm n (fun v=>sm n (fun u=>if gi o u<gi o v then W es v u else 0)):=yeh fun v _=>by
    split
    · exact Int.le_refl _
    · exact yaX fun u _=>by have:=ya5 hE v u;split <;> omega
  have h2:sm n (fun v=>sm n (fun u=>if gi o u<gi o v then W es v u else 0))=sm n (fun v=>sm n (fun u=>if gi o v<gi o u then W es v u else 0)):=by
    rw [sm_swap]
    exact yan fun v _=>yan fun u _=>by rw [ygU es u v]
  have h3:sm n (fun v=>sm n (fun u=>if gi o u<gi o v then W es v u else 0))+sm n (fun v=>sm n (fun u=>if gi o v<gi o u then W es v u else 0))≤tot n es:=by
    unfold tot
    rw [←yc5]
    refine yeh fun v _=>?_
    rw [←yc5]
    refine yeh fun u _=>?_
    have:=ya5 hE v u
    split <;> split <;> omega
  omega
variable {q : Nat} {o : List Int} (hD : Dist n es q o) (hc : ∀ v, v < n → 0 ≤ gi o v)
include hD hc
theorem Dist.lip{v u:Nat}(hv:v<n)(hu:u<n)(h:W es v u≠0):gi o u≤gi o v+1:=by
  have h1:0<W es v u:=by have:=ya5 hE v u;omega
  exact (hD.step v hv (hc v hv) u ((W_adj hE).1 h1)).2
theorem near_in{k:Int}{v:Nat}(hv:v<n)(hk:gi o v<k):0≤Lp n es (ind (yaM o k)) v∧Lp n es (ind (yaM o k)) v≤CC n es o k:=by
  have hol:=hD.len
  rw [Lp_ind_in (by rw [yfg (by omega)];simpa using hk)]
  constructor
  · exact yaX fun u _=>by have:=ya5 hE v u;split <;> omega
  · refine yeh fun u hu=>?_
    rw [yfg (by omega)]
    by_cases h:gi o u=k
    · rw [if_neg (by simp;omega),if_pos h]
      have h2:=yg8 (f:=fun i=>if gi o i<k then W es u i else 0) (n:=n) (fun i _=>by have:=ya5 hE u i;show 0≤ite _ _ _;split <;> omega) v hv
      simp only [if_pos hk] at h2
      rw [ygU es v u];exact h2
    · rw [if_neg h]
      split
      · omega
      · rename_i h2
        simp only [decide_eq_true_eq] at h2
        by_cases h3:W es v u=0
        · omega
        · have:=hD.lip hE hc hv hu h3;omega
theorem near_at{k:Int}{v:Nat}(hv:v<n)(hk:gi o v=k):Lp n es (ind (yaM o k)) v = - yaG es (v:Int) (fun u=>gb (yaM o k) u.toNat) ∧ - CC n es o k≤Lp n es (ind (yaM o k)) v:=by
  have hol:=hD.len
  have h1:=yhf (n:=n) (es:=es) (inn:=yaM o k) (v:=v) (by rw [yfg (by omega)];simp;omega)
  rw [ydS hE,h1]
  simp only [Int.toNat_natCast]
  refine ⟨trivial,?_⟩
  have h2:=yg8 (f:=fun v=>if gi o v=k then sm n (fun u=>if gi o u<k then W es v u else 0) else 0) (n:=n) (fun i _=>by
    show 0≤ite _ _ _
    split
    · exact yaX fun u _=>by have:=ya5 hE i u;split <;> omega
    · omega) v hv
  simp only [if_pos hk] at h2
  have h3:sm n (fun u=>if gb (yaM o k) u=true then W es v u else 0)=sm n (fun u=>if gi o u<k then W es v u else 0):=yan fun u hu=>by
    rw [yfg (by omega)]
    simp only [decide_eq_true_eq]
  rw [h3]
  unfold CC
  omega
theorem near_out{k:Int}{v:Nat}(hv:v<n)(hk:k<gi o v):Lp n es (ind (yaM o k)) v=0:=by
  have hol:=hD.len
  rw [yhf (by rw [yfg (by omega)];simp;omega)]
  have:sm n (fun u=>if gb (yaM o k) u=true then W es v u else 0)=sm n (fun _=>0):=yan fun u hu=>by
    rw [yfg (by omega)]
    by_cases h:gi o u<k
    · rw [if_pos (by simpa using h)]
      by_cases h3:W es v u=0
      · exact h3
      · have:=hD.lip hE hc hu hv (by rw [ygU];exact h3);omega
    · rw [if_neg (by simpa using h)]
  rw [this,ybV];rfl
end
section
variable {es : List E3} {o : List Int} {k : Int} {d : List Int}
theorem ceil_ge{a b:Int}(hb:1≤b):a≤(a+b-1).tdiv b*b∨a+b-1<0:=by
  by_cases h:a+b-1<0
  · exact .inr h
  · left
    rw [Int.tdiv_eq_ediv_of_nonneg (by omega)]
    have h1:=Int.emod_add_mul_ediv (a+b-1) b
    have h2:=Int.emod_lt_of_pos (a+b-1) (show 0<b by omega)
    rw [Int.mul_comm b] at h1
    omega
theorem ceil_le{a b M:Int}(hb:1≤b)(ha:1≤a)(hM:a≤M):(a+b-1).tdiv b≤M∧1≤(a+b-1).tdiv b:=by
  rw [Int.tdiv_eq_ediv_of_nonneg (by omega)]
  constructor
  · apply Int.le_of_lt_add_one
    apply Int.ediv_lt_of_lt_mul (by omega)
    have:a≤M*b:=by
      have:=Int.mul_le_mul_of_nonneg_left hb (show 0≤M by omega)
      omega
    rw [Int.add_mul];omega
  · apply Int.le_ediv_of_mul_le (by omega);omega
theorem timesL_le{M:Int}(h0:0≤M):∀ n,(∀ v,v<n → -gi d v≤M)→(∀ v,v<n→gi o v=k→1≤yaG es (v:Int) (fun u=>gb (yaM o k) u.toNat))→0≤ybF es o k d n∧ybF es o k d n≤M
  | 0,_,_=>by simp [ybF];exact h0
  | n+1,hd,hj=>by
    have ih:=timesL_le h0 n (fun v hv=>hd v (by omega)) (fun v hv=>hj v (by omega))
    rw [ybF]
    split
    · rename_i h
      have:=ceil_le (hj n (by omega) h.1) (show 1 ≤ -gi d n by omega) (hd n (by omega))
      unfold mxF
      split <;> omega
    · exact ih
theorem timesL_ge:∀ n,(∀ v,v<n→gi o v=k→1≤yaG es (v:Int) (fun u=>gb (yaM o k) u.toNat))→∀ v,v<n→gi o v=k→gi d v<0 →
    1≤ybF es o k d n ∧ -gi d v≤ybF es o k d n*yaG es (v:Int) (fun u=>gb (yaM o k) u.toNat)
  | n+1,hj,v,hv,hk,hd=>by
    rw [ybF]
    have mx:∀ a b:Int,a≤mxF a b∧b≤mxF a b:=fun a b=>by unfold mxF;split <;> omega
    have hjv:=hj v hv hk
    have up:∀ {a b:Int},a≤b → -gi d v≤a*yaG es (v:Int) (fun u=>gb (yaM o k) u.toNat) → -gi d v≤b*yaG es (v:Int) (fun u=>gb (yaM o k) u.toNat):=fun {a b} h h2 =>
      Int.le_trans h2 (Int.mul_le_mul_of_nonneg_right h (by omega))
    by_cases e:v=n
    · subst e
      rw [if_pos ⟨hk,hd⟩]
      have h1:=ceil_le (M := -gi d v) hjv (show 1 ≤ -gi d v by omega) (Int.le_refl _)
      have h2:=mx (ybF es o k d v) ((-gi d v+yaG es (v:Int) (fun u=>gb (yaM o k) u.toNat)-1).tdiv (yaG es (v:Int) (fun u=>gb (yaM o k) u.toNat)))
      refine ⟨by omega,up h2.2 ?_⟩
      rcases ceil_ge (a := -gi d v) hjv with h | h
      · exact h
      · omega
    · have ih:=timesL_ge n (fun v hv=>hj v (by omega)) v (by omega) hk hd
      split
      · have h2:=mx (ybF es o k d n) ((-gi d n+yaG es (n:Int) (fun u=>gb (yaM o k) u.toNat)-1).tdiv (yaG es (n:Int) (fun u=>gb (yaM o k) u.toNat)))
        exact ⟨by omega,up h2.1 ih.2⟩
      · exact ih
theorem ygj:∀ n,(∀ v,v<n→gi o v=k→0≤gi d v)→ybF es o k d n=0
  | 0,_=>rfl
  | n+1,h=>by
    rw [ybF,if_neg (fun x=>by have:=h n (by omega) x.1;omega)]
    exact ygj n fun v hv=>h v (by omega)
end
end Go.Proofs.YtjepipbkiadcpaaGreat

/- Lending: what holds before and behind each level. No program in sight. -/
namespace Go.Proofs.YtjepipbkiadcpaaGreat
open Go Go.Proofs.Tryz
structure GL(n:Nat)(es:List E3)(q:Nat)(D:Int)(d0:List Int)(o:List Int)(k:Nat)(d s:List Int)(e:Int):Prop where
  e0:e=0
  dl:d.length=n
  sl:s.length=n
  kn:k+1≤n
  lp:∀ v,v<n→gi d v=gi d0 v-Lp n es (gi s) v
  bd:∀ v,v<n → - (D*2^(FF n es o k).toNat)≤gi d v∧gi d v≤D*2^(FF n es o k).toNat
  pos:∀ v,v<n→(k:Int)<gi o v→0≤gi d v
  s0:∀ v,v<n→0≤gi s v∧gi s v≤((n:Int)-1-k)*(D*512)
  sq:∀ v,v<n→gi s v≤gi s q
  same:(∀ v,v<n→v≠q→0≤gi d0 v)→d=d0∧∀ v,v<n→gi s v=0
theorem pow_bnd{D x:Int}(hD:0≤D)(hx:x≤9):D*2^x.toNat≤D*512:=by
  refine Int.mul_le_mul_of_nonneg_left ?_ hD
  have:(2:Nat)^x.toNat≤2^9:=Nat.pow_le_pow_right (by omega) (by omega)
  have h2:((2^x.toNat:Nat):Int)≤((2^9:Nat):Int):=by exact_mod_cast this
  have h3:((2^x.toNat:Nat):Int)=(2:Int)^x.toNat:=by push_cast;rfl
  rw [←h3];exact h2
theorem pow_step{D x c T:Int}(hD:0≤D)(hx:0≤x)(hc:0≤c)(h0:0≤T)(hT:T≤D*2^x.toNat):D*2^x.toNat+T*c≤D*2^(x+c).toNat:=by
  have e:(x+c).toNat=x.toNat+c.toNat:=by omega
  rw [e,Int.pow_add,←Int.mul_assoc]
  generalize hB:D*2^x.toNat=B at *
  have h1:T*c≤B*c:=Int.mul_le_mul_of_nonneg_right hT hc
  have h2:(c:Int)+1≤2^c.toNat:=by
    have:c.toNat<2^c.toNat:=Nat.lt_two_pow_self
    have h3:((c.toNat:Nat):Int)<((2^c.toNat:Nat):Int):=by exact_mod_cast this
    have h4:((2^c.toNat:Nat):Int)=(2:Int)^c.toNat:=by push_cast;rfl
    rw [h4] at h3;omega
  have h5:B*(c+1)≤B*2^c.toNat:=Int.mul_le_mul_of_nonneg_left h2 (by omega)
  rw [Int.mul_add] at h5
  omega
theorem mul_bnd{n k:Nat}{D:Int}(hD:0≤D)(hn:n≤6):((n:Int)-1-k)*(D*512)≤D*2560:=by
  have:((n:Int)-1-k)*(D*512)≤5*(D*512):=Int.mul_le_mul_of_nonneg_right (by omega) (by omega)
  omega
section
variable {n : Nat} {es : List E3} {q : Nat} {D : Int} {d0 : List Int} (hE : EOk n es) (hn : n ≤ 6) (hq : q < n) (ht : tot n es ≤ 18) (hD0 : 0 ≤ D) (hD1 : D ≤ 200) (hc : ∀ o, Dist n es q o → ∀ v, v < n → 0 ≤ gi o v)
  (hd0:∀ v,v<n → -D≤gi d0 v∧gi d0 v≤D) (hdl:d0.length=n)
include hE hn hq ht hD0 hD1 hc hd0 hdl
theorem GL.start(o:List Int)(hD:Dist n es q o):GL n es q D d0 o (yfA o n).toNat d0 (List.replicate n 0) 0:=by
  have hm:∃ j,j<o.length∧yfA o n=gi o j:=yh9 o n (by rw [hD.len];omega) (by rw [hD.len];omega)
  obtain ⟨j,hj,hmj⟩:=hm
  have hhi:=hD.high j
  have h0:0≤yfA o n:=by
    have:=yhW o n q hq
    rw [hD.q0] at this;omega
  have hs:∀ v,gi (List.replicate n 0) v=0:=fun v=>by
    rcases Nat.lt_or_ge v n with h | h
    · rw [ybk (by simpa using h)];simp
    · exact gi_ge (by simpa using h)
  have hF:0≤FF n es o (yfA o n).toNat:=FF_nonneg hE o _
  have h1:D*1≤D*2^(FF n es o (yfA o n).toNat).toNat:=Int.mul_le_mul_of_nonneg_left (by
    have:(0:Int)<2^(FF n es o (yfA o n).toNat).toNat:=Int.pow_pos (by omega)
    omega) hD0
  refine ⟨rfl,hdl,by simp,by omega,fun v hv=>?_,fun v hv=>?_,fun v hv h=>?_,fun v hv=>?_,fun v hv=>?_,fun _=>⟨rfl,fun v hv=>hs v⟩⟩
  · rw [yeC (b:=fun _=>0) (fun i _=>hs i) hv,yeA];omega
  · have:=hd0 v hv;omega
  · have:=yhW o n v hv;omega
  · rw [hs]
    have:0≤((n:Int)-1-(yfA o n).toNat)*(D*512):=Int.mul_nonneg (by omega) (by omega)
    omega
  · rw [hs,hs];exact Int.le_refl _
theorem GL.bnd{o:List Int}{k:Nat}{d s:List Int}{e:Int}(h:GL n es q D d0 o k d s e):Bnd 102400 d∧Bnd 512000 s:=by
  constructor
  · intro i
    by_cases hi:i<n
    · have h1:=h.bd i hi
      have h2:=FF_half hE o k
      have h3:=pow_bnd hD0 (show FF n es o k≤9 by omega)
      omega
    · rw [yhp h.dl hi];omega
  · intro i
    by_cases hi:i<n
    · have h1:=h.s0 i hi
      have h2:=mul_bnd (k:=k) hD0 hn
      omega
    · rw [yhp h.sl hi];omega
theorem GL.step{o:List Int}{k:Nat}{d s:List Int}(hD:Dist n es q o)(h:GL n es q D d0 o (k+1) d s 0) :
    ybF es o ((k:Int)+1) d n≤2147483648 ∧
      (0<ybF es o ((k:Int)+1) d n→GL n es q D d0 o k (ycA es (yaM o ((k:Int)+1)) (ybF es o ((k:Int)+1) d n) d n) (ycL (yaM o ((k:Int)+1)) (ybF es o ((k:Int)+1) d n) s n)
        (yg0 (ycA es (yaM o ((k:Int)+1)) (ybF es o ((k:Int)+1) d n) d n) (ycL (yaM o ((k:Int)+1)) (ybF es o ((k:Int)+1) d n) s n) 0 n)) ∧
      (¬0<ybF es o ((k:Int)+1) d n→GL n es q D d0 o k d s 0):=by
  have hb:=h.bnd hE hn hq ht hD0 hD1 hc hd0 hdl
  obtain ⟨-,dl,sl,kn,lp,bd,pos,s0,sq,same⟩:=h
  have hcast:((k+1:Nat):Int)=(k:Int)+1:=by omega
  rw [hcast] at bd pos s0
  have hF0:=FF_nonneg hE o ((k:Int)+1)
  have hF1:=FF_half hE o ((k:Int)+1)
  have hFk1:=FF_half hE o (k:Int)
  have hCC:=CC_nonneg hE o ((k:Int)+1)
  have hFk:FF n es o k=FF n es o ((k:Int)+1)+CC n es o ((k:Int)+1):=FF_step n es o k
  have hj:∀ v,v<n→gi o v=(k:Int)+1→1≤yaG es (v:Int) (fun u=>gb (yaM o ((k:Int)+1)) u.toNat):=fun v hv hk=>near_pos hD (fun x hx=>(hE x hx).2.2.2.2.1) hv hk
  have hcc:=hc o hD
  have hol:=hD.len
  have hB0:0≤D*2^(FF n es o ((k:Int)+1)).toNat:=Int.mul_nonneg hD0 (Int.le_of_lt (Int.pow_pos (by omega)))
  have hT:=timesL_le (es:=es) (o:=o) (k:=(k:Int)+1) (d:=d) hB0 n (fun v hv=>by have:=bd v hv;omega) hj
  have hBk:=pow_bnd hD0 (show FF n es o ((k:Int)+1)≤9 by omega)
  have hTg:=timesL_ge (es:=es) (o:=o) (k:=(k:Int)+1) (d:=d) n hj
  have hTz:=ygj (es:=es) (o:=o) (k:=(k:Int)+1) (d:=d) n
  have hst:=pow_step hD0 hF0 hCC hT.1 hT.2
  rw [←hFk] at hst
  generalize ybF es o ((k:Int)+1) d n=T at *
  generalize hC:CC n es o ((k:Int)+1)=C at *
  generalize D*2^(FF n es o ((k:Int)+1)).toNat=B at *
  have hBk':D*2^(FF n es o (k:Int)).toNat≤D*512:=pow_bnd hD0 (by omega)
  generalize hBB:D*2^(FF n es o (k:Int)).toNat=B' at *
  have hTC:0≤T*C:=Int.mul_nonneg hT.1 hCC
  have hsm:((n:Int)-1-((k:Int)+1))*(D*512)+D*512=((n:Int)-1-k)*(D*512):=by
    have:(n:Int)-1-k=((n:Int)-1-((k:Int)+1))+1:=by omega
    rw [this,Int.add_mul,Int.one_mul]
  refine ⟨by omega,fun hpos=>?_,fun hz=>?_⟩
  · have hfd:∀ v,v<n→gi (ycA es (yaM o ((k:Int)+1)) T d n) v=gi d v-T*Lp n es (ind (yaM o ((k:Int)+1))) v:=fun v hv=>fire_lp hE _ T d dl hv
    have hfs:∀ v,v<n→gi (ycL (yaM o ((k:Int)+1)) T s n) v=gi s v+T*ind (yaM o ((k:Int)+1)) v:=fun v hv=>yiG sl hv
    have hdl':(ycA es (yaM o ((k:Int)+1)) T d n).length=n:=by rw [ybM,dl]
    have hsl':(ycL (yaM o ((k:Int)+1)) T s n).length=n:=by rw [ybZ,sl]
    have hind:∀ v,0≤T*ind (yaM o ((k:Int)+1)) v∧T*ind (yaM o ((k:Int)+1)) v≤T:=fun v=>by unfold ind;split <;> omega
    have hbd:∀ v,v<n → -B'≤gi d v-T*Lp n es (ind (yaM o ((k:Int)+1))) v∧gi d v-T*Lp n es (ind (yaM o ((k:Int)+1))) v≤B':=fun v hv=>by
      have b:=bd v hv
      have mulb:∀ x:Int,x≤C→T*x≤T*C:=fun x hx=>Int.mul_le_mul_of_nonneg_left hx hT.1
      rcases Int.lt_trichotomy (gi o v) ((k:Int)+1) with h | h | h
      · have h1:=near_in hE hD hcc hv h
        rw [hC] at h1
        have h2:=mulb _ h1.2
        have h3:=Int.mul_nonneg hT.1 h1.1
        omega
      · have h1:=near_at hE hD hcc hv h
        have h4:=ydS hE v (fun u=>gb (yaM o ((k:Int)+1)) u.toNat)
        have h5:1≤yaG es (v:Int) (fun u=>gb (yaM o ((k:Int)+1)) u.toNat):=hj v hv h
        rw [hC] at h1
        have h2:=mulb (- Lp n es (ind (yaM o ((k:Int)+1))) v) (by omega)
        have h3:=Int.mul_nonneg hT.1 (show 0 ≤ - Lp n es (ind (yaM o ((k:Int)+1))) v by omega)
        rw [Int.mul_neg] at h2 h3
        omega
      · have h1:=near_out hE hD hcc hv h
        rw [h1];omega
    have hsb:∀ v,v<n→0≤gi s v+T*ind (yaM o ((k:Int)+1)) v∧gi s v+T*ind (yaM o ((k:Int)+1)) v≤((n:Int)-1-k)*(D*512):=fun v hv=>by
      have h1:=s0 v hv
      have h2:=hind v
      omega
    have hbig:((n:Int)-1-k)*(D*512)≤D*2560:=mul_bnd hD0 hn
    refine ⟨fireE_ok (fun j=>?_) (fun j=>?_) 0 n,hdl',hsl',by omega,fun v hv=>?_,fun v hv=>?_,fun v hv hk=>?_,fun v hv=>?_,fun v hv=>?_,fun hs=>?_⟩
    · by_cases hjn:j<n
      · rw [hfd j hjn]
        have h1:=bd j hjn
        have h2 : -1*(T*C)≤0:=by omega
        have h3:T*C≤B':=by omega
        have h4:=hbd j hjn
        omega
      · rw [yhp hdl' hjn];omega
    · by_cases hjn:j<n
      · rw [hfs j hjn]
        have:=hsb j hjn
        omega
      · rw [yhp hsl' hjn];omega
    · rw [hfd v hv,Lp_fireS sl hv,lp v hv];omega
    · rw [hfd v hv,hBB]
      exact hbd v hv
    · rw [hfd v hv]
      by_cases h:gi o v=(k:Int)+1
      · have h1:=near_at hE hD hcc hv h
        rw [h1.1,Int.mul_neg]
        have h2:=hj v hv h
        by_cases hneg:gi d v<0
        · have:=(hTg v hv h hneg).2;omega
        · have:=Int.mul_nonneg hT.1 (show 0≤yaG es (v:Int) (fun u=>gb (yaM o ((k:Int)+1)) u.toNat) by omega)
          omega
      · rw [near_out hE hD hcc hv (by omega)]
        have:=pos v hv (by omega)
        omega
    · rw [hfs v hv];exact hsb v hv
    · rw [hfs v hv,hfs q hq]
      have h1:ind (yaM o ((k:Int)+1)) q=1:=by
        unfold ind
        rw [if_pos]
        rw [yfg (by omega),hD.q0];simp <;> omega
      have h2:=hind v
      have h3:=sq v hv
      rw [h1];omega
    · exfalso
      obtain ⟨rfl,hs2⟩:=same hs
      have:=hTz (fun v hv hk=>hs v hv (fun e=>by subst e;rw [hD.q0] at hk;omega))
      omega
  · have hT0:T=0:=by omega
    subst hT0
    refine ⟨rfl,dl,sl,by omega,lp,fun v hv=>by have:=bd v hv;rw [hBB];omega,fun v hv hk=>?_,fun v hv=>?_,sq,same⟩
    · by_cases h:gi o v=(k:Int)+1
      · apply Int.not_lt.1
        intro hneg
        have:=(hTg v hv h hneg).1
        omega
      · exact pos v hv (by omega)
    · have:=s0 v hv;omega
end
end Go.Proofs.YtjepipbkiadcpaaGreat

/- Settling: what holds before and behind each firing; reduced divisors and that they are alone. No program in sight. -/
namespace Go.Proofs.YtjepipbkiadcpaaGreat
open Go Go.Proofs.Tryz
def Conn(n:Nat)(es:List E3)(q:Nat):Prop:=∀ S:Nat→Bool,S q=false→(∃ v,v<n∧S v=true)→∃ v u,v<n∧u<n∧S v=true∧S u=false∧0<W es v u
structure Red(n:Nat)(es:List E3)(q:Nat)(d:List Int):Prop where
  pos:∀ v,v<n→v≠q→0≤gi d v
  no:∀ S:Nat→Bool,S q=false→(∃ v,v<n∧S v=true)→∃ v,v<n∧S v=true∧gi d v<sm n (fun u=>if S u then 0 else W es v u)
theorem sm_pos{f:Nat→Int}{n:Nat}(h:∀ i,i<n→0≤f i){j:Nat}(hj:j<n)(h1:1≤f j):1≤sm n f:=by
  have:=yg8 h j hj;omega
theorem yf8(c:Int):∀ n:Nat,sm n (fun _=>c)=n*c
  | 0=>by simp [sm]
  | n+1=>by
    rw [sm,yf8 c n]
    have:((n+1:Nat):Int)=(n:Int)+1:=by omega
    rw [this,Int.add_mul];omega
theorem yhS{f:Nat→Int}{n q:Nat}(hq:q<n):sm n f=f q+sm n (fun v=>if v=q then 0 else f v):=by
  have h1:=yfu (f q) hq
  rw [←h1,←yc5]
  exact yan fun i _=>by
    show f i=ite _ _ _+ite _ _ _
    split
    · subst_vars;omega
    · omega
def low(n:Nat)(f:Nat→Int)(c:Int):Int:=sm n (fun x=>if f x<c then 1 else 0)
theorem climb{n:Nat}{es:List E3}{q:Nat}(hE:EOk n es)(hC:Conn n es q)(hq:q<n){f:Nat→Int}{G:Int}(hG0:0≤G)(hG:∀ S:Nat→Bool,S q=false→sm n (fun v=>if S v then Lp n es f v else 0)≤G) :
    ∀ v,v<n→f v-f q≤low n f (f v)*G:=by
  suffices H:∀ (k:Nat) v,v<n→low n f (f v)≤k→f v-f q≤low n f (f v)*G from fun v hv=>H (low n f (f v)).toNat v hv (by omega)
  have lown:∀ c,0≤low n f c:=fun c=>yaX fun x _=>by show 0≤ite _ _ _;split <;> omega
  have step:∀ v,v<n→f q<f v→∃ u,u<n∧f u<f v∧f v-f u≤G∧low n f (f u)+1≤low n f (f v):=by
    intro v hv hlt
    have hS0:(fun x=>decide (f v≤f x)) q=false:=by simp;omega
    obtain ⟨x,u,hx,hu,hSx,hSu,hW⟩:=hC (fun x=>decide (f v≤f x)) hS0 ⟨v,hv,by simp⟩
    simp only [decide_eq_true_eq,decide_eq_false_iff_not] at hSx hSu
    have h1:=hG (fun x=>decide (f v≤f x)) hS0
    rw [Lp_cut] at h1
    have nn:∀ a b,0≤(if (decide (f v≤f a) && !decide (f v≤f b))=true then W es a b*(f a-f b) else 0):=fun a b=>by
      split
      · rename_i h
        simp only [Bool.and_eq_true,decide_eq_true_eq,Bool.not_eq_true',decide_eq_false_iff_not] at h
        exact Int.mul_nonneg (ya5 hE a b) (by omega)
      · omega
    have h2:=yg8 (n:=n) (f:=fun a=>sm n (fun b=>if (decide (f v≤f a) && !decide (f v≤f b))=true then W es a b*(f a-f b) else 0)) (fun a _=>yaX fun b _=>nn a b) x hx
    have h3:=yg8 (n:=n) (f:=fun b=>if (decide (f v≤f x) && !decide (f v≤f b))=true then W es x b*(f x-f b) else 0) (fun b _=>nn x b) u hu
    have h4:(decide (f v≤f x) && !decide (f v≤f u))=true:=by
      simp only [Bool.and_eq_true,decide_eq_true_eq,Bool.not_eq_true',decide_eq_false_iff_not];omega
    simp only [h4,if_true] at h3
    have h5:1*(f x-f u)≤W es x u*(f x-f u):=Int.mul_le_mul_of_nonneg_right (by omega) (by omega)
    have h6:f x-f u≤G:=by
      have h2':sm n (fun b=>if (decide (f v≤f x) && !decide (f v≤f b))=true then W es x b*(f x-f b) else 0)≤sm n (fun a=>sm n (fun b=>if (decide (f v≤f a) && !decide (f v≤f b))=true then W es a b*(f a-f b) else 0)):=h2
      omega
    refine ⟨u,hu,by omega,by omega,?_⟩
    unfold low
    have h7:=yfu 1 hu
    rw [←h7,←yc5]
    refine yeh fun i _=>?_
    show ite _ _ _+ite _ _ _≤ite _ _ _
    by_cases e:i=u
    · subst e;rw [if_neg (by omega),if_pos rfl,if_pos (by omega)];omega
    · rw [if_neg e];split <;> split <;> omega
  intro k
  induction k with
  | zero =>
    intro v hv hk
    by_cases h:f q<f v
    · obtain ⟨u,hu,h1,h2,h3⟩:=step v hv h
      have:=lown (f u);omega
    · have:=Int.mul_nonneg (lown (f v)) hG0;omega
  | succ k ih =>
    intro v hv hk
    by_cases h:f q<f v
    · obtain ⟨u,hu,h1,h2,h3⟩:=step v hv h
      have h4:=ih u hu (by omega)
      have h5:(low n f (f u)+1)*G≤low n f (f v)*G:=Int.mul_le_mul_of_nonneg_right h3 hG0
      rw [Int.add_mul] at h5;omega
    · have:=Int.mul_nonneg (lown (f v)) hG0;omega
theorem low_le{n:Nat}{f:Nat→Int}{v:Nat}(hv:v<n):low n f (f v)≤(n:Int)-1:=by
  have h7:=yfu 1 hv
  have h1:low n f (f v)+sm n (fun i=>if i=v then 1 else 0)≤sm n (fun _=>1):=by
    unfold low
    rw [←yc5]
    refine yeh fun i _=>?_
    show (if f i<f v then (1:Int) else 0)+(if i=v then (1:Int) else 0)≤1
    by_cases e:i=v
    · subst e;rw [if_neg (by omega),if_pos rfl];omega
    · rw [if_neg e];split <;> omega
  rw [h7] at h1
  rw [yf8] at h1;omega
theorem ye5{n:Nat}{es:List E3}{q:Nat}(hE:EOk n es)(hq:q<n){d d':List Int}(h:Red n es q d)(hpos:∀ v,v<n→v≠q→0≤gi d' v){f:Nat→Int}(hf:∀ v,v<n→gi d' v=gi d v-Lp n es f v):∀ v,v<n→f v≤f q:=by
  suffices H:∀ (k:Nat) v,v<n→n≤k+(low n f (f v)).toNat→f v≤f q from fun v hv=>H n v hv (by omega)
  have lown:∀ c,0≤low n f c:=fun c=>yaX fun x _=>by show 0≤ite _ _ _;split <;> omega
  intro k
  induction k with
  | zero=>intro v hv hk;have:=low_le (f:=f) hv;have:=lown (f v);omega
  | succ k ih =>
    intro v hv hk
    apply Int.not_lt.1
    intro hlt
    by_cases hmx:∃ x,x<n∧f v<f x
    · obtain ⟨x,hx,hvx⟩:=hmx
      have h1:low n f (f v)+1≤low n f (f x):=by
        unfold low
        have h7:=yfu 1 hv
        rw [←h7,←yc5]
        refine yeh fun i _=>?_
        show ite _ _ _+ite _ _ _≤ite _ _ _
        by_cases e:i=v
        · subst e;rw [if_neg (by omega),if_pos rfl,if_pos (by omega)];omega
        · rw [if_neg e];split <;> split <;> omega
      have:=ih x hx (by have:=lown (f v);omega)
      omega
    · have hmx2:∀ x,x<n→f x≤f v:=fun x hx=>Int.not_lt.1 fun h=>hmx ⟨x,hx,h⟩
      obtain ⟨x,hx,hSx,hlt2⟩:=h.no (fun x=>decide (f x=f v)) (by simp;omega) ⟨v,hv,by simp⟩
      simp only [decide_eq_true_eq] at hSx hlt2
      have h2:=hf x hx
      have h3:sm n (fun u=>if f u=f v then 0 else W es x u)≤Lp n es f x:=yeh fun u hu=>by
        have hu2:=hmx2 u hu
        have hw:=ya5 hE x u
        show ite _ _ _≤W es x u*(f x-f u)
        split
        · rename_i e;rw [show f x-f u=0 by omega];omega
        · have:=Int.mul_le_mul_of_nonneg_left (show 1≤f x-f u by omega) hw
          omega
      have h4:=hpos x hx (fun e=>by subst e;omega)
      omega
end Go.Proofs.YtjepipbkiadcpaaGreat

/- Settling: each firing keeps the bounds and comes nearer to the end. No program in sight. -/
namespace Go.Proofs.YtjepipbkiadcpaaGreat
open Go Go.Proofs.Tryz
structure GS0(n:Nat)(es:List E3)(q:Nat)(D:Int)(d0 d s:List Int):Prop where
  dl:d.length=n
  sl:s.length=n
  lp:∀ v,v<n→gi d v=gi d0 v-Lp n es (gi s) v
  pos:∀ v,v<n→v≠q→0≤gi d v
  off:sm n (fun v=>if v=q then 0 else gi d v)≤D*2560
  s0:∀ v,v<n→0≤gi s v
  sq:gi s q≤D*2560
def left' (D:Int)(n:Nat)(s:List Int):Int:=sm n (fun v=>D*2600-gi s v)
def GS(n:Nat)(es:List E3)(q:Nat)(D:Int)(d0:List Int)(m:Nat)(d s:List Int)(e:Int):Prop:=e=0∧GS0 n es q D d0 d s∧m=(left' D n s).toNat
theorem timesS_all{es:List E3}{left:List Bool}{d:List Int}{M:Int}(hM:0≤M):∀ n,(∀ v,v<n→gi d v≤M∨gb left v=false)→(∀ v,v<n→gb left v=true→yaG es (v:Int) (fun u=>!gb left u.toNat)≤gi d v∧0≤yaG es (v:Int) (fun u=>!gb left u.toNat)) →
    0≤ybD es left d n∧ybD es left d n≤M∧∀ v,v<n→gb left v=true→0<yaG es (v:Int) (fun u=>!gb left u.toNat)→1≤ybD es left d n∧ybD es left d n*yaG es (v:Int) (fun u=>!gb left u.toNat)≤gi d v
  | 0,_,_=>by simp [ybD];exact hM
  | n+1,hd,hj=>by
    obtain ⟨i1,i2,i3⟩:=timesS_all hM n (fun v hv=>hd v (by omega)) (fun v hv=>hj v (by omega))
    rw [ybD]
    by_cases hc:gb left n=true∧0<yaG es (n:Int) (fun u=>!gb left u.toNat)
    · rw [if_pos hc]
      have h1:=hj n (by omega) hc.1
      have hdM:gi d n≤M:=by
        rcases hd n (by omega) with h | h
        · exact h
        · rw [hc.1] at h;cases h
      have hJ:=hc.2
      have hq1:(gi d n).tdiv (yaG es (n:Int) (fun u=>!gb left u.toNat))*yaG es (n:Int) (fun u=>!gb left u.toNat)≤gi d n:=by
        rw [Int.tdiv_eq_ediv_of_nonneg (by omega)]
        exact Int.ediv_mul_le _ (by omega)
      have hq2:1≤(gi d n).tdiv (yaG es (n:Int) (fun u=>!gb left u.toNat)):=by
        rw [Int.tdiv_eq_ediv_of_nonneg (by omega)]
        exact Int.le_ediv_of_mul_le hJ (by omega)
      have hq3:(gi d n).tdiv (yaG es (n:Int) (fun u=>!gb left u.toNat))≤M:=by
        have:=Int.mul_le_mul_of_nonneg_left (show 1≤yaG es (n:Int) (fun u=>!gb left u.toNat) by omega) (show 0≤(gi d n).tdiv (yaG es (n:Int) (fun u=>!gb left u.toNat)) by omega)
        omega
      generalize hX:(gi d n).tdiv (yaG es (n:Int) (fun u=>!gb left u.toNat))=X at *
      by_cases hc2:ybD es left d n=0∨X<ybD es left d n
      · rw [if_pos hc2]
        refine ⟨by omega,hq3,fun v hv hl hp=>?_⟩
        by_cases e:v=n
        · subst e;exact ⟨hq2,hq1⟩
        · obtain ⟨j1,j2⟩:=i3 v (by omega) hl hp
          refine ⟨hq2,?_⟩
          have:=Int.mul_le_mul_of_nonneg_right (show X≤ybD es left d n by omega) (Int.le_of_lt hp)
          omega
      · rw [if_neg hc2]
        refine ⟨i1,i2,fun v hv hl hp=>?_⟩
        by_cases e:v=n
        · subst e
          refine ⟨by omega,?_⟩
          have:=Int.mul_le_mul_of_nonneg_right (show ybD es left d v≤X by omega) (Int.le_of_lt hp)
          omega
        · exact i3 v (by omega) hl hp
    · rw [if_neg hc]
      refine ⟨i1,i2,fun v hv hl hp=>?_⟩
      by_cases e:v=n
      · subst e;exact absurd ⟨hl,hp⟩ hc
      · exact i3 v (by omega) hl hp
theorem yfG{burnt:List Bool}{n v:Nat}(hl:burnt.length=n)(hv:v<n):gb (leftOf burnt) v = !gb burnt v:=by
  rw [yb2 (by simpa [leftOf] using (by omega:v<burnt.length)),yb2 (by omega)]
  simp [leftOf]
section
variable {n : Nat} {es : List E3} {q : Nat} {D : Int} {d0 : List Int} (hE : EOk n es) (hn : n ≤ 6) (hq : q < n) (hD0 : 0 ≤ D) (hD1 : D ≤ 200) (hC : Conn n es q)
  (hd0:∀ v,v<n → -D≤gi d0 v∧gi d0 v≤D)
include hE hn hq hD0 hD1 hC hd0
theorem GS0.bnd{d s:List Int}(h:GS0 n es q D d0 d s):(∀ v,v<n→gi s v≤gi s q+D*30)∧(∀ v,v<n → -(D*2566)≤gi d v∧gi d v≤D*2566)∧0≤gi s q:=by
  refine ⟨fun v hv=>?_,?_,h.s0 q hq⟩
  · have hnD:sm n (fun _=>D)≤6*D:=by
      rw [yf8]
      exact Int.mul_le_mul_of_nonneg_right (by omega) hD0
    have h1:=climb hE hC hq (f:=gi s) (G:=6*D) (by omega) (fun S hS=>by
      refine Int.le_trans (yeh fun v hv=>?_) hnD
      show ite _ _ _≤D
      split
      · rename_i hSv
        have h1:=h.lp v hv
        have h2:=h.pos v hv (fun e=>by subst e;rw [hS] at hSv;cases hSv)
        have h3:=hd0 v hv
        omega
      · exact hD0) v hv
    have h2:=low_le (f:=gi s) hv
    have h3:=Int.mul_le_mul_of_nonneg_right (show low n (gi s) (gi s v)≤5 by omega) (show 0≤6*D by omega)
    omega
  · have hoff0:∀ v,v<n→0≤(if v=q then 0 else gi d v):=fun v hv=>by
      split
      · omega
      · rename_i e;exact h.pos v hv e
    have hoffn:=yaX hoff0
    have hoffs:=h.off
    have htot:sm n (gi d)=sm n (gi d0):=by
      have h1:=ygK (n:=n) (es:=es) (gi s)
      have h2:sm n (gi d)=sm n (gi d0)-sm n (fun v=>Lp n es (gi s) v):=by
        rw [←ygB]
        exact yan fun i hi=>h.lp i hi
      omega
    have h6:sm n (gi d0)≤6*D ∧ -(6*D)≤sm n (gi d0):=by
      constructor
      · refine Int.le_trans (yeh fun v hv=>(hd0 v hv).2) ?_
        rw [yf8];exact Int.mul_le_mul_of_nonneg_right (by omega) hD0
      · have h7:sm n (fun _ => -D)≤sm n (gi d0):=yeh fun v hv=>(hd0 v hv).1
        rw [yf8] at h7
        have h8:(n:Int)*D≤6*D:=Int.mul_le_mul_of_nonneg_right (by omega) hD0
        rw [Int.mul_neg] at h7
        omega
    have hsp:=yhS (f:=gi d) hq
    intro v hv
    by_cases e:v=q
    · subst e;omega
    · have h8:=yg8 hoff0 v hv
      rw [if_neg e] at h8
      have h9:=h.pos v hv e
      omega
theorem GS.bnd{m:Nat}{d s:List Int}{e:Int}(h:GS n es q D d0 m d s e):Bnd 600000 d∧Bnd 600000 s:=by
  obtain ⟨-,h0, -⟩:=h
  obtain ⟨b1,b2,b3⟩:=h0.bnd hE hn hq hD0 hD1 hC hd0
  have hsq:=h0.sq
  constructor
  · intro i
    by_cases hi:i<n
    · have:=b2 i hi;omega
    · rw [yhp h0.dl hi];omega
  · intro i
    by_cases hi:i<n
    · have:=b1 i hi;have:=h0.s0 i hi;omega
    · rw [yhp h0.sl hi];omega
theorem GS.step{m:Nat}{d s:List Int}{burnt:List Bool}(h:GS n es q D d0 m d s 0)(hB:Burns n es q d burnt)(hany:(leftOf burnt).any id=true) :
    0≤ybD es (leftOf burnt) d n∧ybD es (leftOf burnt) d n≤2147483648∧(∀ v,v<n→gb (leftOf burnt) v=true→0≤gi d v) ∧
      ∃ m',m'<m∧GS n es q D d0 m' (ycA es (leftOf burnt) (ybD es (leftOf burnt) d n) d n) (ycL (leftOf burnt) (ybD es (leftOf burnt) d n) s n)
        (yg0 (ycA es (leftOf burnt) (ybD es (leftOf burnt) d n) d n) (ycL (leftOf burnt) (ybD es (leftOf burnt) d n) s n) 0 n):=by
  have hb:=h.bnd hE hn hq hD0 hD1 hC hd0
  obtain ⟨-,h0,hm⟩:=h
  have hLq:gb (leftOf burnt) q=false:=by rw [yfG hB.len hq,hB.at_q];rfl
  have hnq:∀ v,gb (leftOf burnt) v=true→v≠q:=fun v hv e=>by subst e;rw [hLq] at hv;cases hv
  have hjl:∀ v:Nat,yaG es (v:Int) (fun u=>!gb (leftOf burnt) u.toNat)=sm n (fun u=>if gb (leftOf burnt) u=true then 0 else W es v u):=fun v=>by
    rw [ydS hE]
    exact yan fun u hu=>by
      simp only [Int.toNat_natCast]
      by_cases hs:gb (leftOf burnt) u=true
      · simp [hs]
      · simp [hs]
  have hj0:∀ v:Nat,0≤yaG es (v:Int) (fun u=>!gb (leftOf burnt) u.toNat):=fun v=>by
    rw [hjl]
    exact yaX fun u _=>by have:=ya5 hE v u;split <;> omega
  have hjd:∀ v,v<n→gb (leftOf burnt) v=true→yaG es (v:Int) (fun u=>!gb (leftOf burnt) u.toNat)≤gi d v:=fun v hv hl=>by
    have h1:=hB.closed v hv (by rw [yfG hB.len hv] at hl;simpa using hl)
    rw [ydS hE] at h1 ⊢
    refine Int.le_trans (Int.le_of_eq (yan fun u hu=>?_)) h1
    simp only [Int.toNat_natCast,yfG hB.len hu,Bool.not_not]
  obtain ⟨t0,t1,t2⟩:=timesS_all (es:=es) (left:=leftOf burnt) (d:=d) (M:=600000) (by omega) n (fun v hv => .inl (hb.1 v).2) (fun v hv hl=>⟨hjd v hv hl,hj0 v⟩)
  -- a way out
  have hex:∃ v,v<n∧gb (leftOf burnt) v=true:=by
    obtain ⟨x,hx,hxt⟩:=List.any_eq_true.1 hany
    obtain ⟨i,hi,hxi⟩:=List.mem_iff_getElem.1 hx
    refine ⟨i,by simpa [leftOf,hB.len] using hi,?_⟩
    rw [yb2 hi,hxi];simpa using hxt
  obtain ⟨v,u,hv,hu,hSv,hSu,hW⟩:=hC (gb (leftOf burnt)) hLq hex
  have hjv:0<yaG es (v:Int) (fun u=>!gb (leftOf burnt) u.toNat):=by
    rw [hjl]
    have:=yg8 (n:=n) (f:=fun u=>if gb (leftOf burnt) u=true then 0 else W es v u) (fun u _=>by have:=ya5 hE v u;show 0≤ite _ _ _;split <;> omega) u hu
    simp only [hSu,Bool.false_eq_true,if_false] at this
    omega
  have hT1:=(t2 v hv hSv hjv).1
  clear hex
  refine ⟨t0,by omega,fun v hv hl=>h0.pos v hv (hnq v hl),?_⟩
  generalize ybD es (leftOf burnt) d n=T at *
  have hfd:∀ v,v<n→gi (ycA es (leftOf burnt) T d n) v=gi d v-T*Lp n es (ind (leftOf burnt)) v:=fun v hv=>fire_lp hE _ T d h0.dl hv
  have hfs:∀ v,v<n→gi (ycL (leftOf burnt) T s n) v=gi s v+T*ind (leftOf burnt) v:=fun v hv=>yiG h0.sl hv
  have hind:∀ v,0≤T*ind (leftOf burnt) v:=fun v=>by unfold ind;split <;> omega
  have hq0:ind (leftOf burnt) q=0:=by unfold ind;rw [hLq];rfl
  have hout:∀ v,¬gb (leftOf burnt) v=true→Lp n es (ind (leftOf burnt)) v≤0:=fun v hl=>by
    rw [yhf hl]
    have:=yaX (n:=n) (f:=fun u=>if gb (leftOf burnt) u=true then W es v u else 0) (fun u _=>by have:=ya5 hE v u;show 0≤ite _ _ _;split <;> omega)
    omega
  have hG:GS0 n es q D d0 (ycA es (leftOf burnt) T d n) (ycL (leftOf burnt) T s n):=by
    refine ⟨by rw [ybM,h0.dl],by rw [ybZ,h0.sl],fun v hv=>?_,fun v hv hvq=>?_,?_,fun v hv=>?_,?_⟩
    · rw [hfd v hv,Lp_fireS h0.sl hv,h0.lp v hv];omega
    · rw [hfd v hv]
      have hp:=h0.pos v hv hvq
      by_cases hl:gb (leftOf burnt) v=true
      · rw [Lp_ind_in hl,←hjl]
        by_cases hz:0<yaG es (v:Int) (fun u=>!gb (leftOf burnt) u.toNat)
        · have:=(t2 v hv hl hz).2;omega
        · have h1:=hj0 v
          rw [show yaG es (v:Int) (fun u=>!gb (leftOf burnt) u.toNat)=0 by omega];omega
      · have h1:=hout v hl
        have h2:=Int.mul_nonneg t0 (show 0 ≤ - Lp n es (ind (leftOf burnt)) v by omega)
        rw [Int.mul_neg] at h2;omega
    · have h1:sm n (fun v=>if v=q then 0 else gi (ycA es (leftOf burnt) T d n) v)=sm n (fun v=>if v=q then 0 else gi d v)-T*sm n (fun v=>if v=q then 0 else Lp n es (ind (leftOf burnt)) v):=by
        rw [←sm_mul,←ygB]
        refine yan fun v hv=>?_
        show ite _ _ _=ite _ _ _-T*ite _ _ _
        split
        · omega
        · exact hfd v hv
      have h2:=yhS (f:=Lp n es (ind (leftOf burnt))) hq
      have h3:sm n (Lp n es (ind (leftOf burnt)))=0:=ygK (n:=n) (es:=es) (ind (leftOf burnt))
      have h4:=hout q (by rw [hLq];simp)
      have h5:=Int.mul_nonneg t0 (show 0≤sm n (fun v=>if v=q then 0 else Lp n es (ind (leftOf burnt)) v) by omega)
      have:=h0.off
      omega
    · rw [hfs v hv];have:=h0.s0 v hv;have:=hind v;omega
    · rw [hfs q hq,hq0];have:=h0.sq;omega
  obtain ⟨b1,b2,b3⟩:=hG.bnd hE hn hq hD0 hD1 hC hd0
  have hsq:=hG.sq
  refine ⟨_,?_,fireE_ok (fun j=>?_) (fun j=>?_) 0 n,hG,rfl⟩
  · rw [hm]
    have h1:0≤left' D n (ycL (leftOf burnt) T s n):=yaX fun v hv=>by
      show 0≤D*2600-gi (ycL (leftOf burnt) T s n) v
      have:=b1 v hv;omega
    have h2:left' D n (ycL (leftOf burnt) T s n)+1≤left' D n s:=by
      unfold left'
      have h3:sm n (fun v=>D*2600-gi (ycL (leftOf burnt) T s n) v)=sm n (fun v=>D*2600-gi s v)-sm n (fun v=>T*ind (leftOf burnt) v):=by
        rw [←ygB]
        refine yan fun v hv=>?_
        show D*2600-gi (ycL (leftOf burnt) T s n) v=_-_
        rw [hfs v hv];omega
      have h4:=yg8 (n:=n) (f:=fun v=>T*ind (leftOf burnt) v) (fun v _=>hind v) v hv
      have h5:ind (leftOf burnt) v=1:=by unfold ind;rw [if_pos hSv]
      simp only [h5] at h4
      omega
    omega
  · by_cases hj:j<n
    · have:=b2 j hj;omega
    · rw [yhp hG.dl hj];omega
  · by_cases hj:j<n
    · have:=b1 j hj;have:=hG.s0 j hj;omega
    · rw [yhp hG.sl hj];omega
theorem GS0.red{d s:List Int}{burnt:List Bool}(h:GS0 n es q D d0 d s)(hB:Burns n es q d burnt)(hany:(leftOf burnt).any id=false):Red n es q d:=by
  refine ⟨h.pos,fun S hS ⟨v,hv,hSv⟩=>?_⟩
  apply Classical.byContradiction
  intro hno
  have h1:=hB.forced S hS (fun x hx hSx=>by
    apply Int.not_lt.1
    intro hlt
    rw [ydS hE] at hlt
    refine hno ⟨x,hx,hSx,Int.lt_of_lt_of_le hlt (Int.le_of_eq (yan fun u hu=>?_))⟩
    simp only [Int.toNat_natCast]
    by_cases hs:S u=true
    · simp [hs]
    · simp [hs]) v hv hSv
  have h2:gb (leftOf burnt) v=true:=by rw [yfG hB.len hv,h1];rfl
  have hvl:v<(leftOf burnt).length:=by simp [leftOf,hB.len,hv]
  rw [yb2 hvl] at h2
  have h3:(leftOf burnt).any id=true:=List.any_eq_true.2 ⟨_,List.getElem_mem hvl,h2⟩
  rw [hany] at h3;cases h3
theorem GL.settle{o:List Int}{d s:List Int}{e:Int}(hD:Dist n es q o)(hc:∀ v,v<n→0≤gi o v)(ht:tot n es≤18)(h:GL n es q D d0 o 0 d s e):GS n es q D d0 (left' D n s).toNat d s e:=by
  have hF:=FF_half hE o ((0:Nat):Int)
  have hB:=pow_bnd hD0 (show FF n es o ((0:Nat):Int)≤9 by omega)
  have hpos:∀ v,v<n→v≠q→0≤gi d v:=fun v hv hvq=>h.pos v hv (by
    have h1:=hc v hv
    have h2:gi o v≠0:=fun e=>hvq (hD.zero v hv e)
    omega)
  refine ⟨h.e0,⟨h.dl,h.sl,h.lp,hpos,?_,fun v hv=>(h.s0 v hv).1,?_⟩,rfl⟩
  · have h1:sm n (fun v=>if v=q then 0 else gi d v)≤sm n (fun v=>if v=q then 0 else D*512):=yeh fun v hv=>by
      show ite _ _ _≤ite _ _ _
      split
      · omega
      · have:=h.bd v hv;omega
    have h2:=yhS (f:=fun _=>D*512) hq
    rw [yf8] at h2
    have h3:(n:Int)*(D*512)≤6*(D*512):=Int.mul_le_mul_of_nonneg_right (by omega) (by omega)
    omega
  · have:=(h.s0 q hq).2
    have:=mul_bnd (n:=n) (k:=0) hD0 hn
    omega
end
end Go.Proofs.YtjepipbkiadcpaaGreat

/- The walk of graph.Check. -/
namespace Go.Proofs.YtjepipbkiadcpaaGreat
open Go.RowKit Go.Proofs.Tryz
set_option maxRecDepth 100000
set_option maxHeartbeats 400000
def yic(a b c d:Int):Int:=orF (cmpF a c) (cmpF b d)
theorem pcompare_any(a b c d:Int)(w:World):Calls Tryz.prog 145 #[.agg #[.int .i64 a, .int .i64 b], .agg #[.int .i64 c, .int .i64 d]] w fun e w' =>
    e = .returned (.int .i64 (yic a b c d))∧Pure w w':=by
  go_enter func145,ntmps145
  go_wp2
  go_region_held3 (fun w'=>w'.cell? ⟨w.heap.size,0,none⟩=some (.int .i64 a)∧w'.cell? ⟨w.heap.size,1,none⟩=some (.int .i64 b)∧w'.cell? ⟨w.heap.size+1,0,none⟩=some (.int .i64 c)∧w'.cell? ⟨w.heap.size+1,1,none⟩=some (.int .i64 d)) (simp [go_sem,World.cell?_alloc_past])
    (first
      | (go_at_call 80;refine (ygr _ _ _).mono ?_;rintro e w' ⟨rfl,rfl⟩)
      | (go_at_call 195;refine (or_two _ _ (cmpF a c) (cmpF b d) _ (by simp [go_sem]) (by simp [go_sem])).mono ?_;rintro e w' ⟨rfl,rfl⟩))
  go_wp2
  go_ret
  exact ⟨rfl,(by repeat (first | exact Keeps.refl _ _ | assumption | refine Keeps.drew ?_ | refine Keeps.drewN ?_ _ | refine Keeps.alloc ?_ _ | refine Keeps.setRow ?_ (by simp) _ | refine Keeps.setRow ?_ (by simp;omega) _ | refine Keeps.setCell ?_ (by simp) _ | refine Keeps.setCell ?_ (by simp;omega) _))⟩
def gchk(n:Int):Int→Int→List E3→Int
  | _,_,[]=>0
  | a,b,x::t =>
    if (0≤x.1∧x.1<n)∧(0≤x.2.1∧x.2.1<n)∧1≤x.2.2∧x.2.2≤50 then
      (if x.1≤x.2.1∧yic a b x.1 x.2.1<0 then gchk n x.1 x.2.1 t else 9)
    else 2
def yap(n:Int)(es:List E3):Int:=if 1≤n∧n≤12 then gchk n (-1) (-1) es else 2
theorem gcheck_any(A:Option Addr)(es:List E3)(cap:Nat)(n:Int)(w:World)(hd:ydc w A es)(hlen:es.length≤1000000000) :
    Calls Tryz.prog 93 #[.agg #[.int .i64 n, .slice A es.length cap]] w fun e w'=>e = .returned (.int .i64 (yap n es))∧Pure w w':=by
  have HD:=Lib.hid hd
  clear hd
  by_cases h1:1≤n∧n≤12
  case neg =>
    go_enter func93,ntmps93
    go_wp2
    all_goals try (exfalso;omega)
    all_goals go_ret
    all_goals exact ⟨yc1 (by rw [yap,if_neg h1];rfl),(by repeat (first | exact Keeps.refl _ _ | assumption | refine Keeps.drew ?_ | refine Keeps.drewN ?_ _ | refine Keeps.alloc ?_ _ | refine Keeps.setRow ?_ (by simp) _ | refine Keeps.setRow ?_ (by simp;omega) _ | refine Keeps.setCell ?_ (by simp) _ | refine Keeps.setCell ?_ (by simp;omega) _))⟩
  obtain ⟨h1,h2⟩:=h1
  have hb1:decide (n<1)=false:=by simp;omega
  have hb2:decide (12<n)=false:=by simp;omega
  have hg:Hid (yap n es=gchk n (-1) (-1) (es.drop 0)):=by rw [yap,if_pos ⟨h1,h2⟩];rfl
  go_enter func93,ntmps93
  go_wp2
  have hr1:=Row.alloc (Row.new w #[.int .i64 n, .slice A es.length cap] 24) (.cells #[.int .i64 (-1), .int .i64 (-1)] 148)
  have hr2:=Row.new (w.alloc (.cells #[.int .i64 n, .slice A es.length cap] 24)) #[.int .i64 (-1), .int .i64 (-1)] 148
  have hk0:Pure w ((w.alloc (.cells #[.int .i64 n, .slice A es.length cap] 24)).alloc (.cells #[.int .i64 (-1), .int .i64 (-1)] 148)):=(by repeat (first | exact Keeps.refl _ _ | assumption | refine Keeps.drew ?_ | refine Keeps.drewN ?_ _ | refine Keeps.alloc ?_ _ | refine Keeps.setRow ?_ (by simp) _ | refine Keeps.setRow ?_ (by simp;omega) _ | refine Keeps.setCell ?_ (by simp) _ | refine Keeps.setCell ?_ (by simp;omega) _))
  simp only [World.size_alloc] at hr1 hr2
  go_loopw [19] (fun i wr=>∃ (k:Nat) (la lb:Int),k≤es.length∧i = .int .i64 k∧Row wr w.heap.size 24 2 [.int .i64 n, .slice A es.length cap]∧Row wr (w.heap.size+1) 148 2 [.int .i64 la, .int .i64 lb]∧Pure w wr∧Hid (yap n es=gchk n la lb (es.drop k))) (fun i _=>es.length-(intOf i).toNat)
  case atStart=>exact ⟨0, -1, -1,Nat.zero_le _,rfl,hr1,hr2,hk0,hg⟩
  case round =>
    clear hg hr1 hr2 hk0
    obtain ⟨k,la,lb,hk,rfl,hr1,hr2,hp,hg⟩:=hrel
    by_cases hlt:k<es.length
    · obtain ⟨b,off,rfl,hb,hc⟩:=HD.out (by omega)
      obtain ⟨c0,c1,c2⟩:=hc k hlt
      clear hc
      replace c0:=hp.cell id c0
      replace c1:=hp.cell id c1
      replace c2:=hp.cell id c2
      have r10:=Row.cell hr1 (i:=0) rfl
      have r20:=Row.cell hr2 (i:=0) rfl
      have r21:=Row.cell hr2 (i:=1) rfl
      have f20:=Row.frozen hr2 0
      have f21:=Row.frozen hr2 1
      have hsz:=hr2.lt
      have hsz0:=hr1.lt
      have hbw:b<wr.heap.size:=Nat.lt_of_lt_of_le hb hp.size
      have e1:Row ((wr.alloc (.cells #[.int .i64 (ge es k).1, .int .i64 (ge es k).2.1, .int .i64 (ge es k).2.2] 67)).alloc (.cells #[.int .i64 (ge es k).1, .int .i64 (ge es k).2.1] 148)) (wr.heap.size+1) 148 2 [.int .i64 (ge es k).1, .int .i64 (ge es k).2.1]:=by
        have:=Row.new (wr.alloc (.cells #[.int .i64 (ge es k).1, .int .i64 (ge es k).2.1, .int .i64 (ge es k).2.2] 67)) #[.int .i64 (ge es k).1, .int .i64 (ge es k).2.1] 148
        rw [World.size_alloc] at this;exact this
      have e2:=Row.alloc (Row.alloc hr1 (.cells #[.int .i64 (ge es k).1, .int .i64 (ge es k).2.1, .int .i64 (ge es k).2.2] 67)) (.cells #[.int .i64 (ge es k).1, .int .i64 (ge es k).2.1] 148)
      have e3:=Row.alloc (Row.alloc hr2 (.cells #[.int .i64 (ge es k).1, .int .i64 (ge es k).2.1, .int .i64 (ge es k).2.2] 67)) (.cells #[.int .i64 (ge es k).1, .int .i64 (ge es k).2.1] 148)
      have e4:Pure w ((wr.alloc (.cells #[.int .i64 (ge es k).1, .int .i64 (ge es k).2.1, .int .i64 (ge es k).2.2] 67)).alloc (.cells #[.int .i64 (ge es k).1, .int .i64 (ge es k).2.1] 148)):=(by repeat (first | exact Keeps.refl _ _ | assumption | refine Keeps.drew ?_ | refine Keeps.drewN ?_ _ | refine Keeps.alloc ?_ _ | refine Keeps.setRow ?_ (by simp) _ | refine Keeps.setRow ?_ (by simp;omega) _ | refine Keeps.setCell ?_ (by simp) _ | refine Keeps.setCell ?_ (by simp;omega) _))
      have hne:¬w.heap.size+1<w.heap.size:=by omega
      go_wp2_with (first | (go_at_call 144;refine (vertex_any _ _ _).mono ?_;rintro e w' ⟨rfl,rfl⟩) | (go_at_call 145;refine (pcompare_any _ _ _ _ _).mono ?_;rintro e w1 ⟨rfl,hp1⟩;have k1:=hp1.row e1 id;have k2:=hp1.row e2 id;have k3:=hp1.row e3 id;have k4:=Pure.after e4 hp1;clear e1 e2 e3 e4 hp1;have q0:=Row.cell k1 (i:=0) rfl;have q1:=Row.cell k1 (i:=1) rfl;have q2:=Row.frozen k3 0;have q3:=Row.frozen k3 1;have q4:=Row.cell k3 (i:=0) rfl;have q5:=Row.cell k3 (i:=1) rfl))
      all_goals (first
        | (go_ret
           refine ⟨yc1 (yeW ?_),(by repeat (first | exact Keeps.refl _ _ | assumption | refine Keeps.drew ?_ | refine Keeps.drewN ?_ _ | refine Keeps.alloc ?_ _ | refine Keeps.setRow ?_ (by simp) _ | refine Keeps.setRow ?_ (by simp;omega) _ | refine Keeps.setCell ?_ (by simp) _ | refine Keeps.setCell ?_ (by simp;omega) _))⟩
           rw [hg.out,yfJ hlt,gchk]
           first
             | rw [if_neg (by omega)]
             | rw [if_pos (by omega),if_neg (by omega)])
        | (refine ⟨⟨k+1,(ge es k).1,(ge es k).2.1,by omega,by go_num,(k2.far (by simp) _).far (by simp) _,(k3.set_ 0 _).set_ 1 _,(k4.setCell (fun h=>absurd h (by simp)) _).setCell (fun h=>absurd h (by simp)) _,?_⟩,by simp [intOf];omega⟩
           show yap n es=_
           rw [hg.out,yfJ hlt,gchk,if_pos (by omega),if_pos (by omega)]))
    · go_wp2
      go_ret
      refine ⟨yc1 (yeW ?_),hp⟩
      rw [hg.out,List.drop_eq_nil_of_le (by omega),gchk]
end Go.Proofs.YtjepipbkiadcpaaGreat

/- The walks of package connect's forests, up to Connected. -/
namespace Go.Proofs.YtjepipbkiadcpaaGreat
open Go.RowKit Go.Maps Go.Proofs.Tryz
set_option maxRecDepth 100000
set_option maxHeartbeats 400000
theorem yhT{sz:Nat}(g:Nat)(F:List Nat)(v:Nat)(w:World)(hF:NRow w g 230 sz F)(h:ydG F)(hv:v<12) :
    Calls Tryz.prog 202 #[.pointer (some ⟨g,0,none⟩), .int .i64 (v:Int)] w fun e w'=>e = .returned (.int .i64 (root F v:Int))∧w=w':=by
  have H:=Lib.hid h
  clear h
  go_enter func202,ntmps202
  go_wp2
  go_loopw [1] (fun i wr=>∃ u:Nat,u<12∧i = .int .i64 (u:Int)∧Hid (root F v=root F u)∧Same wr w) (fun i _=>(intOf i).toNat)
  case atStart=>exact ⟨v,hv,rfl,rfl, .refl _⟩
  case round =>
    obtain ⟨u,hu,rfl,hr,hw⟩:=hrel
    obtain rfl:wr=w:=hw.out
    have hc:=ncell hF (k:=u) (by rw [H.out.1];exact hu)
    simp only [Int.ofNat_eq_natCast] at hc
    have hle:=H.out.2 u hu
    by_cases he:gn F u=u
    · have hb:=neF (a:=(gn F u:Int)) (b:=(u:Int)) (by rw [he])
      have HE:=Lib.hid he
      clear he hw
      go_wp2
      go_ret
      exact ⟨yc1 (yeW (by rw [hr.out,ydk HE.out])),rfl⟩
    · have hb:=neT (a:=(gn F u:Int)) (b:=(u:Int)) (by omega)
      clear hw
      go_wp2
      go_roundw
      case rel=>exact ⟨gn F u,by omega,rfl,by rw [Hid,hr.out,yfT H.out hu he], .refl _⟩
      case measure=>simp [intOf];omega
theorem join_any(g:Nat)(F:List Nat)(a b:Nat)(w:World)(hF:NRow w g 230 12 F)(h:ydG F)(ha:a<12)(hb:b<12) :
    Calls Tryz.prog 201 #[.pointer (some ⟨g,0,none⟩), .int .i64 (a:Int), .int .i64 (b:Int)] w fun e w'=>e = .returned (.tuple #[])∧NRow w' g 230 12 (ydL F a b)∧Keeps (· = g) w w':=by
  have h1:=yeQ h a ha
  have h2:=yeQ h b hb
  have hfa:=Row.frozen hF (root F a)
  have hfb:=Row.frozen hF (root F b)
  have hca:=ncell hF (k:=root F a) (by rw [h.1];omega)
  have hcb:=ncell hF (k:=root F b) (by rw [h.1];omega)
  have l1:root F a<12:=by omega
  have l2:root F b<12:=by omega
  have H1:=Lib.hid h1
  have H2:=Lib.hid h2
  clear h1 h2
  go_enter func201,ntmps201
  go_wp2_with fail
  refine (yhT g F a _ hF h ha).mono ?_
  rintro e w' ⟨rfl,rfl⟩
  go_wp2_with fail
  refine (yhT g F b _ hF h hb).mono ?_
  rintro e w' ⟨rfl,rfl⟩
  have HF:=Lib.hid hF
  clear hF
  go_wp2
  all_goals go_end0
  all_goals (refine ⟨rfl,?_,(by repeat (first | exact Keeps.refl _ _ | assumption | refine Keeps.drew ?_ | refine Keeps.drewN ?_ _ | refine Keeps.alloc ?_ _ | refine Keeps.setRow ?_ (by simp) _ | refine Keeps.setRow ?_ (by simp;omega) _ | refine Keeps.setCell ?_ (by simp) _ | refine Keeps.setCell ?_ (by simp;omega) _))⟩)
  all_goals (first
    | (rw [show ydL F a b=F.set (root F a) (root F b) by unfold ydL;rw [Nat.max_eq_left (by omega),Nat.min_eq_right (by omega)]];exact nset HF.out _ _)
    | (rw [show ydL F a b=F.set (root F b) (root F a) by unfold ydL;rw [Nat.max_eq_right (by omega),Nat.min_eq_left (by omega)]];exact nset HF.out _ _)
    | (rw [show ydL F a b=F.set (root F a) (root F a) by unfold ydL;rw [Nat.max_eq_right (by omega),Nat.min_eq_left (by omega)];congr 1 <;> omega];exact nset HF.out _ _))
def ygY(F:List Nat):Value := .agg (yeb F).toArray
theorem grown_any(w:World) :
    Calls Tryz.prog 200 #[] w fun e w'=>e = .returned (ygY yfr)∧Pure w w':=by
  go_enter func200,ntmps200
  go_wp2
  refine wp_loop_rounds 13 ?_
  repeat any_goals (rw [rounds_succ];go_wp2)
  exact bodyPost_ret (v:=ygY yfr) (by simp [results,Tryz.results200,go_sem,ygY,yeb,yfr,List.range,List.range.loop]) rfl ⟨rfl,(by repeat (first | exact Keeps.refl _ _ | assumption | refine Keeps.drew ?_ | refine Keeps.drewN ?_ _ | refine Keeps.alloc ?_ _ | refine Keeps.setRow ?_ (by simp) _ | refine Keeps.setRow ?_ (by simp;omega) _ | refine Keeps.setCell ?_ (by simp) _ | refine Keeps.setCell ?_ (by simp;omega) _))⟩
theorem forestV_lit{F:List Nat}(h:F.length=12):∃ a0 a1 a2 a3 a4 a5 a6 a7 a8 a9 a10 a11:Nat,F=[a0,a1,a2,a3,a4,a5,a6,a7,a8,a9,a10,a11]:=by
  match F,h with
  | [a0,a1,a2,a3,a4,a5,a6,a7,a8,a9,a10,a11],_=>exact ⟨a0,a1,a2,a3,a4,a5,a6,a7,a8,a9,a10,a11,rfl⟩
theorem forest_info:(Tryz.prog.info? 230).map (·.size)=some 12:=by kernel_rfl
theorem joined_any(A:Option Addr)(es:List E3)(cap:Nat)(n:Int)(w:World)(hd:ydc w A es)(hlen:es.length≤1000000000)(hE:ydz es) :
    Calls Tryz.prog 169 #[.agg #[.int .i64 n, .slice A es.length cap]] w fun e w'=>e = .returned (ygY (yay es))∧Pure w w':=by
  have HD:=Lib.hid hd
  have HE:=Lib.hid hE
  clear hd hE
  go_enter func169,ntmps169
  go_wp2_with fail
  refine (grown_any _).mono ?_
  rintro e w1 ⟨rfl,hp1⟩
  have r0:=hp1.row (Row.alloc (Row.new w #[.int .i64 n, .slice A es.length cap] 24) _) id
  have r1:=hp1.row (Row.new (w.alloc (.cells #[.int .i64 n, .slice A es.length cap] 24)) #[.int .i64 0, .int .i64 0, .int .i64 0, .int .i64 0, .int .i64 0, .int .i64 0, .int .i64 0, .int .i64 0, .int .i64 0, .int .i64 0, .int .i64 0, .int .i64 0] 230) id
  rw [World.size_alloc] at r1
  have k0:Pure w w1:=Pure.after (by repeat (first | exact Keeps.refl _ _ | assumption | refine Keeps.drew ?_ | refine Keeps.drewN ?_ _ | refine Keeps.alloc ?_ _ | refine Keeps.setRow ?_ (by simp) _ | refine Keeps.setRow ?_ (by simp;omega) _ | refine Keeps.setCell ?_ (by simp) _ | refine Keeps.setCell ?_ (by simp;omega) _)) hp1
  have r00:=Row.cell r0 (i:=0) rfl
  have r01:=Row.cell r0 (i:=1) rfl
  have s0:=r0.lt
  have s1:=r1.lt
  unfold ygY yeb yfr
  simp only [List.range,List.range.loop,List.map]
  go_wp2
  have hf0:NRow (w1.alloc (.cells #[.int .i64 0, .int .i64 1, .int .i64 2, .int .i64 3, .int .i64 4, .int .i64 5, .int .i64 6, .int .i64 7, .int .i64 8, .int .i64 9, .int .i64 10, .int .i64 11] 230)) w1.heap.size 230 12 (yay (es.take 0)) :=
    Row.new w1 #[.int .i64 0, .int .i64 1, .int .i64 2, .int .i64 3, .int .i64 4, .int .i64 5, .int .i64 6, .int .i64 7, .int .i64 8, .int .i64 9, .int .i64 10, .int .i64 11] 230
  have g0:=Row.alloc r0 (.cells #[.int .i64 0, .int .i64 1, .int .i64 2, .int .i64 3, .int .i64 4, .int .i64 5, .int .i64 6, .int .i64 7, .int .i64 8, .int .i64 9, .int .i64 10, .int .i64 11] 230)
  have g1:=Row.alloc r1 (.cells #[.int .i64 0, .int .i64 1, .int .i64 2, .int .i64 3, .int .i64 4, .int .i64 5, .int .i64 6, .int .i64 7, .int .i64 8, .int .i64 9, .int .i64 10, .int .i64 11] 230)
  have k1:=Keeps.alloc k0 (.cells #[.int .i64 0, .int .i64 1, .int .i64 2, .int .i64 3, .int .i64 4, .int .i64 5, .int .i64 6, .int .i64 7, .int .i64 8, .int .i64 9, .int .i64 10, .int .i64 11] 230)
  go_loopw [10] (fun i wr=>∃ k:Nat,k≤es.length∧i = .int .i64 k∧NRow wr w1.heap.size 230 12 (yay (es.take k))∧Row wr (w.heap.size+1) 230 12 [.int .i64 0, .int .i64 0, .int .i64 0, .int .i64 0, .int .i64 0, .int .i64 0, .int .i64 0, .int .i64 0, .int .i64 0, .int .i64 0, .int .i64 0, .int .i64 0]∧Pure w wr) (fun i _=>es.length-(intOf i).toNat)
  case atStart=>exact ⟨0,Nat.zero_le _,rfl,hf0,g1,k1⟩
  clear hf0 g0 g1 k1 r0 r1 k0 r00 r01 hp1
  case round =>
    obtain ⟨k,hk,rfl,hf,hr1,hp⟩:=hrel
    have sM:=hf.lt
    by_cases hlt:k<es.length
    · obtain ⟨b,off,rfl,hb,hc⟩:=HD.out (by omega)
      obtain ⟨c0,c1,c2⟩:=hc k hlt
      clear hc
      replace c0:=hp.cell id c0
      replace c1:=hp.cell id c1
      replace c2:=hp.cell id c2
      obtain ⟨x1,x2,x3,x4⟩:=HE.out _ (ge_mem hlt)
      obtain ⟨u,hu⟩:∃ u:Nat,(ge es k).1=(u:Int):=⟨(ge es k).1.toNat,by omega⟩
      obtain ⟨v,hv⟩:∃ v:Nat,(ge es k).2.1=(v:Int):=⟨(ge es k).2.1.toNat,by omega⟩
      have hbw:b<wr.heap.size:=Nat.lt_of_lt_of_le hb hp.size
      have hT:Hid (yay (es.take (k+1))=ydL (yay (es.take k)) u v):=by rw [Hid,joinedF_take es hlt,hu,hv];rfl
      rw [hu] at c0 x1 x2
      rw [hv] at c1 x3 x4
      clear hu hv
      go_wp2_with fail
      refine (join_any w1.heap.size (yay (es.take k)) u v _ (Row.alloc hf _) (ycI _ (HE.out.take k)) (by omega) (by omega)).mono ?_
      rintro e w2 ⟨rfl,hf2,hp2⟩
      go_wp2
      go_roundw
      case rel=>exact ⟨k+1,by omega,by go_num,by rw [hT.out];exact hf2,hp2.row (Row.alloc hr1 _) (by omega),(Keeps.alloc hp _).then hp2 (fun j hj e=>by omega)⟩
      case measure=>simp [intOf];omega
    · obtain rfl:k=es.length:=by omega
      rw [List.take_length] at hf
      have hL:=(ycI es HE.out).1
      have hfull:=NRow.full (xs:=yay es) (by rw [hL];exact hf)
      have hold:=Row.full (xs:=[.int .i64 0, .int .i64 0, .int .i64 0, .int .i64 0, .int .i64 0, .int .i64 0, .int .i64 0, .int .i64 0, .int .i64 0, .int .i64 0, .int .i64 0, .int .i64 0]) hr1
      have hinfo:(Tryz.prog.info? 230).map (·.size)=some (yeb (yay es)).toArray.size:=by
        rw [List.size_toArray,yeD,hL];exact forest_info
      have HFU:=Lib.hid hfull
      have HOL:=Lib.hid hold
      have HIN:=Lib.hid hinfo
      clear hfull hold hinfo hL
      go_wp2_with (first
        | (refine wpList_load_row rfl 230 (.tmp 3) rfl w1.heap.size rfl 230 (yeb (yay es)).toArray (0,0) _ HFU.out underlying230 rfl HIN.out ?_)
        | (refine yhD rfl 230 (.tmp 2) (.tmp 20) rfl (w.heap.size+1) rfl (yeb (yay es)).toArray rfl 230 _ HOL.out (by rw [List.size_toArray,List.size_toArray,yeD,(ycI es HE.out).1];rfl) HIN.out (nvals_one _) ?_))
      refine bodyPost_ret (results_cell_row rfl _ _ (w.heap.size+1) 230 (yeb (yay es)).toArray (0,0) _ rfl (setRow_heap _ _ _ _ _ _ HOL.out) underlying230 rfl HIN.out) rfl ⟨rfl,(by repeat (first | exact Keeps.refl _ _ | assumption | refine Keeps.drew ?_ | refine Keeps.drewN ?_ _ | refine Keeps.alloc ?_ _ | refine Keeps.setRow ?_ (by simp) _ | refine Keeps.setRow ?_ (by simp;omega) _ | refine Keeps.setCell ?_ (by simp) _ | refine Keeps.setCell ?_ (by simp;omega) _))⟩
end Go.Proofs.YtjepipbkiadcpaaGreat

/- The walk of the parts of a forest: slices of slices that grow. -/
namespace Go.Proofs.YtjepipbkiadcpaaGreat
open Go.RowKit Go.Maps Go.Proofs.Tryz
set_option maxRecDepth 100000
set_option maxHeartbeats 400000
def ycF(F:List Nat):Nat→List (List Nat)
  | 0=>[]
  | k+1=>(if root F k=k then ycF F k++[[]] else ycF F k).modify (yaJ F (root F k)) (· ++ [k])
theorem ydr(F:List Nat):∀ k,(ycF F k).length=yaJ F k
  | 0=>rfl
  | k+1=>by
    rw [ycF,List.length_modify,yaJ]
    split <;> simp [ydr F k]
theorem rows_le(F:List Nat):∀ k,∀ r∈ycF F k,r.length≤k
  | 0=>by simp [ycF]
  | k+1=>by
    intro r hr
    rw [ycF] at hr
    obtain ⟨i,hi,rfl⟩:=List.getElem_of_mem hr
    have hb:∀ r'∈(if root F k=k then ycF F k++[[]] else ycF F k),r'.length≤k:=by
      intro r' hr'
      split at hr'
      · rcases List.mem_append.1 hr' with h1 | h1
        · exact rows_le F k r' h1
        · simp at h1;subst h1;simp
      · exact rows_le F k r' hr'
    rw [List.getElem_modify]
    rw [List.length_modify] at hi
    have:=hb _ (List.getElem_mem hi)
    split
    · simp;omega
    · omega
theorem nroots_mono(F:List Nat){a b:Nat}(h:a≤b):yaJ F a≤yaJ F b:=by
  induction b with
  | zero => obtain rfl : a = 0 := by omega
            exact Nat.le_refl _
  | succ b ih =>
    rcases Nat.lt_or_ge a (b+1) with h1 | h1
    · rw [yaJ];have:=ih (by omega);omega
    · obtain rfl:a=b+1:=by omega
      exact Nat.le_refl _
theorem yiI(F:List Nat){r k:Nat}(h:r<k)(hr:root F r=r):yaJ F r<yaJ F k:=by
  have:=nroots_mono F (show r+1≤k from h)
  rw [yaJ,if_pos hr] at this
  omega
theorem nroots_le(F:List Nat):∀ k,yaJ F k≤k
  | 0=>Nat.le_refl _
  | k+1=>by rw [yaJ];have:=nroots_le F k;split <;> omega
def yez(w:World)(B:Nat)(vals:List Value)(rows:List (List Nat)):Prop :=
  vals.length=rows.length∧(∀ (i:Nat) (v:Value) (r:List Nat),vals[i]? = some v→rows[i]? = some r→w.ownsRow B 3 1 v r.length (yeb r)) ∧
    ∀ (i j:Nat) (v u:Value),i≠j→vals[i]? = some v→vals[j]? = some u→v.ownBlock=none∨v.ownBlock≠u.ownBlock
theorem yez.nil(w:World)(B:Nat):yez w B [] []:=⟨rfl,by simp,by simp⟩
theorem yez.kept{w w':World}{B:Nat}{vals:List Value}{rows:List (List Nat)}{row:Option Nat}(h:yez w B vals rows)(hg:w.grownBy w' row)(hr:∀ v∈vals,v.ownBlock=none∨v.ownBlock≠row):yez w' B vals rows :=
  ⟨h.1,fun i v r hv hr'=>(h.2.1 i v r hv hr').kept hg (hr v (List.mem_of_getElem? hv)),h.2.2⟩
theorem yez.push{w:World}{B:Nat}{vals:List Value}{rows:List (List Nat)}(h:yez w B vals rows):yez w B (vals++[.slice none 0 0]) (rows++[[]]):=by
  refine ⟨by simp [h.1],fun i v r hv hr=>?_,fun i j v u hij hv hu=>?_⟩
  · rcases Nat.lt_or_ge i vals.length with hi | hi
    · rw [List.getElem?_append_left hi] at hv
      rw [List.getElem?_append_left (by rw [←h.1];exact hi)] at hr
      exact h.2.1 i v r hv hr
    · rw [List.getElem?_append_right hi] at hv
      rw [List.getElem?_append_right (by rw [←h.1];exact hi)] at hr
      have hi0:i-vals.length=0:=by
        rcases Nat.eq_zero_or_pos (i-vals.length) with h0 | h0
        · exact h0
        · rw [List.getElem?_eq_none (by simp;omega)] at hv;cases hv
      rw [hi0] at hv
      rw [←h.1,hi0] at hr
      simp at hv hr
      subst hv;subst hr
      exact World.ownsRow_nil _ _ _ _
  · rcases Nat.lt_or_ge i vals.length with hi | hi
    · rcases Nat.lt_or_ge j vals.length with hj | hj
      · rw [List.getElem?_append_left hi] at hv
        rw [List.getElem?_append_left hj] at hu
        exact h.2.2 i j v u hij hv hu
      · rw [List.getElem?_append_right hj] at hu
        cases hvo:v.ownBlock with
        | none=>exact .inl rfl
        | some g =>
          refine .inr ?_
          have:u = .slice none 0 0:=by
            have:=List.mem_of_getElem? hu
            simpa using this
          subst this
          simp [Value.ownBlock]
    · rw [List.getElem?_append_right hi] at hv
      have:v = .slice none 0 0:=by
        have:=List.mem_of_getElem? hv
        simpa using this
      subst this
      exact .inl rfl
theorem yez.grow{w w':World}{B:Nat}{vals:List Value}{rows:List (List Nat)}{c:Nat}{v v':Value}{r:List Nat}{x:Nat}(h:yez w B vals rows)(hv:vals[c]? = some v)(hr:rows[c]? = some r)
    (hg:w.grownBy w' v.ownBlock) (hown:w'.ownsRow B 3 1 v' (r.length+1) (yeb r++[.int .i64 (Int.ofNat x)])) (hat:v'.ownBlock=v.ownBlock∨∃ g,v'.ownBlock=some g∧w.heap.size≤g) :
    yez w' B (vals.set c v') (rows.modify c (· ++ [x])):=by
  have hc:c<vals.length:=(List.getElem?_eq_some_iff.1 hv).1
  have hlt:∀ (i:Nat) (u:Value),vals[i]? = some u→∀ k,u.ownBlock=some k→k<w.heap.size:=fun i u hu k hk=>by
    have hi:i<vals.length:=(List.getElem?_eq_some_iff.1 hu).1
    have hri:rows[i]? = some (rows[i]'(by rw [←h.1];exact hi)):=List.getElem?_eq_getElem (by rw [←h.1];exact hi)
    exact ((h.2.1 i u _ hu hri).lt k hk).2
  refine ⟨by simp [h.1],fun i u r' hu hr'=>?_,fun i j u z hij hu hz=>?_⟩
  · by_cases e:i=c
    · subst e
      rw [List.getElem?_set_self hc] at hu
      rw [List.getElem?_modify,hr] at hr'
      simp at hu hr'
      subst hu;subst hr'
      simpa [yeb] using hown
    · rw [List.getElem?_set_ne (fun e'=>e e'.symm)] at hu
      rw [List.getElem?_modify] at hr'
      have e':¬c=i:=fun h=>e h.symm
      have hr'':rows[i]? = some r':=by cases hq:rows[i]? <;> simp_all
      exact (h.2.1 i u r' hu hr'').kept hg (h.2.2 i c u v e hu hv)
  · by_cases e:i=c
    · subst e
      rw [List.getElem?_set_self hc] at hu
      rw [List.getElem?_set_ne (fun e'=>hij e')] at hz
      simp at hu
      subst hu
      rcases hat with e1 | ⟨g,e1,hgs⟩
      · rw [e1];exact h.2.2 i j v z hij hv hz
      · refine .inr ?_
        rw [e1]
        intro e2
        have:=hlt j z hz g e2.symm
        omega
    · rw [List.getElem?_set_ne (fun e'=>e e'.symm)] at hu
      by_cases e3:j=c
      · subst e3
        rw [List.getElem?_set_self hc] at hz
        simp at hz
        subst hz
        cases huo:u.ownBlock with
        | none=>exact .inl rfl
        | some k =>
          refine .inr ?_
          rcases hat with e1 | ⟨g,e1,hgs⟩
          · rw [e1]
            have:=h.2.2 i j u v hij hu hv
            rw [huo] at this
            rcases this with h0 | h0
            · cases h0
            · exact h0
          · rw [e1]
            intro e2
            have:=hlt i u hu k huo
            cases e2
            omega
      · rw [List.getElem?_set_ne (fun e'=>e3 e'.symm)] at hz
        exact h.2.2 i j u z hij hu hz
theorem ints_info:(Tryz.prog.info? 33).map (fun i=>(i.zero,i.size,i.bytes))=some (some (.slice none 0 0),1,24):=by kernel_rfl
theorem zero_int(w:World):(zeroValue 3).run Tryz.prog w = .ok (.int .i64 0) w:=by kernel_rfl
theorem key_int:Keyed Tryz.prog 3:=int_keyed underlying3
theorem wf_small{r:Nat}(hr:r<1000):(Lit.int .i64 (r:Int)).wf=true:=WalkArith.wf_i64 (by omega)
theorem yb5{H:Type}{w:World}{M n:Nat}{D:DataW H}{r:Nat}{c:Int}(h:w.ownsMap Tryz.prog 3 (plainElem Tryz.prog 3) M n D)(hr:r<1000)(hD:D.atKey (.int .i64 (r:Int)) (.lit (.int .i64 0)) = .lit (.int .i64 c)) :
    (Instr.lookup 266 (.map (some M)) (.int .i64 (r:Int)) false).run Tryz.prog w = .ok (.int .i64 c) w:=by
  obtain ⟨c',h1,h2,_⟩:=h.lookup_int key_int underlying266 underlying3 (zero_int w) (key := .int .i64 (r:Int)) (keyOf_int_mk underlying3 (wf_small hr))
  rw [hD] at h2
  simp at h2
  rw [h1,h2]
theorem yip{w:World}{B n:Nat}{v:Value}{xs:List Value}{e:TypeId}(h:w.ownsRow B e 1 v n xs):∃ A c,v = .slice A n c:=by
  rcases h.2 with ⟨rfl,rfl⟩ | ⟨g,cap,cur,rfl,_⟩
  · exact ⟨_,_,rfl⟩
  · exact ⟨_,_,rfl⟩
theorem yhn{H:Type}{P:Program}{w:World}{B e size n m k:Nat}{v:Value}{xs:List Value}{R:Value→Option (DataW H×List MemPlace)}{D:DataW H}{M:Nat}(h:w.ownsRow B e size v n xs)(hm:w.ownsMap P k R M m D):v.ownBlock=none∨v.ownBlock≠some M:=by
  obtain ⟨es,clock,hM,_⟩:=hm
  rcases h.2 with ⟨rfl,_⟩ | ⟨g,cap,cur,rfl,_,hg,_⟩
  · exact .inl rfl
  · refine .inr ?_
    simp only [Value.ownBlock]
    intro e'
    cases e'
    rw [hg] at hM
    cases hM
theorem own_ne_map' {H:Type}{P:Program}{w:World}{B e size n m k:Nat}{v:Value}{xs:List Value}{R:Value→Option (DataW H×List MemPlace)}{D:DataW H}{M:Nat}(h:w.ownsRow B e size v n xs)(hm:w.ownsMap P k R M m D):some M≠v.ownBlock:=by
  rcases yhn h hm with e | e
  · rw [e];simp
  · exact fun e'=>e e'.symm
theorem undrew{w w':World}{r:Option Nat}(h:w.drew.grownBy w' r):w.grownBy w' r:=⟨h.os,h.tape,h.output,h.size,h.block⟩
theorem ye6{w:World}{B B' e e' size size' n n':Nat}{v v':Value}{xs xs':List Value}(he:e≠e')(h:w.ownsRow B e size v n xs)(h':w.ownsRow B' e' size' v' n' xs'):v.ownBlock=none∨v.ownBlock≠v'.ownBlock:=by
  rcases h.2 with ⟨rfl,_⟩ | ⟨g,cap,cur,rfl,_,hg,_⟩
  · exact .inl rfl
  · refine .inr ?_
    rcases h'.2 with ⟨rfl,_⟩ | ⟨g',cap',cur',rfl,_,hg',_⟩
    · simp [Value.ownBlock]
    · simp only [Value.ownBlock]
      intro e''
      simp only [Option.some.injEq] at e''
      subst e''
      rw [hg] at hg'
      simp only [Option.some.injEq,Obj.cells.injEq] at hg'
      exact he hg'.2.1
theorem yez.row{w:World}{B:Nat}{vals:List Value}{rows:List (List Nat)}(h:yez w B vals rows){v:Value}(hv:v∈vals):∃ n xs,w.ownsRow B 3 1 v n xs:=by
  obtain ⟨i,hi,rfl⟩:=List.getElem_of_mem hv
  have hr:rows[i]? = some (rows[i]'(by rw [←h.1];exact hi)):=List.getElem?_eq_getElem (by rw [←h.1];exact hi)
  exact ⟨_,_,h.2.1 i _ _ (List.getElem?_eq_getElem hi) hr⟩
theorem row_block{w:World}{B e n c g cap:Nat}{xs:List Value}{u:Value}(h:w.ownsRow B e 1 (.slice (some ⟨g,0,none⟩) n cap) n xs)(hu:xs[c]? = some u):w.cell? ⟨g,c,none⟩=some u∧w.frozen? ⟨g,c,none⟩=false:=by
  have h1:=h.cells (g:=g) rfl c u hu
  have hadd:(⟨g,0,none⟩:Addr).add c=⟨g,c,none⟩:=by unfold Addr.add;split <;> simp_all
  rw [hadd] at h1
  refine ⟨h1,?_⟩
  rcases h.2 with ⟨h0,_⟩ | ⟨g',cap',cur,h0,_,hg,_⟩
  · cases h0
  · cases h0
    simp [World.frozen?,hg]
set_option maxHeartbeats 4000000 in
theorem parts_any{sz:Nat}(g:Nat)(F:List Nat)(n:Nat)(w:World)(hF:NRow w g 230 sz F)(h:ydG F)(hn:n≤12) :
    Calls Tryz.prog 170 #[.pointer (some ⟨g,0,none⟩), .int .i64 (n:Int)] w fun e w'=>∃ v vals,e = .returned v∧w'.ownsRow w.heap.size 33 1 v (yaJ F n) vals∧yez w' w.heap.size vals (ycF F n)∧Pure w w':=by
  have HF:=Lib.hid h
  clear h
  obtain ⟨i0,hi,hz0,hz1,hz2⟩:=info_parts int_info
  obtain ⟨i1,hi1,hy0,hy1,hy2⟩:=info_parts ints_info
  have hmm:=@run_makeMap Tryz.prog
  go_enter func170,ntmps170
  go_wp2
  have hm0:=World.ownsMap_made (H:=Unit) w Tryz.prog 3 (plainElem Tryz.prog 3)
  go_loopw [5,11] (fun out i wr=>∃ (k:Nat) (vals:List Value) (D:DataW Unit),k≤n∧i = .int .i64 k∧wr.ownsRow w.heap.size 33 1 out (yaJ F k) vals∧yez wr w.heap.size vals (ycF F k) ∧
      wr.ownsMap Tryz.prog 3 (plainElem Tryz.prog 3) w.heap.size k D∧Hid (IsMap D∧∀ r,r<k→root F r=r→D.atKey (.int .i64 (r:Int)) (.lit (.int .i64 0)) = .lit (.int .i64 (yaJ F r:Int)))∧Pure w wr) (fun _ i _=>n-(intOf i).toNat)
  case atStart=>exact ⟨0,[], .map [],Nat.zero_le _,rfl,World.ownsRow_nil _ _ _ _,yez.nil _ _,hm0,⟨isMap_empty,fun r hr=>absurd hr (by omega)⟩,(by repeat (first | exact Keeps.refl _ _ | assumption | refine Keeps.drew ?_ | refine Keeps.drewN ?_ _ | refine Keeps.alloc ?_ _ | refine Keeps.setRow ?_ (by simp) _ | refine Keeps.setRow ?_ (by simp;omega) _ | refine Keeps.setCell ?_ (by simp) _ | refine Keeps.setCell ?_ (by simp;omega) _))⟩
  case round =>
    obtain ⟨k,vals,D,hk,rfl,hown,hsl,hmap,HD,hp⟩:=hrel
    clear hm0
    have hFr:NRow wr g 230 sz F:=hp.row hF id
    obtain ⟨A,cp,rfl⟩:=yip hown
    by_cases hlt:k<n
    · have hrl:=yeQ HF.out k (by omega)
      have hnk:=nroots_le F k
      have hMw:w.heap.size<wr.heap.size:=hmap.lt
      by_cases hr:root F k=k
      case' pos =>
        have hb:((root F k:Int)==(k:Int))=true:=by simp [hr]
        have HR:=Lib.hid hr
        go_wp2_with fail
        refine (yhT g F k _ hFr HF.out (by omega)).mono ?_
        rintro e w' ⟨rfl,rfl⟩
        rw [hr] at hb ⊢
        clear hr
        go_wp2_with (first
          | (refine wpList_mapUpdate_own _ rfl _ _ _ 266 rfl 3 3 key_int underlying266 _ w.heap.size k D rfl hmap (by unfold maxLen;omega) _ _ _ rfl rfl (keyOf_int_mk underlying3 (wf_small (by omega))) (.lit (.int .i64 (yaJ F k:Int))) [] (plainElem_int underlying3 (wf_small (by omega))) ?_;intro w1 hmap1 hgrow1;have hown1:=hown.kept hgrow1 (yhn hown hmap);have hsl1:=hsl.kept hgrow1 (fun v hv=>by obtain ⟨_,_,hq⟩:=hsl.row hv;exact yhn hq hmap);have hsz1:=hgrow1.size)
          | (at_builtin;refine wpList_append_own _ rfl _ _ 43 rfl w.heap.size 33 i1 (.slice none 0 0) 1 24 underlying43 hi1 hy0 hy1 hy2 rfl (by decide) _ _ _ rfl (hown1.alloc _) ⟨w1.heap.size,0,none⟩ 1 1 [.slice none 0 0] rfl rfl (cell_one_new _ _ _) (by simp [Value.oneCell']) (by unfold maxLen;omega) (by omega) (by have:=hp.size;simp;omega) ?_;intro v2 wA hown2 hgrow2 _))
        obtain ⟨G,capA,rfl,hG1,hG2⟩:=hown2.form (by omega)
        have hS:=((hsl1.kept (World.grownBy_alloc w1 _ none) (fun v _=>by cases v.ownBlock <;> simp)).kept hgrow2 (fun v hv=>by obtain ⟨_,_,hq⟩:=hsl1.row hv;exact ye6 (by decide) hq hown1)).push
        have hM:=(hmap1.alloc (.cells #[.slice none 0 0] 33)).kept hgrow2 (own_ne_map' hown1 hmap1)
        have hP:Pure w wA:=by
          refine Keeps.grown (Keeps.alloc (Keeps.grown hp hgrow1 (fun j e hj=>by cases e;omega)) _) hgrow2 (fun j e hj=>?_)
          have:=(hown1.lt j e).1
          omega
        have hlen:vals.length=yaJ F k:=by have:=hown.1;omega
        have hO:=hown2
        obtain ⟨vi,hvi⟩:∃ vi:Value,vi = .slice none 0 0:=⟨_,rfl⟩
        obtain ⟨rr,hrr⟩:∃ rr:List Nat,rr=[]:=⟨_,rfl⟩
        have HX:Hid ((ycF F k++[[]])[yaJ F k]? = some rr∧(ycF F (k+1)=(ycF F k++[[]]).modify (yaJ F k) (· ++ [k])∧yaJ F (k+1)=yaJ F k+1)∧(IsMap (D.put (.int .i64 (k:Int)) (.lit (.int .i64 (yaJ F k:Int))))∧∀ r,r<k+1→root F r=r→(D.put (.int .i64 (k:Int)) (.lit (.int .i64 (yaJ F k:Int)))).atKey (.int .i64 (r:Int)) (.lit (.int .i64 0)) = .lit (.int .i64 (yaJ F r:Int)))∧(D.put (.int .i64 (k:Int)) (.lit (.int .i64 (yaJ F k:Int)))).atKey (.int .i64 (k:Int)) (.lit (.int .i64 0)) = .lit (.int .i64 (yaJ F k:Int))∧(vals++[.slice none 0 0])[yaJ F k]? = some vi∧yaJ F k<yaJ F k+1):=by
          rw [hvi,hrr]
          have hk1:WideAt.IsKeyLit (.int .i64 (k:Int)):=trivial
          refine ⟨?_,⟨?_,?_⟩,⟨HD.out.1.put _ _,?_⟩,?_,?_,by omega⟩
          · rw [List.getElem?_append_right (by rw [ydr];exact Nat.le_refl _),ydr];simp
          · rw [ycF,HR.out,if_pos rfl]
          · rw [yaJ,if_pos HR.out]
          · intro q hq hqr
            by_cases e:q=k
            · subst e;exact atKey_put_same HD.out.1 hk1 _ _
            · rw [atKey_put_other (by simp;omega)]
              exact HD.out.2 q (by omega) hqr
          · exact atKey_put_same HD.out.1 hk1 _ _
          · rw [List.getElem?_append_right (by omega),hlen];simp
        clear hgrow2 hmap1 hgrow1 hown1 hsl1 hsz1 hown hsl hmap HD hlen hown2 HR
        generalize hvv:vals++[(.slice none 0 0:Value)]=vA at *
        clear hvv
        generalize hrw:ycF F k++[[]]=rowsA at *
        clear hrw
        have hform:∃ Ai ci,vi = .slice Ai rr.length ci:=⟨none,0,by rw [hvi,hrr];rfl⟩
        have hvo':wA.ownsRow w.heap.size 3 1 vi rr.length (yeb rr):=by rw [hvi,hrr];exact World.ownsRow_nil _ _ _ _
        have hrl12:rr.length≤1000:=by rw [hrr];simp
        clear hvi hrr
        generalize hL:yaJ F k+1=L at *
        clear hL
        generalize hcc:yaJ F k=c at *
        clear hcc
        generalize hDD:D.put (.int .i64 (k:Int)) (.lit (.int .i64 (c:Int)))=DA at *
        clear hDD
        obtain ⟨Ai,ci,rfl⟩:=hform
        have hcL:c<L:=HX.out.2.2.2.2.2
        have hc0:(0:Int)≤(c:Int):=by omega
        have hc1:(c:Int)<(L:Int):=by omega
        have hcv:=HX.out.2.2.2.2.1
        obtain ⟨hq1,hq2⟩:=row_block hO hcv
        have hr12:k<1000:=by omega
        have hLk:=yb5 hM hr12 HX.out.2.2.2.1
        have hlk1:=yb5 (World.ownsMap.drew hM) hr12 HX.out.2.2.2.1
        have hlk2:=yb5 (World.ownsMap.drew (hM.alloc (.cells #[.int .i64 (k:Int)] 3))) hr12 HX.out.2.2.2.1
        have hGn:=ye6 (by decide) hO hvo'
        have hMG:=own_ne_map' hvo' hM
        have hGw:G<wA.heap.size:=(hO.lt G rfl).2
        have HO:=Lib.hid hO
        have HS:=Lib.hid hS
        have HM:=Lib.hid hM
        have HV:=Lib.hid hvo'
        have HMG:=Lib.hid hMG
        have HGn:Hid (some G≠(Value.slice Ai rr.length ci).ownBlock):=by
          rcases hGn with e | e
          · simp [Value.ownBlock] at e
          · exact e
        clear hO hS hM hvo' hMG hGn hcv hLk
        go_region_law ((refine step_append_lies _ (by rfl) _ _ _ (by rfl) w.heap.size 3 i0 _ 1 8 underlying33 hi hz0 hz1 hz2 rfl (by omega) (.slice Ai rr.length ci) rr.length (yeb rr) (by rfl) ((HV.out.alloc _).drew) ⟨wA.heap.size,0,none⟩ 1 1 [.int .i64 (k:Int)] (by rfl) (by rfl) (World.news_of_block (cs:=#[.int .i64 (k:Int)]) (t:=3) (fr:=(0,0)) (heap_alloc_new wA _)) (by simp [Value.oneCell']) (by omega) (by unfold maxLen;omega) (by omega) (by simp;omega) (wA.heap.size+1) (by simp) ?_;intro gg cap w3 hown3 hgrow hat hlt3;have hbG:=hgrow.block G (by simp;omega) HGn.out;have hbG':=hbG.trans (Below.heap_alloc wA _ G hGw);have hq3:=(World.cell?_of_block (w:=wA) (a:=⟨G,c,none⟩) hbG').trans hq1;have hq4:=(World.frozen?_of_block (w:=wA) (a:=⟨G,c,none⟩) hbG').trans hq2;have hM3:=(World.ownsMap.drew (HM.out.alloc (.cells #[.int .i64 (k:Int)] 3))).kept hgrow HMG.out;have hlk3:=yb5 hM3 hr12 HX.out.2.2.2.1;have HM3:=Lib.hid hM3;have HG3:=Lib.hid hgrow;have HO3:=Lib.hid hown3;have HA3:=Lib.hid hat;clear hbG hbG' hM3 hgrow hown3 hat))
        all_goals (
          have o3:=(HO.out.alloc (.cells #[.int .i64 (k:Int)] 3)).kept (w':=w3) (undrew HG3.out) (.inr (by simpa [Value.ownBlock] using HGn.out))
          have o4:=o3.stored c (.slice (some ⟨gg,0,none⟩) (rr.length+1) cap)
          have s3:=yez.grow (v' := .slice (some ⟨gg,0,none⟩) (rr.length+1) cap) (x:=k) (HS.out.kept (World.grownBy_alloc wA (.cells #[.int .i64 (k:Int)] 3) none) (fun v _=>by cases v.ownBlock <;> simp)) HX.out.2.2.2.2.1 HX.out.1 (undrew HG3.out) HO3.out (by
            rcases HA3.out with e | e
            · exact .inl e.symm
            · exact .inr ⟨gg,rfl,by rw [e];simp⟩)
          have s4:=s3.kept o4.2 (fun v hv=>by obtain ⟨_,_,hq⟩:=s3.row hv;exact ye6 (by decide) hq o3)
          have m4:=HM3.out.kept o4.2 (own_ne_map' o3 HM3.out)
          have p4:Pure w (w3.setCell ⟨G,c,none⟩ (.slice (some ⟨gg,0,none⟩) (rr.length+1) cap)):=by
            refine Keeps.setCell (Keeps.grown (Keeps.drew (Keeps.alloc hP _)) HG3.out (fun j e hj=>?_)) (by simp;omega) _
            have:=(HV.out.lt j e).1
            omega
          have HO4:=Lib.hid o4.1
          have HS4:=Lib.hid s4
          have HM4:=Lib.hid m4
          have HP4:=Lib.hid p4
          clear o3 o4 s3 s4 m4 p4 hq1 hq2 hq3 hq4 hlk1 hlk2 hlk3
          go_wp2
          go_roundw
          case rel=>exact ⟨k+1,vA.set c (.slice (some ⟨gg,0,none⟩) (rr.length+1) cap),DA,by omega,by go_num,by rw [HX.out.2.1.2];exact HO4.out,by rw [HX.out.2.1.1];exact HS4.out,HM4.out,HX.out.2.2.1,HP4.out⟩
          case measure=>simp [intOf];omega)
      case' neg =>
        have hb:((root F k:Int)==(k:Int))=false:=by simp;omega
        have hrk:root F k<k:=by omega
        have HR:=Lib.hid hr
        clear hr
        have hcl:yaJ F (root F k)<yaJ F k:=yiI F hrk (yis HF.out (by omega))
        obtain ⟨G,capA,e0,hG1,hG2⟩:=hown.form (by omega)
        cases e0
        have hlen:vals.length=yaJ F k:=by have:=hown.1;omega
        have hv0:vals[yaJ F (root F k)]? = some (vals[yaJ F (root F k)]'(by omega)):=List.getElem?_eq_getElem _
        have hr0:(ycF F k)[yaJ F (root F k)]? = some ((ycF F k)[yaJ F (root F k)]'(by rw [ydr];omega)):=List.getElem?_eq_getElem _
        obtain ⟨vi,hvi⟩:∃ vi:Value,vi=vals[yaJ F (root F k)]'(by omega):=⟨_,rfl⟩
        obtain ⟨rr,hrr⟩:∃ rr:List Nat,rr=(ycF F k)[yaJ F (root F k)]'(by rw [ydr];omega):=⟨_,rfl⟩
        rw [←hvi] at hv0
        rw [←hrr] at hr0
        have hrl12:rr.length≤1000:=by
          have:=rows_le F k rr (by rw [hrr];exact List.getElem_mem _)
          omega
        clear hvi hrr
        go_wp2_with fail
        refine (yhT g F k _ hFr HF.out (by omega)).mono ?_
        rintro e w' ⟨rfl,rfl⟩
        go_wp2
        obtain ⟨wA,hwA⟩:∃ wA:World,wA=wr:=⟨_,rfl⟩
        rw [←hwA] at hown hsl hmap hp hG2 ⊢
        clear hwA
        have hO:=hown
        have hS:=hsl
        have hM:=hmap.mono (Nat.le_succ k)
        have hP:=hp
        have hvo':=hsl.2.1 _ _ _ hv0 hr0
        have hform:∃ Ai ci,vi = .slice Ai rr.length ci:=yip hvo'
        have HX:Hid ((ycF F k)[yaJ F (root F k)]? = some rr∧(ycF F (k+1)=(ycF F k).modify (yaJ F (root F k)) (· ++ [k])∧yaJ F (k+1)=yaJ F k)∧(IsMap D∧∀ r,r<k+1→root F r=r→D.atKey (.int .i64 (r:Int)) (.lit (.int .i64 0)) = .lit (.int .i64 (yaJ F r:Int)))∧D.atKey (.int .i64 (root F k:Int)) (.lit (.int .i64 0)) = .lit (.int .i64 (yaJ F (root F k):Int))∧vals[yaJ F (root F k)]? = some vi∧yaJ F (root F k)<yaJ F k):=by
          refine ⟨hr0,⟨?_,?_⟩,⟨HD.out.1,?_⟩,?_,hv0,hcl⟩
          · rw [ycF,if_neg HR.out]
          · rw [yaJ,if_neg HR.out,Nat.add_zero]
          · intro q hq hqr
            by_cases e:q=k
            · subst e;exact absurd hqr HR.out
            · exact HD.out.2 q (by omega) hqr
          · exact HD.out.2 _ hrk (yis HF.out (by omega))
        clear hown hsl hmap HD hlen HR hv0 hr0 hcl
        generalize hL:yaJ F k=L at *
        clear hL
        generalize hcc:yaJ F (root F k)=c at *
        clear hcc
        generalize hrw:ycF F k=rowsA at *
        clear hrw
        generalize hq:root F k=r at *
        clear hq
        obtain ⟨Ai,ci,rfl⟩:=hform
        have hcL:c<L:=HX.out.2.2.2.2.2
        have hc0:(0:Int)≤(c:Int):=by omega
        have hc1:(c:Int)<(L:Int):=by omega
        have hcv:=HX.out.2.2.2.2.1
        obtain ⟨hq1,hq2⟩:=row_block hO hcv
        have hr12:r<1000:=by omega
        have hLk:=yb5 hM hr12 HX.out.2.2.2.1
        have hlk1:=yb5 (World.ownsMap.drew hM) hr12 HX.out.2.2.2.1
        have hlk2:=yb5 (World.ownsMap.drew (hM.alloc (.cells #[.int .i64 (k:Int)] 3))) hr12 HX.out.2.2.2.1
        have hGn:=ye6 (by decide) hO hvo'
        have hMG:=own_ne_map' hvo' hM
        have hGw:G<wA.heap.size:=(hO.lt G rfl).2
        have HO:=Lib.hid hO
        have HS:=Lib.hid hS
        have HM:=Lib.hid hM
        have HV:=Lib.hid hvo'
        have HMG:=Lib.hid hMG
        have HGn:Hid (some G≠(Value.slice Ai rr.length ci).ownBlock):=by
          rcases hGn with e | e
          · simp [Value.ownBlock] at e
          · exact e
        clear hO hS hM hvo' hMG hGn hcv hLk
        go_region_law ((refine step_append_lies _ (by rfl) _ _ _ (by rfl) w.heap.size 3 i0 _ 1 8 underlying33 hi hz0 hz1 hz2 rfl (by omega) (.slice Ai rr.length ci) rr.length (yeb rr) (by rfl) ((HV.out.alloc _).drew) ⟨wA.heap.size,0,none⟩ 1 1 [.int .i64 (k:Int)] (by rfl) (by rfl) (World.news_of_block (cs:=#[.int .i64 (k:Int)]) (t:=3) (fr:=(0,0)) (heap_alloc_new wA _)) (by simp [Value.oneCell']) (by omega) (by unfold maxLen;omega) (by omega) (by simp;omega) (wA.heap.size+1) (by simp) ?_;intro gg cap w3 hown3 hgrow hat hlt3;have hbG:=hgrow.block G (by simp;omega) HGn.out;have hbG':=hbG.trans (Below.heap_alloc wA _ G hGw);have hq3:=(World.cell?_of_block (w:=wA) (a:=⟨G,c,none⟩) hbG').trans hq1;have hq4:=(World.frozen?_of_block (w:=wA) (a:=⟨G,c,none⟩) hbG').trans hq2;have hM3:=(World.ownsMap.drew (HM.out.alloc (.cells #[.int .i64 (k:Int)] 3))).kept hgrow HMG.out;have hlk3:=yb5 hM3 hr12 HX.out.2.2.2.1;have HM3:=Lib.hid hM3;have HG3:=Lib.hid hgrow;have HO3:=Lib.hid hown3;have HA3:=Lib.hid hat;clear hbG hbG' hM3 hgrow hown3 hat))
        all_goals (
          have o3:=(HO.out.alloc (.cells #[.int .i64 (k:Int)] 3)).kept (w':=w3) (undrew HG3.out) (.inr (by simpa [Value.ownBlock] using HGn.out))
          have o4:=o3.stored c (.slice (some ⟨gg,0,none⟩) (rr.length+1) cap)
          have s3:=yez.grow (v' := .slice (some ⟨gg,0,none⟩) (rr.length+1) cap) (x:=k) (HS.out.kept (World.grownBy_alloc wA (.cells #[.int .i64 (k:Int)] 3) none) (fun v _=>by cases v.ownBlock <;> simp)) HX.out.2.2.2.2.1 HX.out.1 (undrew HG3.out) HO3.out (by
            rcases HA3.out with e | e
            · exact .inl e.symm
            · exact .inr ⟨gg,rfl,by rw [e];simp⟩)
          have s4:=s3.kept o4.2 (fun v hv=>by obtain ⟨_,_,hq⟩:=s3.row hv;exact ye6 (by decide) hq o3)
          have m4:=HM3.out.kept o4.2 (own_ne_map' o3 HM3.out)
          have p4:Pure w (w3.setCell ⟨G,c,none⟩ (.slice (some ⟨gg,0,none⟩) (rr.length+1) cap)):=by
            refine Keeps.setCell (Keeps.grown (Keeps.drew (Keeps.alloc hP _)) HG3.out (fun j e hj=>?_)) (by simp;omega) _
            have:=(HV.out.lt j e).1
            omega
          have HO4:=Lib.hid o4.1
          have HS4:=Lib.hid s4
          have HM4:=Lib.hid m4
          have HP4:=Lib.hid p4
          clear o3 o4 s3 s4 m4 p4 hq1 hq2 hq3 hq4 hlk1 hlk2 hlk3
          go_wp2
          go_roundw
          case rel=>exact ⟨k+1,vals.set c (.slice (some ⟨gg,0,none⟩) (rr.length+1) cap),D,by omega,by go_num,by rw [HX.out.2.1.2];exact HO4.out,by rw [HX.out.2.1.1];exact HS4.out,HM4.out,HX.out.2.2.1,HP4.out⟩
          case measure=>simp [intOf];omega)
    · go_wp2
      go_ret
      obtain rfl:k=n:=by omega
      exact ⟨_,vals,rfl,hown,hsl,hp⟩
end Go.Proofs.YtjepipbkiadcpaaGreat

/- The walks of connect.Components and connect.Connected. -/
namespace Go.Proofs.YtjepipbkiadcpaaGreat
open Go.RowKit Go.Maps Go.Proofs.Tryz
set_option maxRecDepth 100000
set_option maxHeartbeats 400000
theorem gchk_ends{n:Int}(hn:n≤12):∀ (es:List E3) (a b:Int),gchk n a b es=0→ydz es:=by
  intro es
  induction es with
  | nil=>intro a b _ x hx;cases hx
  | cons e t ih =>
    intro a b h
    rw [gchk] at h
    split at h
    · rename_i h1
      split at h
      · rename_i h2
        intro x hx
        rcases List.mem_cons.1 hx with rfl | hx
        · omega
        · exact ih _ _ h x hx
      · omega
    · omega
theorem gcheck_ends{n:Int}{es:List E3}(h:yap n es=0):ydz es∧1≤n∧n≤12:=by
  rw [yap] at h
  split at h
  · rename_i h1
    exact ⟨gchk_ends h1.2 es _ _ h,h1⟩
  · omega
def ydT(n:Int)(es:List E3):Bool:=yaJ (yay es) n.toNat==1
theorem own_base{w:World}{B B' e size n:Nat}{v:Value}{xs:List Value}(h:w.ownsRow B e size v n xs)(hB:B'≤B):w.ownsRow B' e size v n xs:=by
  refine ⟨h.1,?_⟩
  rcases h.2 with h0 | ⟨g,cap,cur,hv,hb,r⟩
  · exact .inl h0
  · exact .inr ⟨g,cap,cur,hv,Nat.le_trans hB hb,r⟩
theorem yez.base{w:World}{B B':Nat}{vals:List Value}{rows:List (List Nat)}(h:yez w B vals rows)(hB:B'≤B):yez w B' vals rows :=
  ⟨h.1,fun i v r hv hr=>own_base (h.2.1 i v r hv hr) hB,h.2.2⟩
def CompPost(n:Int)(es:List E3)(w:World)(e:Ending)(w':World):Prop :=
  ∃ v L vals,e = .returned (.tuple #[v, .int .i64 (yap n es)])∧w'.ownsRow w.heap.size 33 1 v L vals∧(yap n es≠0→L=0) ∧
    (yap n es=0→L=yaJ (yay es) n.toNat∧yez w' w.heap.size vals (ycF (yay es) n.toNat))∧Pure w w'
theorem components_any(A:Option Addr)(es:List E3)(cap:Nat)(n:Int)(w:World)(hd:ydc w A es)(hlen:es.length≤1000000000) :
    Calls Tryz.prog 116 #[.agg #[.int .i64 n, .slice A es.length cap]] w (CompPost n es w):=by
  by_cases hg:yap n es=0
  case neg =>
    have hb:=neT hg
    have HG:=Lib.hid hg
    clear hg
    go_enter func116,ntmps116
    go_wp2_with fail
    refine (gcheck_any A es cap n _ (hd.keep (by repeat (first | exact Keeps.refl _ _ | assumption | refine Keeps.drew ?_ | refine Keeps.drewN ?_ _ | refine Keeps.alloc ?_ _ | refine Keeps.setRow ?_ (by simp) _ | refine Keeps.setRow ?_ (by simp;omega) _ | refine Keeps.setCell ?_ (by simp) _ | refine Keeps.setCell ?_ (by simp;omega) _))) hlen).mono ?_
    rintro e w1 ⟨rfl,hp1⟩
    go_wp2
    go_ret2
    exact ⟨.slice none 0 0,0,[],rfl,World.ownsRow_nil _ _ _ _,fun _=>rfl,fun h=>absurd h HG.out,Pure.after (by repeat (first | exact Keeps.refl _ _ | assumption | refine Keeps.drew ?_ | refine Keeps.drewN ?_ _ | refine Keeps.alloc ?_ _ | refine Keeps.setRow ?_ (by simp) _ | refine Keeps.setRow ?_ (by simp;omega) _ | refine Keeps.setCell ?_ (by simp) _ | refine Keeps.setCell ?_ (by simp;omega) _)) hp1⟩
  have hb:=neF hg
  obtain ⟨hE,h1,h2⟩:=gcheck_ends hg
  have HG:=Lib.hid hg
  clear hg
  go_enter func116,ntmps116
  go_wp2_with fail
  refine (gcheck_any A es cap n _ (hd.keep (by repeat (first | exact Keeps.refl _ _ | assumption | refine Keeps.drew ?_ | refine Keeps.drewN ?_ _ | refine Keeps.alloc ?_ _ | refine Keeps.setRow ?_ (by simp) _ | refine Keeps.setRow ?_ (by simp;omega) _ | refine Keeps.setCell ?_ (by simp) _ | refine Keeps.setCell ?_ (by simp;omega) _))) hlen).mono ?_
  rintro e w1 ⟨rfl,hp1⟩
  have p1:Pure w w1:=Pure.after (by repeat (first | exact Keeps.refl _ _ | assumption | refine Keeps.drew ?_ | refine Keeps.drewN ?_ _ | refine Keeps.alloc ?_ _ | refine Keeps.setRow ?_ (by simp) _ | refine Keeps.setRow ?_ (by simp;omega) _ | refine Keeps.setCell ?_ (by simp) _ | refine Keeps.setCell ?_ (by simp;omega) _)) hp1
  have r0:=hp1.row (Row.new w #[.int .i64 n, .slice A es.length cap] 24) id
  have c0:=Row.cell r0 (i:=0) rfl
  have c1:=Row.cell r0 (i:=1) rfl
  have s0:=r0.lt
  go_wp2_with fail
  refine (joined_any A es cap n _ (hd.keep p1) hlen hE).mono ?_
  rintro e w2 ⟨rfl,hp2⟩
  have p2:Pure w w2:=Pure.after p1 hp2
  have r1:=hp2.row r0 id
  have d0:=Row.cell r1 (i:=0) rfl
  have d1:=Row.cell r1 (i:=1) rfl
  have s1:=r1.lt
  clear c0 c1 s0 r0
  have hF:=ycI es hE
  obtain ⟨a0,a1,a2,a3,a4,a5,a6,a7,a8,a9,a10,a11,hl⟩:=forestV_lit hF.1
  obtain ⟨m,rfl⟩:=Int.eq_ofNat_of_zero_le (show 0≤n by omega)
  have HL:=Lib.hid hl
  have hrow:NRow (w2.alloc (.cells (yeb (yay es)).toArray 230)) w2.heap.size 230 12 (yay es):=by
    have:=Row.new w2 (yeb (yay es)).toArray 230
    have hsz:(yeb (yay es)).toArray.size=12:=by rw [List.size_toArray,yeD,hF.1]
    rw [hsz] at this
    exact this
  rw [hl] at hrow
  unfold ygY
  rw [hl]
  clear hl
  have hF':ydG [a0,a1,a2,a3,a4,a5,a6,a7,a8,a9,a10,a11]:=by rw [←HL.out];exact hF
  have HF:=Lib.hid hF'
  clear hF hF'
  simp only [yeb,List.map] at hrow ⊢
  go_wp2_with fail
  refine (parts_any w2.heap.size _ m _ hrow HF.out (by omega)).mono ?_
  rintro e w3 ⟨v,vals,rfl,ho,hs,hp3⟩
  have p3:Pure w w3:=Pure.after (Keeps.alloc p2 _) hp3
  have HO:=Lib.hid ho
  clear ho
  go_wp2
  go_ret2
  have hle:w.heap.size≤(w2.alloc (.cells #[.int .i64 0] 0)).heap.size:=by have:=p2.size;simp;omega
  simp only [World.size_alloc] at hle
  refine ⟨v,_,vals,yc1 (by rw [HG.out];rfl),own_base HO.out (by simpa using hle),fun h=>absurd HG.out h,fun _=>⟨by rw [HL.out];rfl,?_⟩,p3⟩
  have:=hs.base (B':=w.heap.size) (by simpa using hle)
  rw [HL.out]
  exact this
theorem ydD(A:Option Addr)(es:List E3)(cap:Nat)(n:Int)(w:World)(hd:ydc w A es)(hlen:es.length≤1000000000) :
    Calls Tryz.prog 72 #[.agg #[.int .i64 n, .slice A es.length cap]] w fun e w' =>
      e = .returned (.tuple #[.bool (decide (yap n es=0∧ydT n es=true)), .int .i64 (yap n es)])∧Pure w w':=by
  go_enter func72,ntmps72
  go_wp2_with fail
  refine (components_any A es cap n _ (hd.keep (by repeat (first | exact Keeps.refl _ _ | assumption | refine Keeps.drew ?_ | refine Keeps.drewN ?_ _ | refine Keeps.alloc ?_ _ | refine Keeps.setRow ?_ (by simp) _ | refine Keeps.setRow ?_ (by simp;omega) _ | refine Keeps.setCell ?_ (by simp) _ | refine Keeps.setCell ?_ (by simp;omega) _))) hlen).mono ?_
  rintro e w1 ⟨v,L,vals,rfl,ho,h1,h2,hp1⟩
  have p1:Pure w w1:=Pure.after (by repeat (first | exact Keeps.refl _ _ | assumption | refine Keeps.drew ?_ | refine Keeps.drewN ?_ _ | refine Keeps.alloc ?_ _ | refine Keeps.setRow ?_ (by simp) _ | refine Keeps.setRow ?_ (by simp;omega) _ | refine Keeps.setCell ?_ (by simp) _ | refine Keeps.setCell ?_ (by simp;omega) _)) hp1
  have hL:((L:Int)==1)=decide (yap n es=0∧ydT n es=true):=by
    by_cases hg:yap n es=0
    · obtain ⟨rfl,_⟩:=h2 hg
      simp only [hg,true_and,ydT]
      rw [Bool.eq_iff_iff]
      simp
      omega
    · rw [h1 hg]
      simp [hg]
  obtain ⟨A1,c1,rfl⟩:=yip ho
  have HL:=Lib.hid hL
  clear hL ho h1 h2
  go_wp2
  go_ret2
  refine ⟨?_,p1⟩
  rw [←HL.out]
  rfl
end Go.Proofs.YtjepipbkiadcpaaGreat

/- A right graph's edges; its forest of parts against ways out of sets. No program in sight. -/
namespace Go.Proofs.YtjepipbkiadcpaaGreat
open Go Go.Proofs.Tryz
theorem gchk_ok{n:Int} : ∀ (es:List E3) (a b:Int),gchk n a b es=0→∀ x∈es,0≤x.1∧x.1<n∧0≤x.2.1∧x.2.1<n∧1≤x.2.2∧x.2.2≤50
  | [],_,_,_=>by simp
  | x::t,a,b,h=>by
    rw [gchk] at h
    split at h
    · rename_i c
      split at h
      · intro y hy
        rcases List.mem_cons.1 hy with rfl | hy
        · omega
        · exact gchk_ok t _ _ h y hy
      · omega
    · omega
theorem ycl{n:Nat}{es:List E3}(h:yap n es=0):EOk n es∧1≤n∧n≤12:=by
  unfold yap at h
  split at h
  · rename_i c
    exact ⟨gchk_ok es _ _ h,by omega,by omega⟩
  · omega
theorem root_side{n:Nat}{S:Nat→Bool} : ∀ (es:List E3),ydz es→(∀ x∈es,S x.1.toNat=S x.2.1.toNat)→∀ v,v<12→S (root (yay es) v)=S v:=by
  suffices H:∀ (l:List E3) (F:List Nat),ydz l→(∀ x∈l,S x.1.toNat=S x.2.1.toNat)→ydG F→(∀ v,v<12→S (root F v)=S v)→∀ v,v<12→S (root (l.foldl (fun F x=>ydL F x.1.toNat x.2.1.toNat) F) v)=S v by
    intro es hE hS
    refine H es yfr hE hS ye9 fun v hv=>?_
    rw [ydk (by rw [gn_of_lt (by simpa [yfr] using hv)];simp [yfr])]
  intro l
  induction l with
  | nil=>exact fun F _ _ _ h=>h
  | cons x l ih =>
    intro F hE hS hF h
    have hx:=hE x (by simp)
    have hSx:=hS x (by simp)
    refine ih _ (fun y hy=>hE y (by simp [hy])) (fun y hy=>hS y (by simp [hy])) (yeG hF (by omega) (by omega)) fun v hv=>?_
    rw [root_joinN hF (by omega) (by omega) v hv]
    have ha:=h x.1.toNat (by omega)
    have hb:=h x.2.1.toNat (by omega)
    split
    · rename_i e
      rw [←h v hv,e]
      rcases Nat.le_total (root F x.1.toNat) (root F x.2.1.toNat) with q | q
      · rw [Nat.max_eq_right q,Nat.min_eq_left q,ha,hb,hSx]
      · rw [Nat.max_eq_left q,Nat.min_eq_right q,ha,hb,hSx]
    · exact h v hv
theorem root_edge:∀ (es:List E3),ydz es→∀ x∈es,root (yay es) x.1.toNat=root (yay es) x.2.1.toNat:=by
  suffices H:∀ (l:List E3) (F:List Nat),ydz l→ydG F→(∀ a b,a<12→b<12→root F a=root F b→root (l.foldl (fun F x=>ydL F x.1.toNat x.2.1.toNat) F) a=root (l.foldl (fun F x=>ydL F x.1.toNat x.2.1.toNat) F) b) ∧
      ∀ x∈l,root (l.foldl (fun F x=>ydL F x.1.toNat x.2.1.toNat) F) x.1.toNat=root (l.foldl (fun F x=>ydL F x.1.toNat x.2.1.toNat) F) x.2.1.toNat from
    fun es hE=>(H es yfr hE ye9).2
  intro l
  induction l with
  | nil=>exact fun F _ _=>⟨fun a b _ _ h=>h,by simp⟩
  | cons x l ih =>
    intro F hE hF
    have hx:=hE x (by simp)
    have hJ:=yeG hF (a:=x.1.toNat) (b:=x.2.1.toNat) (by omega) (by omega)
    obtain ⟨i1,i2⟩:=ih (ydL F x.1.toNat x.2.1.toNat) (fun y hy=>hE y (by simp [hy])) hJ
    have hr:=root_joinN hF (a:=x.1.toNat) (b:=x.2.1.toNat) (by omega) (by omega)
    refine ⟨fun a b ha hb h=>i1 a b ha hb (by rw [hr a ha,hr b hb,h]),fun y hy=>?_⟩
    rcases List.mem_cons.1 hy with rfl | hy
    · refine i1 _ _ (by omega) (by omega) ?_
      rw [hr _ (by omega),hr _ (by omega)]
      rcases Nat.le_total (root F y.1.toNat) (root F y.2.1.toNat) with q | q
      · rw [Nat.max_eq_right q,Nat.min_eq_left q,if_pos rfl];split <;> omega
      · rw [Nat.max_eq_left q,Nat.min_eq_right q,if_pos rfl];split <;> omega
    · exact i2 y hy
theorem nroots_one{F:List Nat}(hF:ydG F){n:Nat}(hn:1≤n)(h12:n≤12):yaJ F n=1↔∀ v,v<n→root F v=root F 0:=by
  have h0:root F 0=0:=by have:=(yeQ hF 0 (by omega)).1;omega
  constructor
  · intro h v hv
    have h1:=yeQ hF v (by omega)
    have h2:root F (root F v)=root F v:=yis hF (by omega)
    rw [h0]
    apply Nat.eq_zero_of_not_pos
    intro hpos
    have h3:=yiI F hpos h0
    have h4:=yiI F (show root F v<n by omega) h2
    omega
  · intro h
    have H:∀ k,k+1≤n→yaJ F (k+1)=1:=by
      intro k
      induction k with
      | zero=>intro _;rw [yaJ,yaJ,if_pos h0]
      | succ k ih =>
        intro hk
        rw [yaJ,ih (by omega),if_neg]
        rw [h (k+1) (by omega),h0];omega
    obtain ⟨k,rfl⟩:∃ k,n=k+1:=⟨n-1,by omega⟩
    exact H k (Nat.le_refl _)
section
variable {n : Nat} {es : List E3} (hE : EOk n es) (hn : 1 ≤ n) (h12 : n ≤ 12)
include hE hn h12
theorem EOk.ends:ydz es:=fun x hx=>by have:=hE x hx;omega
theorem W_edge{x:E3}(hx:x∈es)(hne:x.1≠x.2.1):0<W es x.1.toNat x.2.1.toNat:=by
  have h:=hE x hx
  exact (W_adj hE).2 ⟨x.2.2,ybY.2 ⟨x,hx,hne,by omega,by omega,rfl⟩⟩
theorem conn_iff{q:Nat}(hq:q<n):ydT n es=true↔Conn n es q:=by
  have hF:=ycI es (hE.ends hn h12)
  have hk:ydT n es=true↔∀ v,v<n→root (yay es) v=root (yay es) 0:=by
    unfold ydT
    rw [beq_iff_eq,Int.toNat_natCast]
    exact nroots_one hF hn h12
  rw [hk]
  constructor
  · intro h S hS ⟨v,hv,hSv⟩
    apply Classical.byContradiction
    intro hno
    have hcl:∀ x∈es,S x.1.toNat=S x.2.1.toNat:=fun x hx=>by
      have hb:=hE x hx
      by_cases e:x.1=x.2.1
      · rw [e]
      · have hw:=W_edge hE hn h12 hx e
        cases h1:S x.1.toNat <;> cases h2:S x.2.1.toNat
        · rfl
        · exact absurd ⟨x.2.1.toNat,x.1.toNat,by omega,by omega,h2,h1,by rw [ygU];exact hw⟩ hno
        · exact absurd ⟨x.1.toNat,x.2.1.toNat,by omega,by omega,h1,h2,hw⟩ hno
        · rfl
    have hs:=root_side (n:=n) es (hE.ends hn h12) hcl
    have h1:=hs v (by omega)
    have h2:=hs q (by omega)
    rw [h v hv] at h1
    rw [h q hq,h1,hSv,hS] at h2
    cases h2
  · intro hC v hv
    have hedge:=root_edge es (hE.ends hn h12)
    suffices H:∀ v,v<n→root (yay es) v=root (yay es) q by rw [H v hv,H 0 (by omega)]
    intro v hv
    apply Classical.byContradiction
    intro hne
    obtain ⟨a,b,ha,hb,hSa,hSb,hW⟩:=hC (fun v=>decide (root (yay es) v≠root (yay es) q)) (by simp) ⟨v,hv,by simpa using hne⟩
    obtain ⟨m,hm⟩:=(W_adj hE).1 hW
    obtain ⟨x,hx,q1,q2,q3,q4⟩:=ybY.1 hm
    have h1:=hedge x hx
    have hbx:=hE x hx
    simp only [decide_eq_true_eq,decide_eq_false_iff_not,ne_eq,Decidable.not_not] at hSa hSb
    rcases q2 with q2 | q2
    · rw [show x.1.toNat=a by omega,show x.2.1.toNat=b by omega,hSb] at h1;exact hSa h1
    · rw [show x.1.toNat=b by omega,show x.2.1.toNat=a by omega,hSb] at h1;exact hSa h1.symm
theorem dist_pos{q:Nat}{o:List Int}(hC:Conn n es q)(hD:Dist n es q o):∀ v,v<n→0≤gi o v:=by
  intro v hv
  apply Int.not_lt.1
  intro hneg
  obtain ⟨a,b,ha,hb,hSa,hSb,hW⟩:=hC (fun v=>decide (gi o v<0)) (by rw [hD.q0];simp) ⟨v,hv,by simpa using hneg⟩
  simp only [decide_eq_true_eq,decide_eq_false_iff_not] at hSa hSb
  have:=hD.step b hb (by omega) a ((W_adj hE).1 (by rw [ygU];exact hW))
  omega
theorem tot_le:tot n es≤2*(es.map (·.2.2)).sum:=by
  clear hn h12
  induction es with
  | nil =>
    unfold tot
    rw [yan (g:=fun _=>0) (fun v _=>by rw [yan (g:=fun _=>0) (fun u _=>W_nil v u),ybV]),ybV]
    simp
  | cons x es ih =>
    have ih:=ih (fun y hy=>hE y (by simp [hy]))
    have hx:=hE x (by simp)
    have h1:tot n (x::es)=sm n (fun v=>sm n (fun u=>w1 x v u))+tot n es:=by
      unfold tot
      rw [←yc5]
      refine yan fun v _=>?_
      rw [←yc5]
      exact yan fun u _=>ye4 x es v u
    have h2:sm n (fun v=>sm n (fun u=>w1 x v u))≤sm n (fun v=>sm n (fun u=>(if v=x.1.toNat then (if u=x.2.1.toNat then x.2.2 else 0) else 0)+(if v=x.2.1.toNat then (if u=x.1.toNat then x.2.2 else 0) else 0))) :=
      yeh fun v _=>yeh fun u _=>by
        show w1 x v u≤ite _ _ _+ite _ _ _
        unfold w1
        split
        · rename_i c
          rcases c.2 with c2 | c2
          · rw [if_pos (show v=x.1.toNat by omega),if_pos (show u=x.2.1.toNat by omega)]
            split <;> (try split) <;> omega
          · rw [if_pos (show v=x.2.1.toNat by omega),if_pos (show u=x.1.toNat by omega)]
            split <;> (try split) <;> omega
        · split <;> (try split) <;> (try split) <;> (try split) <;> omega
    have h3:∀ a b:Nat,a<n→b<n→sm n (fun v=>sm n (fun u=>if v=a then (if u=b then x.2.2 else 0) else 0))=x.2.2:=fun a b ha hb=>by
      rw [yan (g:=fun v=>if v=a then x.2.2 else 0) (fun v _=>by
        by_cases e:v=a
        · simp only [if_pos e];exact yfu _ hb
        · simp only [if_neg e];exact ybV n)]
      exact yfu _ ha
    have h4:sm n (fun v=>sm n (fun u=>(if v=x.1.toNat then (if u=x.2.1.toNat then x.2.2 else 0) else 0)+(if v=x.2.1.toNat then (if u=x.1.toNat then x.2.2 else 0) else 0)))=x.2.2+x.2.2:=by
      have e:∀ A B:Nat→Nat→Int,sm n (fun v=>sm n (fun u=>A v u+B v u))=sm n (fun v=>sm n (A v))+sm n (fun v=>sm n (B v)):=fun A B=>by
        rw [←yc5]
        exact yan fun v _=>by rw [←yc5]
      refine (e (fun v u=>if v=x.1.toNat then (if u=x.2.1.toNat then x.2.2 else 0) else 0) (fun v u=>if v=x.2.1.toNat then (if u=x.1.toNat then x.2.2 else 0) else 0)).trans ?_
      rw [h3 x.1.toNat x.2.1.toNat (by omega) (by omega),h3 x.2.1.toNat x.1.toNat (by omega) (by omega)]
    rw [List.map_cons,List.sum_cons,h1]
    omega
end
end Go.Proofs.YtjepipbkiadcpaaGreat

/- The walks of package reduced: what is checked first, debts, the beginning of a state. -/
namespace Go.Proofs.YtjepipbkiadcpaaGreat
open Go.RowKit Go.Proofs.Tryz
set_option maxRecDepth 100000
set_option maxHeartbeats 8000000
def yaV(n:Int)(es:List E3)(q:Int)(d:List Int):Int :=
  if yap n es=0 then (if ydT n es=true then (if 0≤q∧q<n then ya6 d n else 2) else 13) else yap n es
theorem yif(A D:Option Addr)(es:List E3)(d:List Int)(cap cd:Nat)(n q:Int)(w:World)(he:ydc w A es)(hel:es.length≤1000000000)(hd:Ints w D d)(hdl:d.length≤1000000000) :
    Calls Tryz.prog 65 #[.agg #[.int .i64 n, .slice A es.length cap], .int .i64 q, .slice D d.length cd] w fun e w'=>e = .returned (.int .i64 (yaV n es q d))∧Pure w w':=by
  by_cases hg:yap n es=0
  case neg =>
    have hb:=neT hg
    have HG:=Lib.hid hg
    clear hg
    go_enter func65,ntmps65
    go_wp2_with fail
    refine (ydD A es cap n _ (he.keep (by repeat (first | exact Keeps.refl _ _ | assumption | refine Keeps.drew ?_ | refine Keeps.drewN ?_ _ | refine Keeps.alloc ?_ _ | refine Keeps.setRow ?_ (by simp) _ | refine Keeps.setRow ?_ (by simp;omega) _ | refine Keeps.setCell ?_ (by simp) _ | refine Keeps.setCell ?_ (by simp;omega) _))) hel).mono ?_
    rintro e w1 ⟨rfl,hp1⟩
    go_wp2
    go_ret
    exact ⟨yc1 (yeW (by rw [yaV,if_neg HG.out])),Pure.after (by repeat (first | exact Keeps.refl _ _ | assumption | refine Keeps.drew ?_ | refine Keeps.drewN ?_ _ | refine Keeps.alloc ?_ _ | refine Keeps.setRow ?_ (by simp) _ | refine Keeps.setRow ?_ (by simp;omega) _ | refine Keeps.setCell ?_ (by simp) _ | refine Keeps.setCell ?_ (by simp;omega) _)) hp1⟩
  have hb:=neF hg
  by_cases hc:ydT n es=true
  case neg =>
    have hc':decide (yap n es=0∧ydT n es=true)=false:=by simp [hg];simpa using hc
    have HG:=Lib.hid hg
    have HC:=Lib.hid hc
    clear hg hc
    go_enter func65,ntmps65
    go_wp2_with fail
    refine (ydD A es cap n _ (he.keep (by repeat (first | exact Keeps.refl _ _ | assumption | refine Keeps.drew ?_ | refine Keeps.drewN ?_ _ | refine Keeps.alloc ?_ _ | refine Keeps.setRow ?_ (by simp) _ | refine Keeps.setRow ?_ (by simp;omega) _ | refine Keeps.setCell ?_ (by simp) _ | refine Keeps.setCell ?_ (by simp;omega) _))) hel).mono ?_
    rintro e w1 ⟨rfl,hp1⟩
    rw [hc']
    clear hc'
    go_wp2
    go_ret
    exact ⟨yc1 (yeW (by rw [yaV,if_pos HG.out,if_neg HC.out])),Pure.after (by repeat (first | exact Keeps.refl _ _ | assumption | refine Keeps.drew ?_ | refine Keeps.drewN ?_ _ | refine Keeps.alloc ?_ _ | refine Keeps.setRow ?_ (by simp) _ | refine Keeps.setRow ?_ (by simp;omega) _ | refine Keeps.setCell ?_ (by simp) _ | refine Keeps.setCell ?_ (by simp;omega) _)) hp1⟩
  have hc':decide (yap n es=0∧ydT n es=true)=true:=by simp [hg,hc]
  have HG:=Lib.hid hg
  have HC:=Lib.hid hc
  clear hg hc
  by_cases hq:0≤q∧q<n
  · obtain ⟨hq0,hq1⟩:=hq
    have t1:decide (q<0)=false:=by simp;omega
    have t2:decide (n≤q)=false:=by simp;omega
    go_enter func65,ntmps65
    go_wp2_with fail
    refine (ydD A es cap n _ (he.keep (by repeat (first | exact Keeps.refl _ _ | assumption | refine Keeps.drew ?_ | refine Keeps.drewN ?_ _ | refine Keeps.alloc ?_ _ | refine Keeps.setRow ?_ (by simp) _ | refine Keeps.setRow ?_ (by simp;omega) _ | refine Keeps.setCell ?_ (by simp) _ | refine Keeps.setCell ?_ (by simp;omega) _))) hel).mono ?_
    rintro e w1 ⟨rfl,hp1⟩
    rw [hc']
    clear hc'
    have r0:=hp1.row (Row.new w #[.int .i64 n, .slice A es.length cap] 24) id
    have c0:=Row.cell r0 (i:=0) rfl
    have p1:Pure w w1:=Pure.after (by repeat (first | exact Keeps.refl _ _ | assumption | refine Keeps.drew ?_ | refine Keeps.drewN ?_ _ | refine Keeps.alloc ?_ _ | refine Keeps.setRow ?_ (by simp) _ | refine Keeps.setRow ?_ (by simp;omega) _ | refine Keeps.setCell ?_ (by simp) _ | refine Keeps.setCell ?_ (by simp;omega) _)) hp1
    have hd1:=hd.keep p1
    go_wp2_with (go_at_call 33;refine (yir D d cd n _ hd1 hdl).mono ?_;rintro e w' ⟨rfl,rfl⟩)
    go_ret
    exact ⟨yc1 (yeW (by rw [yaV,if_pos HG.out,if_pos HC.out,if_pos ⟨hq0,hq1⟩])),p1⟩
  · go_enter func65,ntmps65
    go_wp2_with fail
    refine (ydD A es cap n _ (he.keep (by repeat (first | exact Keeps.refl _ _ | assumption | refine Keeps.drew ?_ | refine Keeps.drewN ?_ _ | refine Keeps.alloc ?_ _ | refine Keeps.setRow ?_ (by simp) _ | refine Keeps.setRow ?_ (by simp;omega) _ | refine Keeps.setCell ?_ (by simp) _ | refine Keeps.setCell ?_ (by simp;omega) _))) hel).mono ?_
    rintro e w1 ⟨rfl,hp1⟩
    rw [hc']
    clear hc'
    have r0:=hp1.row (Row.new w #[.int .i64 n, .slice A es.length cap] 24) id
    have c0:=Row.cell r0 (i:=0) rfl
    have p1:Pure w w1:=Pure.after (by repeat (first | exact Keeps.refl _ _ | assumption | refine Keeps.drew ?_ | refine Keeps.drewN ?_ _ | refine Keeps.alloc ?_ _ | refine Keeps.setRow ?_ (by simp) _ | refine Keeps.setRow ?_ (by simp;omega) _ | refine Keeps.setCell ?_ (by simp) _ | refine Keeps.setCell ?_ (by simp;omega) _)) hp1
    go_wp2
    all_goals try (exfalso;omega)
    all_goals go_ret
    all_goals exact ⟨yc1 (yeW (by rw [yaV,if_pos HG.out,if_pos HC.out,if_neg hq])),p1⟩
def owesF(q:Int)(d:List Int):Bool:=(List.range d.length).any fun v=>decide ((v:Int)≠q∧gi d v<0)
theorem owes_any(D:Option Addr)(d:List Int)(cd:Nat)(q:Int)(w:World)(hd:Ints w D d)(hdl:d.length≤1000000000) :
    Calls Tryz.prog 168 #[.int .i64 q, .slice D d.length cd] w fun e w'=>e = .returned (.bool (owesF q d))∧Keeps (fun _=>False) w w':=by
  have HD:=Lib.hid hd
  clear hd
  go_enter func168,ntmps168
  go_wp2
  go_loopw [9] (fun i wr=>∃ k:Nat,k≤d.length∧i = .int .i64 k∧Hid (∀ j,j<k→¬((j:Int)≠q∧gi d j<0))∧Pure w wr) (fun i _=>d.length-(intOf i).toNat)
  case atStart=>exact ⟨0,Nat.zero_le _,rfl,fun j hj=>absurd hj (by omega),Keeps.refl _ _⟩
  case round =>
    obtain ⟨k,hk,rfl,hall,hp⟩:=hrel
    by_cases hlt:k<d.length
    · obtain ⟨b,off,rfl,hb,hc⟩:=HD.out (by omega)
      have c1:=hp.cell id (hc k hlt)
      clear hc
      by_cases hq:(k:Int)=q
      · have b1:=neF hq
        have HQ:=Lib.hid hq
        clear hq
        go_wp2
        go_roundw
        case rel =>
          refine ⟨k+1,by omega,by go_num,?_,hp⟩
          intro j hj hh
          by_cases e:j=k
          · subst e;exact hh.1 HQ.out
          · exact hall.out j (by omega) hh
        case measure=>simp [intOf];omega
      · have b1:=neT hq
        have HQ:=Lib.hid hq
        clear hq
        by_cases hn:gi d k<0
        · have b2:decide (gi d k<0)=true:=by simpa using hn
          have HN:=Lib.hid hn
          clear hn
          go_wp2
          go_ret
          refine ⟨yc1 ?_,hp⟩
          rw [show owesF q d=true from List.any_eq_true.2 ⟨k,List.mem_range.2 hlt,by simpa using ⟨HQ.out,HN.out⟩⟩]
          rfl
        · have b2:decide (gi d k<0)=false:=by simpa using hn
          have HN:=Lib.hid hn
          clear hn
          go_wp2
          go_roundw
          case rel =>
            refine ⟨k+1,by omega,by go_num,?_,hp⟩
            intro j hj hh
            by_cases e:j=k
            · subst e;exact HN.out hh.2
            · exact hall.out j (by omega) hh
          case measure=>simp [intOf];omega
    · go_wp2
      go_ret
      refine ⟨yc1 ?_,hp⟩
      have hf:owesF q d=false:=by
        unfold owesF
        rw [List.any_eq_false]
        intro v hv
        have:=hall.out v (by rw [List.mem_range] at hv;omega)
        simpa using this
      rw [hf]
      rfl
end Go.Proofs.YtjepipbkiadcpaaGreat

/- The package's own functions: Reduce, Lend. -/
namespace Go.Proofs.YtjepipbkiadcpaaGreat
open Go Go.Proofs.Tryz
theorem ygT{d:List Int}{n:Nat}(h:ya6 d n=0):d.length=n∧1≤n∧n≤12∧∀ j,j<n → -1048576≤gi d j∧gi d j≤1048576:=by
  unfold ya6 ygL at h
  by_cases c:1≤(n:Int)∧(n:Int)≤12
  · rw [if_pos c,if_pos rfl] at h
    by_cases c2:(d.length:Int)=n
    · rw [if_pos c2] at h
      by_cases c3:d.all inF=true
      · refine ⟨by omega,by omega,by omega,fun j hj=>?_⟩
        have:=(yek inF d).1 c3 j (by omega)
        simpa [inF] using this
      · rw [if_neg c3] at h;omega
    · rw [if_neg c2] at h;omega
  · rw [if_neg c,if_neg (by omega)] at h;omega
theorem yex{d:List Int}{n:Nat}(hl:d.length=n)(h1:1≤n)(h12:n≤12)(h:∀ j,j<n → -1048576≤gi d j∧gi d j≤1048576):ya6 d n=0:=by
  unfold ya6 ygL
  rw [if_pos (show 1≤(n:Int)∧(n:Int)≤12 by omega),if_pos rfl,if_pos (show (d.length:Int)=n by omega),if_pos]
  rw [yek]
  intro j hj
  have:=h j (by omega)
  simpa [inF] using this
theorem ydC{n:Int}{es:List E3}{q:Int}{d:List Int}(h:yaV n es q d=0):yap n es=0∧ydT n es=true∧0≤q∧q<n∧ya6 d n=0:=by
  unfold yaV at h
  split at h
  · rename_i c1
    split at h
    · rename_i c2
      split at h
      · rename_i c3;exact ⟨c1,c2,c3.1,c3.2,h⟩
      · omega
    · omega
  · exact absurd h (by assumption)
structure Leads(n:Nat)(es:List E3)(q:Nat)(d d' s':List Int):Prop where
  dl:d'.length=n
  sl:s'.length=n
  lp:∀ v,v<n→gi d' v=gi d v-Lp n es (gi s') v
  sq:gi s' q=0
  pos:∀ v,v<n→v≠q→0≤gi d' v
  bd:∀ v,v<n → -600000≤gi d' v∧gi d' v≤600000
  bs:∀ v,v<n → -600000≤gi s' v∧gi s' v≤600000
structure Lends(n:Nat)(es:List E3)(q:Nat)(d d' s':List Int):Prop extends Leads n es q d d' s' where
  same:(∀ v,v<n→v≠q→0≤gi d v)→d'=d
structure Reduces(n:Nat)(es:List E3)(q:Nat)(d d' s':List Int):Prop extends Leads n es q d d' s' where
  red:Red n es q d'
theorem Lp_norm{n:Nat}{es:List E3}{s:List Int}{q:Nat}(hs:s.length=n){v:Nat}(hv:v<n):Lp n es (gi (yd3 s q)) v=Lp n es (gi s) v:=by
  rw [yeC (b:=fun i=>gi s i+(- gi s q)) (fun i hi=>by show gi (yd3 s q) i=gi s i + - gi s q;rw [yh6 (by omega)];omega) hv,ygc,yeA];omega
theorem yhy(s:List Int)(q:Nat):(yd3 s q).length=s.length:=by simp [yd3]
def yiD(P:Nat→Nat→List Int→List Int→Prop)(n:Int)(es:List E3)(q:Int)(d:List Int)(w:World)(A1:Option Addr)(l1 c1:Nat)(A2:Option Addr)(l2 c2:Nat)(er:Int)(w':World):Prop :=
  Pure w w'∧er=yaV n es q d∧(er≠0→ResNil A1 l1 c1 A2 l2 c2)∧(er=0→∃ gd gs cd cs d' s',P n.toNat q.toNat d' s'∧ResOk gd gs n.toNat cd cs d' s' A1 l1 c1 A2 l2 c2 w'∧w.heap.size≤gd∧w.heap.size≤gs∧gd≠gs∧cd≤maxLen∧cs≤maxLen)
structure Small(n:Int)(es:List E3)(d:List Int):Prop where
  el:es.length≤40
  g:yap n es=0→n≤6∧(es.map (·.2.2)).sum≤9
  d:ya6 d n=0→∀ v:Nat,(v:Int)<n → -200≤gi d v∧gi d v≤200
theorem GS.leads{n:Nat}{es:List E3}{q:Nat}{d0:List Int}(hE:EOk n es)(hn:n≤6)(hq:q<n)(hC:Conn n es q)(hd0:∀ v,v<n → -200≤gi d0 v∧gi d0 v≤200){m:Nat}{d s:List Int}{e:Int}(h:GS n es q 200 d0 m d s e) :
    Leads n es q d0 d (yd3 s q):=by
  obtain ⟨-,h0, -⟩:=h
  obtain ⟨b1,b2,b3⟩:=h0.bnd hE hn hq (by omega) (by omega) hC hd0
  have hsq:=h0.sq
  refine ⟨h0.dl,by rw [yhy,h0.sl],fun v hv=>by rw [Lp_norm h0.sl hv];exact h0.lp v hv,by rw [yh6 (by rw [h0.sl];exact hq)];omega,h0.pos,fun v hv=>?_,fun v hv=>?_⟩
  · have:=b2 v hv;omega
  · have:=b1 v hv;have:=h0.s0 v hv;rw [yh6 (by rw [h0.sl];exact hv)];omega
section
variable {n : Nat} {es : List E3} {q : Nat} {d0 : List Int} (hE : EOk n es) (hn : n ≤ 6) (hn1 : 1 ≤ n) (hq : q < n) (hC : Conn n es q) (hsum : (es.map (·.2.2)).sum ≤ 9) (hel : es.length ≤ 40) (hd0 : ∀ v, v < n → -200 ≤ gi d0 v ∧ gi d0 v ≤ 200) (hdl : d0.length = n)
include hE hn hn1 hq hC hsum hel hd0 hdl
theorem lend_state(X gd gs:Nat)(A:Option Addr)(cap cd cs:Nat)(w:World)(hS:ye7 w X gd gs n A es cap cd cs q d0 (List.replicate n 0) 0)(hes:ydc w A es)(heg:∀ b off,A=some ⟨b,off,none⟩→0<es.length→b≠gd∧b≠gs∧b≠X) :
    Calls Tryz.prog 67 #[.pointer (some ⟨X,0,none⟩)] w fun e' w'=>e' = .returned (.tuple #[]) ∧
      ∃ m d s,GS n es q 200 d0 m d s 0∧((∀ v,v<n→v≠q→0≤gi d0 v)→d=d0)∧ye7 w' X gd gs n A es cap cd cs q d s 0∧Keeps (fun j=>j=gd∨j=gs∨j=X) w w':=by
  have hc:∀ o,Dist n es q o→∀ v,v<n→0≤gi o v:=fun o hD=>dist_pos hE hn1 (by omega) hC hD
  have ht:tot n es≤18:=by have:=tot_le hE hn1 (by omega);omega
  refine (lend_any (fun o k d s e=>GL n es q 200 d0 o k d s e) X gd gs n A es cap cd cs q d0 (List.replicate n 0) 0 w hS hes heg hq (by omega) hE.range (fun x hx=>(hE x hx).2.2.2.2.1) (by omega)
    (fun o hD=>GL.start hE hn hq ht (by omega) (by omega) hc hd0 hdl o hD)
    (fun o k d s e h=>?_) (fun o k d s hD h hl hl2=>GL.step hE hn hq ht (by omega) (by omega) hc hd0 hdl hD h)).mono ?_
  · have:=GL.bnd hE hn hq ht (by omega) (by omega) hc hd0 hdl h
    exact ⟨fun i=>by have:=this.1 i;omega,fun i=>by have:=this.2 i;omega⟩
  · rintro _ w1 ⟨rfl,o,k,d,s,e,hD,hg,hS1,hk,K⟩
    have he:=hg.e0
    subst he
    have hk0 : k = 0 := by rcases hk with h | h
                           · exact h
                           · exact absurd rfl h
    subst hk0
    exact ⟨rfl,_,d,s,hg.settle hE hn hq (by omega) (by omega) hC hd0 hD (hc o hD) ht,fun h=>(hg.same h).1,hS1,K⟩
theorem settle_state(X gd gs:Nat)(A:Option Addr)(cap cd cs:Nat)(m:Nat)(d s:List Int)(w:World)(hG:GS n es q 200 d0 m d s 0)(hS:ye7 w X gd gs n A es cap cd cs q d s 0)(hes:ydc w A es)(heg:∀ b off,A=some ⟨b,off,none⟩→0<es.length→b≠gd∧b≠gs∧b≠X) :
    Calls Tryz.prog 68 #[.pointer (some ⟨X,0,none⟩)] w fun e' w'=>e' = .returned (.tuple #[]) ∧
      ∃ m d s,GS n es q 200 d0 m d s 0∧Red n es q d∧ye7 w' X gd gs n A es cap cd cs q d s 0∧Keeps (fun j=>j=gd∨j=gs∨j=X) w w':=by
  refine (settle_any (fun m d s e=>GS n es q 200 d0 m d s e) X gd gs n A es cap cd cs q m d s 0 w hS hes heg hq (by omega) hE.range (by omega) hG (fun m d s e h=>?_)
    (fun m d s burnt h hl hl2 hB hany=>GS.step hE hn hq (by omega) (by omega) hC hd0 h hB hany)).mono ?_
  · have:=GS.bnd hE hn hq (by omega) (by omega) hC hd0 h
    exact ⟨fun i=>by have:=this.1 i;omega,fun i=>by have:=this.2 i;omega⟩
  · rintro _ w1 ⟨rfl,m,d,s,e,hg,hS1,hb,K⟩
    have he:=hg.1
    subst he
    rcases hb with h | ⟨burnt,hB,hany⟩
    · exact absurd rfl h
    · exact ⟨rfl,m,d,s,hg,hg.2.1.red hE hn hq (by omega) (by omega) hC hd0 hB hany,hS1,K⟩
theorem result_state(X gd gs:Nat)(A:Option Addr)(cap cd cs:Nat)(m:Nat)(d s:List Int)(w:World)(hG:GS n es q 200 d0 m d s 0)(hS:ye7 w X gd gs n A es cap cd cs q d s 0) :
    Calls Tryz.prog 69 #[.pointer (some ⟨X,0,none⟩)] w fun e' w'=>∃ A1 l1 c1 A2 l2 c2,e' = .returned (.tuple #[.slice A1 l1 c1, .slice A2 l2 c2, .int .i64 0]) ∧
      Keeps (fun j=>j=gs) w w'∧ResOk gd gs n cd cs d (yd3 s q) A1 l1 c1 A2 l2 c2 w'∧Leads n es q d0 d (yd3 s q):=by
  have hL:=hG.leads hE hn hq hC hd0
  have hb:=GS.bnd hE hn hq (by omega) (by omega) hC hd0 hG
  refine (result_any X gd gs n A es cap cd cs q d s 0 w hS hq (by omega) (fun _ i=>by have:=hb.2 i;omega)).mono ?_
  rintro _ w1 ⟨A1,l1,c1,A2,l2,c2,er,rfl,K,h⟩
  have k1:ya6 d n=0:=yex hL.dl hn1 (by omega) (fun j hj=>by have:=hL.bd j hj;omega)
  have k2:ya6 (yd3 s q) n=0:=yex hL.sl hn1 (by omega) (fun j hj=>by have:=hL.bs j hj;omega)
  rcases h with h | h | h
  · exact absurd rfl h.1
  · rcases h.2.1 with h | h
    · exact absurd k1 h
    · exact absurd k2 h
  · obtain ⟨-, -, -,rfl,hr⟩:=h
    exact ⟨A1,l1,c1,A2,l2,c2,rfl,K,hr,hL⟩
end
theorem reduce_any(A D:Option Addr)(es:List E3)(d:List Int)(cap cd:Nat)(n q:Int)(w:World)(he:ydc w A es)(hd:Ints w D d)(hdl:d.length≤1000000000)(hsm:Small n es d) :
    Calls Tryz.prog 28 #[.agg #[.int .i64 n, .slice A es.length cap], .int .i64 q, .slice D d.length cd] w fun e w'=>∃ A1 l1 c1 A2 l2 c2 er,e = .returned (.tuple #[.slice A1 l1 c1, .slice A2 l2 c2, .int .i64 er]) ∧
      yiD (fun n q d' s'=>Reduces n es q d d' s') n es q d w A1 l1 c1 A2 l2 c2 er w':=by
  refine ye0 n A es.length cap q D d.length cd w (yiD (fun n q d' s'=>Reduces n es q d d' s') n es q d w) ?_
  unfold ycY
  intro g2 w2 hN
  have pN:Pure w w2:=hN.keeps _
  refine (yif A D es d cap cd n q w2 (he.keep pN) (by have:=hsm.el;omega) (hd.keep pN) hdl).mono ?_
  rintro _ w3 ⟨rfl,p3⟩
  have p03:=pN.trans p3
  refine ⟨_,rfl,p3.kp (by simp),fun h0=>?_,fun h0=>⟨p03,rfl,fun _=>⟨rfl,rfl,rfl,rfl,rfl,rfl⟩,fun h=>absurd h h0⟩⟩
  obtain ⟨k1,k2,k3,k4,k5⟩:=ydC h0
  have hs6:=hsm.g k1
  obtain ⟨n,rfl⟩:∃ n':Nat,n=(n':Int):=⟨n.toNat,by omega⟩
  obtain ⟨q,rfl⟩:∃ q':Nat,q=(q':Int):=⟨q.toNat,by omega⟩
  obtain ⟨hE,hn1,hn12⟩:=ycl k1
  obtain ⟨hdn, -, -, -⟩:=ygT k5
  have hC:Conn n es q:=(conn_iff hE hn1 hn12 (by omega)).1 k2
  have hd0:∀ v,v<n → -200≤gi d v∧gi d v≤200:=fun v hv=>hsm.d k5 v (by omega)
  have hes3:=he.keep p03
  refine (yie A D es d cap cd n q w3 (hd.keep p03) hdn hn1 hn12).mono ?_
  rintro _ w4 ⟨X,gd,gs,cd',rfl,hX,hgd,hgs,hS,p4,hcm⟩
  have sz:=hN.size
  have ag:=hN.at_
  have s3:=p3.size
  refine ⟨_,rfl,p4.kp (by simp),?_⟩
  have heg:∀ b off,A=some ⟨b,off,none⟩→0<es.length→b≠gd∧b≠gs∧b≠X:=fun b off hA h0=>by
    obtain ⟨b',off',hA',hb, -⟩:=hes3 h0
    rw [hA] at hA';cases hA';omega
  have hes4:=hes3.keep p4
  have ks:∀ {S:Nat→Prop} {a b:World},Keeps S a b→(∀ k,S k→w3.heap.size≤k)→Kp a b g2:=fun K hS=>K.kp (fun h=>by have:=hS _ h;omega)
  have hfr:∀ k,(k=gd∨k=gs∨k=X)→w3.heap.size≤k:=fun k hk=>by rcases hk with rfl | rfl | rfl <;> omega
  refine (lend_state hE (by omega) hn1 (by omega) hC hs6.2 hsm.el hd0 hdn X gd gs A cap cd' n w4 hS hes4 heg).mono ?_
  rintro _ w5 ⟨rfl,m,d5,s5,hG5, -,hS5,K5⟩
  refine ⟨rfl,ks K5 hfr,?_⟩
  have hes5:=hes4.keepL K5 (fun b off h h0=>by have:=heg b off h h0;omega)
  refine (settle_state hE (by omega) hn1 (by omega) hC hs6.2 hsm.el hd0 hdn X gd gs A cap cd' n m d5 s5 w5 hG5 hS5 hes5 heg).mono ?_
  rintro _ w6 ⟨rfl,m6,d6,s6,hG6,hR6,hS6,K6⟩
  refine ⟨rfl,ks K6 hfr,?_⟩
  refine (result_state hE (by omega) hn1 (by omega) hC hs6.2 hsm.el hd0 hdn X gd gs A cap cd' n m6 d6 s6 w6 hG6 hS6).mono ?_
  rintro _ w7 ⟨A1,l1,c1,A2,l2,c2,rfl,K7,hr,hL⟩
  refine ⟨_,_,_,_,_,_,_,rfl,ks K7 (fun k hk=>by rw [hk];omega),?_⟩
  have pf:∀ {S:Nat→Prop} {a b c:World},Pure a b→Keeps S b c→(∀ k,S k→a.heap.size≤k)→Pure a c:=fun p K h=>(p.mono (fun _ _=>False.elim)).then K (fun k hk hs=>by have:=h k hs;omega)
  have sw:=p03.size
  have hfr0:∀ k,(k=gd∨k=gs∨k=X)→w.heap.size≤k:=fun k hk=>by have:=hfr k hk;omega
  refine ⟨pf (pf (pf (p03.trans p4) K5 hfr0) K6 hfr0) K7 (fun k hk=>by rw [hk];omega),h0.symm,fun h=>absurd rfl h,fun _=>⟨gd,gs,cd',n,d6,yd3 s6 q,⟨?_,hR6⟩,?_,by omega,by omega,hS.2.2.2.1,hcm,by unfold maxLen;omega⟩⟩
  · simpa using hL
  · simpa using hr
end Go.Proofs.YtjepipbkiadcpaaGreat

/- The package's own functions: IsReduced, Unburnt. -/
namespace Go.Proofs.YtjepipbkiadcpaaGreat
open Go Go.RowKit Go.Proofs.Tryz
def OInts(w:World)(B:Nat)(A:Option Addr)(l c:Nat)(xs:List Int):Prop:=OwnS w B 3 1 A l c (xs.map (Value.int .i64))
theorem OInts.nil(w:World)(B:Nat):OInts w B none 0 0 []:=OwnS.nil w B _ 1
theorem red_iff{n:Nat}{es:List E3}{q:Nat}{d:List Int}{burnt:List Bool}(hE:EOk n es)(hq:q<n)(hB:Burns n es q d burnt)(hpos:∀ v,v<n→v≠q→0≤gi d v):Red n es q d↔(leftOf burnt).any id=false:=by
  constructor
  · intro hR
    cases hany:(leftOf burnt).any id with
    | false=>rfl
    | true =>
      exfalso
      obtain ⟨x,hx,hxt⟩:=List.any_eq_true.1 hany
      obtain ⟨i,hi,hxi⟩:=List.mem_iff_getElem.1 hx
      have hin:i<n:=by simpa [leftOf,hB.len] using hi
      obtain ⟨v,hv,hSv,hlt⟩:=hR.no (gb (leftOf burnt)) (by rw [yfG hB.len hq,hB.at_q];rfl) ⟨i,hin,by rw [yb2 hi,hxi];simpa using hxt⟩
      have h1:=hB.closed v hv (by rw [yfG hB.len hv] at hSv;simpa using hSv)
      rw [ydS hE] at h1
      have h2:sm n (fun u=>if gb (leftOf burnt) u=true then 0 else W es v u)=sm n (fun u=>if gb burnt (u:Int).toNat=true then W es v u else 0):=yan fun u hu=>by
        rw [yfG hB.len hu,Int.toNat_natCast]
        by_cases c:gb burnt u=true
        · simp [c]
        · simp [c]
      omega
  · intro hany
    refine ⟨hpos,fun S hS ⟨v,hv,hSv⟩=>?_⟩
    apply Classical.byContradiction
    intro hno
    have h1:=hB.forced S hS (fun x hx hSx=>by
      apply Int.not_lt.1
      intro hlt
      rw [ydS hE] at hlt
      refine hno ⟨x,hx,hSx,Int.lt_of_lt_of_le hlt (Int.le_of_eq (yan fun u hu=>?_))⟩
      simp only [Int.toNat_natCast]
      by_cases hs:S u=true
      · simp [hs]
      · simp [hs]) v hv hSv
    have h2:gb (leftOf burnt) v=true:=by rw [yfG hB.len hv,h1];rfl
    have hvl:v<(leftOf burnt).length:=by simp [leftOf,hB.len,hv]
    rw [yb2 hvl] at h2
    have h3:(leftOf burnt).any id=true:=List.any_eq_true.2 ⟨_,List.getElem_mem hvl,h2⟩
    rw [hany] at h3;cases h3
theorem owes_iff{q:Nat}{d:List Int}{n:Nat}(hl:d.length=n):owesF q d=true↔¬ ∀ v,v<n→v≠q→0≤gi d v:=by
  unfold owesF
  rw [List.any_eq_true]
  constructor
  · rintro ⟨v,hv,h⟩ h2
    simp only [List.mem_range,decide_eq_true_eq] at hv h
    have:=h2 v (by omega) (by omega)
    omega
  · intro h
    apply Classical.byContradiction
    intro h2
    refine h fun v hv hq=>?_
    apply Int.not_lt.1
    intro h3
    exact h2 ⟨v,by simp;omega,by simp;omega⟩
def IsPost(n:Int)(es:List E3)(q:Int)(d:List Int)(w:World)(r:Bool)(er:Int)(w':World):Prop :=
  Pure w w'∧er=yaV n es q d∧(er≠0→r=false)∧(er=0→(r=true↔Red n.toNat es q.toNat d))
theorem isreduced_any(A D:Option Addr)(es:List E3)(d:List Int)(cap cd:Nat)(n q:Int)(w:World)(he:ydc w A es)(hd:Ints w D d)(hdl:d.length≤1000000000)(hel:es.length≤1000) :
    Calls Tryz.prog 115 #[.agg #[.int .i64 n, .slice A es.length cap], .int .i64 q, .slice D d.length cd] w fun e w'=>∃ r er,e = .returned (.tuple #[.bool r, .int .i64 er])∧IsPost n es q d w r er w':=by
  refine yga n A es.length cap q D d.length cd w (IsPost n es q d w) ?_
  unfold yc3
  intro g2 w2 hN
  have pN:Pure w w2:=hN.keeps _
  refine (yif A D es d cap cd n q w2 (he.keep pN) (by omega) (hd.keep pN) hdl).mono ?_
  rintro _ w3 ⟨rfl,p3⟩
  have p03:=pN.trans p3
  refine ⟨_,rfl,p3.kp (by simp),fun h0=>?_,fun h0=>⟨p03,rfl,fun _=>rfl,fun h=>absurd h h0⟩⟩
  obtain ⟨k1,k2,k3,k4,k5⟩:=ydC h0
  obtain ⟨n,rfl⟩:∃ n':Nat,n=(n':Int):=⟨n.toNat,by omega⟩
  obtain ⟨q,rfl⟩:∃ q':Nat,q=(q':Int):=⟨q.toNat,by omega⟩
  obtain ⟨hE,hn1,hn12⟩:=ycl k1
  obtain ⟨hdn, -, -, -⟩:=ygT k5
  refine (owes_any D d cd q w3 (hd.keep p03) hdl).mono ?_
  rintro _ w4 ⟨rfl,p4⟩
  have p4:Pure w3 w4:=p4
  have p04:=p03.trans p4
  refine ⟨_,rfl,p4.kp (by simp),fun ho=>⟨p04,h0.symm,fun _=>rfl,fun _=>⟨fun h=>(by cases h),fun h=>absurd h.pos ((owes_iff hdn).1 ho)⟩⟩,fun ho=>?_⟩
  have hpos:∀ v,v<n→v≠q→0≤gi d v:=Classical.byContradiction fun h=>ho ((owes_iff hdn).2 h)
  have hes4:=he.keep p04
  refine (yie A D es d cap cd n q w4 (hd.keep p04) hdn hn1 hn12).mono ?_
  rintro _ w5 ⟨X,gd,gs,cd',rfl,hX,hgd,hgs,hS,p5, -⟩
  refine ⟨_,rfl,p5.kp (by simp),?_⟩
  refine (yiu X gd gs n A es cap cd' n q d _ 0 w5 hS (hes4.keep p5) (by omega) hn12 hE.range hel).mono ?_
  rintro _ w6 ⟨gl,left,rfl,hgl,hl6,hll,p6,burnt,b1,b2,b3,b4,b5⟩
  have hB:Burns n es q d burnt:=⟨b1,b3,b4,b5⟩
  have hlo:left=leftOf burnt:=b2
  refine ⟨_,_,_,_,rfl,p6.kp (by simp),(p04.trans p5).trans p6,h0.symm,fun h=>absurd rfl h,fun _=>?_⟩
  have:=red_iff hE (by omega) hB hpos
  simp only [Int.toNat_natCast]
  rw [this,hlo]
  simp
end Go.Proofs.YtjepipbkiadcpaaGreat

/- The chapter's examples come out right. -/
namespace Go.Proofs.YtjepipbkiadcpaaGreat
open Go Go.RowKit Go.Shelf Go.Proofs.Tryz
theorem reduces_eq{n:Nat}{es:List E3}{q:Nat}{d a s a' s':List Int}(hE:EOk n es)(hq:q<n)(h:Reduces n es q d a s)(dl:a'.length=n)(sl:s'.length=n)
    (lp:∀ v,v<n→gi a' v=gi d v-Lp n es (gi s') v) (sq:gi s' q=0) (hR:Red n es q a'):a=a'∧s=s':=by
  have hL:∀ (x y:Nat→Int) v,v<n→Lp n es (fun i=>x i-y i) v=Lp n es x v-Lp n es y v:=fun x y v hv=>by
    have h1:=ygc (n:=n) (es:=es) (fun i=>x i-y i) y v
    have h2:=yeC (n:=n) (es:=es) (a:=fun i=>x i-y i+y i) (b:=x) (fun i _=>by show x i-y i+y i=x i;omega) hv
    omega
  have h1:=ye5 hE hq h.red hR.pos (f:=fun v=>gi s' v-gi s v) (fun v hv=>by rw [hL _ _ v hv,lp v hv,h.lp v hv];omega)
  have h2:=ye5 hE hq hR h.red.pos (f:=fun v=>gi s v-gi s' v) (fun v hv=>by rw [hL _ _ v hv,lp v hv,h.lp v hv];omega)
  have hsq:=h.sq
  have hs:∀ v,v<n→gi s v=gi s' v:=fun v hv=>by
    have a1:gi s' v-gi s v≤gi s' q-gi s q:=h1 v hv
    have a2:gi s v-gi s' v≤gi s q-gi s' q:=h2 v hv
    omega
  have hss:s=s':=yfv (by rw [h.sl,sl]) (fun k hk=>hs k (by rw [h.sl] at hk;exact hk))
  refine ⟨yfv (by rw [h.dl,dl]) (fun k hk=>?_),hss⟩
  rw [h.dl] at hk
  rw [lp k hk,h.lp k hk,hss]
def es3:List E3:=[(0,1,1),(0,2,1),(1,2,1)]
theorem W3:W es3 0 0=0∧W es3 0 1=1∧W es3 0 2=1∧W es3 1 0=1∧W es3 1 1=0∧W es3 1 2=1∧W es3 2 0=1∧W es3 2 1=1∧W es3 2 2=0:=by decide
end Go.Proofs.YtjepipbkiadcpaaGreat

/- Plain facts on graphs that the references need: checks, weights, connectedness, sets as bits. No program in sight. -/
namespace Go.Proofs.YtjepipbkiadcpaaGreat
open Go Go.RowKit Go.Shelf Go.Proofs.Tryz
def yeR(n a b:Int)(x:E3):Int:=if (0≤x.1∧x.1<n)∧(0≤x.2.1∧x.2.1<n)∧1≤x.2.2∧x.2.2≤50 then (if x.1≤x.2.1∧yic a b x.1 x.2.1<0 then 0 else 9) else 2
theorem ydZ(n a b:Int)(x:E3)(t:List E3):gchk n a b (x::t)=if yeR n a b x=0 then gchk n x.1 x.2.1 t else yeR n a b x:=by
  rw [gchk]
  unfold yeR
  by_cases c:(0≤x.1∧x.1<n)∧(0≤x.2.1∧x.2.1<n)∧1≤x.2.2∧x.2.2≤50
  · rw [if_pos c,if_pos c]
    by_cases c2:x.1≤x.2.1∧yic a b x.1 x.2.1<0
    · rw [if_pos c2,if_pos c2,if_pos rfl]
    · rw [if_neg c2,if_neg c2,if_neg (by omega)]
  · rw [if_neg c,if_neg c,if_neg (by omega)]
theorem ygh(a b c d:Int):yic a b c d<0↔a<c∨(a=c∧b<d):=by
  unfold yic orF cmpF
  by_cases h1:a<c
  · simp [h1]
  · by_cases h2:c<a
    · simp [h1,h2];omega
    · have:a=c:=by omega
      subst this
      simp
      by_cases h3:b<d
      · simp [h3]
      · by_cases h4:d<b <;> simp [h3,h4]
def pre(es:List E3)(k:Nat):Int×Int:=if k=0 then (-1, -1) else ((ge es (k-1)).1,(ge es (k-1)).2.1)
theorem yia{n:Int} : ∀ (es:List E3) (a b:Int),gchk n a b es=0→∀ x∈es,(a<x.1∨(a=x.1∧b<x.2.1))∧x.1≤x.2.1
  | [],_,_,_=>by simp
  | x::t,a,b,h=>by
    rw [ydZ] at h
    by_cases h0:yeR n a b x=0
    · rw [if_pos h0] at h
      have hx:x.1≤x.2.1∧(a<x.1∨(a=x.1∧b<x.2.1)):=by
        unfold yeR at h0
        split at h0
        · split at h0
          · rename_i c;exact ⟨c.1,(ygh _ _ _ _).1 c.2⟩
          · omega
        · omega
      intro y hy
      rcases List.mem_cons.1 hy with rfl | hy
      · exact ⟨hx.2,hx.1⟩
      · have:=yia t _ _ h y hy
        omega
    · rw [if_neg h0] at h;exact absurd h h0
theorem between_W{n:Int}(u v:Nat)(huv:u≠v):∀ (es:List E3) (a b:Int),gchk n a b es=0→((es.find? fun x=>decide (x.1=mnF (u:Int) v∧x.2.1=mxF (u:Int) v)).map (·.2.2)).getD 0=W es u v
  | [],_,_,_=>rfl
  | x::t,a,b,h=>by
    have hlt:=yia (x::t) a b h
    rw [ydZ] at h
    by_cases h0:yeR n a b x=0
    · rw [if_pos h0] at h
      have ih:=between_W u v huv t _ _ h
      have ht:=yia t _ _ h
      have hx:=(hlt x (by simp)).2
      have hmn:mnF (u:Int) v=if (u:Int)<v then (u:Int) else v:=by unfold mnF;split <;> (try split) <;> omega
      have hmx:mxF (u:Int) v=if (u:Int)<v then (v:Int) else u:=by unfold mxF;split <;> (try split) <;> omega
      rw [List.find?_cons,ye4]
      by_cases c:x.1=mnF (u:Int) v∧x.2.1=mxF (u:Int) v
      · have hnone:t.find? (fun x=>decide (x.1=mnF (u:Int) v∧x.2.1=mxF (u:Int) v))=none:=by
          rw [List.find?_eq_none]
          intro y hy
          have:=ht y hy
          simp only [decide_eq_true_eq]
          omega
        rw [hnone] at ih
        have hw:w1 x u v=x.2.2:=by
          unfold w1
          rw [if_pos]
          rw [hmn,hmx] at c
          by_cases q:(u:Int)<v
          · rw [if_pos q,if_pos q] at c;omega
          · rw [if_neg q,if_neg q] at c;omega
        rw [decide_eq_true c,hw,←ih]
        simp
      · have hw:w1 x u v=0:=by
          unfold w1
          rw [if_neg]
          intro q
          apply c
          rw [hmn,hmx]
          by_cases q2:(u:Int)<v
          · rw [if_pos q2,if_pos q2];omega
          · rw [if_neg q2,if_neg q2];omega
        rw [decide_eq_false c,hw,←ih]
        simp
    · rw [if_neg h0] at h;exact absurd h h0
theorem yfl{n:Int}{es:List E3}(h:yap n es=0):gchk n (-1) (-1) es=0:=by
  unfold yap at h
  split at h
  · exact h
  · omega
def smallF(n:Int)(es:List E3)(a b:Int):Bool:=decide (es.length≤40∧(yap n es=0→n≤a∧(es.map (·.2.2)).sum≤b))
theorem gb_rep(n v:Nat):gb (List.replicate n false) v=false:=by
  rcases Nat.lt_or_ge v n with h | h
  · rw [yb2 (by simpa using h)];simp
  · exact gb_ge (by simpa using h)
theorem set_same{l:List Bool}{v:Nat}(h:gb l v=true):l.set v true=l:=by
  rcases Nat.lt_or_ge v l.length with hv | hv
  · rw [yb2 hv] at h
    rw [←h];exact List.set_getElem_self hv
  · rw [gb_ge hv] at h;cases h
def Cl(n:Nat)(es:List E3)(o:List Bool):Prop:=∀ a b,a<n→b<n→gb o a=true→0<W es a b→gb o b=true
theorem root_W{n:Nat}{es:List E3}(hE:EOk n es)(hn:1≤n)(h12:n≤12){a b:Nat}(h:0<W es a b):root (yay es) a=root (yay es) b:=by
  obtain ⟨m,hm⟩:=(W_adj hE).1 h
  obtain ⟨x,hx,q1,q2,q3,q4⟩:=ybY.1 hm
  have h1:=root_edge es (hE.ends hn h12) x hx
  have hbx:=hE x hx
  rcases q2 with q2 | q2
  · rwa [show x.1.toNat=a by omega,show x.2.1.toNat=b by omega] at h1
  · rw [show x.1.toNat=b by omega,show x.2.1.toNat=a by omega] at h1;exact h1.symm
theorem conn_root{n:Nat}{es:List E3}(hE:EOk n es)(hn:1≤n)(h12:n≤12):ydT n es=true↔∀ v,v<n→root (yay es) v=root (yay es) 0:=by
  have hF:=ycI es (hE.ends hn h12)
  unfold ydT
  rw [beq_iff_eq,Int.toNat_natCast]
  exact nroots_one hF hn h12
theorem cl_root{n:Nat}{es:List E3}(hE:EOk n es)(hn:1≤n)(h12:n≤12){o:List Bool}(hC:Cl n es o){v:Nat}(hv:v<n)(hvo:gb o v=true)(hs:∀ u,u<n→gb o u=true→root (yay es) u=root (yay es) v) :
    ∀ u,u<n→gb o u=decide (root (yay es) u=root (yay es) v):=by
  have hcl:∀ x∈es,gb o x.1.toNat=gb o x.2.1.toNat:=fun x hx=>by
    have hb:=hE x hx
    by_cases e:x.1=x.2.1
    · rw [e]
    · have hw:=W_edge hE hn h12 hx e
      cases h1:gb o x.1.toNat <;> cases h2:gb o x.2.1.toNat
      · rfl
      · rw [hC _ _ (by omega) (by omega) h2 (by rw [ygU];exact hw)] at h1;cases h1
      · rw [hC _ _ (by omega) (by omega) h1 hw] at h2;cases h2
      · rfl
  have hside:=root_side (n:=n) (S:=gb o) es (hE.ends hn h12) hcl
  intro u hu
  cases h:gb o u with
  | true=>exact (decide_eq_true (hs u hu h)).symm
  | false =>
    symm
    rw [decide_eq_false_iff_not]
    intro e
    have h1:=hside u (by omega)
    have h2:=hside v (by omega)
    rw [e,h2,hvo] at h1
    rw [h] at h1;cases h1
def ycV(n:Int)(es:List E3):Int:=if yap n es=0 then (if ydT n es=true then 0 else 13) else yap n es
theorem bit_and(m u:Nat):((((m:Int) / 2^(u:Int).toNat).toNat &&& (1:Int).toNat:Nat):Int)=if m.testBit u=true then 1 else 0:=by
  have e1:((m:Int) / 2^(u:Int).toNat).toNat=m / 2^u:=by
    have:((m:Int) / 2^(u:Int).toNat)=((m / 2^u:Nat):Int):=by rw [Int.toNat_natCast];push_cast;rfl
    rw [this,Int.toNat_natCast]
  have e2:(1:Int).toNat=1:=rfl
  rw [e1,e2,Nat.and_one_is_mod,Nat.testBit_eq_decide_div_mod_eq]
  simp only [decide_eq_true_eq]
  split <;> omega
theorem bit_fit(m u:Nat)(hm:m<9223372036854775808):0≤((m:Int) / 2^(u:Int).toNat)∧((m:Int) / 2^(u:Int).toNat)<9223372036854775808∧0≤(1:Int)∧(1:Int)<9223372036854775808:=by
  have:((m:Int) / 2^(u:Int).toNat)=((m / 2^u:Nat):Int):=by rw [Int.toNat_natCast];push_cast;rfl
  have h2:m / 2^u≤m:=Nat.div_le_self _ _
  rw [this]
  generalize m / 2^u=z at h2
  omega
theorem W_le{n:Nat}{es:List E3}(hE:EOk n es)(v u:Nat):W es v u≤50*es.length:=by
  induction es with
  | nil=>rw [W_nil];simp
  | cons x es ih =>
    have h1:=ih (fun y hy=>hE y (by simp [hy]))
    have h2:=hE x (by simp)
    rw [ye4,List.length_cons]
    unfold w1
    split <;> omega
def outS(n:Nat)(es:List E3)(S:Nat→Bool)(v:Nat):Int:=sm n (fun u=>if S u=true then 0 else W es v u)
def mayF(n:Nat)(es:List E3)(d:List Int)(S:Nat→Bool):Prop:=∀ v,v<n→S v=true→outS n es S v≤gi d v
theorem two_pow_small{n:Nat}(hn:n≤12):2^n≤4096:=Nat.pow_le_pow_right (by omega) (show n≤12 from hn)
theorem pow_cast(n:Nat):(1:Int)*2^(n:Int).toNat=((2^n:Nat):Int):=by rw [Int.toNat_natCast,Int.one_mul];push_cast;rfl
def yfC(S:Nat→Bool):Nat→Nat
  | 0=>0
  | k+1=>yfC S k ||| (if S k=true then 2^k else 0)
theorem ygS(S:Nat→Bool):∀ k i,(yfC S k).testBit i=(decide (i<k)&&S i)
  | 0,i=>by simp [yfC]
  | k+1,i=>by
    rw [yfC,Nat.testBit_or,ygS S k i]
    by_cases hS:S k=true
    · rw [if_pos hS,Nat.testBit_two_pow]
      by_cases e:k=i
      · subst e;simp [hS]
      · have:(i<k+1)↔i<k:=by omega
        simp [e,this]
    · rw [if_neg hS]
      by_cases e:k=i
      · subst e;simp [hS]
      · have:(i<k+1)↔i<k:=by omega
        simp [this]
theorem mask_lt(S:Nat→Bool):∀ k,yfC S k<2^k
  | 0=>by simp [yfC]
  | k+1=>by
    rw [yfC]
    have h1:=mask_lt S k
    have h2:2^k<2^(k+1):=Nat.pow_lt_pow_right (by omega) (by omega)
    refine Nat.or_lt_two_pow (by omega) ?_
    split
    · exact h2
    · exact Nat.lt_trans (Nat.two_pow_pos k) h2
theorem outS_congr{n:Nat}{es:List E3}{S T:Nat→Bool}(h:∀ v,v<n→S v=T v)(v:Nat):outS n es S v=outS n es T v:=yan fun u hu=>by rw [h u hu]
theorem mask_may{n:Nat}{es:List E3}{d:List Int}(S:Nat→Bool):mayF n es d (yfC S n).testBit↔mayF n es d S:=by
  have h:∀ v,v<n→(yfC S n).testBit v=S v:=fun v hv=>by rw [ygS];simp [hv]
  unfold mayF
  constructor
  · intro h1 v hv hS;rw [←outS_congr h];exact h1 v hv (by rw [h v hv];exact hS)
  · intro h1 v hv hS;rw [outS_congr h];exact h1 v hv (by rw [←h v hv];exact hS)
theorem tight_red{n:Nat}{es:List E3}{q:Nat}{d:List Int}(hq:q<n)(hpos:∀ v,v<n→v≠q→0≤gi d v):(∀ m,1≤m→m<2^n→m.testBit q=false→¬mayF n es d m.testBit)↔Red n es q d:=by
  constructor
  · intro h
    refine ⟨hpos,fun S hS ⟨v,hv,hSv⟩=>?_⟩
    apply Classical.byContradiction
    intro hno
    refine h (yfC S n) ?_ (mask_lt S n) (by rw [ygS,hS];simp) ((mask_may S).2 fun x hx hSx=>?_)
    · apply Nat.one_le_iff_ne_zero.2
      intro e
      have:=ygS S n v
      rw [e,hSv] at this
      simp [hv] at this
    · apply Int.not_lt.1
      intro hlt
      exact hno ⟨x,hx,hSx,hlt⟩
  · intro hR m h1 h2 h3 hmay
    obtain ⟨i,hi⟩:=Nat.exists_testBit_of_ne_zero (show m≠0 by omega)
    have hin:i<n:=by
      apply Nat.lt_of_not_le
      intro hle
      have:=Nat.testBit_lt_two_pow (Nat.lt_of_lt_of_le h2 (Nat.pow_le_pow_right (by omega) hle))
      rw [this] at hi;cases hi
    obtain ⟨v,hv,hSv,hlt⟩:=hR.no m.testBit h3 ⟨i,hin,hi⟩
    have:=hmay v hv hSv
    unfold outS at this
    omega
end Go.Proofs.YtjepipbkiadcpaaGreat

/- Words for proofs from pure forms: loops that count up, lists that are filled from the left. No program in sight. -/
namespace Go.Proofs.YtjepipbkiadcpaaGreat
open Go Go.Proofs.Tryz
def Cnt(N:Nat)(P:Nat→Prop)(m:Nat)(v:Int):Prop:=∃ k:Nat,m=N-k∧v=(k:Int)∧k≤N∧P k
theorem Cnt.start{N:Nat}{P:Nat→Prop}(h:P 0):∃ m0,Cnt N P m0 0:=⟨N,0,rfl,rfl,Nat.zero_le _,h⟩
theorem Cnt.next{N:Nat}{P:Nat→Prop}{k:Nat}(hk:k<N)(hN:N≤1000000000000)(h:P (k+1)):In64 ((k:Int)+1)∧∃ m',m'<N-k∧Cnt N P m' ((k:Int)+1) :=
  ⟨⟨by omega,by omega⟩,N-(k+1),by omega,k+1,rfl,by omega,by omega,h⟩
theorem Cnt.next' {N:Nat}{P:Nat→Prop}{k:Nat}(hk:k<N)(h:P (k+1)):∃ m',m'<N-k∧Cnt N P m' ((k:Int)+1) :=
  ⟨N-(k+1),by omega,k+1,rfl,by omega,by omega,h⟩
theorem i64{a:Int}(h : -9000000000000000000≤a∧a≤9000000000000000000):In64 a:=⟨by omega,by omega⟩
def tab(f:Nat→Int)(n:Nat):List Int:=(List.range n).map f
theorem yeU(f:Nat→Int)(n:Nat):(tab f n).length=n:=by simp [tab]
theorem gi_tab(f:Nat→Int){n i:Nat}(hi:i<n):gi (tab f n) i=f i:=by rw [ybk (by rw [yeU];exact hi)];simp [tab]
theorem eq_tab{l:List Int}{n:Nat}(hl:l.length=n)(f:Nat→Int)(h:∀ i,i<n→gi l i=f i):l=tab f n:=by
  subst hl
  refine yfv (by simp [yeU]) fun i hi=>?_
  rw [h i hi,gi_tab _ hi]
theorem ygJ{f:Nat→Int}{B:Int}(hB:0≤B):∀ {n:Nat},(∀ i,i<n → -B≤f i∧f i≤B) → -(n*B)≤sm n f∧sm n f≤n*B
  | 0,_=>by simp [sm]
  | n+1,h=>by
    have ih:=ygJ hB (n:=n) fun i hi=>h i (by omega)
    have:=h n (by omega)
    rw [sm,show ((n+1:Nat):Int)*B=n*B+B by rw [Int.natCast_add,Int.add_mul];simp]
    omega
def dg(d:List Int):Int:=sm d.length (gi d)
end Go.Proofs.YtjepipbkiadcpaaGreat

/- Reduce of a divisor that is reduced already: it is the form, and the script is 0. -/
namespace Go.Proofs.YtjepipbkiadcpaaGreat
open Go Go.Proofs.Tryz
theorem reduce_red_any(A D:Option Addr)(es:List E3)(d:List Int)(cap cd:Nat)(n q:Int)(w:World)(he:ydc w A es)(hd:Ints w D d)(hdl:d.length≤1000000000)(hel:es.length≤40)(hred:yaV n es q d=0→Red n.toNat es q.toNat d∧∀ v:Nat,(v:Int)<n → -600000≤gi d v∧gi d v≤600000) :
    Calls Tryz.prog 28 #[.agg #[.int .i64 n, .slice A es.length cap], .int .i64 q, .slice D d.length cd] w fun e w'=>∃ A1 l1 c1 A2 l2 c2 er,e = .returned (.tuple #[.slice A1 l1 c1, .slice A2 l2 c2, .int .i64 er]) ∧
      yiD (fun n q d' s'=>Reduces n es q d d' s') n es q d w A1 l1 c1 A2 l2 c2 er w':=by
  refine ye0 n A es.length cap q D d.length cd w (yiD (fun n q d' s'=>Reduces n es q d d' s') n es q d w) ?_
  unfold ycY
  intro g2 w2 hN
  have pN:Pure w w2:=hN.keeps _
  refine (yif A D es d cap cd n q w2 (he.keep pN) (by omega) (hd.keep pN) hdl).mono ?_
  rintro _ w3 ⟨rfl,p3⟩
  have p03:=pN.trans p3
  refine ⟨_,rfl,p3.kp (by simp),fun h0=>?_,fun h0=>⟨p03,rfl,fun _=>⟨rfl,rfl,rfl,rfl,rfl,rfl⟩,fun h=>absurd h h0⟩⟩
  obtain ⟨k1,k2,k3,k4,k5⟩:=ydC h0
  have hrr:=hred h0
  obtain ⟨n,rfl⟩:∃ n':Nat,n=(n':Int):=⟨n.toNat,by omega⟩
  obtain ⟨q,rfl⟩:∃ q':Nat,q=(q':Int):=⟨q.toNat,by omega⟩
  obtain ⟨hE,hn1,hn12⟩:=ycl k1
  obtain ⟨hdn, -, -, -⟩:=ygT k5
  have hC:Conn n es q:=(conn_iff hE hn1 hn12 (by omega)).1 k2
  simp only [Int.toNat_natCast] at hrr
  obtain ⟨hRd,hbd⟩:=hrr
  have hes3:=he.keep p03
  refine (yie A D es d cap cd n q w3 (hd.keep p03) hdn hn1 hn12).mono ?_
  rintro _ w4 ⟨X,gd,gs,cd',rfl,hX,hgd,hgs,hS,p4,hcm⟩
  have sz:=hN.size
  have ag:=hN.at_
  have s3:=p3.size
  refine ⟨_,rfl,p4.kp (by simp),?_⟩
  have heg:∀ b off,A=some ⟨b,off,none⟩→0<es.length→b≠gd∧b≠gs∧b≠X:=fun b off hA h0=>by
    obtain ⟨b',off',hA',hb, -⟩:=hes3 h0
    rw [hA] at hA';cases hA';omega
  have hes4:=hes3.keep p4
  have ks:∀ {S:Nat→Prop} {a b:World},Keeps S a b→(∀ k,S k→w3.heap.size≤k)→Kp a b g2:=fun K hS=>K.kp (fun h=>by have:=hS _ h;omega)
  have hfr:∀ k,(k=gd∨k=gs∨k=X)→w3.heap.size≤k:=fun k hk=>by rcases hk with rfl | rfl | rfl <;> omega
  have hz:∀ i,gi (List.replicate n (0:Int)) i=0:=fun i=>by
    rcases Nat.lt_or_ge i n with h | h
    · rw [ybk (by simpa using h)];simp
    · exact gi_ge (by simpa using h)
  have hB1:Bnd 600000 d:=fun i=>by
    by_cases hi:i<n
    · exact hbd i (by omega)
    · rw [gi_ge (by omega)];omega
  refine (lend_any (fun o k d' s' e=>d'=d∧s'=List.replicate n 0∧e=0) X gd gs n A es cap cd' n q d (List.replicate n 0) 0 w4 hS hes4 heg (by omega) (by omega) hE.range (fun x hx=>(hE x hx).2.2.2.2.1) (by omega) (fun o hD=>⟨rfl,rfl,rfl⟩)
    (fun o k d' s' e ⟨h1,h2,h3⟩=>⟨fun i=>by have:=hB1 i;rw [h1];omega,fun i=>by rw [h2,hz];omega⟩) (fun o k d' s' hD ⟨h1,h2,h3⟩ hl hl2=>?_)).mono ?_
  · have hzero:ybF es o ((k:Int)+1) d' n=0:=ygj n fun v hv hk=>by
      rw [h1]
      by_cases e:v=q
      · rw [e,hD.q0] at hk;omega
      · exact hRd.pos v hv e
    rw [hzero]
    exact ⟨by omega,fun h=>absurd h (by omega),fun _=>⟨h1,h2,rfl⟩⟩
  rintro _ w5 ⟨rfl,o,k,d5,s5,e5,hD,⟨rfl,rfl,rfl⟩,hS5,hk,K5⟩
  refine ⟨rfl,ks K5 hfr,?_⟩
  have hes5:=hes4.keepL K5 (fun b off h h0=>by have:=heg b off h h0;omega)
  refine (settle_any (fun m d' s' e=>d'=d5∧s'=List.replicate n 0∧e=0) X gd gs n A es cap cd' n q 0 d5 (List.replicate n 0) 0 w5 hS5 hes5 heg (by omega) (by omega) hE.range (by omega) ⟨rfl,rfl,rfl⟩
    (fun m d' s' e ⟨h1,h2,h3⟩=>⟨fun i=>by have:=hB1 i;rw [h1];omega,fun i=>by rw [h2,hz];omega⟩) (fun m d' s' burnt ⟨h1,h2,h3⟩ hl hl2 hB hany=>?_)).mono ?_
  · exfalso
    rw [h1] at hB
    have:=(red_iff hE (by omega) hB hRd.pos).1 hRd
    rw [this] at hany;cases hany
  rintro _ w6 ⟨rfl,m6,d6,s6,e6,⟨rfl,rfl,rfl⟩,hS6,hb6,K6⟩
  refine ⟨rfl,ks K6 hfr,?_⟩
  have hnz:∀ v,v<n→gi (yd3 (List.replicate n (0:Int)) q) v=0:=fun v hv=>by rw [yh6 (by simpa using hv),hz,hz];omega
  have hL:Leads n es q d6 d6 (yd3 (List.replicate n 0) q):=⟨hdn,by rw [yhy];simp,fun v hv=>by
    rw [yeC (b:=fun _=>0) (fun i hi=>hnz i hi) hv,yeA];omega,hnz q (by omega),hRd.pos,fun v hv=>hbd v (by omega),fun v hv=>by rw [hnz v hv];omega⟩
  refine (result_any X gd gs n A es cap cd' n q d6 (List.replicate n 0) 0 w6 hS6 (by omega) (by omega) (fun _ i=>by rw [hz];omega)).mono ?_
  rintro _ w7 ⟨A1,l1,c1,A2,l2,c2,er,rfl,K7,h⟩
  have k2':ya6 (yd3 (List.replicate n 0) q) n=0:=yex hL.sl hn1 (by omega) (fun j hj=>by rw [hnz j hj];omega)
  rcases h with h | h | h
  · exact absurd rfl h.1
  · rcases h.2.1 with h | h
    · exact absurd k5 h
    · exact absurd k2' h
  obtain ⟨-, -, -,rfl,hr⟩:=h
  refine ⟨_,_,_,_,_,_,_,rfl,ks K7 (fun k hk=>by rw [hk];omega),?_⟩
  have pf:∀ {S:Nat→Prop} {a b c:World},Pure a b→Keeps S b c→(∀ k,S k→a.heap.size≤k)→Pure a c:=fun p K h=>(p.mono (fun _ _=>False.elim)).then K (fun k hk hs=>by have:=h k hs;omega)
  have sw:=p03.size
  have hfr0:∀ k,(k=gd∨k=gs∨k=X)→w.heap.size≤k:=fun k hk=>by have:=hfr k hk;omega
  refine ⟨pf (pf (pf (p03.trans p4) K5 hfr0) K6 hfr0) K7 (fun k hk=>by rw [hk];omega),h0.symm,fun h=>absurd rfl h,fun _=>⟨gd,gs,cd',n,d6,yd3 (List.replicate n 0) q,⟨?_,?_⟩,?_,by omega,by omega,hS.2.2.2.1,hcm,by unfold maxLen;omega⟩⟩
  · simpa using hL
  · simpa using hRd
  · simpa using hr
end Go.Proofs.YtjepipbkiadcpaaGreat

/- Pure forms of functions whose walks were proved by hand: reduced's, connect.Connected, the law's awake. -/
namespace Go.Proofs.YtjepipbkiadcpaaGreat
open Go Go.RowKit Go.Shelf Go.Proofs.Tryz
theorem yg4{A:Option Addr}{l cap:Nat}{xs:List Int}{O:Nat→Prop}{w:World}(h:(FP.sl cI A l cap xs).P O w):l=xs.length∧Ints w A xs:=by
  obtain ⟨h1,h2,h3⟩:=h
  refine ⟨h1,fun h0=>?_⟩
  obtain ⟨b,off,e,hb,ho,hc⟩:=h3 h0
  refine ⟨b,off,e,hb,fun k hk=>?_⟩
  obtain ⟨vs,hv,hu⟩:=hc k _ (ybe hk)
  have hv:vs=[.int .i64 (gi xs k)]:=hv
  subst hv
  have:=hu 0 _ rfl
  simpa [cI,Fl.cod,fI] using this
theorem sl_edges{A:Option Addr}{l cap:Nat}{es:List E3}{O:Nat→Prop}{w:World}(h:(FP.sl c3 A l cap es).P O w):l=es.length∧ydc w A es:=by
  obtain ⟨h1,h2,h3⟩:=h
  refine ⟨h1,fun h0=>?_⟩
  obtain ⟨b,off,e,hb,ho,hc⟩:=h3 h0
  refine ⟨b,off,e,hb,fun k hk=>?_⟩
  obtain ⟨vs,hv,hu⟩:=hc k _ (ydI hk)
  have hv:vs=[.int .i64 (ge es k).1, .int .i64 (ge es k).2.1, .int .i64 (ge es k).2.2]:=hv
  subst hv
  exact ⟨hu 0 _ rfl,hu 1 _ rfl,hu 2 _ rfl⟩
theorem sep_pure{w w':World}{O:Nat→Prop}(hO:∀ k,O k→k<w.heap.size)(h:Pure w w'):Sep w no O w' (rl []):=(Sep.start w hO).pur h
theorem ownC_ints{B:Nat}{O:Nat→Prop}{w:World}{e:TypeId}{A:Option Addr}{l cap:Nat}{xs:List Int}(h:OwnS w B e 1 A l cap (xs.map (Value.int .i64))):OwnC cI 0 O w e A l cap xs:=by
  have hl:=h.1
  simp at hl
  refine ⟨hl.symm,_,h.base (Nat.zero_le _),fun k x hx=>⟨_,rfl,fun j u hj=>?_⟩⟩
  have hj0:j=0:=by
    have:=(List.getElem?_eq_some_iff.1 hj).1
    simp [fI] at this;exact this
  subst hj0
  have hu:u = .int .i64 x:=by
    have:(some (Value.int .i64 x))=some u:=hj
    simpa using this.symm
  rw [hu]
  show (xs.map (Value.int .i64))[k*1+0]? = _
  rw [Nat.mul_one,Nat.add_zero,List.getElem?_map,hx];rfl
theorem row_ownS{w:World}{g:Nat}{e:TypeId}{cap:Nat}{xs:List Int}(h:IRow w g e cap xs)(hc:cap≤maxLen){B:Nat}(hB:B≤g):OwnS w B e 1 (some ⟨g,0,none⟩) xs.length cap (xs.map (Value.int .i64)):=by
  have hle:=IRow.le h
  obtain ⟨cur,h1,h2,h3⟩:=h
  refine ⟨by simp, .inr ⟨g,0,cur,rfl,hB,h1,hle,hc,by omega,?_⟩⟩
  rw [List.drop_zero,Nat.mul_one]
  simpa using h3
theorem sep_two{w w':World}{O:Nat→Prop}(hO:∀ k,O k→k<w.heap.size)(p:Pure w w'){e:TypeId}{A1 A2:Option Addr}{l1 c1 l2 c2:Nat}{xs ys:List Int}(o1:OwnS w' w.heap.size e 1 A1 l1 c1 (xs.map (Value.int .i64)))(o2:OwnS w' w.heap.size e 1 A2 l2 c2 (ys.map (Value.int .i64)))
    (hne:∀ k,A1.map (·.block)=some k→A2.map (·.block)=some k→False):Sep w no O w' (rl [.own cI e A1 l1 c1 xs, .own cI e A2 l2 c2 ys]):=by
  have hb:∀ i k,(rl [.own cI e A1 l1 c1 xs, .own cI e A2 l2 c2 ys] i).has k→(i=0∧A1.map (·.block)=some k)∨(i=1∧A2.map (·.block)=some k):=fun i k hk=>by
    match i with
    | 0=>exact .inl ⟨rfl,hk⟩
    | 1=>exact .inr ⟨rfl,hk⟩
    | i+2=>cases hk
  refine ⟨p,fun k hk=>⟨hO k hk,id⟩,fun i=>?_,fun i k hk=>?_,fun i j k hi hj=>?_⟩
  · match i with
    | 0=>exact ownC_ints o1
    | 1=>exact ownC_ints o2
    | i+2=>trivial
  · rcases hb i k hk with ⟨_,q⟩ | ⟨_,q⟩
    · exact .inl (o1.at_ q).1
    · exact .inl (o2.at_ q).1
  · rcases hb i k hi with ⟨e1,q1⟩ | ⟨e1,q1⟩ <;> rcases hb j k hj with ⟨e2,q2⟩ | ⟨e2,q2⟩
    · omega
    · exact (hne k q1 q2).elim
    · exact (hne k q2 q1).elim
    · omega
section
variable {O : Nat → Prop} {w : World} {n : Int} {es : List E3} {q : Int} {d : List Int} {A : Option Addr} {l c : Nat} {D : Option Addr} {ld cd : Nat}
def ybI(n:Int)(es:List E3)(R:Bool→Int→Prop):Prop:=es.length≤1000000000∧R (decide (yap n es=0∧ydT n es=true)) (yap n es)
theorem ycW{R:Bool→Int→Prop}(h:ybI n es R)(hO:∀ k,O k→k<w.heap.size)(a0:(FP.sl c3 A l c es).P O w) :
    Calls Tryz.prog 72 #[.agg #[.int .i64 n, .slice A l c]] w fun e w'=>∃ r:Bool,∃ r2:Int,e = .returned (.tuple #[.bool r, .int .i64 r2])∧Sep w no O w' (rl [])∧R r r2:=by
  obtain ⟨h1,h3⟩:=h
  obtain ⟨rfl,he⟩:=sl_edges a0
  refine (ydD A es c n w he h1).mono ?_
  rintro _ w' ⟨rfl,p⟩
  exact ⟨_,_,rfl,sep_pure hO p,h3⟩
def yd8(n:Int)(es:List E3)(q:Int)(d:List Int)(R:Bool→Int→Prop):Prop:=es.length≤1000∧d.length≤1000000000∧∀ r,(yaV n es q d≠0→r=false)→(yaV n es q d=0→(r=true↔Red n.toNat es q.toNat d))→R r (yaV n es q d)
theorem yfS{R:Bool→Int→Prop}(h:yd8 n es q d R)(hO:∀ k,O k→k<w.heap.size)(a0:(FP.sl c3 A l c es).P O w)(a1:(FP.sl cI D ld cd d).P O w) :
    Calls Tryz.prog 115 #[.agg #[.int .i64 n, .slice A l c], .int .i64 q, .slice D ld cd] w fun e w'=>∃ r:Bool,∃ r2:Int,e = .returned (.tuple #[.bool r, .int .i64 r2])∧Sep w no O w' (rl [])∧R r r2:=by
  obtain ⟨h1,h2,h3⟩:=h
  obtain ⟨rfl,he⟩:=sl_edges a0
  obtain ⟨rfl,hd⟩:=yg4 a1
  refine (isreduced_any A D es d c cd n q w he hd h2 h1).mono ?_
  rintro _ w' ⟨r,er,rfl,p,rfl,k1,k2⟩
  exact ⟨_,_,rfl,sep_pure hO p,h3 r k1 k2⟩
def outPf0(P:Nat→Nat→List Int→List Int→Prop)(n:Int)(es:List E3)(q:Int)(d:List Int)(R:List Int→List Int→Int→Prop):Prop :=
  d.length≤1000000000∧(yaV n es q d≠0→R [] [] (yaV n es q d))∧(yaV n es q d=0→∀ d' s',P n.toNat q.toNat d' s'→d'.length=n.toNat→s'.length=n.toNat→R d' s' 0)
def RedIn(n:Int)(es:List E3)(q:Int)(d:List Int):Prop:=es.length≤40∧(yaV n es q d=0→Red n.toNat es q.toNat d∧∀ v:Nat,(v:Int)<n → -600000≤gi d v∧gi d v≤600000)
theorem outPf_ok{P:Nat→Nat→List Int→List Int→Prop}{R:List Int→List Int→Int→Prop}(h:outPf0 P n es q d R)(hO:∀ k,O k→k<w.heap.size){w':World}{A1:Option Addr}{l1 c1:Nat}{A2:Option Addr}{l2 c2:Nat}{er:Int}(ho:yiD P n es q d w A1 l1 c1 A2 l2 c2 er w')(hlen:∀ d' s',P n.toNat q.toNat d' s'→d'.length=n.toNat∧s'.length=n.toNat) :
    ∃ r r2:List Int,∃ r3:Int,∃ Ar:Option Addr,∃ lr cr:Nat,∃ As:Option Addr,∃ ls cs:Nat,Ending.returned (.tuple #[.slice A1 l1 c1, .slice A2 l2 c2, .int .i64 er]) = .returned (.tuple #[.slice Ar lr cr, .slice As ls cs, .int .i64 r3])∧Sep w no O w' (rl [.own cI 3 Ar lr cr r, .own cI 3 As ls cs r2])∧R r r2 r3:=by
  obtain ⟨-,h3,h4⟩:=h
  obtain ⟨p,rfl,k1,k2⟩:=ho
  by_cases h0:yaV n es q d=0
  · obtain ⟨gd,gs,cd',cs',d',s',hP,hr,b1,b2,b3,m1,m2⟩:=k2 h0
    obtain ⟨q1,q2⟩:=hlen d' s' hP
    obtain ⟨rfl,rfl,rfl,rfl,rfl,rfl,r1,r2⟩:=hr
    have o1:=row_ownS r1 m1 b1
    have o2:=row_ownS r2 m2 b2
    rw [q1] at o1
    rw [q2] at o2
    exact ⟨d',s',_,_,_,_,_,_,_,rfl,sep_two hO p o1 o2 (fun k h1 h2=>by simp at h1 h2;omega),by rw [h0];exact h4 h0 d' s' hP q1 q2⟩
  · obtain ⟨rfl,rfl,rfl,rfl,rfl,rfl⟩:=k1 h0
    exact ⟨[],[],_,none,0,0,none,0,0,rfl,((((Sep.start w hO).pur p).nil 0 rfl cI 3).nil 1 rfl cI 3).sel [0,1] (by decide),h3 h0⟩
def yco(n:Int)(es:List E3)(q:Int)(d:List Int)(R:List Int→List Int→Int→Prop):Prop:=(Small n es d∨RedIn n es q d)∧outPf0 (fun n q d' s'=>Reduces n es q d d' s') n es q d R
theorem ycM{R:List Int→List Int→Int→Prop}(h:yco n es q d R)(hO:∀ k,O k→k<w.heap.size)(a0:(FP.sl c3 A l c es).P O w)(a1:(FP.sl cI D ld cd d).P O w) :
    Calls Tryz.prog 28 #[.agg #[.int .i64 n, .slice A l c], .int .i64 q, .slice D ld cd] w fun e w'=>∃ r r2:List Int,∃ r3:Int,∃ Ar:Option Addr,∃ lr cr:Nat,∃ As:Option Addr,∃ ls cs:Nat,e = .returned (.tuple #[.slice Ar lr cr, .slice As ls cs, .int .i64 r3])∧Sep w no O w' (rl [.own cI 3 Ar lr cr r, .own cI 3 As ls cs r2])∧R r r2 r3:=by
  obtain ⟨rfl,he⟩:=sl_edges a0
  obtain ⟨rfl,hd⟩:=yg4 a1
  rcases h.1 with h1 | h1
  · refine (reduce_any A D es d c cd n q w he hd h.2.1 h1).mono ?_
    rintro _ w' ⟨A1,l1,c1,A2,l2,c2,er,rfl,ho⟩
    exact outPf_ok h.2 hO ho fun d' s' hP=>⟨hP.dl,hP.sl⟩
  · refine (reduce_red_any A D es d c cd n q w he hd h.2.1 h1.1 h1.2).mono ?_
    rintro _ w' ⟨A1,l1,c1,A2,l2,c2,er,rfl,ho⟩
    exact outPf_ok h.2 hO ho fun d' s' hP=>⟨hP.dl,hP.sl⟩
end
end Go.Proofs.YtjepipbkiadcpaaGreat

/- Effective divisors of a degree in lexicographic order: the next one, all of them. No program in sight. -/
namespace Go.Proofs.YtjepipbkiadcpaaGreat
open Go Go.Proofs.Tryz
def ydH(n:Nat)(k:Int):List Int:=List.replicate (n-1) 0++[k]
def yfP:List Int→Option (List Int)
  | []=>none
  | k::t=>match yfP t with
    | some t'=>some (k::t')
    | none=>if t.sum=0 then none else some ((k+1)::ydH t.length (t.sum-1))
theorem yfF{k:Int}{t t':List Int}(h:yfP t=some t'):yfP (k::t)=some (k::t'):=by simp [yfP,h]
theorem yeo{k:Int}{t:List Int}(h:yfP t=none):yfP (k::t)=if t.sum=0 then none else some ((k+1)::ydH t.length (t.sum-1)):=by simp [yfP,h]
theorem yha:∀ (d:List Int),(∀ v,v+2≤d.length→(d.drop (v+1)).sum=0)→yfP d=none
  | [],_=>rfl
  | k::t,h=>by
    have h1:yfP t=none:=yha t fun v hv=>by
      have:=h (v+1) (by simp;omega)
      simpa using this
    rw [yeo h1]
    cases t with
    | nil=>rfl
    | cons a u =>
      have:=h 0 (by simp)
      simp only [Nat.zero_add,List.drop_one,List.tail_cons] at this
      rw [if_pos this]
theorem nextF_some:∀ (d:List Int) (v:Nat),v+2≤d.length→(d.drop (v+1)).sum≠0→(∀ w,v<w→w+2≤d.length→(d.drop (w+1)).sum=0) →
    yfP d=some (d.take v++(gi d v+1)::ydH (d.length-v-1) ((d.drop (v+1)).sum-1))
  | [],_,h,_,_=>absurd h (by simp)
  | k::t,0,h,h1,h2=>by
    have h3:yfP t=none:=yha t fun w hw=>by
      have:=h2 (w+1) (by omega) (by simp;omega)
      simpa using this
    rw [yeo h3]
    simp only [Nat.zero_add,List.drop_one,List.tail_cons] at h1 ⊢
    rw [if_neg h1]
    simp [gi]
  | k::t,v+1,h,h1,h2=>by
    have ih:=nextF_some t v (by simp at h;omega) (by simpa using h1) fun w hw hw2=>by
      have:=h2 (w+1) (by omega) (by simp;omega)
      simpa using this
    rw [yfF ih]
    simp [gi]
theorem ygP{m:Nat}(hm:1≤m)(z:Int):(ydH m z).length=m:=by unfold ydH;simp;omega
theorem gi_firstF(m:Nat)(z:Int)(i:Nat):gi (ydH m z) i=if i=m-1 then z else 0:=by
  unfold ydH gi
  simp only [List.getD_eq_getElem?_getD,List.getElem?_append,List.length_replicate,List.getElem?_replicate]
  by_cases h:i<m-1
  · rw [if_pos h,if_pos h,if_neg (by omega)];rfl
  · rw [if_neg h]
    by_cases e:i=m-1
    · rw [if_pos e,e,Nat.sub_self];rfl
    · rw [if_neg e,List.getElem?_eq_none (by simp;omega)];rfl
theorem gi_next{d:List Int}{v:Nat}(hv:v+2≤d.length)(x z:Int){i:Nat}(hi:i<d.length):gi (d.take v++x::ydH (d.length-v-1) z) i=if i<v then gi d i else if i=v then x else if i+1=d.length then z else 0:=by
  have hg:∀ (l:List Int) k,gi l k=(l[k]?).getD 0:=fun l k=>by unfold gi;simp
  rw [hg,List.getElem?_append,List.length_take,Nat.min_eq_left (by omega)]
  by_cases h:i<v
  · rw [if_pos h,if_pos h,List.getElem?_take,if_pos h,←hg]
  · rw [if_neg h,if_neg h]
    by_cases e:i=v
    · rw [if_pos e,e,Nat.sub_self];rfl
    · rw [if_neg e,show i-v=(i-v-1)+1 by omega,List.getElem?_cons_succ,←hg,gi_firstF]
      by_cases e2:i+1=d.length
      · rw [if_pos e2,if_pos (by omega)]
      · rw [if_neg e2,if_neg (by omega)]
theorem next_length{d:List Int}{v:Nat}(hv:v+2≤d.length)(x z:Int):(d.take v++x::ydH (d.length-v-1) z).length=d.length:=by
  rw [List.length_append,List.length_take,List.length_cons,ygP (by omega)];omega
def yeM:List (List Int)→Option (List Int)→Prop
  | [],_=>False
  | [x],o=>yfP x=o
  | x::y::t,o=>yfP x=some y∧yeM (y::t) o
theorem yeM.append:∀ {A:List (List Int)} {b:List Int} {B:List (List Int)} {o:Option (List Int)},yeM A (some b)→yeM (b::B) o→yeM (A++b::B) o
  | [],_,_,_,h,_=>h.elim
  | [x],b,B,o,h,h2=>⟨h,h2⟩
  | x::y::t,b,B,o,h,h2=>⟨h.1,yeM.append (A:=y::t) h.2 h2⟩
theorem yeM.at_:∀ {A:List (List Int)} {d:List Int} {B:List (List Int)} {o:Option (List Int)},yeM (A++d::B) o→yfP d=(B.head?.or o)
  | [],d,[],o,h=>h
  | [],d,b::B,o,h=>h.1
  | [x],d,B,o,h=>yeM.at_ (A:=[]) h.2
  | x::y::t,d,B,o,h=>yeM.at_ (A:=y::t) h.2
theorem yeM.map{s:Int}{m:Nat}(k:Int):∀ {L:List (List Int)},yeM L none→(∀ t∈L,t.sum=s∧t.length=m)→yeM (L.map (k :: ·)) (if s=0 then none else some ((k+1)::ydH m (s-1)))
  | [],h,_=>h.elim
  | [x],h,hs=>by
    have hx:=hs x (by simp)
    show yfP (k::x)=_
    rw [yeo h,hx.1,hx.2]
  | x::y::t,h,hs=>⟨yfF h.1,yeM.map (L:=y::t) k h.2 fun u hu=>hs u (by simp [hu])⟩
def ycC:Nat→Nat→List (List Int)
  | 0,_=>[]
  | 1,k=>[[(k:Int)]]
  | n+2,k=>(List.range (k+1)).flatMap fun i=>(ycC (n+1) (k-i)).map ((i:Int) :: ·)
theorem yc7:∀ (n k:Nat) (x:List Int),x∈ycC (n+1) k↔x.length=n+1∧(∀ a∈x,0≤a)∧x.sum=k
  | 0,k,x=>by
    show x∈[[(k:Int)]]↔_
    rw [List.mem_singleton]
    constructor
    · rintro rfl;simp
    · rintro ⟨h1,h2,h3⟩
      obtain ⟨a,rfl⟩:=List.length_eq_one_iff.1 h1
      simpa using h3
  | n+1,k,x=>by
    show x∈(List.range (k+1)).flatMap (fun i=>(ycC (n+1) (k-i)).map ((i:Int) :: ·))↔_
    rw [List.mem_flatMap]
    constructor
    · rintro ⟨i,hi,hx⟩
      rw [List.mem_range] at hi
      obtain ⟨t,ht,rfl⟩:=List.mem_map.1 hx
      obtain ⟨h1,h2,h3⟩:=(yc7 n (k-i) t).1 ht
      refine ⟨by simp [h1],fun a ha=>?_,?_⟩
      · rcases List.mem_cons.1 ha with rfl | ha
        · omega
        · exact h2 a ha
      · rw [List.sum_cons,h3];omega
    · rintro ⟨h1,h2,h3⟩
      cases x with
      | nil=>simp at h1
      | cons a t =>
        have ha:=h2 a (by simp)
        have hts:0≤t.sum:=by
          have:∀ l:List Int,(∀ a∈l,0≤a)→0≤l.sum:=fun l=>by
            induction l with
            | nil=>simp
            | cons b l ih=>intro h;rw [List.sum_cons];have:=h b (by simp);have:=ih fun c hc=>h c (by simp [hc]);omega
          exact this t fun b hb=>h2 b (by simp [hb])
        rw [List.sum_cons] at h3
        refine ⟨a.toNat,by rw [List.mem_range];omega,List.mem_map.2 ⟨t,(yc7 n (k-a.toNat) t).2 ⟨by simpa using h1,fun b hb=>h2 b (by simp [hb]),by omega⟩,?_⟩⟩
        rw [Int.toNat_of_nonneg ha]
theorem firstF_succ(n:Nat)(k:Int):ydH (n+2) k=0::ydH (n+1) k:=by
  unfold ydH
  rw [show n+2-1=n+1 by omega,show n+1-1=n by omega,List.replicate_succ];rfl
theorem ygi:∀ (n k:Nat),(∃ B,ycC (n+1) k=ydH (n+1) k::B)∧yeM (ycC (n+1) k) none
  | 0,k=>⟨⟨[],rfl⟩,rfl⟩
  | n+1,k=>by
    have blocks:∀ (j i:Nat),i+j=k→(∃ B,(List.range' i (j+1)).flatMap (fun i=>(ycC (n+1) (k-i)).map ((i:Int) :: ·))=((i:Int)::ydH (n+1) ((k-i:Nat):Int))::B)∧yeM ((List.range' i (j+1)).flatMap fun i=>(ycC (n+1) (k-i)).map ((i:Int) :: ·)) none:=by
      intro j
      induction j with
      | zero =>
        intro i hi
        have e:k-i=0:=by omega
        obtain ⟨⟨B,hB⟩,hs⟩:=ygi n (k-i)
        have e0:List.range' i (0+1)=[i]:=rfl
        rw [e0,List.flatMap_cons,List.flatMap_nil,List.append_nil]
        refine ⟨⟨B.map ((i:Int) :: ·),by rw [hB];rfl⟩,?_⟩
        have:=hs.map (s:=((k-i:Nat):Int)) (m:=n+1) (i:Int) fun t ht=>by
          obtain ⟨h1,h2,h3⟩:=(yc7 n (k-i) t).1 ht
          exact ⟨h3,h1⟩
        rwa [if_pos (by rw [e];rfl)] at this
      | succ j ih =>
        intro i hi
        obtain ⟨⟨B,hB⟩,hs⟩:=ygi n (k-i)
        obtain ⟨⟨B2,hB2⟩,hs2⟩:=ih (i+1) (by omega)
        rw [List.range'_succ,List.flatMap_cons]
        refine ⟨⟨B.map ((i:Int) :: ·)++_,by rw [hB];rfl⟩,?_⟩
        have:=hs.map (s:=((k-i:Nat):Int)) (m:=n+1) (i:Int) fun t ht=>by
          obtain ⟨h1,h2,h3⟩:=(yc7 n (k-i) t).1 ht
          exact ⟨h3,h1⟩
        rw [if_neg (by omega)] at this
        rw [hB2] at hs2 ⊢
        have e1:((k-i:Nat):Int)-1=((k-(i+1):Nat):Int):=by omega
        rw [e1] at this
        exact this.append hs2
    obtain ⟨⟨B,hB⟩,hs⟩:=blocks k 0 (by omega)
    have e:ycC (n+1+1) k=(List.range' 0 (k+1)).flatMap fun i=>(ycC (n+1) (k-i)).map ((i:Int) :: ·):=by
      rw [←List.range_eq_range'];rfl
    rw [e]
    refine ⟨⟨B,?_⟩,hs⟩
    rw [hB,firstF_succ];rfl
end Go.Proofs.YtjepipbkiadcpaaGreat

/- Iterators: what a generator and the loop over it owe each other; each side has its own blocks. No program in sight. -/
namespace Go.Proofs.YtjepipbkiadcpaaGreat
open Go Go.RowKit Go.Shelf Go.Proofs.Tryz
theorem yh5{P:Program}{E:Env}{w:World}{d:Option Tmp}{ty:TypeId}{ps:String}{af:Array Edge}{g:Option (Nat×Bool)}{K:Value→World→Prop}{l m:Nat}{args:Array Operand}{ats:Array TypeId}{vs:Array Value}{fo:Operand}
    (hf:evE E fo = .func (.yield l) #[] #[]) (ha:args.map (evE E)=vs) (h:YieldAt Fence.wide m P l vs w fun e w''=>∃ v,e = .returned v∧K v w''):ybd P ⟨d, .call ⟨.value fo,args,ats⟩,ty,ps,af,g⟩ (evE E) w K:=by
  obtain ⟨fn,tmps,assign,body,hy,hR⟩:=h
  unfold ybd execOp
  simp only [resolve,hf,ha,Deferred.ofValue,Sem.run_bind,Sem.run_pure,Result.andThen,invoke,Array.empty_append,Array.append_empty,hy]
  exact ⟨trivial,fun c cs _=>hR.2 c cs (room_wide _)⟩
theorem WTa.ofx{F:Fence}{n:Nat}{P:Program}{Q:Exit→Act→World→Prop}{a:Act}{w:World}{t:List Item}{c:Code}
    (h:c.wpIn F n P (fun e a' w'=>match e with
      | .normal=>WTa F n P t Q a' w'
      | .ret=>Q .ret a' w'
      | .exit id=>(match exitTo id t with | some k'=>WTa F n P k' Q a' w' | none=>Q (.exit id) a' w')
      | _=>False) a w):WTa F n P (.code c::t) Q a w:=by
  intro b k cs hro hb hr
  obtain ⟨e,a',w',hw,harr⟩:=h b (t++k) cs hro hb hr
  cases e with
  | normal =>
    obtain ⟨e2,a2,w2,hq,harr2⟩:=hw b k cs hro hb hr
    exact ⟨e2,a2,w2,hq, .of_steps harr harr2⟩
  | ret=>exact ⟨.ret,a',w',hw,harr⟩
  | exit id =>
    cases he:exitTo id t with
    | some k' =>
      simp only [he] at hw
      obtain ⟨e2,a2,w2,hq,harr2⟩:=hw b k cs hro hb hr
      exact ⟨e2,a2,w2,hq, .of_steps (harr.1 _ (yef k he)) harr2⟩
    | none =>
      simp only [he] at hw
      refine ⟨.exit id,a',w',hw,?_⟩
      have h1:=harr.1
      have h2:=harr.2
      rw [yev k he] at h1 h2
      exact ⟨h1,h2⟩
  | goto l=>exact hw.elim
  | panic ch=>exact hw.elim
  | outgrown=>exact hw.elim
theorem Keeps.trans' {A B T S:Nat→Prop}{a b c d:World}(h:Keeps A a b)(k:Keeps B b c)(l:Keeps S c d)(h1:∀ k,A k→T k)(h2:∀ k,B k→T k)(h3:∀ k,S k→T k):Keeps T a d :=
  ((h.mono fun k _ e=>h1 k e).trans (k.mono fun k _ e=>h2 k e)).trans (l.mono fun k _ e=>h3 k e)
abbrev BS:=Nat→Prop
structure RK(T:BS)(W:World)(T':BS)(W':World):Prop where
  keeps:Keeps T W W'
  sub:∀ k,T' k→T k∨W.heap.size≤k
  lt:∀ k,T' k→k<W'.heap.size
def yeX{α:Type}(J:BS→BS→List α→World→Prop):Prop :=
  ∀ {T G G':BS} {pre:List α} {W W':World},J T G pre W→Keeps G W W'→(∀ k,G' k→G k∨W.heap.size≤k)→(∀ k,G' k→k<W'.heap.size)→J T G' pre W'
def yeZ{α:Type}(J:BS→BS→List α→World→Prop):Prop :=
  ∀ {T G:BS} {pre:List α} {W:World},J T G pre W→(∀ k,T k→¬G k∧k<W.heap.size)∧∀ k,G k→k<W.heap.size
structure Sess(P:Program)(l:Nat){α:Type}(enc:α→Array Value)(pass:α→FP)(Pr:List α→Prop)(J Jx:BS→BS→List α→World→Prop):Prop where
  gen:yeX J
  genx:yeX Jx
  two:yeZ J
  twox:yeZ Jx
  yld:∀ {T G:BS} {pre:List α} {x:α} {W:World},J T G pre W→Pr (pre++[x])→(pass x).P (fun k=>T k∨G k) W →
    YieldAt Fence.wide 1 P l (enc x) W fun e W'=>∃ T',RK T W T' W'∧((e = .returned (.bool true)∧J T' G (pre++[x]) W')∨(e = .returned (.bool false)∧Jx T' G (pre++[x]) W'))
def yix(P:Program)(gf:FuncId)(lb:Array Value){α:Type}(enc:α→Array Value)(pass:α→FP)(Pr R:List α→Prop)(T0 G0:BS)(w:World):Prop :=
  ∀ (l:Nat) (J Jx:BS→BS→List α→World→Prop) (T1:BS) (w1:World),Sess P l enc pass Pr J Jx→J T1 G0 [] w1→Pure w w1→(∀ k,T1 k→T0 k∨w.heap.size≤k) →
    CallsIn Fence.wide 2 P gf (#[.func (.yield l) #[] #[]]++lb) w1 fun e w'=>(∃ v,e = .returned v)∧((∃ xs T G,R xs∧J T G xs w')∨∃ pre T G,Jx T G pre w')
structure RL1(l:Nat)(busy:Obj)(T:BS)(W:World)(T':BS)(W':World):Prop where
  keeps:Keeps (fun k=>T k∨k=l) W W'
  sub:∀ k,T' k→T k∨W.heap.size≤k
  lt:∀ k,T' k→k<W'.heap.size
  at_:W'.heap[l]? = some busy
def rndPost(l:Nat)(busy:Obj){α:Type}(I:BS→BS→List α→World→Prop)(Ix:Option Nat→BS→BS→List α→World→Prop)(T G:BS)(xs:List α)(W:World):Exit→Act→World→Prop
  | .normal,_,W'=>∃ T',RL1 l busy T W T' W'∧I T' G xs W'
  | .ret,_,W'=>∃ T',RL1 l busy T W T' W'∧Ix none T' G xs W'
  | .exit id,_,W'=>∃ T',RL1 l busy T W T' W'∧Ix (some id) T' G xs W'
  | _,_,_=>False
def yhx:Option Nat→Code
  | none => .ret
  | some id => .exit id
theorem ybz(W:World)(l:Nat)(o:Obj):(W.putObj l o).heap.size=W.heap.size:=by simp
theorem yca(W:World)(l:Nat)(o:Obj):Keeps (fun k=>k=l) W (W.putObj l o) :=
  ⟨rfl,rfl,rfl,by simp,fun k hk hn=>World.putObj_heap_other hn⟩
def yiC(P:Program)(N:Nat)(t:List Item)(Q:Exit→Act→World→Prop)(E:Env)(ds:List Deferred)(w:World):Option Nat→Prop
  | none=>∀ a,Rep N E ds a→Q .ret a w
  | some id=>match exitTo id t with
    | some k'=>WT Fence.wide 3 P N k' Q E ds w
    | none=>∀ a,Rep N E ds a→Q (.exit id) a w
theorem wpIn_iter{P:Program}{N:Nat}{Q:Exit→Act→World→Prop}{E:Env}{ds:List Deferred}{w:World}{t:List Item}{fo:Operand}{ps:Array Tmp}{assign body:Code}{gf:FuncId}{lb:Array Value}{a:Act}
    (hr:a.eval fo = .func (.func gf) #[] lb) (he:Enters P gf) {α:Type} {enc:α→Array Value} {pass:α→FP} {Pr R:List α→Prop} (hps:∀ x,(enc x).size=ps.size)
    (T0 G0:BS) (I:BS→BS→List α→World→Prop) (Ix:Option Nat→BS→BS→List α→World→Prop) (hI:yeX I) (hI2:yeZ I) (hIx:∀ c,yeX (Ix c)) (hIx2:∀ c,yeZ (Ix c)) (h0:I T0 G0 [] w)
    (hgen:yix P gf lb enc pass Pr R T0 G0 w)
    (hround:∀ (l:Nat) (T G:BS) (pre:List α) (x:α) (W:World) (rdy busy:Obj),I T G pre W→Pr (pre++[x])→(pass x).P (fun k=>T k∨G k) W→G l→W.heap[l]? = some rdy →
      assign.wpIn (Fence.wide.inRound l) 1 P (Exit.then (fun a1 W1=>W1.heap[l]? = some rdy∧∀ W2,W2=W1.putObj l busy→body.wpIn (Fence.wide.inRound l) 1 P (rndPost l busy I Ix T G (pre++[x]) W) a1 W2) (fun _ _ _=>False))
        { tmps:=(ps.zip (enc x)).foldl (fun t (p,v)=>t.setIfInBounds p v) a.tmps,defers:=[] } W)
    (hdone:∀ (D:Nat) (T G:BS) (xs:List α) (W:World),w.heap.size≤D→¬T D→G D→R xs→I T G xs W→W.heap[D]? = some (.deferred (some []))→Q .normal { a with defers:={ target := .collected D,args:=#[] }::a.defers } W)
    (hstop:∀ (D:Nat) (T G:BS) (c:Option Nat) (xs:List α) (W:World),w.heap.size≤D→¬T D→G D→Ix c T G xs W→W.heap[D]? = some (.deferred (some []))→(yhx c).wpIn Fence.wide 3 P Q { a with defers:={ target := .collected D,args:=#[] }::a.defers } W) :
    (Code.rangeFunc fo ps assign body).wpIn Fence.wide 3 P Q a w:=by
  refine wpIn_rangeFunc ?_
  intro fn hfn
  obtain ⟨D,hD⟩:∃ D,D=w.heap.size:=⟨_,rfl⟩
  obtain ⟨L,hL⟩:∃ L,L=w.heap.size+1:=⟨_,rfl⟩
  obtain ⟨rec,hrec⟩:∃ rec:LoopState→Option Code→Loop,rec=fun st pe=>{ state:=st,pending:=pe,fn,tmps:=a.tmps,params:=ps,assign,body,defers:=w.heap.size }:=⟨_,rfl⟩
  obtain ⟨W1,hW1⟩:∃ W1,(w.alloc (.deferred (some []))).alloc (.loop (rec .ready none))=W1:=⟨_,rfl⟩
  have hL1:W1.heap[L]? = some (.loop (rec .ready none)):=by
    rw [←hW1,hL];have:=World.alloc_heap_new (w.alloc (.deferred (some []))) (.loop (rec .ready none));rwa [World.size_alloc] at this
  have hK1:W1.heap[D]? = some (.deferred (some [])):=by
    rw [←hW1,hD];exact (Below.heap_alloc _ _ _ (by simp)).trans (World.alloc_heap_new w _)
  have hP1:Pure w W1:=by rw [←hW1];exact ((Keeps.refl _ _).alloc _).alloc _
  have hs1:W1.heap.size=w.heap.size+2:=by rw [←hW1];simp
  have two0:=hI2 h0
  refine ⟨L,[{ target := .collected D,args:=#[] }],W1,{ target := .fn (.func gf) lb,args:=#[.func (.yield L) #[] #[]] },W1,gf,#[.func (.yield L) #[] #[]]++lb,W1,?_,?_,fun _ _=>trivial,?_,fun h=>(by cases h),?_⟩
  · rw [←hW1,hrec,hL,hD];exact run_enterLoop_outer _ _ _ _ _
  · simp only [resolve,hr]
    simp [go_sem]
  · simp [invoke,go_sem,he _ _]
  · have key:=hgen L
      (fun Tg G pre W=>∃ T,(∀ k,Tg k↔T k∨k=L∨k=D)∧I T (fun k=>G k∨k=L∨k=D) pre W∧W.heap[L]? = some (.loop (rec .ready none))∧W.heap[D]? = some (.deferred (some []))∧¬G L∧¬G D∧¬T D)
      (fun Tg G pre W=>∃ T c,(∀ k,Tg k↔T k∨k=L∨k=D)∧Ix c T (fun k=>G k∨k=L∨k=D) pre W∧W.heap[L]? = some (.loop (rec .done (some (yhx c))))∧W.heap[D]? = some (.deferred (some []))∧¬G L∧¬G D∧¬T D)
      (fun k=>T0 k∨k=L∨k=D) W1 ⟨?_,?_,?_,?_,?_⟩ ⟨T0,fun _=>Iff.rfl,?_,hL1,hK1,?_,?_,?_⟩ hP1 (fun k hk=>?_)
    · refine (show CallsIn Fence.wide (3-1) P gf _ W1 _ from key).mono ?_
      rintro e W2 ⟨⟨v,rfl⟩,(⟨xs,Tg,G,hR,T,hT,hi,hl,hd,g1,g2,g3⟩ | ⟨pre,Tg,G,T,c,hT,hi,hl,hd,g1,g2,g3⟩)⟩
      · refine ⟨none,W2.putObj L (.loop { rec .ready none with state := .exhausted }),by have:=run_endLoop (P:=P) hl (by rw [hrec];simp);rw [hrec] at this ⊢;exact this,?_⟩
        have hLl:L<W2.heap.size:=(Array.getElem?_eq_some_iff.1 hl).1
        have hlt:=(hI2 hi).2
        exact hdone D T _ xs _ (by omega) g3 (.inr (.inr rfl)) hR (hI hi ((yca _ _ _).mono fun k _ e => .inr (.inl e)) (fun k h => .inl h) (fun k h=>by rw [ybz];exact hlt k h)) ((World.putObj_heap_other (by omega)).trans hd)
      · refine ⟨some (yhx c),W2.putObj L (.loop { rec .done (some (yhx c)) with state := .exhausted }),by have:=run_endLoop (P:=P) hl (by rw [hrec];simp);rw [hrec] at this ⊢;exact this,?_⟩
        have hlt:=(hIx2 c hi).2
        exact hstop D T _ c pre _ (by omega) g3 (.inr (.inr rfl)) (hIx c hi ((yca _ _ _).mono fun k _ e => .inr (.inl e)) (fun k h => .inl h) (fun k h=>by rw [ybz];exact hlt k h)) ((World.putObj_heap_other (by omega)).trans hd)
    · -- the generator's steps
      rintro Tg G G' pre W W' ⟨T,hT,hi,hl,hd,g1,g2,g3⟩ hK hG hGl
      have lL:=(Array.getElem?_eq_some_iff.1 hl).1
      have lD:=(Array.getElem?_eq_some_iff.1 hd).1
      refine ⟨T,hT,hI hi (hK.mono fun k _ h => .inl h) (fun k h=>?_) (fun k h=>?_),(hK.block L lL g1).trans hl,(hK.block D lD g2).trans hd,fun h=>?_,fun h=>?_,g3⟩
      · rcases h with h | h
        · rcases hG k h with q | q
          · exact .inl (.inl q)
          · exact .inr q
        · exact .inl (.inr h)
      · rcases h with h | h | h
        · exact hGl k h
        · rw [h];exact Nat.lt_of_lt_of_le lL hK.size
        · rw [h];exact Nat.lt_of_lt_of_le lD hK.size
      · rcases hG L h with q | q
        · exact g1 q
        · omega
      · rcases hG D h with q | q
        · exact g2 q
        · omega
    · rintro Tg G G' pre W W' ⟨T,c,hT,hi,hl,hd,g1,g2,g3⟩ hK hG hGl
      have lL:=(Array.getElem?_eq_some_iff.1 hl).1
      have lD:=(Array.getElem?_eq_some_iff.1 hd).1
      refine ⟨T,c,hT,hIx c hi (hK.mono fun k _ h => .inl h) (fun k h=>?_) (fun k h=>?_),(hK.block L lL g1).trans hl,(hK.block D lD g2).trans hd,fun h=>?_,fun h=>?_,g3⟩
      · rcases h with h | h
        · rcases hG k h with q | q
          · exact .inl (.inl q)
          · exact .inr q
        · exact .inl (.inr h)
      · rcases h with h | h | h
        · exact hGl k h
        · rw [h];exact Nat.lt_of_lt_of_le lL hK.size
        · rw [h];exact Nat.lt_of_lt_of_le lD hK.size
      · rcases hG L h with q | q
        · exact g1 q
        · omega
      · rcases hG D h with q | q
        · exact g2 q
        · omega
    · rintro Tg G pre W ⟨T,hT,hi,hl,hd,g1,g2,g3⟩
      have lL:=(Array.getElem?_eq_some_iff.1 hl).1
      refine ⟨fun k hk=>?_,fun k hk=>(hI2 hi).2 k (.inl hk)⟩
      rcases (hT k).1 hk with q | q
      · exact ⟨fun hg=>((hI2 hi).1 k q).1 (.inl hg),((hI2 hi).1 k q).2⟩
      · rcases q with q | q
        · rw [q];exact ⟨g1,lL⟩
        · rw [q];exact ⟨g2,(Array.getElem?_eq_some_iff.1 hd).1⟩
    · rintro Tg G pre W ⟨T,c,hT,hi,hl,hd,g1,g2,g3⟩
      have lL:=(Array.getElem?_eq_some_iff.1 hl).1
      refine ⟨fun k hk=>?_,fun k hk=>(hIx2 c hi).2 k (.inl hk)⟩
      rcases (hT k).1 hk with q | q
      · exact ⟨fun hg=>((hIx2 c hi).1 k q).1 (.inl hg),((hIx2 c hi).1 k q).2⟩
      · rcases q with q | q
        · rw [q];exact ⟨g1,lL⟩
        · rw [q];exact ⟨g2,(Array.getElem?_eq_some_iff.1 hd).1⟩
    · -- one round
      rintro Tg G pre x W ⟨T,hT,hi,hl,hd,g1,g2,g3⟩ hPr hpass
      have lL:=(Array.getElem?_eq_some_iff.1 hl).1
      have lD:=(Array.getElem?_eq_some_iff.1 hd).1
      have hy:=run_yield (P:=P) (args:=enc x) hl (by rw [hrec];exact hps x)
      rw [hrec] at hy
      have hp2:(pass x).P (fun k=>T k∨(G k∨k=L∨k=D)) W:=(pass x).sub hpass (fun k _ h=>by
        rcases h with h | h | h
        · exact .inl ((hT k).2 (.inl h))
        · exact .inr h
        · exact .inl ((hT k).2 (.inr h)))
      refine ⟨fn,_,assign,body,hy,roundIn_of_wpIn hfn (wpIn_mono (hround L T _ pre x W _ (.loop { rec .ready none with state := .busy }) hi hPr hp2 (.inr (.inl rfl)) hl) ?_)⟩
      rintro e1 a1 V1 hq
      cases e1 with
      | exit id=>exact hq.elim
      | ret=>exact hq.elim
      | goto l=>exact hq.elim
      | panic c=>exact hq.elim
      | outgrown=>exact hq.elim
      | normal =>
      obtain ⟨hl1,hb1⟩:=hq
      refine ⟨_,run_beginRound hl1 (by rw [hrec]),wpIn_mono (hb1 _ rfl) ?_⟩
      have fin:∀ (T':BS) (jump:Option Code) (W3:World),RL1 L (.loop { rec .ready none with state := .busy }) T W T' W3 →
          (Instr.endRound L jump).run P W3 = .ok (.bool jump.isNone) (W3.putObj L (.loop (rec (if jump.isNone then .ready else .done) jump))) ∧
          (W3.putObj L (.loop (rec (if jump.isNone then .ready else .done) jump))).heap[L]? = some (.loop (rec (if jump.isNone then .ready else .done) jump)) ∧
          (W3.putObj L (.loop (rec (if jump.isNone then .ready else .done) jump))).heap[D]? = some (.deferred (some [])) ∧
          RK Tg W (fun k=>T' k∨k=L∨k=D) (W3.putObj L (.loop (rec (if jump.isNone then .ready else .done) jump)))∧Keeps (fun k=>k=L) W3 (W3.putObj L (.loop (rec (if jump.isNone then .ready else .done) jump)))∧L<W3.heap.size∧¬T' D:=fun T' jump W3 hk3=>by
        have hl3:W3.heap[L]? = some (.loop { rec .ready none with state := .busy }):=hk3.at_
        have hd3:W3.heap[D]? = some (.deferred (some [])):=(hk3.keeps.block D (by omega) (fun h=>h.elim g3 (fun e=>by omega))).trans hd
        have lL3:=(Array.getElem?_eq_some_iff.1 hl3).1
        have hrun:=run_endRound (P:=P) jump hl3
        rw [hrec] at hrun ⊢
        have hkk:=yca W3 L (.loop ((fun st pe=>({ state:=st,pending:=pe,fn,tmps:=a.tmps,params:=ps,assign,body,defers:=w.heap.size } : Loop)) (if jump.isNone then .ready else .done) jump))
        refine ⟨hrun,World.putObj_heap_same lL3,(World.putObj_heap_other (by omega)).trans hd3,⟨(Keeps.refl (fun _=>False) W).trans' hk3.keeps hkk (T:=Tg) (fun k e=>e.elim) (fun k e=>e.elim (fun e=>(hT k).2 (.inl e)) (fun e=>(hT k).2 (.inr (.inl e)))) (fun k e=>(hT k).2 (.inr (.inl e))),fun k h=>?_,fun k h=>?_⟩,hkk,lL3,fun h=>?_⟩
        · rcases h with h | h
          · rcases hk3.sub k h with q | q
            · exact .inl ((hT k).2 (.inl q))
            · exact .inr (by omega)
          · exact .inl ((hT k).2 (.inr h))
        · rw [ybz]
          rcases h with h | h
          · exact hk3.lt k h
          · rcases h with h | h
            · rw [h];exact lL3
            · rw [h];exact (Array.getElem?_eq_some_iff.1 hd3).1
        · rcases hk3.sub D h with q | q
          · exact g3 q
          · omega
      rintro e a3 W3 hp
      cases e with
      | normal =>
        obtain ⟨T',hk3,hi3⟩:=hp
        obtain ⟨hr3,hl4,hd4,hrk,hkk,lL3,hTD⟩:=fin T' none W3 hk3
        exact ⟨_,_,hr3,_,hrk, .inl ⟨rfl,T',fun _=>Iff.rfl,hI hi3 (hkk.mono fun k _ e => .inr (.inl e)) (fun k h => .inl h) (fun k h=>by rw [ybz];exact (hI2 hi3).2 k h),hl4,hd4,g1,g2,hTD⟩⟩
      | ret =>
        obtain ⟨T',hk3,hi3⟩:=hp
        obtain ⟨hr3,hl4,hd4,hrk,hkk,lL3,hTD⟩:=fin T' (some .ret) W3 hk3
        exact ⟨_,_,hr3,_,hrk, .inr ⟨rfl,T',none,fun _=>Iff.rfl,hIx none hi3 (hkk.mono fun k _ e => .inr (.inl e)) (fun k h => .inl h) (fun k h=>by rw [ybz];exact (hIx2 none hi3).2 k h),hl4,hd4,g1,g2,hTD⟩⟩
      | exit id =>
        obtain ⟨T',hk3,hi3⟩:=hp
        obtain ⟨hr3,hl4,hd4,hrk,hkk,lL3,hTD⟩:=fin T' (some (.exit id)) W3 hk3
        exact ⟨_,_,hr3,_,hrk, .inr ⟨rfl,T',some id,fun _=>Iff.rfl,hIx (some id) hi3 (hkk.mono fun k _ e => .inr (.inl e)) (fun k h => .inl h) (fun k h=>by rw [ybz];exact (hIx2 (some id) hi3).2 k h),hl4,hd4,g1,g2,hTD⟩⟩
      | goto t=>exact hp.elim
      | panic ch=>exact hp.elim
      | outgrown=>exact hp.elim
    · have hsz:∀ k,G0 k→k<w.heap.size:=two0.2
      exact hI h0 (G:=G0) (hP1.mono fun k _ h=>h.elim) (fun k h=>h.elim .inl (fun e => .inr (by omega))) (fun k h=>h.elim (fun h=>by have:=hsz k h;omega) (fun e=>by omega))
    · intro h;have:=two0.2 L h;omega
    · intro h;have:=two0.2 D h;omega
    · intro h;have:=(two0.1 D h).2;omega
    · rcases hk with h | h
      · exact .inl h
      · exact .inr (by omega)
theorem wt_iter{P:Program}{N:Nat}{Q:Exit→Act→World→Prop}{E:Env}{ds:List Deferred}{w:World}{t:List Item}{fo:Operand}{ps:Array Tmp}{assign body:Code}{gf:FuncId}{lb:Array Value}
    (hr:evE E fo = .func (.func gf) #[] lb) (he:Enters P gf) {α:Type} {val:α→Array Value} {pass:α→FP} {Pr R:List α→Prop} (hps:∀ x,(val x).size=ps.size) (hpN:ps.toList.all (fun p=>Nat.blt p N)=true)
    (T0 G0:BS) (I:BS→BS→List α→World→Prop) (Ix:Option Nat→BS→BS→List α→World→Prop) (hI:yeX I) (hI2:yeZ I) (hIx:∀ c,yeX (Ix c)) (hIx2:∀ c,yeZ (Ix c)) (h0:I T0 G0 [] w)
    (hgen:yix P gf lb val pass Pr R T0 G0 w)
    (hround:∀ (l:Nat) (T G:BS) (pre:List α) (x:α) (W:World) (rdy busy:Obj),I T G pre W→Pr (pre++[x])→(pass x).P (fun k=>T k∨G k) W→G l→W.heap[l]? = some rdy →
      WT (Fence.wide.inRound l) 1 P N [.code assign] (fun e a1 W1=>e = .normal∧∃ E1,Rep N E1 [] a1∧W1.heap[l]? = some rdy∧∀ W2,W2=W1.putObj l busy→WT (Fence.wide.inRound l) 1 P N [.code body] (rndPost l busy I Ix T G (pre++[x]) W) E1 [] W2) (setE E (ps.toList.zip (val x).toList)) [] W)
    (hdone:∀ (D:Nat) (T G:BS) (xs:List α) (W:World),w.heap.size≤D→¬T D→G D→R xs→I T G xs W→W.heap[D]? = some (.deferred (some []))→WT Fence.wide 3 P N t Q E ({ target := .collected D,args:=#[] }::ds) W)
    (hstop:∀ (D:Nat) (T G:BS) (c:Option Nat) (xs:List α) (W:World),w.heap.size≤D→¬T D→G D→Ix c T G xs W→W.heap[D]? = some (.deferred (some []))→yiC P N t Q E ({ target := .collected D,args:=#[] }::ds) W c) :
    WT Fence.wide 3 P N (.code (.rangeFunc fo ps assign body)::t) Q E ds w:=by
  intro a ra
  let mk:Env→Act:=fun E'=>{ tmps:=Array.ofFn (n:=N) fun i=>E' i,defers:=[] }
  have hmk:∀ E':Env,(∀ t,N≤t→E' t=undef)→Rep N E' [] (mk E'):=by
    intro E' h
    refine ⟨by simp [mk],fun t=>?_,rfl⟩
    simp only [mk,Array.getD_eq_getD_getElem?]
    rcases Nat.lt_or_ge t N with ht | ht
    · simp [ht]
    · simp [ht,h t ht]
  have hun:∀ {E':Env} {ds':List Deferred} {a':Act},Rep N E' ds' a'→∀ t,N≤t→E' t=undef:=by
    intro E' ds' a' h t ht
    rw [←h.get t]
    simp [Array.getD_eq_getD_getElem?,h.size,ht]
  have hpr:∀ x,Rep N (setE E (ps.toList.zip (val x).toList)) [] { tmps:=(ps.zip (val x)).foldl (fun t (p,v)=>t.setIfInBounds p v) a.tmps,defers:=[] }:=by
    intro x
    have h1:Rep N E [] { tmps:=a.tmps,defers:=[] }:=⟨ra.size,ra.get,rfl⟩
    have h2:=yhR (ps.toList.zip (val x).toList) E [] _ h1 (fun p hp=>by
      have:=List.all_eq_true.1 hpN p.1 (List.of_mem_zip hp).1
      simpa using this)
    have h3:(ps.zip (val x)).foldl (fun t (p,v)=>t.setIfInBounds p v) a.tmps=(ps.toList.zip (val x).toList).foldl (fun t p=>t.setIfInBounds p.1 p.2) a.tmps:=by
      rw [←Array.foldl_toList,Array.toList_zip]
    rw [h3];exact h2
  refine WTa.ofx (wpIn_iter (N:=N) (E:=E) (ds:=ds) (t:=t) (a:=a) (by rw [ra.eval,hr]) he hps T0 G0 I Ix hI hI2 hIx hIx2 h0 hgen ?_ ?_ ?_)
  · intro l T G pre x W rdy busy hi hp hq hg hl
    refine wpIn_mono (WTa.code (hround l T G pre x W rdy busy hi hp hq hg hl _ (hpr x))) ?_
    rintro e a1 W1 ⟨rfl,E1,r1,h1,h2⟩
    exact ⟨h1,fun W2 hW=>WTa.code (h2 W2 hW _ r1)⟩
  · intro D T G xs W hD hT hG hR hi hd
    exact hdone D T G xs W hD hT hG hR hi hd _ ⟨ra.size,ra.get,by rw [ra.defers]⟩
  · intro D T G c xs W hD hT hG hi hd
    have hj:=hstop D T G c xs W hD hT hG hi hd
    have ra2:Rep N E ({ target := .collected D,args:=#[] }::ds) { a with defers:={ target := .collected D,args:=#[] }::a.defers }:=⟨ra.size,ra.get,by rw [ra.defers]⟩
    cases c with
    | none=>exact WTa.code (WTa.ret (hj _ ra2))
    | some id =>
      refine WTa.code (WTa.leave rfl ?_)
      unfold yiC at hj
      cases hq:exitTo id t with
      | none=>simp only [hq] at hj ⊢;exact hj _ ra2
      | some k'=>simp only [hq] at hj ⊢;exact hj _ ra2
def OwnB(L:Hold):BS:=fun k=>∃ i,(L i).has k
structure Two(w0:World)(S O G:BS)(W:World)(L:Hold):Prop where
  pure:Keeps S w0 W
  lt:∀ k,O k→k<w0.heap.size∧¬S k
  g:∀ k,G k→k<W.heap.size∧(w0.heap.size≤k∨S k)∧∀ i,¬(L i).has k
  ok:∀ i,(L i).ok 0 (Bl (fun k=>O k∨G k) L) W
  bd:∀ i k,(L i).has k→w0.heap.size≤k∨S k
  nd:∀ i j k,(L i).has k→(L j).has k→i=j
section
variable {w0 w w' W W' : World} {S O G G' T : BS} {L L' : Hold}
theorem yit{js:List Nat}{i k:Nat}(h:(rl (js.map L) i).has k):∃ j,js[i]? = some j∧(L j).has k:=by
  rw [rl_map] at h
  cases hq:js[i]? with
  | none=>rw [hq] at h;cases h
  | some j=>rw [hq] at h;exact ⟨j,rfl,h⟩
theorem Sep.give(h:Sep w0 S O w L)(js gs:List Nat)(hj:js.Nodup)(hg:gs.Nodup)(hf:allJ (fun j=>(j∉js)∨(L j).free) gs) :
    Two w0 S O (OwnB (rl (gs.map L))) w (rl (js.map L))∧Sep w (OwnB (rl (gs.map L))) (Bl O (rl (js.map L))) w (rl (gs.map L)):=by
  have hdis:∀ a b k,(rl (js.map L) a).has k→(rl (gs.map L) b).has k→False:=fun a b k ha hb=>by
    obtain ⟨j1,e1,b1⟩:=yit ha
    obtain ⟨j2,e2,b2⟩:=yit hb
    have:=h.nd j1 j2 k b1 b2
    subst this
    rcases hf.out j1 (List.mem_of_getElem? e2) with q | q
    · exact q (List.mem_of_getElem? e1)
    · exact absurd b1 (q.out _)
  have hO:∀ k,(OwnB L) k→¬O k:=fun k ⟨i,hi⟩ hk=>by
    have:=h.lt k hk
    rcases h.bd i k hi with q | q
    · omega
    · exact this.2 q
  have hsz:∀ i k,(L i).has k→k<w.heap.size:=fun i k hk=>((h.ok i).lt hk).2
  have ndl:∀ (l:List Nat),l.Nodup→∀ a b k,(rl (l.map L) a).has k→(rl (l.map L) b).has k→a=b:=fun l hl a b k ha hb=>by
    obtain ⟨j1,e1,b1⟩:=yit ha
    obtain ⟨j2,e2,b2⟩:=yit hb
    have:=h.nd j1 j2 k b1 b2
    subst this
    obtain ⟨l1,q1⟩:=List.getElem?_eq_some_iff.1 e1
    obtain ⟨l2,q2⟩:=List.getElem?_eq_some_iff.1 e2
    exact (List.getElem_inj hl).1 (q1.trans q2.symm)
  have okl:∀ (l:List Nat) (O':BS),(∀ k,O' k→Bl O L k)→∀ i,(rl (l.map L) i).ok 0 O' w:=fun l O' ho i=>by
    rw [rl_map]
    cases hq:l[i]? with
    | none=>trivial
    | some j=>exact (h.ok j).sub fun k _ hk=>ho k hk
  have inl:∀ (l:List Nat) k,OwnB (rl (l.map L)) k→OwnB L k:=fun l k ⟨i,hi⟩=>by
    obtain ⟨j,_,hb⟩:=yit hi
    exact ⟨j,hb⟩
  refine ⟨⟨h.pure,h.lt,fun k hk=>?_,?_,fun i k hk=>?_,ndl js hj⟩,⟨Keeps.refl _ _,fun k hk=>?_,?_,fun i k hk => .inr ⟨i,hk⟩,ndl gs hg⟩⟩
  · obtain ⟨j,hb⟩:=inl gs k hk
    obtain ⟨i,hi⟩:=hk
    exact ⟨hsz j k hb,h.bd j k hb,fun a ha=>hdis a i k ha hi⟩
  · refine okl js _ fun k hk=>?_
    rcases hk with (q | q) | q
    · exact .inl q
    · exact .inr (inl gs k q)
    · exact .inr (inl js k q)
  · obtain ⟨j,_,hb⟩:=yit hk
    exact h.bd j k hb
  · rcases hk with q | ⟨i,q⟩
    · exact ⟨Nat.lt_of_lt_of_le (h.lt k q).1 h.pure.size,fun hg=>hO k (inl gs k hg) q⟩
    · obtain ⟨j,_,hb⟩:=yit q
      exact ⟨hsz j k hb,fun ⟨b,hb2⟩=>hdis i b k q hb2⟩
  · refine okl gs _ fun k hk=>?_
    rcases hk with (q | q) | q
    · exact .inl q
    · exact .inr (inl js k q)
    · exact .inr (inl gs k q)
theorem Two.gen(h:Two w0 S O G W L)(hK:Keeps G W W')(hG:∀ k,G' k→G k∨W.heap.size≤k)(hl:∀ k,G' k→k<W'.heap.size):Two w0 S O G' W' L:=by
  have hlt:∀ i k,(L i).has k→k<W.heap.size:=fun i k hk=>((h.ok i).lt hk).2
  refine ⟨h.pure.then hK (fun k hk q=>(h.g k q).2.1.elim (fun r=>by omega) id),h.lt,fun k hk=>⟨hl k hk,?_,fun i hi=>?_⟩,fun i=>?_,h.bd,h.nd⟩
  · rcases hG k hk with q | q
    · exact (h.g k q).2.1
    · exact .inl (Nat.le_trans h.pure.size q)
  · rcases hG k hk with q | q
    · exact (h.g k q).2.2 i hi
    · have:=hlt i k hi;omega
  · refine (h.ok i).keep hK (fun k hk hg=>(h.g k hg).2.2 i hk) (fun k _ hg => .inl (.inr hg)) fun k hk hO=>?_
    rcases hO with (q | q) | q
    · exact .inl (.inl q)
    · rcases hG k q with r | r
      · exact .inl (.inr r)
      · omega
    · exact .inr q
theorem Two.round(h:Two w0 S O G W L):Sep W (OwnB L) (fun k=>O k∨G k) W L:=by
  refine ⟨Keeps.refl _ _,fun k hk=>?_,h.ok,fun i k hk => .inr ⟨i,hk⟩,h.nd⟩
  rcases hk with q | q
  · refine ⟨Nat.lt_of_lt_of_le (h.lt k q).1 h.pure.size,fun ⟨i,hi⟩=>?_⟩
    rcases h.bd i k hi with r | r
    · have:=(h.lt k q).1;omega
    · exact (h.lt k q).2 r
  · exact ⟨(h.g k q).1,fun ⟨i,hi⟩=>(h.g k q).2.2 i hi⟩
theorem Two.back(h:Two w0 S O G W L)(hS:Sep W (OwnB L) (fun k=>O k∨G k) W' L'):Two w0 S O G W' L'∧RK (Bl O L) W (Bl O L') W':=by
  have hbd:∀ i k,(L' i).has k→OwnB L k∨W.heap.size≤k:=fun i k hk=>(hS.bd i k hk).symm
  refine ⟨⟨h.pure.then hS.pure (fun k hk ⟨i,hi⟩=>(h.bd i k hi).elim (fun r=>by omega) id),h.lt,fun k hk=>⟨Nat.lt_of_lt_of_le (h.g k hk).1 hS.pure.size,(h.g k hk).2.1,fun i hi=>?_⟩,hS.ok,fun i k hk=>?_,hS.nd⟩,⟨hS.pure.mono fun k _ q => .inr q,fun k hk=>?_,fun k hk=>?_⟩⟩
  · rcases hbd i k hi with ⟨j,q⟩ | q
    · exact (h.g k hk).2.2 j q
    · have:=(h.g k hk).1;omega
  · rcases hbd i k hk with ⟨j,q⟩ | q
    · exact h.bd j k q
    · exact .inl (Nat.le_trans h.pure.size q)
  · rcases hk with q | ⟨i,q⟩
    · exact .inl (.inl q)
    · rcases hbd i k q with r | r
      · exact .inl (.inr r)
      · exact .inr r
  · rcases hk with q | ⟨i,q⟩
    · exact Nat.lt_of_lt_of_le (h.lt k q).1 (Nat.le_trans h.pure.size hS.pure.size)
    · exact ((hS.ok i).lt q).2
end
def IV{α:Type}(w0:World)(S O:BS)(V:List α→List Res→Prop):BS→BS→List α→World→Prop:=fun T G pre W=>∃ LL,T=Bl O (rl LL)∧Two w0 S O G W (rl LL)∧V pre LL
theorem IV.gen{α:Type}(w0:World)(S O:BS)(V:List α→List Res→Prop):yeX (IV w0 S O V):=by
  rintro T G G' pre W W' ⟨L,rfl,h,hV⟩ hK hG hl
  exact ⟨L,rfl,h.gen hK hG hl,hV⟩
theorem IV.two{α:Type}(w0:World)(S O:BS)(V:List α→List Res→Prop):yeZ (IV w0 S O V):=by
  rintro T G pre W ⟨L,rfl,h,hV⟩
  refine ⟨fun k hk=>?_,fun k hk=>(h.g k hk).1⟩
  rcases hk with q | ⟨i,q⟩
  · refine ⟨fun hg=>?_,Nat.lt_of_lt_of_le (h.lt k q).1 h.pure.size⟩
    rcases (h.g k hg).2.1 with r | r
    · have:=(h.lt k q).1;omega
    · exact (h.lt k q).2 r
  · exact ⟨fun hg=>(h.g k hg).2.2 i q,((h.ok i).lt q).2⟩
def dfr(D:Nat):Res := .obj D (.deferred (some []))
theorem yf0:∀ (LL:List Res) (r:Res),rl (LL++[r])=stl (rl LL) LL.length r
  | [],r=>by funext i;cases i <;> rfl
  | x::t,r=>by
    funext i
    cases i with
    | zero=>rfl
    | succ i =>
      show rl (t++[r]) i=_
      rw [yf0 t r]
      by_cases e:i=t.length
      · subst e;rw [yaF,List.length_cons,yaF]
      · rw [yas _ _ e,List.length_cons,yas _ _ (by omega)];rfl
theorem ydb:∀ (LL:List Res),rl LL LL.length = .gone
  | []=>rfl
  | _::t=>ydb t
theorem Two.take{w0 W:World}{S O G:BS}{L:Hold}(h:Two w0 S O G W L){D i:Nat}{o:Obj}(hi:L i = .gone)(hD:G D)(hd:W.heap[D]? = some o) :
    (∀ j,(stl L i (.obj D o) j).ok 0 (Bl (fun k=>O k∨G k) L) W)∧(∀ k,Bl (fun k=>O k∨(G k∧k≠D)) (stl L i (.obj D o)) k→Bl (fun k=>O k∨G k) L k)∧(∀ a b k,(stl L i (.obj D o) a).has k→(stl L i (.obj D o) b).has k→a=b)∧∀ j k,(stl L i (.obj D o) j).has k→OwnB L k∨k=D:=by
  refine ⟨fun j=>?_,?_,fun a b k ha hb'=>?_,fun j k hk=>?_⟩
  · by_cases e:j=i
    · subst e;rw [yaF];exact ⟨Nat.zero_le _,hd⟩
    · rw [yas _ _ e];exact h.ok j
  · rintro k ((q | q) | ⟨j,q⟩)
    · exact .inl (.inl q)
    · exact .inl (.inr q.1)
    · by_cases e:j=i
      · subst e;rw [yaF] at q;cases q;exact .inl (.inr hD)
      · rw [yas _ _ e] at q;exact .inr ⟨j,q⟩
  · have key:∀ a b,a≠i→b=i→(stl L i (.obj D o) a).has k→(stl L i (.obj D o) b).has k→False:=fun a b h1 h2 ha hb'=>by
      subst h2
      rw [yas _ _ h1] at ha
      rw [yaF] at hb'
      cases hb'
      exact (h.g D hD).2.2 a ha
    by_cases e1:a=i
    · by_cases e2:b=i
      · omega
      · exact (key b a e2 e1 hb' ha).elim
    · by_cases e2:b=i
      · exact (key a b e1 e2 ha hb').elim
      · rw [yas _ _ e1] at ha;rw [yas _ _ e2] at hb';exact h.nd _ _ k ha hb'
  · by_cases e:j=i
    · subst e;rw [yaF] at hk;cases hk;exact .inr rfl
    · rw [yas _ _ e] at hk;exact .inl ⟨j,hk⟩
theorem Two.mark{w0 W:World}{S O G:BS}{LL:List Res}(h:Two w0 S O G W (rl LL)){D:Nat}(hD:G D)(hd:W.heap[D]? = some (.deferred (some []))):Sep w0 S O W (rl (LL++[dfr D])):=by
  obtain ⟨h1,h2,h3,h4⟩:=h.take (ydb LL) hD hd
  rw [yf0]
  refine ⟨h.pure,h.lt,fun j=>(h1 j).sub fun k _ hk=>h2 k (hk.elim (fun q => .inl (.inl q)) .inr),fun j k hk=>?_,h3⟩
  rcases h4 j k hk with ⟨i,q⟩ | q
  · exact h.bd i k q
  · rw [q];exact (h.g D hD).2.1
theorem Two.open_ {w0 W:World}{S O G:BS}{LL:List Res}(h:Two w0 S O G W (rl LL)){l:Nat}{o:Obj}(hG:G l)(hl:W.heap[l]? = some o):Sep W (fun k=>OwnB (rl LL) k∨k=l) (fun k=>O k∨(G k∧k≠l)) W (rl (LL++[.obj l o])):=by
  obtain ⟨h1,h2,h3,h4⟩:=h.take (ydb LL) hG hl
  rw [yf0]
  have hr:=h.round
  refine ⟨Keeps.refl _ _,fun k hk=>?_,fun j=>(h1 j).sub fun k _ hk=>h2 k hk,fun j k hk => .inr (h4 j k hk),h3⟩
  rcases hk with q | q
  · have:=hr.lt k (.inl q)
    refine ⟨this.1,fun h5=>h5.elim this.2 fun e=>?_⟩
    subst e
    rcases (h.g k hG).2.1 with r | r
    · have:=(h.lt k q).1;omega
    · exact (h.lt k q).2 r
  · have:=hr.lt k (.inr q.1)
    exact ⟨this.1,fun h5=>h5.elim this.2 q.2⟩
theorem Sep.flip{w0 w w':World}{S O:BS}{L:Hold}(h:Sep w0 S O w L)(i:Nat){l:Nat}{o:Obj}(hi:L i = .obj l o)(o':Obj)(hw:w'=w.putObj l o'):Sep w0 S O w' (stl L i (.obj l o')):=by
  have hl:w.heap[l]? = some o:=by have:=h.ok i;rw [hi] at this;exact this.2
  subst hw
  exact h.upd i _ (T:=fun k=>k=l) (yca _ _ _) (fun k _ e=>by rw [hi,e]) (fun k hk=>by cases hk;rw [hi];exact .inl rfl) ⟨Nat.zero_le _,World.putObj_heap_same (Array.getElem?_eq_some_iff.1 hl).1⟩
theorem Two.close{w0 W W':World}{S O G:BS}{LL LL':List Res}(h:Two w0 S O G W (rl LL)){l:Nat}{busy:Obj}(hG:G l)
    (hS:Sep W (fun k=>OwnB (rl LL) k∨k=l) (fun k=>O k∨(G k∧k≠l)) W' (rl (LL'++[.obj l busy]))):Two w0 S O G W' (rl LL')∧RL1 l busy (Bl O (rl LL)) W (Bl O (rl LL')) W':=by
  rw [yf0] at hS
  have ho:∀ i,i≠LL'.length→stl (rl LL') LL'.length (.obj l busy) i=rl LL' i:=fun i hi=>yas _ _ hi
  have hne:∀ i k,(rl LL' i).has k→i≠LL'.length:=fun i k hk e=>by rw [e,ydb] at hk;cases hk
  have hbl:∀ k,Bl (fun k=>O k∨G k) (rl LL') k→Bl (fun k=>O k∨(G k∧k≠l)) (stl (rl LL') LL'.length (.obj l busy)) k:=by
    rintro k ((q | q) | ⟨j,q⟩)
    · exact .inl (.inl q)
    · by_cases e:k=l
      · exact .inr ⟨LL'.length,by rw [yaF,e]⟩
      · exact .inl (.inr ⟨q,e⟩)
    · exact .inr ⟨j,by rw [ho j (hne j k q)];exact q⟩
  have hnl:∀ i k,(rl LL' i).has k→k≠l:=fun i k hk e=>by
    subst e
    have:=hS.nd i LL'.length k (by rw [ho i (hne i k hk)];exact hk) (by rw [yaF])
    exact hne i k hk this
  have hbd:∀ i k,(rl LL' i).has k→OwnB (rl LL) k∨W.heap.size≤k:=fun i k hk=>by
    rcases hS.bd i k (by rw [ho i (hne i k hk)];exact hk) with q | q | q
    · exact .inr q
    · exact .inl q
    · exact absurd q (hnl i k hk)
  have hok:∀ i,(rl LL' i).ok 0 (Bl (fun k=>O k∨G k) (rl LL')) W':=fun i=>by
    by_cases e:i=LL'.length
    · rw [e,ydb];trivial
    · have:=hS.ok i
      rw [ho i e] at this
      exact this.sub fun k _ hk=>hbl k hk
  have hat:W'.heap[l]? = some busy:=by have:=hS.ok LL'.length;rw [yaF] at this;exact this.2
  refine ⟨⟨h.pure.then hS.pure (fun k hk q=>?_),h.lt,fun k hk=>⟨Nat.lt_of_lt_of_le (h.g k hk).1 hS.pure.size,(h.g k hk).2.1,fun i hi=>?_⟩,hok,fun i k hk=>?_,fun i j k hi hj=>hS.nd i j k (by rw [ho i (hne i k hi)];exact hi) (by rw [ho j (hne j k hj)];exact hj)⟩,⟨hS.pure.mono fun k _ q=>q.elim (fun q => .inl (.inr q)) .inr,fun k hk=>?_,fun k hk=>?_,hat⟩⟩
  · rcases q with ⟨i,q⟩ | q
    · exact (h.bd i k q).elim (fun r=>by omega) id
    · rw [q] at hk ⊢;exact (h.g l hG).2.1.elim (fun r=>by omega) id
  · rcases hbd i k hi with ⟨j,q⟩ | q
    · exact (h.g k hk).2.2 j q
    · have:=(h.g k hk).1;omega
  · rcases hbd i k hk with ⟨j,q⟩ | q
    · exact h.bd j k q
    · exact .inl (Nat.le_trans h.pure.size q)
  · rcases hk with q | ⟨i,q⟩
    · exact .inl (.inl q)
    · rcases hbd i k q with r | r
      · exact .inl (.inr r)
      · exact .inr r
  · rcases hk with q | ⟨i,q⟩
    · exact Nat.lt_of_lt_of_le (h.lt k q).1 (Nat.le_trans h.pure.size hS.pure.size)
    · exact ((hok i).lt q).2
def rndS{α:Type}(l:Nat)(busy:Obj)(W:World)(S O:BS)(V:List α→List Res→Prop)(Vx:Option Nat→List α→List Res→Prop)(xs:List α):Exit→Act→World→Prop
  | .normal,_,W'=>∃ LL,V xs LL∧Sep W S O W' (rl (LL++[.obj l busy]))
  | .ret,_,W'=>∃ LL,Vx none xs LL∧Sep W S O W' (rl (LL++[.obj l busy]))
  | .exit id,_,W'=>∃ LL,Vx (some id) xs LL∧Sep W S O W' (rl (LL++[.obj l busy]))
  | _,_,_=>False
theorem wt_iterS{P:Program}{N:Nat}{Q:Exit→Act→World→Prop}{E:Env}{ds:List Deferred}{w0 w:World}{S O:BS}{L:Hold}{t:List Item}{fo:Operand}{ps:Array Tmp}{assign body:Code}{gf:FuncId}{lb:Array Value}
    (hS:Sep w0 S O w L) (js gs:List Nat) (hj:js.Nodup) (hg:gs.Nodup) (hf:allJ (fun j=>(j∉js)∨(L j).free) gs)
    (hr:evE E fo = .func (.func gf) #[] lb) (he:Enters P gf) {α:Type} {val:α→Array Value} {pass:α→FP} {Pr R:List α→Prop} (hps:∀ x,(val x).size=ps.size) (hpN:ps.toList.all (fun p=>Nat.blt p N)=true)
    (V:List α→List Res→Prop) (Vx:Option Nat→List α→List Res→Prop) (h0:V [] (js.map L))
    (hgen:∀ T G,Sep w G T w (rl (gs.map L))→yix P gf lb val pass Pr R T G w)
    (hround:∀ (l:Nat) (rdy busy:Obj) (S1 O1:BS) (pre:List α) (x:α) (W:World) (LL:List Res),V pre LL→Pr (pre++[x])→(pass x).P (Bl O1 (rl (LL++[.obj l rdy]))) W→Sep W S1 O1 W (rl (LL++[.obj l rdy])) →
      WT (Fence.wide.inRound l) 1 P N [.code assign] (fun e a1 W1=>e = .normal∧∃ E1 L1,Rep N E1 [] a1∧Sep W S1 O1 W1 L1∧(∃ i,L1 i = .obj l rdy)∧∀ W2,W2=W1.putObj l busy→WT (Fence.wide.inRound l) 1 P N [.code body] (rndS l busy W S1 O1 V Vx (pre++[x])) E1 [] W2) (setE E (ps.toList.zip (val x).toList)) [] W)
    (hdone:∀ (D:Nat) (xs:List α) (W:World) (LL:List Res),R xs→V xs LL→Sep w0 S O W (rl (LL++[dfr D]))→WT Fence.wide 3 P N t Q E (mark D::ds) W)
    (hstop:∀ (D:Nat) (c:Option Nat) (xs:List α) (W:World) (LL:List Res),Vx c xs LL→Sep w0 S O W (rl (LL++[dfr D]))→yiC P N t Q E (mark D::ds) W c) :
    WT Fence.wide 3 P N (.code (.rangeFunc fo ps assign body)::t) Q E ds w:=by
  obtain ⟨hT,hG⟩:=hS.give js gs hj hg hf
  refine wt_iter hr he hps hpN (Bl O (rl (js.map L))) (OwnB (rl (gs.map L))) (IV w0 S O V) (fun c=>IV w0 S O (Vx c)) (IV.gen _ _ _ _) (IV.two _ _ _ _) (fun c=>IV.gen _ _ _ _) (fun c=>IV.two _ _ _ _) ⟨_,rfl,hT,h0⟩ (hgen _ _ hG) ?_ ?_ ?_
  · rintro l T G pre x W rdy busy ⟨LL,rfl,h,hV⟩ hPr hp hGl hl
    have hb:=hround l rdy busy (fun k=>OwnB (rl LL) k∨k=l) (fun k=>O k∨(G k∧k≠l)) pre x W LL hV hPr ((pass x).sub hp fun k _ hk=>by
      rw [yf0] at hk
      rcases (h.take (ydb LL) hGl hl).2.1 k hk with (q | q) | q
      · exact .inl (.inl q)
      · exact .inr q
      · exact .inl (.inr q)) (h.open_ hGl hl)
    intro a ra b k cs h1 h2 h3
    obtain ⟨e,a',w',⟨rfl,E1,L1,r1,s1,⟨i,hi⟩,hq⟩,harr⟩:=hb a ra b k cs h1 h2 h3
    refine ⟨.normal,a',w',⟨rfl,E1,r1,by have:=s1.ok i;rw [hi] at this;exact this.2,fun W2 hW2=>?_⟩,harr⟩
    intro a2 ra2 b2 k2 cs2 g1 g2 g3
    obtain ⟨e,a3,w3,hq,harr3⟩:=hq W2 hW2 a2 ra2 b2 k2 cs2 g1 g2 g3
    refine ⟨e,a3,w3,?_,harr3⟩
    cases e with
    | normal=>obtain ⟨L2,v2,s2⟩:=hq;obtain ⟨t2,r2⟩:=h.close hGl s2;exact ⟨_,r2,L2,rfl,t2,v2⟩
    | ret=>obtain ⟨L2,v2,s2⟩:=hq;obtain ⟨t2,r2⟩:=h.close hGl s2;exact ⟨_,r2,L2,rfl,t2,v2⟩
    | exit id=>obtain ⟨L2,v2,s2⟩:=hq;obtain ⟨t2,r2⟩:=h.close hGl s2;exact ⟨_,r2,L2,rfl,t2,v2⟩
    | goto t=>exact hq.elim
    | panic ch=>exact hq.elim
    | outgrown=>exact hq.elim
  · rintro D T G xs W hD hTD hGD hR ⟨L',rfl,h,hV⟩ hd
    exact hdone D xs W L' hR hV (h.mark hGD hd)
  · rintro D T G c xs W hD hTD hGD ⟨L',rfl,h,hV⟩ hd
    exact hstop D c xs W L' hV (h.mark hGD hd)
section
variable {P : Program} {l : Nat} {α : Type} {val : α → Array Value} {pass : α → FP} {Pr : List α → Prop} {J Jx K : BS → BS → List α → World → Prop}
theorem Sep.yielded{wb w W':World}{G T T':BS}{L:Hold}(h:Sep wb G T w L)(hr:RK T w T' W'):Sep W' (OwnB L) T' W' L:=by
  have hlt:∀ i k,(L i).has k→k<w.heap.size:=fun i k hk=>((h.ok i).lt hk).2
  have hnT:∀ i k,(L i).has k→¬T k:=fun i k hk hT=>by
    rcases h.bd i k hk with r | r
    · have:=(h.lt k hT).1;omega
    · exact (h.lt k hT).2 r
  refine ⟨Keeps.refl _ _,fun k hk=>⟨hr.lt k hk,fun ⟨i,hi⟩=>?_⟩,fun i=>?_,fun i k hk => .inr ⟨i,hk⟩,h.nd⟩
  · rcases hr.sub k hk with q | q
    · exact hnT i k hi q
    · have:=hlt i k hi;omega
  · refine (h.ok i).keep hr.keeps (fun k hk=>hnT i k hk) (fun k _ hk => .inl hk) fun k hk hO=>?_
    rcases hO with q | q
    · rcases hr.sub k q with r | r
      · exact .inl r
      · omega
    · exact .inr q
theorem gen_yield(hs:Sess P l val pass Pr J Jx){T G:BS}{pre:List α}{x:α}{wb w:World}{L:Hold}(hJ:J T G pre wb)(hS:Sep wb G T w L)(hPr:Pr (pre++[x]))(hp:(pass x).P (Bl T L) w)
    {Rr:Ending→World→Prop} (h1:∀ T' W',J T' (OwnB L) (pre++[x]) W'→Sep W' (OwnB L) T' W' L→Rr (.returned (.bool true)) W') (h2:∀ T' W',Jx T' (OwnB L) (pre++[x]) W'→Sep W' (OwnB L) T' W' L→Rr (.returned (.bool false)) W') :
    YieldAt Fence.wide 1 P l (val x) w Rr:=by
  have hJ2:J T (OwnB L) pre w:=hs.gen hJ hS.pure (fun k ⟨i,hi⟩=>(hS.bd i k hi).elim (fun q => .inr (by have:=hS.pure.size;omega)) .inl) (fun k ⟨i,hi⟩=>((hS.ok i).lt hi).2)
  obtain ⟨fn,tmps,assign,body,hy,hR⟩:=hs.yld hJ2 hPr hp
  refine ⟨fn,tmps,assign,body,hy,hR.mono ?_⟩
  rintro e W' ⟨T',hr,(⟨rfl,hj⟩ | ⟨rfl,hj⟩)⟩
  · exact h1 T' W' hj (hS.yielded hr)
  · exact h2 T' W' hj (hS.yielded hr)
theorem gen_end(hs:Sess P l val pass Pr J Jx){T G:BS}{pre:List α}{wb w:World}{L:Hold}{R:List α→Prop}(hJ:J T G pre wb)(hS:Sep wb G T w L)(hR:R pre) :
    (∃ xs T G,R xs∧J T G xs w)∨∃ pre T G,Jx T G pre w :=
  .inl ⟨pre,T,OwnB L,hR,hs.gen hJ hS.pure (fun k ⟨i,hi⟩=>(hS.bd i k hi).elim (fun q => .inr (by have:=hS.pure.size;omega)) .inl) (fun k ⟨i,hi⟩=>((hS.ok i).lt hi).2)⟩
theorem gen_endx(hs:Sess P l val pass Pr J Jx){T G:BS}{pre:List α}{wb w:World}{L:Hold}{R:List α→Prop}(hJ:Jx T G pre wb)(hS:Sep wb G T w L) :
    (∃ xs T G,R xs∧J T G xs w)∨∃ pre T G,Jx T G pre w :=
  .inr ⟨pre,T,OwnB L,hs.genx hJ hS.pure (fun k ⟨i,hi⟩=>(hS.bd i k hi).elim (fun q => .inr (by have:=hS.pure.size;omega)) .inl) (fun k ⟨i,hi⟩=>((hS.ok i).lt hi).2)⟩
end
theorem gen_start{P:Program}{l:Nat}{α:Type}{val:α→Array Value}{pass:α→FP}{Pr:List α→Prop}{J Jx:BS→BS→List α→World→Prop}{T T1 G:BS}{w w1:World}{L:Hold}
    (h:Sep w G T w L) (hs:Sess P l val pass Pr J Jx) (hJ:J T1 G [] w1) (hp:Pure w w1) (hT:∀ k,T1 k→T k∨w.heap.size≤k):∃ G1,J T1 G1 [] w1∧Sep w1 G1 T1 w1 L:=by
  have hS:=h.yielded (T':=T1) ⟨hp.mono fun k _ q=>q.elim,hT,fun k hk=>((hs.two hJ).1 k hk).2⟩
  refine ⟨OwnB L,hs.gen hJ (Keeps.refl _ _) (fun k ⟨i,hi⟩=>?_) (fun k ⟨i,hi⟩=>((hS.ok i).lt hi).2),hS⟩
  rcases h.bd i k hi with q | q
  · have:=((h.ok i).lt hi).2;omega
  · exact .inl q
theorem yen{P:Program}{f:FuncId}{fn:Func}{c:Code}{args:Array Value}{l:List Value}{w:World}{R:Ending→World→Prop}{N:Nat}(hf:P.funcs[f]? = some fn)(hb:fn.body=some c)(hN:fn.ntmps=N)(hl:l.length≤N)(ha:args=l.toArray)
    (h:WT Fence.wide 2 P N [.code c] (bodyPost P fn R) (lenv l) [] w):CallsIn Fence.wide 2 P f args w R:=by
  subst ha
  refine callsIn_of_wp hf hb trivial (WTa.code (h _ ⟨?_,lenv_eq l _,rfl⟩)) rfl
  simp
  omega
def FP.tt:FP:=⟨fun _ _=>True,fun h _=>h,fun h _=>h⟩
theorem ygH{F:Fence}{n:Nat}{P:Program}{fn:Func}{tmps:Array Value}{R:Ending→World→Prop} : ∀ (rs:List Nat) (W:World),rs.Nodup→(∀ r∈rs,W.heap[r]? = some (Obj.deferred (some []))) →
    (∀ W':World,Keeps (fun k=>k∈rs) W W'→LeavesIn F n P fn tmps R [] .returning W')→LeavesInM F n P fn tmps R (rs.map mark) .returning W:=by
  intro rs
  induction rs with
  | nil=>intro W _ _ h;exact h W (Keeps.refl _ _)
  | cons r rs ih =>
    intro W hn hd h
    have hr:=hd r (by simp)
    have hnr:=List.nodup_cons.1 hn
    refine ⟨by simp, .inl ⟨r,_,rfl,run_takeDeferred hr,?_⟩⟩
    refine ih (W.putObj r (.deferred none)) hnr.2 (fun q hq=>?_) fun W' hK=>?_
    · rw [World.putObj_heap_other (by rintro rfl;exact hnr.1 hq)];exact hd q (by simp [hq])
    · exact h W' (((yca W r _).mono fun k _ e=>by subst e;simp).trans (hK.mono fun k _ e=>by simp [e]))
theorem Sep.unmark{w0 w w':World}{S O:BS}{L:Hold}(h:Sep w0 S O w L){rs:List Nat}(is js:List Nat)(hj:js.Nodup)(hd:∀ i∈is,i∉js)(hm:∀ r∈rs,∃ i∈is,(L i).has r)(hK:Keeps (fun k=>k∈rs) w w'):Sep w0 S O w' (rl (js.map L)):=by
  have h2:=h.step (w':=w') (L':=fun j=>if j∈is then .gone else L j) (T:=fun k=>k∈rs) hK (fun k _ hk=>by obtain ⟨i,_,hi⟩:=hm k hk;exact ⟨i,hi⟩)
    (fun j k hk=>by
      by_cases e:j∈is
      · simp only [if_pos e] at hk;cases hk
      · simp only [if_neg e] at hk;exact .inl ⟨j,hk⟩)
    (fun j=>by
      by_cases e:j∈is
      · simp only [if_pos e];exact .inr trivial
      · refine .inl ⟨j,by simp only [if_neg e],fun k hk hr=>?_⟩
        obtain ⟨i,hi,hb⟩:=hm k hr
        have:=h.nd i j k hb hk
        subst this
        exact e hi)
    (fun a b k ha hb=>by
      by_cases e1:a∈is
      · simp only [if_pos e1] at ha;cases ha
      · by_cases e2:b∈is
        · simp only [if_pos e2] at hb;cases hb
        · simp only [if_neg e1] at ha;simp only [if_neg e2] at hb;exact h.nd a b k ha hb)
  have h3:=h2.sel js hj
  have e:js.map (fun j=>if j∈is then Res.gone else L j)=js.map L:=List.map_congr_left fun j hjj=>by
    rw [if_neg fun q=>hd j q hjj]
  rw [e] at h3
  exact h3
section
variable {P : Program} {fn : Func} {N : Nat} {t : List Item} {R : Ending → World → Prop} {E : Env} {w : World} {rs : List Nat} {a : Act}
theorem wt_retn(hn:rs.Nodup)(hd:∀ r∈rs,w.heap[r]? = some (Obj.deferred (some [])))(h:∀ a,Rep N E (rs.map mark) a→∀ W',Keeps (fun k=>k∈rs) w W'→LeavesIn Fence.wide 3 P fn a.tmps R [] .returning W'):WT Fence.wide 3 P N (.code .ret::t) (bodyPostM Fence.wide 3 P fn R) E (rs.map mark) w :=
  yd5 fun a r=>by
    have hd':=r.defers
    show LeavesInM _ _ _ _ _ _ a.defers _ _
    rw [hd']
    exact ygH rs w hn hd fun W' hk=>h a r W' hk
theorem wt_retk1{t1:Tmp}{v1:Value}(hn:rs.Nodup)(hd:∀ r∈rs,w.heap[r]? = some (Obj.deferred (some [])))(hr:fn.results = #[.tmp t1])(h1:E t1=v1)(h:∀ w',Keeps (fun k=>k∈rs) w w'→R (.returned v1) w'):WT Fence.wide 3 P N (.code .ret::t) (bodyPostM Fence.wide 3 P fn R) E (rs.map mark) w :=
  wt_retn hn hd fun a r W' hk=>⟨_,results_tmp hr _ _ _,by rw [r.get,h1];exact h W' hk⟩
theorem wt_retk2{t1 t2:Tmp}{v1 v2:Value}(hn:rs.Nodup)(hd:∀ r∈rs,w.heap[r]? = some (Obj.deferred (some [])))(hr:fn.results = #[.tmp t1, .tmp t2])(h1:E t1=v1)(h2:E t2=v2)(h:∀ w',Keeps (fun k=>k∈rs) w w'→R (.returned (.tuple #[v1,v2])) w'):WT Fence.wide 3 P N (.code .ret::t) (bodyPostM Fence.wide 3 P fn R) E (rs.map mark) w :=
  wt_retn hn hd fun a r W' hk=>⟨_,results_tmp2 hr _ _ _,by rw [r.get,r.get,h1,h2];exact h W' hk⟩
theorem wt_retk3{t1 t2 t3:Tmp}{v1 v2 v3:Value}(hn:rs.Nodup)(hd:∀ r∈rs,w.heap[r]? = some (Obj.deferred (some [])))(hr:fn.results = #[.tmp t1, .tmp t2, .tmp t3])(h1:E t1=v1)(h2:E t2=v2)(h3:E t3=v3)(h:∀ w',Keeps (fun k=>k∈rs) w w'→R (.returned (.tuple #[v1,v2,v3])) w'):WT Fence.wide 3 P N (.code .ret::t) (bodyPostM Fence.wide 3 P fn R) E (rs.map mark) w :=
  wt_retn hn hd fun a r W' hk=>⟨_,results_tmp3 hr _ _ _,by rw [r.get,r.get,r.get,h1,h2,h3];exact h W' hk⟩
end
theorem Sep.marked{w0 w:World}{S O:BS}{L:Hold}(h:Sep w0 S O w L)(i:Nat){D:Nat}(hi:L i=dfr D):∀ r∈[D],w.heap[r]? = some (Obj.deferred (some [])):=fun r hr=>by
  rw [List.mem_singleton] at hr
  subst hr
  have:=h.ok i
  rw [hi] at this
  exact this.2
theorem yem{L:Hold}(i:Nat){D:Nat}(hi:L i=dfr D):∀ r∈[D],∃ j∈[i],(L j).has r:=fun r hr=>by
  rw [List.mem_singleton] at hr
  subst hr
  exact ⟨i,by simp,by rw [hi];rfl⟩
theorem results_cell2{P:Program}{fn:Func}{p1 p2:Tmp}{y1 y2:TypeId}(h:fn.results = #[.cell p1 y1, .cell p2 y2]){tmps:Array Value}{w:World}{a1 a2:Addr}{v1 v2:Value}{u1 u2:TypeDesc}(h1:tmps.getD p1 undef = .pointer (some a1))(h2:tmps.getD p2 undef = .pointer (some a2))
    (hu1:P.underlying y1=some u1) (hn1:aggD u1=false) (hu2:P.underlying y2=some u2) (hn2:aggD u2=false) (c1:w.cell? a1=some v1) (c2:w.cell? a2=some v2):(results fn tmps).run P w = .ok (.tuple #[v1,v2]) w:=by
  have l1:(loadVar y1 a1).run P w = .ok v1 w:=by
    simp only [loadVar,Sem.run_bind,Result.andThen,yfK hu1 hn1,yh2 a1 v1 c1,Bool.false_eq_true,if_false]
  have l2:(loadVar y2 a2).run P w = .ok v2 w:=by
    simp only [loadVar,Sem.run_bind,Result.andThen,yfK hu2 hn2,yh2 a2 v2 c2,Bool.false_eq_true,if_false]
  have g1:tmps[p1]?.getD undef = .pointer (some a1):=by simpa using h1
  have g2:tmps[p2]?.getD undef = .pointer (some a2):=by simpa using h2
  simp [results,h,g1,g2,asAddr,Sem.run_bind,Result.andThen,l1,l2]
section
variable {P : Program} {fn : Func} {N : Nat} {t : List Item} {R : Ending → World → Prop} {E : Env} {w : World} {rs : List Nat}
theorem yfe{w0:World}{S O:BS}{L:Hold}(hS:Sep w0 S O w L){t1 t2:Tmp}{y1 y2:TypeId}{g1 g2:Nat}{v1 v2:Value}{u1 u2:TypeDesc}{e1 e2:TypeId}(i1 i2:Nat)(hi1:L i1 = .box e1 g1 [v1])(hi2:L i2 = .box e2 g2 [v2])(is:List Nat)(hm:∀ r∈rs,∃ i∈is,(L i).has r)(hd1:i1∉is)(hd2:i2∉is)
    (hn:rs.Nodup) (hd:∀ r∈rs,w.heap[r]? = some (Obj.deferred (some []))) (hr:fn.results = #[.cell t1 y1, .cell t2 y2]) (h1:E t1 = .pointer (some ⟨g1,0,none⟩)) (h2:E t2 = .pointer (some ⟨g2,0,none⟩))
    (hu1:P.underlying y1=some u1) (hn1:aggD u1=false) (hu2:P.underlying y2=some u2) (hn2:aggD u2=false) (h:∀ w',Keeps (fun k=>k∈rs) w w'→R (.returned (.tuple #[v1,v2])) w') :
    ∀ a,Rep N E (rs.map mark) a→bodyPostM Fence.wide 3 P fn R .ret a w:=fun a r=>by
  have hd':=r.defers
  show LeavesInM _ _ _ _ _ _ a.defers _ _
  rw [hd']
  have hnot:∀ i g e v,L i = .box e g [v]→i∉is→g∉rs:=fun i g e v hi hni hg=>by
    obtain ⟨j,hj,hb⟩:=hm g hg
    have:=hS.nd i j g (by rw [hi]) hb
    subst this
    exact hni hj
  refine ygH rs w hn hd fun W' hk=>⟨_,results_cell2 hr (by rw [r.get,h1]) (by rw [r.get,h2]) hu1 hn1 hu2 hn2 ?_ ?_,h W' hk⟩
  · exact hk.cell (hnot i1 g1 e1 v1 hi1 hd1) (Row.cell (hS.bx i1 hi1) (i:=0) rfl)
  · exact hk.cell (hnot i2 g2 e2 v2 hi2 hd2) (Row.cell (hS.bx i2 hi2) (i:=0) rfl)
end
end Go.Proofs.YtjepipbkiadcpaaGreat

/- Iterators that hand over slices: what is yielded is a pure thing and addresses. No program in sight. -/
namespace Go.Proofs.YtjepipbkiadcpaaGreat
open Go Go.RowKit Go.Shelf Go.Proofs.Tryz
def FP.and(a b:FP):FP :=
  ⟨fun O w=>a.P O w∧b.P O w,fun ⟨h1,h2⟩ hk=>⟨a.keep h1 hk,b.keep h2 hk⟩,fun ⟨h1,h2⟩ hs=>⟨a.sub h1 hs,b.sub h2 hs⟩⟩
def JP{α β:Type}(J:BS→BS→List (α×β)→World→Prop):BS→BS→List α→World→Prop:=fun T G ps W=>∃ l,l.map Prod.fst=ps∧J T G l W
structure SessP(P:Program)(l:Nat){α β:Type}(enc:α→β→Array Value)(pass:α→β→FP)(Pr:List α→Prop)(J Jx:BS→BS→List α→World→Prop):Prop where
  gen:yeX J
  genx:yeX Jx
  two:yeZ J
  twox:yeZ Jx
  yld:∀ {T G:BS} {pre:List α} {x:α} {b:β} {W:World},J T G pre W→Pr (pre++[x])→(pass x b).P (fun k=>T k∨G k) W →
    YieldAt Fence.wide 1 P l (enc x b) W fun e W'=>∃ T',RK T W T' W'∧((e = .returned (.bool true)∧J T' G (pre++[x]) W')∨(e = .returned (.bool false)∧Jx T' G (pre++[x]) W'))
theorem yeX.jp{α β:Type}{J:BS→BS→List (α×β)→World→Prop}(h:yeX J):yeX (JP J):=fun ⟨l,hl,hj⟩ a b c=>⟨l,hl,h hj a b c⟩
theorem yeZ.jp{α β:Type}{J:BS→BS→List (α×β)→World→Prop}(h:yeZ J):yeZ (JP J):=fun ⟨l,hl,hj⟩=>h hj
theorem Sess.proj{P:Program}{l:Nat}{α β:Type}{enc:α→β→Array Value}{pass:α→β→FP}{Pr:List α→Prop}{J Jx:BS→BS→List (α×β)→World→Prop}
    (h:Sess P l (fun y:α×β=>enc y.1 y.2) (fun y=>pass y.1 y.2) (fun q=>Pr (q.map Prod.fst)) J Jx):SessP P l enc pass Pr (JP J) (JP Jx):=by
  have g1:yeX J:=h.gen
  have g2:yeX Jx:=h.genx
  have g3:yeZ J:=h.two
  have g4:yeZ Jx:=h.twox
  refine ⟨yeX.jp (J:=J) g1,yeX.jp (J:=Jx) g2,yeZ.jp (J:=J) g3,yeZ.jp (J:=Jx) g4,?_⟩
  rintro T G pre x b W ⟨q,rfl,hj⟩ hPr hp
  refine (show YieldAt Fence.wide 1 P l (enc x b) W _ from h.yld (x:=(x,b)) hj (by simpa using hPr) hp) |> fun ⟨fn,tmps,assign,body,hy,hR⟩=>⟨fn,tmps,assign,body,hy,hR.mono ?_⟩
  rintro e W' ⟨T',hr,(⟨rfl,hj⟩ | ⟨rfl,hj⟩)⟩
  · exact ⟨T',hr, .inl ⟨rfl,_,by simp,hj⟩⟩
  · exact ⟨T',hr, .inr ⟨rfl,_,by simp,hj⟩⟩
def yf5(P:Program)(gf:FuncId)(lb:Array Value){α β:Type}(enc:α→β→Array Value)(pass:α→β→FP)(Pr R:List α→Prop)(T0 G0:BS)(w:World):Prop :=
  ∀ (l:Nat) (J Jx:BS→BS→List α→World→Prop) (T1:BS) (w1:World),SessP P l enc pass Pr J Jx→J T1 G0 [] w1→Pure w w1→(∀ k,T1 k→T0 k∨w.heap.size≤k) →
    CallsIn Fence.wide 2 P gf (#[.func (.yield l) #[] #[]]++lb) w1 fun e w'=>(∃ v,e = .returned v)∧((∃ xs T G,R xs∧J T G xs w')∨∃ pre T G,Jx T G pre w')
theorem yf5.to{P:Program}{gf:FuncId}{lb:Array Value}{α β:Type}{enc:α→β→Array Value}{pass:α→β→FP}{Pr R:List α→Prop}{T0 G0:BS}{w:World}(h:yf5 P gf lb enc pass Pr R T0 G0 w) :
    yix P gf lb (fun y:α×β=>enc y.1 y.2) (fun y=>pass y.1 y.2) (fun q=>Pr (q.map Prod.fst)) (fun q=>R (q.map Prod.fst)) T0 G0 w:=by
  intro l J Jx T1 w1 hs hJ hp hT
  refine (h l (JP J) (JP Jx) T1 w1 hs.proj ⟨[],rfl,hJ⟩ hp hT).mono ?_
  rintro e w' ⟨hv,(⟨xs,T,G,hR,q,hl,hj⟩ | ⟨pre,T,G,q,hl,hj⟩)⟩
  · exact ⟨hv, .inl ⟨q,T,G,by subst hl;exact hR,hj⟩⟩
  · exact ⟨hv, .inr ⟨q,T,G,hj⟩⟩
section
variable {P : Program} {l : Nat} {α β : Type} {val : α → β → Array Value} {pass : α → β → FP} {Pr : List α → Prop} {J Jx : BS → BS → List α → World → Prop}
theorem yg5(hs:SessP P l val pass Pr J Jx){T G:BS}{pre:List α}{x:α}{b:β}{wb w:World}{L:Hold}(hJ:J T G pre wb)(hS:Sep wb G T w L)(hPr:Pr (pre++[x]))(hp:(pass x b).P (Bl T L) w)
    {Rr:Ending→World→Prop} (h1:∀ T' W',J T' (OwnB L) (pre++[x]) W'→Sep W' (OwnB L) T' W' L→Rr (.returned (.bool true)) W') (h2:∀ T' W',Jx T' (OwnB L) (pre++[x]) W'→Sep W' (OwnB L) T' W' L→Rr (.returned (.bool false)) W') :
    YieldAt Fence.wide 1 P l (val x b) w Rr:=by
  have hJ2:J T (OwnB L) pre w:=hs.gen hJ hS.pure (fun k ⟨i,hi⟩=>(hS.bd i k hi).elim (fun q => .inr (by have:=hS.pure.size;omega)) .inl) (fun k ⟨i,hi⟩=>((hS.ok i).lt hi).2)
  obtain ⟨fn,tmps,assign,body,hy,hR⟩:=hs.yld hJ2 hPr hp
  refine ⟨fn,tmps,assign,body,hy,hR.mono ?_⟩
  rintro e W' ⟨T',hr,(⟨rfl,hj⟩ | ⟨rfl,hj⟩)⟩
  · exact h1 T' W' hj (hS.yielded hr)
  · exact h2 T' W' hj (hS.yielded hr)
theorem gen_endP(hs:SessP P l val pass Pr J Jx){T G:BS}{pre:List α}{wb w:World}{L:Hold}{R:List α→Prop}(hJ:J T G pre wb)(hS:Sep wb G T w L)(hR:R pre) :
    (∃ xs T G,R xs∧J T G xs w)∨∃ pre T G,Jx T G pre w :=
  .inl ⟨pre,T,OwnB L,hR,hs.gen hJ hS.pure (fun k ⟨i,hi⟩=>(hS.bd i k hi).elim (fun q => .inr (by have:=hS.pure.size;omega)) .inl) (fun k ⟨i,hi⟩=>((hS.ok i).lt hi).2)⟩
theorem yh4(hs:SessP P l val pass Pr J Jx){T G:BS}{pre:List α}{wb w:World}{L:Hold}{R:List α→Prop}(hJ:Jx T G pre wb)(hS:Sep wb G T w L) :
    (∃ xs T G,R xs∧J T G xs w)∨∃ pre T G,Jx T G pre w :=
  .inr ⟨pre,T,OwnB L,hs.genx hJ hS.pure (fun k ⟨i,hi⟩=>(hS.bd i k hi).elim (fun q => .inr (by have:=hS.pure.size;omega)) .inl) (fun k ⟨i,hi⟩=>((hS.ok i).lt hi).2)⟩
theorem yhi{T T1 G:BS}{w w1:World}{L:Hold}
    (h:Sep w G T w L) (hs:SessP P l val pass Pr J Jx) (hJ:J T1 G [] w1) (hp:Pure w w1) (hT:∀ k,T1 k→T k∨w.heap.size≤k):∃ G1,J T1 G1 [] w1∧Sep w1 G1 T1 w1 L:=by
  have hS:=h.yielded (T':=T1) ⟨hp.mono fun k _ q=>q.elim,hT,fun k hk=>((hs.two hJ).1 k hk).2⟩
  refine ⟨OwnB L,hs.gen hJ (Keeps.refl _ _) (fun k ⟨i,hi⟩=>?_) (fun k ⟨i,hi⟩=>((hS.ok i).lt hi).2),hS⟩
  rcases h.bd i k hi with q | q
  · have:=((h.ok i).lt hi).2;omega
  · exact .inl q
end
theorem rndS_fst{α β:Type}{l:Nat}{busy:Obj}{W:World}{S O:BS}{V:List α→List Res→Prop}{Vx:Option Nat→List α→List Res→Prop}{xs:List (α×β)}{ys:List α}(h:xs.map Prod.fst=ys){e:Exit}{a:Act}{w:World}
    (hq:rndS l busy W S O V Vx ys e a w):rndS l busy W S O (fun (p:List (α×β)) LL=>V (p.map Prod.fst) LL) (fun c (p:List (α×β)) LL=>Vx c (p.map Prod.fst) LL) xs e a w:=by
  subst h
  cases e <;> exact hq
theorem yiq{P:Program}{N:Nat}{Q:Exit→Act→World→Prop}{E:Env}{ds:List Deferred}{w0 w:World}{S O:BS}{L:Hold}{t:List Item}{fo:Operand}{ps:Array Tmp}{assign body:Code}{gf:FuncId}{lb:Array Value}
    (hS:Sep w0 S O w L) (js gs:List Nat) (hj:js.Nodup) (hg:gs.Nodup) (hf:allJ (fun j=>(j∉js)∨(L j).free) gs)
    (hr:evE E fo = .func (.func gf) #[] lb) (he:Enters P gf) {α β:Type} {val:α→β→Array Value} {pass:α→β→FP} {Pr R:List α→Prop} (hps:∀ x b,(val x b).size=ps.size) (hpN:ps.toList.all (fun p=>Nat.blt p N)=true)
    (V:List α→List Res→Prop) (Vx:Option Nat→List α→List Res→Prop) (h0:V [] (js.map L))
    (hgen:∀ T G,Sep w G T w (rl (gs.map L))→yf5 P gf lb val pass Pr R T G w)
    (hround:∀ (l:Nat) (rdy busy:Obj) (S1 O1:BS) (pre:List α) (x:α) (b:β) (W:World) (LL:List Res),V pre LL→Pr (pre++[x])→(pass x b).P (Bl O1 (rl (LL++[.obj l rdy]))) W→Sep W S1 O1 W (rl (LL++[.obj l rdy])) →
      WT (Fence.wide.inRound l) 1 P N [.code assign] (fun e a1 W1=>e = .normal∧∃ E1 L1,Rep N E1 [] a1∧Sep W S1 O1 W1 L1∧(∃ i,L1 i = .obj l rdy)∧∀ W2,W2=W1.putObj l busy→WT (Fence.wide.inRound l) 1 P N [.code body] (rndS l busy W S1 O1 V Vx (pre++[x])) E1 [] W2) (setE E (ps.toList.zip (val x b).toList)) [] W)
    (hdone:∀ (D:Nat) (xs:List α) (W:World) (LL:List Res),R xs→V xs LL→Sep w0 S O W (rl (LL++[dfr D]))→WT Fence.wide 3 P N t Q E (mark D::ds) W)
    (hstop:∀ (D:Nat) (c:Option Nat) (xs:List α) (W:World) (LL:List Res),Vx c xs LL→Sep w0 S O W (rl (LL++[dfr D]))→yiC P N t Q E (mark D::ds) W c) :
    WT Fence.wide 3 P N (.code (.rangeFunc fo ps assign body)::t) Q E ds w:=by
  refine wt_iterS hS js gs hj hg hf hr he (val:=fun y:α×β=>val y.1 y.2) (pass:=fun y=>pass y.1 y.2) (Pr:=fun q=>Pr (q.map Prod.fst)) (R:=fun q=>R (q.map Prod.fst)) (fun y=>hps y.1 y.2) hpN (fun p LL=>V (p.map Prod.fst) LL) (fun c p LL=>Vx c (p.map Prod.fst) LL) h0 (fun T G hG=>(hgen T G hG).to) ?_ (fun D xs W LL hR hV hs=>hdone D _ W LL hR hV hs) (fun D c xs W LL hV hs=>hstop D c _ W LL hV hs)
  rintro l rdy busy S1 O1 pre ⟨x,b⟩ W LL hV hPr hp hs1
  have hb:=hround l rdy busy S1 O1 (pre.map Prod.fst) x b W LL hV (by simpa using hPr) hp hs1
  intro a ra bb k cs h1 h2 h3
  obtain ⟨e,a',w',⟨rfl,E1,L1,r1,s1,hi,hq⟩,harr⟩:=hb a ra bb k cs h1 h2 h3
  refine ⟨.normal,a',w',⟨rfl,E1,L1,r1,s1,hi,fun W2 hW2=>?_⟩,harr⟩
  intro a2 ra2 b2 k2 cs2 g1 g2 g3
  obtain ⟨e,a3,w3,hq,harr3⟩:=hq W2 hW2 a2 ra2 b2 k2 cs2 g1 g2 g3
  exact ⟨e,a3,w3,rndS_fst (by simp) hq,harr3⟩
end Go.Proofs.YtjepipbkiadcpaaGreat

/- Determinants, expanded by the first row, and the rule of Cramer. No program in sight. -/
namespace Go.Proofs.YtjepipbkiadcpaaGreat
open Go Go.Proofs.Tryz
end Go.Proofs.YtjepipbkiadcpaaGreat

/- The reduced Laplacian of a connected graph has a determinant other than 0; Cramer's numbers are scripts. No program in sight. -/
namespace Go.Proofs.YtjepipbkiadcpaaGreat
open Go Go.Proofs.Tryz
theorem exists_max(f:Nat→Int):∀ n,0<n→∃ v,v<n∧∀ u,u<n→f u≤f v
  | 1,_=>⟨0,by omega,fun u hu=>by rw [show u=0 by omega];exact Int.le_refl _⟩
  | n+2,_=>by
    obtain ⟨v,hv,h⟩:=exists_max f (n+1) (by omega)
    by_cases q:f v<f (n+1)
    · exact ⟨n+1,by omega,fun u hu=>by
        by_cases e:u=n+1
        · subst e;exact Int.le_refl _
        · have:=h u (by omega);omega⟩
    · exact ⟨v,by omega,fun u hu=>by
        by_cases e:u=n+1
        · subst e;omega
        · exact h u (by omega)⟩
theorem yhz{n:Nat}{es:List E3}{q:Nat}(hE:EOk n es)(hC:Conn n es q)(hq:q<n){f:Nat→Int}(h0:f q=0)(h:∀ v,v<n→f v≠0→Lp n es f v=0):∀ v,v<n→f v≤0:=by
  intro v hv
  obtain ⟨m,hm,hmax⟩:=exists_max f n (by omega)
  by_cases hpos:0<f m
  · exfalso
    obtain ⟨v,u,hv,hu,hSv,hSu,hW⟩:=hC (fun x=>decide (f x=f m)) (by simp;omega) ⟨m,hm,by simp⟩
    simp only [decide_eq_true_eq,decide_eq_false_iff_not] at hSv hSu
    have h1:=h v hv (by omega)
    have h2:∀ i,i<n→0≤W es v i*(f v-f i):=fun i hi=>Int.mul_nonneg (ya5 hE v i) (by have:=hmax i hi;omega)
    have h3:=yg8 (f:=fun i=>W es v i*(f v-f i)) h2 u hu
    have h4:1*1≤W es v u*(f v-f u):=Int.mul_le_mul (by omega) (by have:=hmax u hu;omega) (by omega) (by omega)
    unfold Lp at h1
    omega
  · have:=hmax v hv;omega
theorem dirichlet{n:Nat}{es:List E3}{q:Nat}(hE:EOk n es)(hC:Conn n es q)(hq:q<n){f:Nat→Int}(h0:f q=0)(h:∀ v,v<n→f v≠0→Lp n es f v=0):∀ v,v<n→f v=0:=by
  intro v hv
  have h1:=yhz hE hC hq h0 h v hv
  have h2:=yhz hE hC hq (f:=fun i => -1*f i) (by rw [h0];rfl) (fun u hu hne=>by rw [ygG,h u hu (by omega)];omega) v hv
  omega
section
variable {m : Nat} {es : List E3} {q : Nat} (hE : EOk (m + 1) es) (hC : Conn (m + 1) es q) (hq : q ≤ m)
include hE hC hq
end
end Go.Proofs.YtjepipbkiadcpaaGreat

/- A variable in memory says nothing of other blocks. -/
namespace Go.Proofs.YtjepipbkiadcpaaGreat
open Go Go.RowKit Go.Proofs.Tryz
theorem flat_box(e:TypeId)(g:Nat)(cells:List Value):(Res.box e g cells).Flat:=fun _ _ _ _ h=>h
end Go.Proofs.YtjepipbkiadcpaaGreat
