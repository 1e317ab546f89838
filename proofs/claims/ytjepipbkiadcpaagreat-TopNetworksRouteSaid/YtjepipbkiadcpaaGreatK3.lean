/- Texts laid together: Wd, Cnt, Wf, Opn, Opn2, Opn3. -/
import Derived.Test.YtjepipbkiadcpaaGreatRows
import Derived.ProofKit
import Derived.Lib.SmallJoins
import Derived.Deep.Slices
import Derived.Below
import Derived.OpenShut
import Derived.Test.YtjepipbkiadcpaaGreatK2
set_option linter.unusedVariables false
set_option linter.unusedSimpArgs false
set_option linter.unusedSectionVars false
/- Slices as addresses: what lies behind them, stores into parts of elements. No program in sight. -/
namespace Go.Proofs.YtjepipbkiadcpaaGreat
open Go Go.RowKit Go.Shelf Go.Proofs.Tryz
def FP.ex{α:Type}(F:α→FP):FP:=⟨fun O w=>∃ x,(F x).P O w,fun ⟨x,h⟩ hk=>⟨x,(F x).keep h hk⟩,fun ⟨x,h⟩ hs=>⟨x,(F x).sub h hs⟩⟩
def FP.allL{α:Type}(l:List α)(F:α→FP):FP:=⟨fun O w=>∀ x∈l,(F x).P O w,fun h hk x hx=>(F x).keep (h x hx) hk,fun h hs x hx=>(F x).sub (h x hx) hs⟩
def FP.pr(p:Prop):FP:=⟨fun _ _=>p,fun h _=>h,fun h _=>h⟩
def okO(a:AT):FP:=FP.and (FP.pr (a.2.1≤1000000)) <| FP.ex fun ys:List (Int×Int)=>FP.sl c2 a.1 a.2.1 a.2.2 ys
def okR(a:AT):FP:=FP.and (FP.pr (a.2.1≤1000000)) <| FP.ex fun ys:List (Int×AT)=>FP.and (FP.sl (fP (fI .i64) fA).cod a.1 a.2.1 a.2.2 ys) (FP.allL ys fun y=>okO y.2)
def okQ(a:AT):FP:=FP.and (FP.pr (a.2.1≤1000000)) <| FP.ex fun ys:List AT=>FP.and (FP.sl cA a.1 a.2.1 a.2.2 ys) (FP.allL ys okR)
theorem adr_eq{x:AT}{A:Option Addr}{l c:Nat}(h:x=(A,l,c)):Value.slice x.1 x.2.1 x.2.2=Value.slice A l c:=by rw [h]
theorem flat_sl{τ σ:Type} [Inhabited σ]{c:Cod τ}{f:Fl σ}{F:τ→σ→FP}{O:Nat→Prop}{w:World}{A:Option Addr}{l cap:Nat}{xs:List τ}(hsz:c.sz=f.sz)(h:(FP.sl c A l cap xs).P O w)
    (hc:∀ x∈xs,∀ vs,c.R O w vs x→∃ y,vs=f.enc y∧(F x y).P O w):∃ ys:List σ,(FP.sl f.cod A l cap ys).P O w∧∀ y∈ys,∃ x∈xs,(F x y).P O w:=by
  obtain ⟨h1,h2,h3⟩:=h
  by_cases h0:0<xs.length
  · obtain ⟨b,off,rfl,hb,ho,hE⟩:=h3 h0
    have key:∀ k:Nat,k<xs.length→∃ y:σ,(∀ x,xs[k]? = some x→(F x y).P O w)∧∀ (j:Nat) u,(f.enc y)[j]? = some u→w.cell? ⟨b,off+k*f.sz+j,none⟩=some u:=fun k hk=>by
      obtain ⟨vs,hR,hu⟩:=hE k xs[k] (List.getElem?_eq_getElem hk)
      obtain ⟨y,rfl,hF⟩:=hc _ (List.getElem_mem hk) _ hR
      refine ⟨y,fun x hx=>?_,fun j u hj=>?_⟩
      · rw [List.getElem?_eq_getElem hk] at hx;cases hx;exact hF
      · have:=hu j u hj;rw [hsz] at this;exact this
    let y:Nat→σ:=fun k=>if hk:k<xs.length then Classical.choose (key k hk) else default
    have hy:∀ k (hk:k<xs.length),(∀ x,xs[k]? = some x→(F x (y k)).P O w)∧∀ (j:Nat) u,(f.enc (y k))[j]? = some u→w.cell? ⟨b,off+k*f.sz+j,none⟩=some u:=fun k hk=>by
      show (∀ x,xs[k]? = some x→(F x (if hk:k<xs.length then Classical.choose (key k hk) else default)).P O w)∧∀ (j:Nat) u,(f.enc (if hk:k<xs.length then Classical.choose (key k hk) else default))[j]? = some u→_
      rw [dif_pos hk]
      exact Classical.choose_spec (key k hk)
    refine ⟨(List.range xs.length).map y,⟨by rw [List.length_map,List.length_range];exact h1,h2,fun _=>⟨b,off,rfl,hb,ho,fun k x hx=>?_⟩⟩,fun z hz=>?_⟩
    · rw [List.getElem?_map] at hx
      by_cases hk:k<xs.length
      · rw [List.getElem?_range hk] at hx
        cases hx
        exact ⟨_,rfl,fun j u hj=>(hy k hk).2 j u hj⟩
      · rw [List.getElem?_eq_none (by rw [List.length_range];omega)] at hx;cases hx
    · obtain ⟨k,hk,rfl⟩:=List.mem_map.1 hz
      rw [List.mem_range] at hk
      exact ⟨xs[k],List.getElem_mem hk,(hy k hk).1 _ (List.getElem?_eq_getElem hk)⟩
  · have:xs=[]:=List.eq_nil_of_length_eq_zero (by omega)
    subst this
    exact ⟨[],⟨h1,h2,Sl.nil _ _ _ _⟩,fun y hy=>by simp at hy⟩
theorem deep_O{O:Nat→Prop}{w:World}{vs:List Value}{x:List (Int×Int)}(hx:x.length≤1000000)(h:(cL c2).R O w vs x):∃ y:AT,vs=fA.enc y∧(okO y).P O w:=by
  obtain ⟨A,l,cap,rfl,h1,h2,h3⟩:=h
  exact ⟨(A,l,cap),rfl,(by show l≤1000000;omega),x,h1,h2,h3⟩
theorem deep_R{O:Nat→Prop}{w:World}{A:Option Addr}{l cap:Nat}{xs:List (Int×List (Int×Int))}(hx:xs.length≤1000000∧∀ r∈xs,r.2.length≤1000000)(h:(FP.sl (cPr cI (cL c2)) A l cap xs).P O w):(okR (A,l,cap)).P O w:=by
  obtain ⟨ys,h1,h2⟩:=flat_sl (f:=fP (fI .i64) fA) (F:=fun _ y=>okO y.2) rfl h fun x hm vs hR=>by
    obtain ⟨u,v,rfl,hu,hv⟩:=hR
    obtain ⟨y,rfl,hy⟩:=deep_O (hx.2 x hm) hv
    exact ⟨(x.1,y),by have hu:u=[.int .i64 x.1]:=hu;rw [hu];rfl,hy⟩
  exact ⟨(by show l≤1000000;have:=h.1;omega),ys,h1,fun y hy=>by obtain ⟨_,_,h⟩:=h2 y hy;exact h⟩
theorem deep_Q{O:Nat→Prop}{w:World}{A:Option Addr}{l cap:Nat}{xs:List (List (Int×List (Int×Int)))}(hx:xs.length≤1000000∧∀ r∈xs,r.length≤1000000∧∀ q∈r,q.2.length≤1000000)(h:(FP.sl (cL (cPr cI (cL c2))) A l cap xs).P O w):(okQ (A,l,cap)).P O w:=by
  obtain ⟨ys,h1,h2⟩:=flat_sl (f:=fA) (F:=fun _ y=>okR y) rfl h fun x hm vs hR=>by
    obtain ⟨A,l,cap,rfl,q1,q2,q3⟩:=hR
    exact ⟨(A,l,cap),rfl,deep_R (hx.2 x hm) ⟨q1,q2,q3⟩⟩
  exact ⟨(by show l≤1000000;have:=h.1;omega),ys,h1,fun y hy=>by obtain ⟨_,_,h⟩:=h2 y hy;exact h⟩
theorem deep_P{O:Nat→Prop}{w:World}{A:Option Addr}{l cap:Nat}{xs:List (Int×Int×List (List (Int×List (Int×Int))))}(hx:∀ p∈xs,p.2.2.length≤1000000∧∀ r∈p.2.2,r.length≤1000000∧∀ q∈r,q.2.length≤1000000)(h:(FP.sl (cPr cI (cPr cI (cL (cL (cPr cI (cL c2)))))) A l cap xs).P O w) :
    ∃ ys:List (Int×Int×AT),(FP.sl (fP (fI .i64) (fP (fI .i64) fA)).cod A l cap ys).P O w∧(FP.allL ys fun y=>okQ y.2.2).P O w:=by
  obtain ⟨ys,h1,h2⟩:=flat_sl (f:=fP (fI .i64) (fP (fI .i64) fA)) (F:=fun _ y=>okQ y.2.2) rfl h fun x hm vs hR=>by
    obtain ⟨u,v,rfl,hu,u2,v2,rfl,hu2,A,l,cap,rfl,q1,q2,q3⟩:=hR
    exact ⟨(x.1,x.2.1,(A,l,cap)),by have hu:u=[.int .i64 x.1]:=hu;have hu2:u2=[.int .i64 x.2.1]:=hu2;rw [hu,hu2];rfl,deep_Q (hx x hm) ⟨q1,q2,q3⟩⟩
  exact ⟨ys,h1,fun y hy=>by obtain ⟨_,_,h⟩:=h2 y hy;exact h⟩
section
variable {w0 w w' : World} {S O : Nat → Prop} {L : Hold} {τ : Type} {f : Fl τ} {e : TypeId} {A : Option Addr} {l cap : Nat} {xs : List τ}
theorem Sep.wrp(h:Sep w0 S O w L)(i:Nat)(hi:L i = .own f.cod e A l cap xs){k:Int}(hx:0≤k∧k<(xs.length:Int)){j:Nat}(hj:j<f.sz):Wr w ((ixA A k f.sz).add j):=by
  obtain ⟨hl,cells,ho,hE⟩:=h.own i hi
  obtain ⟨vs,hR,hu⟩:=hE k.toNat xs[k.toNat] (List.getElem?_eq_getElem (by omega))
  have hR:vs=f.enc _:=hR
  have hlen:vs.length=f.sz:=by rw [hR,f.len]
  obtain ⟨g,o,rfl,_,h1,h2⟩:=ho.cellAt (hu j vs[j] (List.getElem?_eq_getElem (by omega)))
  have e1:f.cod.sz=f.sz:=rfl
  rw [e1,←Nat.add_assoc] at h1 h2
  rw [yf0,Addr.add_mid]
  exact ⟨by rw [h1];rfl,h2⟩
theorem Sep.stp [Inhabited τ](h:Sep w0 S O w L)(i:Nat)(hi:L i = .own f.cod e A l cap xs){k:Int}(hx:0≤k∧k<(xs.length:Int)){j:Nat}(hj:j<f.sz){v:Value}{x:τ}(he:f.enc x=(f.enc (gx xs k.toNat)).set j v)(e1:w'=w.setCell ((ixA A k f.sz).add j) v) :
    Sep w0 S O w' (stl L i (.own f.cod e A l cap (xs.set k.toNat x))):=by
  obtain ⟨hl,cells,ho,hE⟩:=h.own i hi
  have hk:k.toNat<xs.length:=by omega
  have hs:f.cod.sz=f.sz:=rfl
  have hcl:cells.length=xs.length*f.sz:=by rw [ho.1,hl,hs]
  have hpos:k.toNat*f.sz+j<cells.length:=by
    rw [hcl]
    have:(k.toNat+1)*f.sz≤xs.length*f.sz:=Nat.mul_le_mul_right _ hk
    rw [Nat.add_mul] at this;omega
  obtain ⟨g,o,rfl,hg,h1,h2⟩:=ho.cellAt (i:=k.toNat*f.sz+j) (List.getElem?_eq_getElem hpos)
  rw [yf0,Addr.add_mid,Nat.add_assoc] at e1
  have hblk:(L i).has g:=by rw [hi];rfl
  have hK:Keeps (fun q=>q=g) w w':=by rw [e1];exact (Keeps.refl (fun q=>q=g) w).setCell (p:=⟨g,o+(k.toNat*f.sz+j),none⟩) (fun _=>rfl) v
  refine h.upd i _ hK (fun q _ hq=>by rw [hq];exact hblk) (fun q hq => .inl (by rw [hi];exact hq)) ⟨by rw [List.length_set];exact hl,cells.set (k.toNat*f.sz+j) v,by rw [e1];exact ho.set1 hpos v rfl,fun q y hy=>?_⟩
  rw [List.getElem?_set] at hy
  rw [hs]
  by_cases hq:k.toNat=q
  · subst hq
    rw [if_pos rfl,if_pos hk] at hy
    cases hy
    refine ⟨f.enc x,rfl,fun t u ht=>?_⟩
    rw [he,List.getElem?_set] at ht
    obtain ⟨vs,hR,hu⟩:=hE k.toNat _ (yaY hk)
    have hR:vs=f.enc _:=hR
    subst hR
    have hlen:=f.len (gx xs k.toNat)
    rw [List.getElem?_set]
    by_cases ej:j=t
    · subst ej
      rw [if_pos rfl,if_pos (by omega)] at ht
      rw [if_pos rfl,if_pos hpos];exact ht
    · rw [if_neg ej] at ht
      rw [if_neg (by omega)]
      exact hu t u ht
  · rw [if_neg hq] at hy
    obtain ⟨vs,hR,hu⟩:=hE q y hy
    refine ⟨vs,hR,fun t u ht=>?_⟩
    have hR:vs=f.enc _:=hR
    have ht2:t<f.sz:=by rw [←f.len y,←hR];exact (List.getElem?_eq_some_iff.1 ht).1
    rw [List.getElem?_set,if_neg]
    · exact hu t u ht
    · intro e
      rcases Nat.lt_or_gt_of_ne hq with q1 | q1
      · have:(k.toNat+1)*f.sz≤q*f.sz:=Nat.mul_le_mul_right _ q1
        rw [Nat.add_mul] at this;omega
      · have:(q+1)*f.sz≤k.toNat*f.sz:=Nat.mul_le_mul_right _ q1
        rw [Nat.add_mul] at this;omega
end
end Go.Proofs.YtjepipbkiadcpaaGreat

/- Words for proofs from pure forms: loops that count up, lists that are filled from the left. No program in sight. -/
namespace Go.Proofs.YtjepipbkiadcpaaGreat
open Go Go.Proofs.Tryz
def Cnt(N:Nat)(P:Nat→Prop)(m:Nat)(v:Int):Prop:=∃ k:Nat,m=N-k∧v=(k:Int)∧k≤N∧P k
theorem Cnt.start{N:Nat}{P:Nat→Prop}(h:P 0):∃ m0,Cnt N P m0 0:=⟨N,0,rfl,rfl,Nat.zero_le _,h⟩
theorem Cnt.next{N:Nat}{P:Nat→Prop}{k:Nat}(hk:k<N)(hN:N≤1000000000000)(h:P (k+1)):In64 ((k:Int)+1)∧∃ m',m'<N-k∧Cnt N P m' ((k:Int)+1) :=
  ⟨⟨by omega,by omega⟩,N-(k+1),by omega,k+1,rfl,by omega,by omega,h⟩
theorem Cnt.next' {N:Nat}{P:Nat→Prop}{k:Nat}(hk:k<N)(h:P (k+1)):∃ m',m'<N-k∧Cnt N P m' ((k:Int)+1) :=
  ⟨N-(k+1),by omega,k+1,rfl,by omega,by omega,h⟩
theorem i64{a:Int}(h : -9000000000000000000≤a∧a≤9000000000000000000):In64 a:=⟨by omega,by omega⟩
theorem sm_bound{f:Nat→Int}{B:Int}(hB:0≤B):∀ {n:Nat},(∀ i,i<n → -B≤f i∧f i≤B) → -(n*B)≤sm n f∧sm n f≤n*B
  | 0,_=>by simp [sm]
  | n+1,h=>by
    have ih:=sm_bound hB (n:=n) fun i hi=>h i (by omega)
    have:=h n (by omega)
    rw [sm,show ((n+1:Nat):Int)*B=n*B+B by rw [Int.natCast_add,Int.add_mul];simp]
    omega
end Go.Proofs.YtjepipbkiadcpaaGreat

/- What processors do over lines that lose, repeat and delay packets, plainly: a tick, a run. No program in sight. -/
namespace Go.Proofs.YtjepipbkiadcpaaGreat
open Go Go.Proofs.Tryz
abbrev ycJ:=Int×List (Int×Int)
structure Wst where
  st:List Int
  wt:List (List Int)
  ct:List (List Int)
  ln:List Ln
  fl:List (Pk×Int)
  tk:Int
  sn:Int
  lg:Bool
def delF(fates:List Int)(sn:Int):List Int :=
  let f:=if sn<fates.length then gi fates sn.toNat else 0
  if f=0 then [1] else if f=2 then [1,2] else if f=3 then [6] else []
def yfz(fates:List Int)(w:Wst)(p:Pk):Wst :=
  { w with sn:=w.sn+1,fl:=w.fl++(delF fates w.sn).map fun d=>(p,w.tk+d) }
def yge(w:Wst)(p k:Int):Wst :=
  let x:=gi (gx w.wt p.toNat) k.toNat+1
  { w with wt:=w.wt.set p.toNat ((gx w.wt p.toNat).set k.toNat x),lg:=w.lg || decide (1048576<x) }
def yfD(number:Int):Nat→Ln→Ln
  | 0,l=>l
  | f+1,l=>if l.rem<number∧0<l.q.length then yfD number f { l with q:=l.q.drop 1,rem:=l.rem+1,snt:=0 } else l
def yed(fates:List Int)(w:Wst):Pk→Wst
  | .lt i n k =>
    let w1:=if n=(gx w.ln i).acc+1 then yge { w with ln:=w.ln.set i { gx w.ln i with acc:=(gx w.ln i).acc+1 } } (gx w.ln i).dst k else w
    yfz fates w1 (.rc i (gx w1.ln i).acc)
  | .rc i n=>{ w with ln:=w.ln.set i (yfD n (gx w.ln i).q.length (gx w.ln i)) }
def arrF(fates:List Int)(w:Wst):Wst :=
  (w.fl.filter fun a=>decide (a.2=w.tk)).foldl (fun w a=>yed fates w a.1) { w with fl:=w.fl.filter fun a=>decide (¬a.2=w.tk) }
def outF(n:Nat)(p:Nat)(w:Wst)(x:Int×Int):Wst :=
  if x.1=p then yge w p x.2 else
    let i:=p*n+x.1.toNat
    { w with ln:=w.ln.set i { gx w.ln i with q:=(gx w.ln i).q++[x.2] } }
def ydw(rules:List (List (List ycJ)))(w:Wst)(p:Nat):Wst :=
  match (gx w.wt p).findIdx? fun n=>decide (0<n) with
  | none=>w
  | some k =>
    let r:=gx (gx (gx rules p) (gi w.st p).toNat) k
    r.2.foldl (outF rules.length p) { w with wt:=w.wt.set p ((gx w.wt p).set k (gi (gx w.wt p) k-1)),ct:=w.ct.set p ((gx w.ct p).set k (gi (gx w.ct p) k+1)),st:=w.st.set p r.1 }
def lineF(fates:List Int)(w:Wst)(i:Nat):Wst :=
  let l:=gx w.ln i
  if 0<l.q.length∧(l.snt=0∨4≤w.tk-l.snt) then
    let w1:=yfz fates w (.lt i (l.rem+1) (gi l.q 0))
    { w1 with ln:=w1.ln.set i { gx w1.ln i with snt:=w1.tk } }
  else w
def yhX(rules:List (List (List ycJ)))(fates:List Int)(w:Wst):Wst :=
  let w1:=arrF fates { w with tk:=w.tk+1 }
  let w2:=(List.range rules.length).foldl (ydw rules) w1
  (List.range w2.ln.length).foldl (lineF fates) w2
def ygr(w:Wst):Bool:=!w.fl.isEmpty || w.ln.any (fun l=>!l.q.isEmpty) || w.wt.any fun r=>r.any fun n=>decide (n≠0)
def begF(rules:List (List (List ycJ)))(st:List Int)(wt:List (List Int)):Wst :=
  { st:=st,wt:=wt,ct:=wt.map fun r=>List.replicate r.length 0,ln:=(List.range rules.length).flatMap fun p:Nat=>(List.range rules.length).map fun q:Nat=>(⟨[],0,0,((p:Nat):Int),((q:Nat):Int),0⟩:Ln),fl:=[],tk:=0,sn:=0,lg:=false }
def pairR:List (List (List ycJ)):=[[[(0,[(1,0)])]],[[(0,[])]]]
def pileR:List (List (List ycJ)):=[[[(0,[])]],[[(1,[])],[(0,[(0,0),(2,0)])]],[[(1,[])],[(0,[(0,0),(1,0)])]]]
end Go.Proofs.YtjepipbkiadcpaaGreat

/- What the arguments of the laws read as: numbers, lists, graphs; and what is handed back. -/
namespace Go.Proofs.YtjepipbkiadcpaaGreat
open Go Go.ChangeShapes Go.WideShapes Go.ChangeAt Go.RowKit Go.Joins Go.Deep Go.Proofs.Tryz
theorem own:ownKnob Tryz.prog.godebug=none:=by kernel_rfl
theorem laidOut:laidOutB Tryz.prog=true:=by kernel_rfl
theorem ygX:Tryz.prog.cellsOf 3=1:=by kernel_rfl
theorem cells_graph:Tryz.prog.cellsOf 24=2:=by kernel_rfl
theorem cells_edge:Tryz.prog.cellsOf 67=3:=by kernel_rfl
theorem cells3{w:World}{base:Nat}{a:Addr}{cs:List Value}(h:w.cells? base a 3=some cs):∃ x y z,cs=[x,y,z]∧w.cell? a=some x∧w.cell? (a.add 1)=some y∧w.cell? (a.add 2)=some z:=by
  unfold World.cells? at h
  split at h
  · have e:List.range 3=[0,1,2]:=rfl
    rw [e] at h
    cases h0:w.cell? (a.add 0) with
    | none=>simp [h0] at h
    | some x =>
      cases h1:w.cell? (a.add 1) with
      | none=>simp [h0,h1] at h
      | some y =>
        cases h2:w.cell? (a.add 2) with
        | none=>simp [h0,h1,h2] at h
        | some z =>
          simp [h0,h1,h2] at h
          exact ⟨x,y,z,h.symm,h0,rfl,rfl⟩
  · cases h
theorem ints_sl{W:World}{A:Option Addr}{xs:List Int}{c:Nat}(hc:xs.length≤c)(h:Ints W A xs):(FP.sl cI A xs.length c xs).P no W:=by
  refine ⟨rfl,hc,fun h0=>?_⟩
  obtain ⟨b,off,e,hb,hcell⟩:=h h0
  refine ⟨b,off,e,hb,id,fun k x hx=>⟨_,rfl,fun j u hj=>?_⟩⟩
  have hk:k<xs.length:=(List.getElem?_eq_some_iff.1 hx).1
  have hj0:j=0:=by
    have:=(List.getElem?_eq_some_iff.1 hj).1
    simp [fI] at this;exact this
  subst hj0
  have hu:u = .int .i64 x:=by
    have:(some (Value.int .i64 x))=some u:=hj
    simpa using this.symm
  rw [yaQ hk] at hx
  cases hx
  rw [hu]
  have:=hcell k hk
  simpa [cI,Fl.cod,fI] using this
theorem edges_sl{W:World}{A:Option Addr}{xs:List E3}{c:Nat}(hc:xs.length≤c)(h:yhx W A xs):(FP.sl c3 A xs.length c xs).P no W:=by
  refine ⟨rfl,hc,fun h0=>?_⟩
  obtain ⟨b,off,e,hb,hcell⟩:=h h0
  refine ⟨b,off,e,hb,id,fun k x hx=>⟨_,rfl,fun j u hj=>?_⟩⟩
  have hk:k<xs.length:=(List.getElem?_eq_some_iff.1 hx).1
  rw [ydJ hk] at hx
  cases hx
  obtain ⟨q0,q1,q2⟩:=hcell k hk
  match j,hj with
  | 0,hj =>
    have:(some (Value.int .i64 (ge xs k).1))=some u:=hj
    cases this;exact q0
  | 1,hj =>
    have:(some (Value.int .i64 (ge xs k).2.1))=some u:=hj
    cases this;exact q1
  | 2,hj =>
    have:(some (Value.int .i64 (ge xs k).2.2))=some u:=hj
    cases this;exact q2
  | j+3,hj=>cases hj
set_option maxRecDepth 100000
variable {H : Type} {enc : TypeId × Value → H} {W : World} {r : Reach} {b0 : Nat}
theorem open_list{t:TypeId}(ht:Tryz.prog.underlying t=some (.slice 3)){v:Value}{d:DataW H}{p:List MemPlace}(hv:Value.okWide Tryz.prog W r b0 t v)(h:DataW.Trod enc Tryz.prog W 0 (fun _=>true) true t v d p) :
    ∃ (A:Option Addr) (l:List Int) (c:Nat),v = .slice A l.length c∧(FP.sl cI A l.length c l).P no W:=by
  suffices h:∃ (A:Option Addr) (l:List Int) (c:Nat),v = .slice A l.length c∧l.length≤c∧Ints W A l by
    obtain ⟨A,l,c,e,hlc,hi⟩:=h
    exact ⟨A,l,c,e,ints_sl hlc hi⟩
  obtain ⟨a0,len,cap,rfl⟩:=okWide_slice ht hv
  obtain ⟨fuel,hf⟩:=h
  rcases open_ints ht underlying3 ygX hf with ⟨hcs,hx⟩ | ⟨a,len',cap',zs,hcs,_,hl,hm,hz,hx,hcell,hwz⟩
  · simp [Value.cells] at hcs
    obtain ⟨rfl,rfl,rfl⟩:=hcs
    exact ⟨none,[],0,rfl,Nat.le_refl _,Ints.nil _ _⟩
  · simp [Value.cells] at hcs
    obtain ⟨rfl,rfl,rfl⟩:=hcs
    simp only [if_true] at hz
    refine ⟨some a,zs.take len,cap,by rw [List.length_take,Nat.min_eq_left (by omega)],by rw [List.length_take];omega,fun hp=>?_⟩
    rw [List.length_take,Nat.min_eq_left (by omega)] at hp ⊢
    obtain ⟨b,off,rfl,hc⟩:=ints_at hcell (by omega)
    refine ⟨b,off,rfl,?_,fun k hk=>?_⟩
    · have:=hc 0 (by omega)
      apply Nat.lt_of_not_le
      intro hle
      unfold World.cell? at this
      rw [Array.getElem?_eq_none hle] at this
      simp at this
    · rw [hc k (by omega),yba (by rw [List.length_take];omega),List.getElem_take,List.getD_eq_getElem?_getD,List.getElem?_eq_getElem (by omega)]
      rfl
theorem open_ints_f{t:TypeId}(ht:Tryz.prog.underlying t=some (.slice 3)){fuel:Nat}{v:Value}{x:DataW H×List MemPlace}(hf:DataW.trod enc Tryz.prog W 0 (fun _=>true) true fuel t [v]=some x) :
    ∃ (A:Option Addr) (l:List Int) (c:Nat),v = .slice A l.length c∧(FP.sl cI A l.length c l).P no W:=by
  suffices h:∃ (A:Option Addr) (l:List Int) (c:Nat),v = .slice A l.length c∧l.length≤c∧Ints W A l by
    obtain ⟨A,l,c,e,hlc,hi⟩:=h
    exact ⟨A,l,c,e,ints_sl hlc hi⟩
  rcases open_ints ht underlying3 ygX hf with ⟨hcs,hx⟩ | ⟨a,len',cap',zs,hcs,_,hl,hm,hz,hx,hcell,hwz⟩
  · simp at hcs
    subst hcs
    exact ⟨none,[],0,rfl,Nat.le_refl _,Ints.nil _ _⟩
  · simp at hcs
    subst hcs
    simp only [if_true] at hz
    refine ⟨some a,zs.take len',cap',by rw [List.length_take,Nat.min_eq_left (by omega)],by rw [List.length_take];omega,fun hp=>?_⟩
    rw [List.length_take,Nat.min_eq_left (by omega)] at hp ⊢
    obtain ⟨b,off,rfl,hc⟩:=ints_at hcell (by omega)
    refine ⟨b,off,rfl,?_,fun k hk=>?_⟩
    · have:=hc 0 (by omega)
      apply Nat.lt_of_not_le
      intro hle
      unfold World.cell? at this
      rw [Array.getElem?_eq_none hle] at this
      simp at this
    · rw [hc k (by omega),yba (by rw [List.length_take];omega),List.getElem_take,List.getD_eq_getElem?_getD,List.getElem?_eq_getElem (by omega)]
      rfl
theorem open_edge{fuel base:Nat}{spare:Nat→Bool}{held:Bool}{x y z:Value}{o:DataW H×List MemPlace}(h:DataW.trod enc Tryz.prog W base spare held fuel 67 [x,y,z]=some o):∃ a b c:Int,x = .int .i64 a∧y = .int .i64 b∧z = .int .i64 c:=by
  obtain ⟨xs,n,_,rfl,hl,hlen,hf⟩:=DataW.trod_struct underlying67 h
  obtain ⟨x0,x1,x2,rfl⟩:∃ x0 x1 x2,xs=[x0,x1,x2]:=by
    match xs,hlen with
    | [x0,x1,x2],_=>exact ⟨_,_,_,rfl⟩
  have f0:=hf 0 _ rfl
  have f1:=hf 1 _ rfl
  have f2:=hf 2 _ rfl
  simp [ygX] at f0 f1 f2
  obtain ⟨a,e0, -, -⟩:=DataW.trod_int underlying3 f0
  obtain ⟨b,e1, -, -⟩:=DataW.trod_int underlying3 f1
  obtain ⟨c,e2, -, -⟩:=DataW.trod_int underlying3 f2
  simp at e0 e1 e2
  exact ⟨a,b,c,e0,e1,e2⟩
end Go.Proofs.YtjepipbkiadcpaaGreat

/- What arguments read as: lists of lists, pairs of lists. -/
namespace Go.Proofs.YtjepipbkiadcpaaGreat
open Go Go.ChangeShapes Go.WideShapes Go.ChangeAt Go.RowKit Go.Joins Go.Deep Go.Proofs.Tryz
set_option maxRecDepth 100000
variable {H : Type} {enc : TypeId × Value → H} {W : World} {r : Reach} {b0 : Nat}
theorem open_sl1{τ:Type}{c:Cod τ}(hsz:c.sz=1){t e:TypeId}(ht:Tryz.prog.underlying t=some (.slice e))(hc:Tryz.prog.cellsOf e=1)
    (hel:∀ (n:Nat) (v:Value) (x:DataW H×List MemPlace),DataW.trod enc Tryz.prog W 0 (fun _=>true) true n e [v]=some x→∃ y:τ,c.R no W [v] y) {fuel:Nat} {v:Value} {x:DataW H×List MemPlace} (hf:DataW.trod enc Tryz.prog W 0 (fun _=>true) true fuel t [v]=some x) :
    ∃ (A:Option Addr) (l:List τ) (cap:Nat),v = .slice A l.length cap∧(FP.sl c A l.length cap l).P no W:=by
  rcases open_slice1 ht hc hf with ⟨hcs,hx⟩ | ⟨a,len,cap,m,n,V,D,Pl,hcs,_,hl,hm,hmm,hx,hV⟩
  · simp at hcs
    subst hcs
    exact ⟨none,[],0,rfl,rfl,Nat.le_refl _,Sl.nil _ _ _ _⟩
  · simp at hcs
    subst hcs
    simp only [if_true] at hmm
    obtain ⟨Y,hY⟩:∃ Y:Nat→Option τ,∀ i,i<len→∃ y,Y i=some y∧c.R no W [V i] y:=by
      have:∀ i,∃ o:Option τ,i<len→∃ y,o=some y∧c.R no W [V i] y:=fun i=>by
        by_cases h:i<len
        · obtain ⟨y,hy⟩:=hel n (V i) _ (hV i (by omega)).2
          exact ⟨some y,fun _=>⟨y,rfl,hy⟩⟩
        · exact ⟨none,fun q=>absurd q h⟩
      exact Classical.skolem.1 this
    have hlist:∃ l:List τ,l.length=len∧∀ i y,l[i]? = some y→c.R no W [V i] y:=by
      have:∀ k,k≤len→∃ l:List τ,l.length=k∧∀ i y,l[i]? = some y→c.R no W [V i] y:=fun k=>by
        induction k with
        | zero=>intro _;exact ⟨[],rfl,fun i y h=>by simp at h⟩
        | succ k ih =>
          intro hk
          obtain ⟨l,h1,h2⟩:=ih (by omega)
          obtain ⟨y, -,hy⟩:=hY k (by omega)
          refine ⟨l++[y],by simp [h1],fun i z hz=>?_⟩
          by_cases q:i<l.length
          · rw [List.getElem?_append_left q] at hz;exact h2 i z hz
          · have hi:=(List.getElem?_eq_some_iff.1 hz).1
            have e:i=k:=by simp at hi;omega
            subst e
            rw [List.getElem?_append_right (by omega),h1] at hz
            simp at hz
            rw [←hz];exact hy
      exact this len (Nat.le_refl _)
    obtain ⟨l,hll,hlR⟩:=hlist
    refine ⟨some a,l,cap,by rw [hll],rfl,by omega,fun hp=>?_⟩
    obtain ⟨b,off,spot⟩:=a
    have h0:=(hV 0 (by omega)).1
    have hspot:spot=none:=by simpa [Addr.add] using World.cell?_spot h0
    subst hspot
    refine ⟨b,off,rfl,?_,id,fun k y hy=>⟨_,hlR k y hy,fun j u hj=>?_⟩⟩
    · apply Nat.lt_of_not_le
      intro hle
      unfold World.cell? at h0
      rw [Array.getElem?_eq_none (by simpa [Addr.add] using hle)] at h0
      simp at h0
    · have hk:=(List.getElem?_eq_some_iff.1 hy).1
      have hj0:j=0:=by
        have:=(List.getElem?_eq_some_iff.1 hj).1
        simp at this;exact this
      subst hj0
      have hu:V k=u:=by simpa using hj
      have h1:=(hV k (by omega)).1
      rw [hsz,←hu]
      simpa [Addr.add_mid] using h1
theorem open_lists_f{t e:TypeId}(ht:Tryz.prog.underlying t=some (.slice e))(he:Tryz.prog.underlying e=some (.slice 3))(hc:Tryz.prog.cellsOf e=1){fuel:Nat}{v:Value}{x:DataW H×List MemPlace}(hf:DataW.trod enc Tryz.prog W 0 (fun _=>true) true fuel t [v]=some x) :
    ∃ (A:Option Addr) (l:List (List Int)) (c:Nat),v = .slice A l.length c∧(FP.sl (cL cI) A l.length c l).P no W :=
  open_sl1 (c:=cL cI) rfl ht hc (fun n v x hx=>by
    obtain ⟨A,l,cap,rfl,h1,h2,h3⟩:=open_ints_f he hx
    exact ⟨l,A,_,cap,rfl,rfl,h2,h3⟩) hf
end Go.Proofs.YtjepipbkiadcpaaGreat

/- What arguments read as: a ribbon (a graph and a list of lists, by value). -/
namespace Go.Proofs.YtjepipbkiadcpaaGreat
open Go Go.ChangeShapes Go.WideShapes Go.ChangeAt Go.RowKit Go.Joins Go.Deep Go.Proofs.Tryz
set_option maxRecDepth 100000
variable {H : Type} {enc : TypeId × Value → H} {W : World} {r : Reach} {b0 : Nat}
theorem cells_edges:Tryz.prog.cellsOf 22=1:=by kernel_rfl
theorem edges_f{fuel:Nat}{v:Value}{x:DataW H×List MemPlace}(hy1:DataW.trod enc Tryz.prog W 0 (fun _=>true) true fuel 22 [v]=some x) :
    ∃ (A:Option Addr) (es:List E3) (c:Nat),v = .slice A es.length c∧(FP.sl c3 A es.length c es).P no W:=by
  suffices h:∃ (A:Option Addr) (es:List E3) (c:Nat),v = .slice A es.length c∧es.length≤c∧yhx W A es by
    obtain ⟨A,l,c,e,hlc,hi⟩:=h
    exact ⟨A,l,c,e,edges_sl hlc hi⟩
  rcases open_slice underlying22 hy1 with ⟨hcs, -⟩ | ⟨a,len,cap,mm,nn,D,Pl,hcs, -,hl,hm,hmm, -,hel⟩
  · simp at hcs
    subst hcs
    exact ⟨none,[],0,rfl,Nat.le_refl _,fun h=>absurd h (by simp)⟩
  · simp at hcs
    subst hcs
    simp only [if_true] at hmm
    have hex:∀ i,i<len→∃ e:E3,W.cell? (a.add (i*3))=some (.int .i64 e.1)∧W.cell? ((a.add (i*3)).add 1)=some (.int .i64 e.2.1)∧W.cell? ((a.add (i*3)).add 2)=some (.int .i64 e.2.2):=fun i hi=>by
      obtain ⟨cs',hc,ht⟩:=hel i (by omega)
      rw [cells_edge] at hc
      obtain ⟨x,y,z,rfl,k0,k1,k2⟩:=cells3 hc
      obtain ⟨xa,xb,xc,rfl,rfl,rfl⟩:=open_edge ht
      exact ⟨(xa,xb,xc),k0,k1,k2⟩
    let f:Nat→E3:=fun i=>if h:i<len then Classical.choose (hex i h) else (0,0,0)
    have hf:∀ i,i<len→W.cell? (a.add (i*3))=some (.int .i64 (f i).1)∧W.cell? ((a.add (i*3)).add 1)=some (.int .i64 (f i).2.1)∧W.cell? ((a.add (i*3)).add 2)=some (.int .i64 (f i).2.2):=fun i hi=>by
      show _∧_∧_
      have e:f i=Classical.choose (hex i hi):=dif_pos hi
      rw [e]
      exact Classical.choose_spec (hex i hi)
    have hlen:((List.range len).map f).length=len:=by simp
    refine ⟨some a,(List.range len).map f,cap,by rw [hlen],by rw [hlen];omega,fun hp=>?_⟩
    rw [hlen] at hp ⊢
    obtain ⟨b,off,spot⟩:=a
    have hspot:spot=none:=by simpa [Addr.add] using World.cell?_spot (hf 0 hp).1
    subst hspot
    refine ⟨b,off,rfl,?_,fun k hk=>?_⟩
    · have:=(hf 0 hp).1
      apply Nat.lt_of_not_le
      intro hle
      unfold World.cell? at this
      rw [Array.getElem?_eq_none (by simpa [Addr.add] using hle)] at this
      simp at this
    · have hg:ge ((List.range len).map f) k=f k:=by rw [yfn (by rw [hlen];exact hk)];simp
      rw [hg]
      have:=hf k hk
      simpa [Addr.add_mid] using this
theorem graph_f{fuel:Nat}{a b:Value}{x:DataW H×List MemPlace}(h:DataW.trod enc Tryz.prog W 0 (fun _=>true) true fuel 24 [a,b]=some x) :
    ∃ (n:Int) (A:Option Addr) (es:List E3) (c:Nat),a = .int .i64 n∧b = .slice A es.length c∧(FP.sl c3 A es.length c es).P no W:=by
  obtain ⟨y0,y1,m, -, -,h0,h1⟩:=trod_struct2 underlying24 h
  simp [ygX,cells_edges] at h0 h1
  obtain ⟨n,e0, -, -⟩:=DataW.trod_int underlying3 h0
  simp at e0
  subst e0
  obtain ⟨A,es,c,e1,hp⟩:=edges_f h1
  exact ⟨n,A,es,c,rfl,e1,hp⟩
theorem cells_ribbon:Tryz.prog.cellsOf 45=3:=by kernel_rfl
theorem open_ribbon{t e:TypeId}(hs:∃ f0 f1:Field,Tryz.prog.underlying 45=some (.struct #[f0,f1])∧f0.type=24∧f0.offset=0∧f1.type=t∧f1.offset=2)(ht:Tryz.prog.underlying t=some (.slice e))(he:Tryz.prog.underlying e=some (.slice 3))(hct:Tryz.prog.cellsOf t=1)(hce:Tryz.prog.cellsOf e=1){v:Value}{d:DataW H}{p:List MemPlace}(hv:Value.okWide Tryz.prog W r b0 45 v)(h:DataW.Trod enc Tryz.prog W 0 (fun _=>true) true 45 v d p) :
    ∃ (n:Int) (A:Option Addr) (es:List E3) (c:Nat) (B:Option Addr) (ys:List (List Int)) (k:Nat),v = .agg #[.int .i64 n, .slice A es.length c, .slice B ys.length k]∧(FP.sl c3 A es.length c es).P no W∧(FP.sl (cL cI) B ys.length k ys).P no W:=by
  obtain ⟨f0,f1,hs,t0,o0,t1,o1⟩:=hs
  obtain ⟨cs,rfl,hsz⟩:=okWide_struct hs hv
  obtain ⟨c0,c1,c2,rfl⟩:=array3 (hsz.trans cells_ribbon)
  obtain ⟨fuel,hf⟩:=h
  obtain ⟨y0,y1,m, -, -,h0,h1⟩:=trod_struct2 hs hf
  rw [t0,o0] at h0
  rw [t1,o1] at h1
  simp [Value.cells,cells_graph,hct] at h0 h1
  obtain ⟨n,A,es,c,rfl,rfl,hp⟩:=graph_f h0
  obtain ⟨B,ys,k,rfl,hq⟩:=open_lists_f ht he hce h1
  exact ⟨n,A,es,c,B,ys,k,rfl,hp,hq⟩
end Go.Proofs.YtjepipbkiadcpaaGreat
