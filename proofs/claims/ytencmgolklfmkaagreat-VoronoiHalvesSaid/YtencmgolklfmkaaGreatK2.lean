/- Texts laid together: Map, Ret, Arr, Col, Dr, Men, MapI, Kt, Chips, Slices, Forest, Links, Joins, Begin, Burn, Use, Sb, Sc, Rep, Bfs, Dist, Fire2, Settle, Lend, Sum, Result, Math, GoodL, GoodS, GoodT, Graph, Connect, Parts, Conn2, Con, Red, Reduce, Unb, Awake, Rm, RedIn, Wr, Dfr, ItH, Cpk, Cut, Alt, Ot, Eqa, Lex, Prt, Tab, Wrp, Cnt, Opn, Opn2. -/
import Derived.Maps.Keyed
import Derived.DeepKeys4
import Derived.Test.YtencmgolklfmkaaGreatProg
import Derived.ChangeAlike
import Derived.Handy
import Derived.Deep.QuietTactic
import Derived.BigQuiet
import Derived.Deep.RegionHeld3
import Derived.Laws.OwnMore
import Derived.Deep.Draws
import Derived.RangeFuncNested
import Derived.RangeFuncBound
import Derived.RangeFuncCalls
import Derived.RangeFuncLeaves
import Derived.RangeFuncFrom
import Derived.Shelf.Abstract
import Derived.Shelf.RegionOpen
import Derived.OwnWalkIn
import Derived.TacticsInMore
import Derived.LoopNIn
import Derived.LoopIn
import Derived.Deep.RegionWith
import Derived.Deep.LoopGhost
import Derived.Maps.Own
import Derived.Maps.OwnOps
import Derived.Deep.AppendLies
import Derived.Deep.RegionLaw
import Derived.ChangeKeysEq
import Derived.Test.YtencmgolklfmkaaGreatRows
import Derived.ProofKit
import Derived.Lib.SmallJoins
import Derived.Deep.Slices
import Derived.Below
import Derived.OpenShut
import Derived.Test.YtencmgolklfmkaaGreatK1
set_option linter.unusedVariables false
set_option linter.unusedSimpArgs false
set_option linter.unusedSectionVars false
/- Maps of one's own, keyed by arrays of numbers: what they hold as a list of pairs. No program in sight. -/
namespace Go.Proofs.YtencmgolklfmkaaGreat
open Go Go.RowKit Go.Shelf Go.Proofs.Tryz
def kE(l:List Int):Value := .agg (l.map (Value.int .i64)).toArray
section
variable {τ : Type}
def mget:List (List Int×τ)→List Int→Option τ
  | [],_=>none
  | p::t,k=>if p.1=k then some p.2 else mget t k
def mput:List (List Int×τ)→List Int→τ→List (List Int×τ)
  | [],k,v=>[(k,v)]
  | p::t,k,v=>if p.1=k then (k,v)::t else p::mput t k v
def KeyOk(n:Nat)(k:List Int):Prop:=k.length=n∧∀ x∈k,In64 x
def KOk(n:Nat)(m:List (List Int×τ)):Prop:=m.Pairwise (fun p q=>p.1≠q.1)∧∀ p∈m,KeyOk n p.1
theorem KOk.nil(n:Nat):KOk n ([]:List (List Int×τ)):=⟨.nil,fun p h=>by simp at h⟩
theorem mput_mem{m:List (List Int×τ)}{k:List Int}{v:τ}{p:List Int×τ}(h:p∈mput m k v):p.1=k∨p∈m:=by
  induction m with
  | nil=>simp [mput] at h;left;rw [h]
  | cons a t ih =>
    unfold mput at h
    split at h
    · rcases List.mem_cons.1 h with h | h
      · left;rw [h]
      · right;exact List.mem_cons_of_mem _ h
    · rcases List.mem_cons.1 h with h | h
      · right;rw [h];exact List.mem_cons_self
      · rcases ih h with h | h
        · exact .inl h
        · exact .inr (List.mem_cons_of_mem _ h)
theorem KOk.put{n:Nat}{m:List (List Int×τ)}(h:KOk n m){k:List Int}(hk:KeyOk n k)(v:τ):KOk n (mput m k v):=by
  refine ⟨?_,fun p hp=>?_⟩
  · obtain ⟨h1, -⟩:=h
    induction m with
    | nil=>exact .cons (fun _ h=>by simp at h) .nil
    | cons a t ih =>
      unfold mput
      rw [List.pairwise_cons] at h1
      split
      · rename_i e
        rw [List.pairwise_cons]
        exact ⟨fun q hq=>by have:=h1.1 q hq;rw [e] at this;exact this,h1.2⟩
      · rename_i e
        rw [List.pairwise_cons]
        refine ⟨fun q hq=>?_,ih h1.2⟩
        rcases mput_mem hq with h | h
        · rw [h];exact e
        · exact h1.1 q h
  · rcases mput_mem hp with h1 | h1
    · rw [h1];exact hk
    · exact h.2 p h1
theorem mget_put{m:List (List Int×τ)}{k k':List Int}{v:τ} : mget (mput m k v) k'=if k=k' then some v else mget m k':=by
  induction m with
  | nil=>rfl
  | cons a t ih =>
    unfold mput
    by_cases e:a.1=k
    · rw [if_pos e]
      show (if k=k' then some v else mget t k')=_
      by_cases e2:k=k'
      · rw [if_pos e2,if_pos e2]
      · rw [if_neg e2,if_neg e2]
        show _=if a.1=k' then some a.2 else mget t k'
        rw [if_neg (by rw [e];exact e2)]
    · rw [if_neg e]
      show (if a.1=k' then some a.2 else mget (mput t k v) k')=_
      rw [ih]
      by_cases e2:k=k'
      · subst e2;simp [e]
      · rw [if_neg e2,if_neg e2];rfl
theorem mput_length{m:List (List Int×τ)}{k:List Int}{v:τ} : (mput m k v).length=if (mget m k).isSome then m.length else m.length+1:=by
  induction m with
  | nil=>rfl
  | cons a t ih =>
    unfold mput mget
    by_cases e:a.1=k
    · rw [if_pos e,if_pos e];rfl
    · rw [if_neg e,if_neg e,List.length_cons,ih]
      split <;> rfl
theorem mget_mem{m:List (List Int×τ)}{k:List Int}{v:τ}(h:mget m k=some v):(k,v)∈m:=by
  induction m with
  | nil=>cases h
  | cons a t ih =>
    unfold mget at h
    split at h
    · rename_i e
      cases h
      rw [←e];exact List.mem_cons_self
    · exact List.mem_cons_of_mem _ (ih h)
theorem mget_at{m:List (List Int×τ)}(hd:m.Pairwise (fun p q=>p.1≠q.1)){k:List Int}{v:τ}{j:Nat}(h:m[j]? = some (k,v)):mget m k=some v:=by
  induction m generalizing j with
  | nil=>simp at h
  | cons a t ih =>
    rw [List.pairwise_cons] at hd
    unfold mget
    cases j with
    | zero=>simp at h;subst h;rw [if_pos rfl]
    | succ j =>
      rw [List.getElem?_cons_succ] at h
      rw [if_neg (hd.1 _ (List.mem_of_getElem? h))]
      exact ih hd.2 h
theorem mput_at{m:List (List Int×τ)}(hd:m.Pairwise (fun p q=>p.1≠q.1)){k:List Int}{v v':τ}{j:Nat}(h:m[j]? = some (k,v)):mput m k v'=m.set j (k,v'):=by
  induction m generalizing j with
  | nil=>simp at h
  | cons a t ih =>
    rw [List.pairwise_cons] at hd
    unfold mput
    cases j with
    | zero=>simp at h;subst h;rw [if_pos rfl];rfl
    | succ j =>
      rw [List.getElem?_cons_succ] at h
      rw [if_neg (hd.1 _ (List.mem_of_getElem? h)),List.set_cons_succ,ih hd.2 h]
theorem mput_none{m:List (List Int×τ)}{k:List Int}{v:τ}(h:∀ p∈m,p.1≠k):mput m k v=m++[(k,v)]:=by
  induction m with
  | nil=>rfl
  | cons a t ih =>
    unfold mput
    rw [if_neg (h a List.mem_cons_self),ih fun p hp=>h p (List.mem_cons_of_mem _ hp)]
    rfl
end
section
variable {τ : Type} {P : Program} {w : World} {k e mt : TypeId} {n : Nat} {vE : τ → Value} {m : List (List Int × τ)} {b : Nat} {key : List Int}
structure KeyT(P:Program)(k:TypeId)(n:Nat):Prop where
  law:Maps.Keyed P k
  of:∀ l,KeyOk n l→∃ t,keyOf P k (kE l)=some t
end
section
variable {τ : Type} {P : Program} {E : Env} {w : World} {d : Option Tmp} {x y z : Operand} {ty xt k e : TypeId} {ps : String} {af : Array Edge} {g : Option (Nat × Bool)} {K : Value → World → Prop} {n b : Nat} {vE : τ → Value} {m : List (List Int × τ)} {key : List Int}
end
section
variable {τ : Type} {w0 w w' : World} {S O : Nat → Prop} {L : Hold} {vE : τ → Value} {m : List (List Int × τ)} {b : Nat}
theorem Sep.newm(h:Sep w0 S O w L)(i:Nat)(hi:L i = .gone){g:Nat}{o:Obj}(h1:g=w.heap.size)(h2:w'=w.alloc o):Sep w0 S O w' (stl L i (.obj g o)):=by
  subst h1
  refine h.add i hi _ (w':=w') (by rw [h2];exact (Keeps.refl _ _).alloc _) (fun k hk=>by cases hk;exact Nat.le_refl _) ⟨Nat.zero_le _,?_⟩
  rw [h2];exact heap_alloc_new w _
theorem Sep.mp(h:Sep w0 S O w L)(i:Nat){g:Nat}{o:Obj}(hi:L i = .obj g o):w.heap[g]? = some o:=by
  have:=h.ok i;rw [hi] at this;exact this.2
theorem Sep.mst(h:Sep w0 S O w L)(i:Nat){g:Nat}{o o':Obj}(hi:L i = .obj g o)(h1:w'.heap[g]? = some o')(h2:Keeps (fun j=>j=g) w w'):Sep w0 S O w' (stl L i (.obj g o')) :=
  h.upd i _ h2 (fun k _ e=>by rw [hi,e]) (fun k hk=>by cases hk;rw [hi];exact .inl rfl) ⟨Nat.zero_le _,h1⟩
end
section
variable {τ : Type} {c : Cod τ} {O : Nat → Prop} {w : World} {A : Option Addr} {l cap : Nat} {xs : List τ}
theorem yhj(h:(FP.sl c A l cap xs).P O w){i:Int}(hx:0≤i∧i<(l:Int)):0≤i∧i<((xs.length:Nat):Int):=⟨hx.1,by rw [←yaD h];exact hx.2⟩
theorem arr_info{P:Program}{xt:TypeId}{zo:Option Value}{b:Nat}{xs:List Int}(hi:(P.info? xt).map (fun i=>(i.zero,i.size,i.bytes))=some (zo,l,b))(h:(FP.sl cI A l cap xs).P O w) :
    (P.info? xt).map (fun i=>(i.zero,i.size,i.bytes))=some (zo,(xs.map (Value.int .i64)).length,b):=by rw [hi,List.length_map,yaD h]
theorem yh1{g:Nat}{xs:List Int}(h:(FP.sl cI (some ⟨g,0,none⟩) l cap xs).P O w):Cells w ⟨g,0,none⟩ 0 (xs.map (Value.int .i64)):=by
  have H:∀ (ys:List Int) (k:Nat),(∀ j,j<ys.length→xs[k+j]? = ys[j]?)→Cells w ⟨g,0,none⟩ k (ys.map (Value.int .i64)):=by
    intro ys
    induction ys with
    | nil=>intro k _;trivial
    | cons y t ih =>
      intro k hk
      have h0:=hk 0 (by simp)
      simp only [Nat.add_zero,List.getElem?_cons_zero] at h0
      have hlt:=(List.getElem?_eq_some_iff.1 h0).1
      have hc:=rd_1 (f:=fI .i64) h (i:=(k:Int)) (x:=y) ⟨by omega,by omega⟩ (fun _=>by simpa using h0) (u := .int .i64 y) rfl
      refine ⟨?_,ih (k+1) fun j hj=>?_⟩
      · have e:ixA (some (⟨g,0,none⟩:Addr)) (k:Int) (fI .i64).sz=(⟨g,0,none⟩:Addr).add k:=by
          show (⟨g,0,none⟩:Addr).add ((k:Int).toNat*1)=_
          rw [Int.toNat_natCast,Nat.mul_one]
        rwa [e] at hc
      · have:=hk (j+1) (by simpa using hj)
        rw [List.getElem?_cons_succ] at this
        rw [←this];congr 1;omega
  exact H xs 0 fun j _=>by rw [Nat.zero_add]
end
section
variable {P : Program} {E : Env} {w : World} {d : Option Tmp} {x y z : Operand} {ty xt yt : TypeId} {ps : String} {af : Array Edge} {g : Option (Nat × Bool)} {K : Value → World → Prop}
theorem yew{p:Addr}{l:Nat}{e:TypeId}{k:IntKind}{i:Int}{zo:Option Value}{n b:Nat}(hx:evE E x = .pointer (some p))(hy:evE E y = .int k i)(hu:P.underlying xt=some (.array l e))
    (hi:(P.info? e).map (fun i=>(i.zero,i.size,i.bytes))=some (zo,n,b)) (h:0≤i∧i<(l:Int)):(execOp (evE E) ⟨d, .indexAddr xt x y,ty,ps,af,g⟩).run P w = .ok (.value (.pointer (some (ixA (some p) i n)))) w :=
  ybE hx hy hu hi h
def cpy(xs ys:List Int):List Int:=ys.take xs.length++xs.drop ys.length
theorem cpy_length(xs ys:List Int):(cpy xs ys).length=xs.length:=by unfold cpy;simp;omega
theorem OwnS.setN{B:Nat}{e:TypeId}{l c g:Nat} : ∀ (vs:List Value) (k:Nat) {w:World} {xs:List Value},OwnS w B e 1 (some ⟨g,0,none⟩) l c xs→k+vs.length≤xs.length→OwnS (w.setCells g k vs) B e 1 (some ⟨g,0,none⟩) l c (xs.take k++vs++xs.drop (k+vs.length))
  | [],k,w,xs,h,hk=>by
    have e:w.setCells g k []=w:=rfl
    rw [e];simpa using h
  | v::t,k,w,xs,h,hk=>by
    simp only [List.length_cons] at hk
    have h1:=h.set1 (i:=k) (by omega) v rfl
    rw [Nat.zero_add] at h1
    have h2:=OwnS.setN t (k+1) h1 (by rw [List.length_set];omega)
    have e1:(xs.set k v).take (k+1)=xs.take k++[v]:=by
      rw [List.take_add_one,List.take_set_of_le (Nat.le_refl k),List.getElem?_set_self (by omega)];rfl
    have e2:(xs.set k v).drop (k+1+t.length)=xs.drop (k+(t.length+1)):=by
      rw [List.drop_set_of_lt (by omega),show k+1+t.length=k+(t.length+1) by omega]
    rw [e1,e2,List.append_assoc (xs.take k)] at h2
    exact h2
theorem Sep.copied{w0 w':World}{S O:Nat→Prop}{L:Hold}(h:Sep w0 S O w L)(i:Nat){t:TypeId}{gb l cp:Nat}{xs ys:List Int}(hi:L i = .own cI t (some ⟨gb,0,none⟩) l cp xs)(hw:w'=w.setCells gb 0 ((ys.take l).map (Value.int .i64))) :
    Sep w0 S O w' (stl L i (.own cI t (some ⟨gb,0,none⟩) l cp (cpy xs ys))):=by
  obtain ⟨hl,cells,ho,hE⟩:=h.own i hi
  have hcl:cells=xs.map (Value.int .i64):=by
    refine List.ext_getElem? fun j=>?_
    rw [List.getElem?_map]
    cases hq:xs[j]? with
    | none =>
      have:=List.getElem?_eq_none_iff.1 hq
      rw [List.getElem?_eq_none (by rw [ho.1];show l*1≤j;omega)];rfl
    | some q =>
      obtain ⟨vs,hv,hc⟩:=hE j q hq
      have hv:vs=[.int .i64 q]:=hv
      subst hv
      have:=hc 0 _ rfl
      have e3:j*cI.sz+0=j:=by show j*1+0=j;omega
      rw [e3] at this
      exact this
  subst hcl
  have hn:=OwnS.setN ((ys.take l).map (Value.int .i64)) 0 ho (by simp;omega)
  have ecp:(xs.map (Value.int .i64)).take 0++(ys.take l).map (Value.int .i64)++(xs.map (Value.int .i64)).drop (0+((ys.take l).map (Value.int .i64)).length)=(cpy xs ys).map (Value.int .i64):=by
    have e4:((ys.take l).map (Value.int .i64)).length=min l ys.length:=by simp
    unfold cpy
    rw [List.take_zero,List.nil_append,Nat.zero_add,e4,List.map_append,hl,←List.map_drop]
    congr 2
    by_cases c:ys.length≤xs.length
    · rw [Nat.min_eq_right c]
    · rw [List.drop_eq_nil_of_le (by omega),List.drop_eq_nil_of_le (by omega)]
  rw [ecp] at hn
  have hblk:(L i).has gb:=by rw [hi];rfl
  have hK:∀ (vs:List Value) (o:Nat) {a w:World},Keeps (fun k=>k=gb) a w→Keeps (fun k=>k=gb) a (w.setCells gb o vs):=by
    intro vs
    induction vs with
    | nil=>intro o a w h;exact h
    | cons v t ih=>intro o a w h;exact ih (o+1) (h.setCell (p:=⟨gb,o,none⟩) (fun _=>rfl) v)
  refine h.upd i _ (T:=fun k=>k=gb) (by rw [hw];exact hK _ _ (Keeps.refl _ _)) (fun k _ e=>by rw [e];exact hblk) (fun k hk => .inl (by rw [hi];exact hk)) ⟨by rw [cpy_length];exact hl,_,by rw [hw];exact hn,fun j q hj=>⟨[.int .i64 q],rfl,fun u v hu=>?_⟩⟩
  have hu0:u=0:=by
    have:=(List.getElem?_eq_some_iff.1 hu).1
    simp at this;exact this
  subst hu0
  simp at hu
  subst hu
  have e3:j*cI.sz+0=j:=by show j*1+0=j;omega
  rw [e3,List.getElem?_map,hj];rfl
end
end Go.Proofs.YtencmgolklfmkaaGreat

/- A function's end whose results lie partly in memory; pointers that may be nil; products as elements. No program in sight. -/
namespace Go.Proofs.YtencmgolklfmkaaGreat
open Go Go.RowKit Go.Shelf Go.Proofs.Tryz
def RvE(P:Program)(E:Env)(w:World):ResultVar→Value→Prop
  | .tmp t,v=>E t=v
  | .cell t y,v=>∃ a,E t = .pointer (some a)∧(loadVar y a).run P w = .ok v w
section
variable {P : Program} {E : Env} {w : World} {t : Tmp} {y : TypeId}
theorem rv_n{p:Addr}{u:TypeDesc}{vs:List Value}{zo:Option Value}{b:Nat}(h:E t = .pointer (some p))(hu:P.underlying y=some u)(hn:aggD u=true)(hi:(P.info? y).map (fun i=>(i.zero,i.size,i.bytes))=some (zo,vs.length,b))(hc:Cells w p 0 vs):RvE P E w (.cell t y) (.agg vs.toArray):=by
  refine ⟨p,h,?_⟩
  have:=yfo (P:=P) vs 0 #[] hc
  simp only [loadVar,Sem.run_bind,Result.andThen,ygY hu hn,ycB hi,if_true]
  simp only [loadCells,this,Sem.run_bind,Result.andThen,Sem.run_pure]
  simp
def rv1(tmps:Array Value):ResultVar→Sem Value
  | .tmp t=>pure (tmps.getD t undef)
  | .cell a t=>do loadVar t (←asAddr (tmps.getD a undef))
theorem rv1_run{rv:ResultVar}{v:Value}{N:Nat}{ds:List Deferred}{a:Act}(r:Rep N E ds a)(h:RvE P E w rv v):(rv1 a.tmps rv).run P w = .ok v w:=by
  cases rv with
  | tmp t =>
    show (Sem.run P (pure (a.tmps.getD t undef)) w)=_
    rw [r.get]
    rw [show E t=v from h];rfl
  | cell t y =>
    obtain ⟨p,h1,h2⟩:=h
    show Sem.run P (do loadVar y (←asAddr (a.tmps.getD t undef))) w=_
    rw [r.get,h1]
    simp only [asAddr,Sem.run_bind,Sem.run_pure,Result.andThen,h2]
end
section
variable {P : Program} {fn : Func} {F : Fence} {n : Nat} {N : Nat} {t : List Item} {R : Ending → World → Prop} {E : Env} {w : World} {q1 q2 q3 : ResultVar} {v1 v2 v3 : Value}
theorem results_eq(fn:Func)(tmps:Array Value):results fn tmps=(do let vs ←fn.results.mapM (rv1 tmps);pure (if h:vs.size=1 then vs[0] else .tuple vs)):=rfl
theorem ygc(hr:fn.results = #[q1])(h1:RvE P E w q1 v1)(h:R (.returned v1) w):WT F n P N (.code .ret::t) (bodyPost P fn R) E [] w :=
  yfs fun a r=>⟨r.defers,_,by
    rw [results_eq,hr]
    simp [Sem.run_bind,Result.andThen,rv1_run r h1],h⟩
end
theorem bp6{E:Env}{x1 x2 x3 x4 x5 x6:Operand}{v1 v2 v3 v4 v5 v6:Value}{i1 i2 i3 i4 i5 i6:Nat}(h1:evE E x1=v1)(h2:evE E x2=v2)(h3:evE E x3=v3)(h4:evE E x4=v4)(h5:evE E x5=v5)(h6:evE E x6=v6) : #[(i1,x1),(i2,x2),(i3,x3),(i4,x4),(i5,x5),(i6,x6)].map (fun (i,x)=>(i,evE E x)) = #[(i1,v1),(i2,v2),(i3,v3),(i4,v4),(i5,v5),(i6,v6)]:=by simp [h1,h2,h3,h4,h5,h6]
end Go.Proofs.YtencmgolklfmkaaGreat

/- Arrays of numbers as values: stored whole, handed back whole. -/
namespace Go.Proofs.YtencmgolklfmkaaGreat
open Go Go.RowKit Go.Shelf Go.Proofs.Tryz
theorem there_own{w0 w:World}{S O:Nat→Prop}{L:Hold}(h:Sep w0 S O w L)(i:Nat){t:TypeId}{gb l cp:Nat}{xs:List Int}(hi:L i = .own cI t (some ⟨gb,0,none⟩) l cp xs):w.there gb 0 l:=fun j hj=>by
  obtain ⟨hl,cells,ho,hE⟩:=h.own i hi
  have hcl:cells.length=l:=by rw [ho.1];show l*1=l;omega
  obtain ⟨g,o,e,hlt,hcell,hfr⟩:=ho.cellAt (i:=j) (List.getElem?_eq_getElem (by omega))
  cases e
  exact ⟨by rw [hcell];rfl,hfr⟩
theorem Sep.stored{w0 w w':World}{S O:Nat→Prop}{L:Hold}(h:Sep w0 S O w L)(i:Nat){t:TypeId}{gb l cp:Nat}{xs ys:List Int}(hi:L i = .own cI t (some ⟨gb,0,none⟩) l cp xs)(hy:ys.length=l)(hw:w'=w.setCells gb 0 (ys.map (Value.int .i64))) :
    Sep w0 S O w' (stl L i (.own cI t (some ⟨gb,0,none⟩) l cp ys)):=by
  have hl:=(h.own i hi).1
  have e:cpy xs ys=ys:=by unfold cpy;rw [List.take_of_length_le (by omega),List.drop_eq_nil_of_le (by omega),List.append_nil]
  have:=h.copied (w':=w') i hi (ys:=ys) (by rw [hw,List.take_of_length_le (by omega)])
  rwa [e] at this
theorem yiE{P:Program}{E:Env}{w:World}{d:Option Tmp}{x y:Operand}{ty xt:TypeId}{ps:String}{af:Array Edge}{g:Option (Nat×Bool)}{K:Value→World→Prop}{w0:World}{S O:Nat→Prop}{L:Hold}{t:TypeId}{zo:Option Value}{b gb l cp:Nat}{xs ys:List Int}
    (hx:evE E x = .pointer (some ⟨gb,0,none⟩)) (hy:evE E y=kE ys) (hi:(P.info? xt).map (fun i=>(i.zero,i.size,i.bytes))=some (zo,l,b)) (hS:Sep w0 S O w L) (i:Nat) (hi':L i = .own cI t (some ⟨gb,0,none⟩) l cp xs) (hl:ys.length=l)
    (h:∀ w',Sep w0 S O w' (stl L i (.own cI t (some ⟨gb,0,none⟩) l cp ys))→K undef w'):ybz P ⟨d, .store xt x y,ty,ps,af,g⟩ (evE E) w K :=
  yaQ (n:=l) hx hy hi (by simpa using hl) (by simp [Value.oneCell']) (there_own hS i hi') fun w' hw=>h w' (hS.stored i hi' hl (by simpa using hw))
theorem rv_a{P:Program}{E:Env}{w w0:World}{S O:Nat→Prop}{L:Hold}{t:Tmp}{y:TypeId}{u:TypeDesc}{zo:Option Value}{b gb l cp:Nat}{xs:List Int}{a:TypeId}(h:E t = .pointer (some ⟨gb,0,none⟩))(hu:P.underlying y=some u)(hn:aggD u=true)(hi:(P.info? y).map (fun i=>(i.zero,i.size,i.bytes))=some (zo,l,b))
    (hS:Sep w0 S O w L) (i:Nat) (hi':L i = .own cI a (some ⟨gb,0,none⟩) l cp xs):RvE P E w (.cell t y) (kE xs) :=
  rv_n (vs:=xs.map (Value.int .i64)) h hu hn (arr_info hi (hS.rdo i hi')) (yh1 (hS.rdo i hi'))
end Go.Proofs.YtencmgolklfmkaaGreat

/- A variable in memory says nothing of other blocks. -/
namespace Go.Proofs.YtencmgolklfmkaaGreat
open Go Go.RowKit Go.Proofs.Tryz
theorem flat_box(e:TypeId)(g:Nat)(cells:List Value):(Res.box e g cells).Flat:=fun _ _ _ _ h=>h
end Go.Proofs.YtencmgolklfmkaaGreat

/- A drawn region in which two operations, each with effects, stand in an order that is open: both orders are walked. -/
namespace Go.Proofs.YtencmgolklfmkaaGreat
open Go Go.Proofs.Tryz
section
variable {P : Program} {ops : Array Oper} {Q : Act → World → Prop} {F : Fence} {n : Nat} {Q' : Exit → Act → World → Prop}
theorem seqS_step{st:Nat→List Nat}(hF:∀ f,F.fn f)(hD:F.depth=none)(hC:∀ f args w R,Calls P f args w R→CallsIn F (n-1) P f args w R)(hRd:∀ l f tmps assign body w R,RoundIn Fence.wide 0 P l f tmps assign body w R→RoundIn F (n-1) P l f tmps assign body w R)
    {i:Nat} {R:List Nat} {pend:List (Nat×Sem Next×Value)} {a:Act} {w:World} {K:Act→World→Prop} (h1:seqS P ops st Q (i::R) pend a w) (hrec:∀ pend a w,seqS P ops st Q R pend a w→K a w):wpOpIn F n P ops Q' i K a w:=by
  unfold wpOpIn
  cases hoi:ops[i]? with
  | none=>simp only [seqS,hoi] at h1;exact hrec _ _ _ h1
  | some oi =>
    simp only [seqS,hoi] at h1 ⊢
    split
    · rename_i c
      rw [if_pos c] at h1
      split at h1
      · rename_i q
        obtain ⟨v,hv,h1⟩:=h1
        refine ⟨fun f _=>hF f,?_⟩
        rw [Oper.semAt_eq _ _ _ (yaN.defer q),hv]
        exact hrec _ _ _ h1
      · obtain ⟨hn,h1⟩:=h1
        refine ⟨fun f _=>hF f,?_⟩
        rw [Oper.semAt_eq _ _ _ (ybw.defer hn)]
        unfold ybz at h1
        split at h1
        · rename_i v w' hr
          rw [hr]
          exact hrec _ _ _ h1.2
        · rename_i w' hr
          rw [hr]
          exact hrec _ _ _ h1.2
        · rename_i f args w' hr
          rw [hr]
          refine ⟨fun hd=>(by rw [hD] at hd;cases hd),(hC _ _ _ _ h1).mono ?_⟩
          rintro e w'' ⟨v,rfl,hh⟩
          exact hrec _ _ _ hh.2
        · rename_i l f tmps assign body w' hr
          rw [hr]
          refine ⟨fun hd=>(by rw [hD] at hd;cases hd),(hRd _ _ _ _ _ _ _ h1).mono ?_⟩
          rintro e w'' ⟨v,rfl,hh⟩
          exact hrec _ _ _ hh.2
        · exact h1.elim
    · rename_i c
      rw [if_neg c] at h1
      exact ⟨fun f _=>hF f,hrec _ _ _ h1⟩
theorem set_listed{R1 R2:List Nat}{i:Nat}{listed:Array Bool}(hil:i<listed.size)(hl:∀ k,k∈R1++i::R2↔listed.getD k true=false)(hni:i∉R1++R2):∀ k,k∈R1++R2↔(listed.setIfInBounds i true).getD k true=false:=by
  intro k
  by_cases hki:i=k
  · subst hki
    constructor
    · intro h;exact absurd h hni
    · intro h;simp [hil] at h
  · rw [getD_set_ne true hki,←hl k]
    simp only [List.mem_append,List.mem_cons]
    constructor
    · rintro (h | h)
      · exact .inl h
      · exact .inr (.inr h)
    · rintro (h | h | h)
      · exact .inl h
      · exact absurd h.symm hki
      · exact .inr h
theorem set_down{i:Nat}{oi:Oper}{listed:Array Bool}(hil:i<listed.size)(hoi:ops[i]? = some oi)(hall:∀ e∈oi.after,Region.binds .any e=true→listed.getD e.on true=true)(hdw:yff ops listed):yff ops (listed.setIfInBounds i true):=by
  intro j oj hj hlj e he hb
  have hmono:∀ x:Nat,listed.getD x true=true→(listed.setIfInBounds i true).getD x true=true:=by
    intro x hx
    by_cases hki:i=x
    · subst hki;simp [hil]
    · rw [getD_set_ne true hki];exact hx
  by_cases hji:i=j
  · subst hji
    rw [hoi] at hj
    cases hj
    exact hmono _ (hall e he hb)
  · rw [getD_set_ne true hji] at hlj
    exact hmono _ (hdw j oj hj hlj e he hb)
theorem yf2{st:Nat→List Nat}{i:Nat}{oi:Oper}{listed:Array Bool}{R1 R2:List Nat}(hoi:ops[i]? = some oi)(hl:∀ k,k∈R1++i::R2↔listed.getD k true=false)(hs:listed.size=ops.size)(hdw:yff ops listed)(hall:∀ e∈oi.after,Region.binds .any e=true→listed.getD e.on true=true)
    (hlt1:∀ r∈R1,ycK ops st r i=true) {pend:List (Nat×Sem Next×Value)} {a:Act} {w:World} (h:seqS P ops st Q (R1++i::R2) pend a w):seqS P ops st Q (i::(R1++R2)) pend a w :=
  yiL hoi R1 R2 (fun r hr=>by
    have hr0:=(hl r).1 (by simp [hr])
    have hrs:r<ops.size:=by
      rcases Nat.lt_or_ge r listed.size with h | h
      · omega
      · simp [Array.getD_eq_getD_getElem?,Array.getElem?_eq_none h] at hr0
    have hd0:dep ops ops.size r i=false:=by
      cases hq:dep ops ops.size r i with
      | false=>rfl
      | true =>
        have:=ydv hdw ops.size r i oi hoi hall hq
        rw [this] at hr0;cases hr0
    obtain ⟨a1,a2,a3⟩:=ycK.two (hlt1 r hr) (by simp [hrs]:ops[r]? = some ops[r]) hoi hd0
    exact ⟨ops[r],by simp [hrs],a1,a2,a3⟩) pend a w h
theorem seqS_two{st1 st2:Nat→List Nat}{p q:Nat}{S0:Nat→Prop}(hF:∀ f,F.fn f)(hD:F.depth=none)(hC:∀ f args w R,Calls P f args w R→CallsIn F (n-1) P f args w R)(hRd:∀ l f tmps assign body w R,RoundIn Fence.wide 0 P l f tmps assign body w R→RoundIn F (n-1) P l f tmps assign body w R)(hQ:∀ a w,Q a w→Q' .normal a w)
    (hO:∀ j oj,ops[j]? = some oj→∀ e∈oj.after,Region.binds .any e=true→e.on<ops.size∧e.on≠j) (hpq:p≠q) (hWp:∀ o,ops[p]? = some o→∀ e∈o.after,Region.binds .any e=true→e.on≠q∧dep ops ops.size q e.on≠true) (hN:∀ r o,ops[r]? = some o→r≠p→r≠q→yaN o.op=true∨dep ops ops.size p r=true∨dep ops ops.size q r=true∨S0 r) :
    ∀ (fuel:Nat) (R1 R2:List Nat) (listed:Array Bool) (pend:List (Nat×Sem Next×Value)) (a:Act) (w:World),R1.length≤fuel→R2.length≤fuel →
    R1.Pairwise (fun i j=>i≠j∧(ycK ops st1 i j=true∨(i=p∧(j=q∨dep ops ops.size q j=true))))→R2.Pairwise (fun i j=>i≠j∧(ycK ops st2 i j=true∨(i=q∧(j=p∨dep ops ops.size p j=true)))) →
    (∀ i,i∈R1↔listed.getD i true=false)→(∀ i,i∈R2↔listed.getD i true=false)→listed.size=ops.size→yff ops listed→listed.getD p true=false→listed.getD q true=false→(∀ r,S0 r→listed.getD r true=true) →
    seqS P ops st1 Q R1 pend a w→seqS P ops st2 Q R2 pend a w→wpAnyIn F n P .any ops Q' fuel listed a w:=by
  intro fuel
  induction fuel with
  | zero =>
    intro R1 R2 listed pend a w hf1 hf2 hp1 hp2 hl1 hl2 hs hdw hpl hql hS0 h1 h2
    have hR:R1=[]:=List.eq_nil_of_length_eq_zero (by omega)
    subst hR
    exact absurd ((hl1 p).2 hpl) (by simp)
  | succ fuel ih =>
    intro R1 R2 listed pend a w hf1 hf2 hp1 hp2 hl1 hl2 hs hdw hpl hql hS0 h1 h2
    have hb:∀ x:Nat,listed.getD x true=false→x<ops.size:=by
      intro x hx
      rcases Nat.lt_or_ge x listed.size with h | h
      · omega
      · simp [Array.getD_eq_getD_getElem?,Array.getElem?_eq_none h] at hx
    have hlb:∀ x:Nat,listed.getD x false=true→listed.getD x true=true:=by
      intro x hx
      rcases Nat.lt_or_ge x listed.size with h | h
      · simp [Array.getD_eq_getD_getElem?,h] at hx ⊢;exact hx
      · simp [Array.getD_eq_getD_getElem?,h]
    refine ⟨fun h0=>?_,fun i hi=>?_⟩
    · -- something can always be carried out
      exfalso
      cases hR:R1 with
      | nil=>rw [hR] at hl1;exact absurd ((hl1 p).2 hpl) (by simp)
      | cons r R =>
        rw [hR] at hl1 hp1
        have hr:=(hl1 r).1 (by simp)
        have hlt:=hb r hr
        have hmem:r∈Region.ready .any ops listed:=by
          refine mem_ready.2 ⟨hr,ops[r],by simp [hlt],fun e he hbd=>?_⟩
          have h1':=hO r _ (by simp [hlt]:ops[r]? = some ops[r]) e he hbd
          have h2':e.on∉r::R:=by
            intro h
            rcases List.mem_cons.1 h with h | h
            · exact h1'.2 h
            · rcases ((List.pairwise_cons.1 hp1).1 _ h).2 with hk | ⟨rfl,hk⟩
              · exact ycK.not hk (by simp [hlt]:ops[r]? = some ops[r]) he hbd rfl
              · have h9:=hWp _ (by simp [hlt]:ops[r]? = some ops[r]) e he hbd
                rcases hk with hk | hk
                · exact h9.1 hk
                · exact h9.2 hk
          have h3:=mt (hl1 e.on).2 h2'
          have h4:e.on<listed.size:=by omega
          simp [h4] at h3 ⊢
          exact h3
        rw [h0] at hmem
        cases hmem
    · obtain ⟨hun,oi,hoi,hall⟩:=mem_ready.1 hi
      have hil:i<listed.size:=by have:=(Array.getElem?_eq_some_iff.1 hoi).1;omega
      have hall':∀ e∈oi.after,Region.binds .any e=true→listed.getD e.on true=true:=fun e he hbd=>hlb _ (hall e he hbd)
      obtain ⟨A1,B1,rfl⟩:=List.append_of_mem ((hl1 i).2 hun)
      obtain ⟨A2,B2,rfl⟩:=List.append_of_mem ((hl2 i).2 hun)
      have lt1:∀ r∈A1,r≠i∧(ycK ops st1 r i=true∨(r=p∧(i=q∨dep ops ops.size q i=true))):=fun r hr=>(List.pairwise_append.1 hp1).2.2 r hr i (by simp)
      have lt2:∀ r∈A2,r≠i∧(ycK ops st2 r i=true∨(r=q∧(i=p∨dep ops ops.size p i=true))):=fun r hr=>(List.pairwise_append.1 hp2).2.2 r hr i (by simp)
      have ni1:i∉A1++B1:=by
        intro hm
        rcases List.mem_append.1 hm with hm | hm
        · exact (lt1 i hm).1 rfl
        · exact ((List.pairwise_cons.1 (List.pairwise_append.1 hp1).2.1).1 i hm).1 rfl
      have ni2:i∉A2++B2:=by
        intro hm
        rcases List.mem_append.1 hm with hm | hm
        · exact (lt2 i hm).1 rfl
        · exact ((List.pairwise_cons.1 (List.pairwise_append.1 hp2).2.1).1 i hm).1 rfl
      have s1:=hp1.sublist ((List.Sublist.refl A1).append (List.sublist_cons_self i B1))
      have s2:=hp2.sublist ((List.Sublist.refl A2).append (List.sublist_cons_self i B2))
      have l1:=set_listed hil hl1 ni1
      have l2:=set_listed hil hl2 ni2
      have dw:=set_down hil hoi hall' hdw
      have n1:(A1++B1).length≤fuel:=by simp at hf1 ⊢;omega
      have n2:(A2++B2).length≤fuel:=by simp at hf2 ⊢;omega
      by_cases hip:i=p
      · -- the first order
        have h1':=yf2 hoi hl1 hs hdw hall' (fun r hr=>by
          rcases (lt1 r hr).2 with hk | ⟨hk,_⟩
          · exact hk
          · exact absurd (hk.trans hip.symm) (lt1 r hr).1) h1
        refine seqS_step hF hD hC hRd h1' fun pend a w h=>seqS_any (st:=st1) hF hD hC hRd hQ hO fuel _ _ pend a w n1 (s1.imp_of_mem ?_) l1 (by simp [hs]) dw h
        rintro x y hx hy ⟨hxy,hk | ⟨rfl,_⟩⟩
        · exact ⟨hxy,hk⟩
        · exact absurd (hip▸hx) ni1
      · by_cases hiq:i=q
        · have h2':=yf2 hoi hl2 hs hdw hall' (fun r hr=>by
            rcases (lt2 r hr).2 with hk | ⟨hk,_⟩
            · exact hk
            · exact absurd (hk.trans hiq.symm) (lt2 r hr).1) h2
          refine seqS_step hF hD hC hRd h2' fun pend a w h=>seqS_any (st:=st2) hF hD hC hRd hQ hO fuel _ _ pend a w n2 (s2.imp_of_mem ?_) l2 (by simp [hs]) dw h
          rintro x y hx hy ⟨hxy,hk | ⟨rfl,_⟩⟩
          · exact ⟨hxy,hk⟩
          · exact absurd (hiq▸hx) ni2
        · have h1':=yf2 hoi hl1 hs hdw hall' (fun r hr=>by
            rcases (lt1 r hr).2 with hk | ⟨_,hk | hk⟩
            · exact hk
            · exact absurd hk hiq
            · have:=ydv hdw ops.size q i oi hoi hall' hk
              rw [this] at hql;cases hql) h1
          have h2':=yf2 hoi hl2 hs hdw hall' (fun r hr=>by
            rcases (lt2 r hr).2 with hk | ⟨_,hk | hk⟩
            · exact hk
            · exact absurd hk hip
            · have:=ydv hdw ops.size p i oi hoi hall' hk
              rw [this] at hpl;cases hpl) h2
          have hqt:yaN oi.op=true:=by
            rcases hN i oi hoi hip hiq with hk | hk | hk | hk
            · exact hk
            · have:=ydv hdw ops.size p i oi hoi hall' hk
              rw [this] at hpl;cases hpl
            · have:=ydv hdw ops.size q i oi hoi hall' hk
              rw [this] at hql;cases hql
            · rw [hS0 i hk] at hun;cases hun
          have pl:(listed.setIfInBounds i true).getD p true=false:=by rw [getD_set_ne true hip];exact hpl
          have ql:(listed.setIfInBounds i true).getD q true=false:=by rw [getD_set_ne true hiq];exact hql
          have go:=fun pend a w=>ih (A1++B1) (A2++B2) (listed.setIfInBounds i true) pend a w n1 n2 s1 s2 l1 l2 (by simp [hs]) dw pl ql (fun r hr=>by
            by_cases hir:i=r
            · subst hir;simp [hil]
            · rw [getD_set_ne true hir];exact hS0 r hr)
          unfold wpOpIn
          simp only [seqS,hoi] at h1' h2' ⊢
          split
          · rename_i c
            rw [if_pos c,if_pos hqt] at h1' h2'
            obtain ⟨v,hv,h1'⟩:=h1'
            obtain ⟨v2,hv2,h2'⟩:=h2'
            have e:v2=v:=by
              rw [hv] at hv2
              injection hv2 with e _
              injection e with e
              exact e.symm
            subst e
            refine ⟨fun f _=>hF f,?_⟩
            rw [Oper.semAt_eq _ _ _ (yaN.defer hqt),hv]
            exact go _ _ _ h1' h2'
          · rename_i c
            rw [if_neg c] at h1' h2'
            exact ⟨fun f _=>hF f,go _ _ _ h1' h2'⟩
def yhP(ops:Array Oper)(st1 st2:Nat→List Nat)(p q:Nat)(R1 R2:List Nat):Bool :=
  ((R1++R2).all fun j=>match ops[j]? with
    | none=>false
    | some oj=>oj.after.all fun e=>!Region.binds .any e || (decide (e.on<ops.size) && !(e.on==j)))&&(List.range ops.size).all (R1.contains ·)&&(List.range ops.size).all (R2.contains ·)&&decide (R1.length≤ops.size)&&decide (R2.length≤ops.size) &&
  yec (fun i j=>!(i==j)&&(ycK ops st1 i j || (i==p&&(j==q || dep ops ops.size q j)))) R1&&yec (fun i j=>!(i==j)&&(ycK ops st2 i j || (i==q&&(j==p || dep ops ops.size p j)))) R2 && !(p==q)&&decide (p<ops.size)&&decide (q<ops.size) &&
  ((List.range ops.size).all fun r=>r==p || r==q || (match ops[r]? with | some o=>yaN o.op | none=>true) || dep ops ops.size p r || dep ops ops.size q r) &&
  (match ops[p]? with | some o=>o.after.all fun e=>!Region.binds .any e || (!(e.on==q) && !dep ops ops.size q e.on) | none=>true)
end
section
variable {F : Fence} {n : Nat} {P : Program} {N : Nat} {Q : Exit → Act → World → Prop} {E : Env} {ds : List Deferred} {w : World} {t : List Item}
theorem wt_draw2{id:Nat}{ops:Array Oper}(p q:Nat)(R1 R2:List Nat)(st1 st2:Nat→List Nat)(hw:Wd F)(hm:P.follows .mixedOrders=true)(hO:yhP ops st1 st2 p q R1 R2=true)(h1:RJ P N ops st1 (WTa F n P t Q) R1 [] E ds w.drew)(h2:RJ P N ops st2 (WTa F n P t Q) R2 [] E ds w.drew) :
    WT F n P N (.code (.region id ops true)::t) Q E ds w:=by
  intro a r
  simp only [yhP,Bool.and_eq_true,decide_eq_true_eq] at hO
  obtain ⟨⟨⟨⟨⟨⟨⟨⟨⟨⟨⟨g1,g2⟩,g3⟩,g4⟩,g5⟩,g6⟩,g7⟩,g8⟩,g9⟩,g10⟩,g11⟩,g12⟩:=hO
  have k1:∀ i,i<ops.size→i∈R1:=fun i hi=>by simpa using List.all_eq_true.1 g2 i (List.mem_range.2 hi)
  have k2:∀ i,i<ops.size→i∈R2:=fun i hi=>by simpa using List.all_eq_true.1 g3 i (List.mem_range.2 hi)
  have lt:∀ i,i∈R1++R2→i<ops.size:=fun i hi=>by
    have:=List.all_eq_true.1 g1 i hi
    rcases Nat.lt_or_ge i ops.size with h | h
    · exact h
    · rw [Array.getElem?_eq_none h] at this;cases this
  have hl:∀ R:List Nat,(∀ i,i<ops.size→i∈R)→(∀ i∈R,i<ops.size)→∀ i,i∈R↔(Array.replicate ops.size false).getD i true=false:=fun R a1 a2 i=>by
    constructor
    · intro hi;simp [a2 i hi]
    · intro hi
      apply a1
      rcases Nat.lt_or_ge i ops.size with h | h
      · exact h
      · simp [Array.getD_eq_getD_getElem?,h] at hi
  refine WTa.of (wpIn_region_any hm ?_)
  refine seqS_two (st1:=st1) (st2:=st2) (p:=p) (q:=q) (S0:=fun _=>False) hw.fn hw.depth (fun f args w R h=>hw.calls _ _ _ _ _ _ h) (fun l f tmps assign body w R h=>hw.rounds _ _ _ _ _ _ _ _ _ h) (fun a w h=>⟨rfl,h⟩) (fun j oj hj e he hb=>?_) (by simpa using g8) (fun o ho e he hb=>?_) (fun r o ho hrp hrq=>?_) ops.size R1 R2 _ [] a _ g4 g5
    ((yec.out g6).imp (fun h=>by simpa using h)) ((yec.out g7).imp (fun h=>by simpa using h)) (hl R1 k1 fun i hi=>lt i (by simp [hi])) (hl R2 k2 fun i hi=>lt i (by simp [hi])) (by simp) (fun j oj hj hl=>?_) (by simp [g9]) (by simp [g10]) (fun _ h=>h.elim) (h1 a r) (h2 a r)
  · have:=List.all_eq_true.1 g1 j (by simp [k1 j (Array.getElem?_eq_some_iff.1 hj).1])
    rw [hj] at this
    simp only at this
    rw [Array.all_eq_true] at this
    obtain ⟨k,hk,rfl⟩:=Array.getElem_of_mem he
    have h3:=this k hk
    simpa [hb] using h3
  · rw [ho] at g12
    simp only at g12
    rw [Array.all_eq_true] at g12
    obtain ⟨k,hk,rfl⟩:=Array.getElem_of_mem he
    have h3:=g12 k hk
    simpa [hb] using h3
  · have:=List.all_eq_true.1 g11 r (List.mem_range.2 (Array.getElem?_eq_some_iff.1 ho).1)
    rw [ho] at this
    simpa [hrp,hrq,or_assoc] using this
  · exfalso
    have:=(Array.getElem?_eq_some_iff.1 hj).1
    simp [Array.getD_eq_getD_getElem?,this] at hl
theorem wp_draw2{id:Nat}{ops:Array Oper}(p q:Nat)(R1 R2:List Nat)(st1 st2:Nat→List Nat)(hw:Wd F)(hm:P.follows .mixedOrders=true)(hO:yhP ops st1 st2 p q R1 R2=true)
    (h1:RP P N ops st1 (WTa F n P t Q) R1 (R1.map fun i=>ops.getD i default) [] E ds w.drew) (h2:RP P N ops st2 (WTa F n P t Q) R2 (R2.map fun i=>ops.getD i default) [] E ds w.drew):WT F n P N (.code (.region id ops true)::t) Q E ds w:=by
  have key:∀ R:List Nat,(∀ i∈R,i∈R1++R2)→R.map (fun i=>ops[i]?)=(R.map fun i=>ops.getD i default).map some:=fun R hR=>by
    simp only [yhP,Bool.and_eq_true,decide_eq_true_eq] at hO
    rw [List.map_map]
    refine List.map_congr_left fun i hi=>?_
    have:=List.all_eq_true.1 hO.1.1.1.1.1.1.1.1.1.1.1 i (hR i hi)
    cases hq:ops[i]? with
    | none=>rw [hq] at this;cases this
    | some o=>simp [Array.getD_eq_getD_getElem?,hq]
  exact wt_draw2 p q R1 R2 st1 st2 hw hm hO (h1 (key R1 fun i hi=>by simp [hi])) (h2 (key R2 fun i hi=>by simp [hi]))
theorem wt_cutD{c:Code}(J:Env→List Deferred→World→Prop)(hj:∀ E ds w,J E ds w→WT F n P N t Q E ds w)(h:(∀ E ds w,J E ds w→WT F n P N t Q E ds w)→WT F n P N (.code c::t) Q E ds w):WT F n P N (.code c::t) Q E ds w:=h hj
end
section
variable {P : Program} {ops : Array Oper} {Q : Act → World → Prop} {F : Fence} {n : Nat} {Q' : Exit → Act → World → Prop}
end
section
variable {F : Fence} {n : Nat} {P : Program} {N : Nat} {Q : Exit → Act → World → Prop} {E : Env} {ds : List Deferred} {w : World} {t : List Item}
end
end Go.Proofs.YtencmgolklfmkaaGreat

/- Entries of maps that are changed in place (m[k]++). No program in sight. -/
namespace Go.Proofs.YtencmgolklfmkaaGreat
open Go Go.RowKit Go.Shelf Go.Proofs.Tryz
section
variable {τ : Type}
end
section
variable {τ : Type} {P : Program} {w : World} {k e mt : TypeId} {n : Nat} {vE : τ → Value} {m : List (List Int × τ)} {b : Nat} {key : List Int}
end
section
variable {τ : Type} {P : Program} {E : Env} {w : World} {d : Option Tmp} {x y z : Operand} {ty xt k e : TypeId} {ps : String} {af : Array Edge} {g : Option (Nat × Bool)} {K : Value → World → Prop} {n b : Nat} {vE : τ → Value} {m : List (List Int × τ)} {key : List Int}
end
end Go.Proofs.YtencmgolklfmkaaGreat

/- Maps of one's own, keyed by numbers (as XMap for arrays of numbers; made from it). No program in sight. -/
namespace Go.Proofs.YtencmgolklfmkaaGreat
open Go Go.RowKit Go.Shelf Go.Proofs.Tryz
def kEI:List Int→Value
  | [x] => .int .i64 x
  | l => .agg (l.map (Value.int .i64)).toArray
theorem kE_injI{n:Nat}{a b:List Int}(ha:a.length=1)(hb:b.length=1)(h:kEI a=kEI b):a=b:=by
  match a,ha,b,hb with
  | [x],_,[y],_=>simp only [kEI,Value.int.injEq] at h;rw [h.2]
section
variable {τ : Type}
def mEsI(vE:τ→Value):Nat→List (List Int×τ)→List MapEntry
  | _,[]=>[]
  | i,p::t=>⟨kEI p.1,vE p.2,i⟩::mEsI vE (i+1) t
def mapOI(vE:τ→Value)(m:List (List Int×τ)):Obj := .map (mEsI vE 0 m).toArray m.length
theorem mEs_lenI(vE:τ→Value):∀ (m:List (List Int×τ)) (i:Nat),(mEsI vE i m).length=m.length
  | [],_=>rfl
  | p::t,i=>by rw [mEsI,List.length_cons,List.length_cons,mEs_lenI vE t]
theorem yf6(vE:τ→Value):∀ (m:List (List Int×τ)) (i j:Nat),(mEsI vE i m)[j]? = m[j]?.map fun p=>⟨kEI p.1,vE p.2,i+j⟩
  | [],_,_=>by simp [mEsI]
  | p::t,i,0=>by simp [mEsI]
  | p::t,i,j+1=>by
    rw [mEsI,List.getElem?_cons_succ,List.getElem?_cons_succ,yf6 vE t (i+1) j]
    congr 1
    funext p
    rw [Nat.add_assoc,Nat.add_comm 1 j]
end
section
variable {τ : Type} {P : Program} {w : World} {k e mt : TypeId} {n : Nat} {vE : τ → Value} {m : List (List Int × τ)} {b : Nat} {key : List Int}
structure KeyTI(P:Program)(k:TypeId)(n:Nat):Prop where
  law:Maps.Keyed P k
  of:∀ l,KeyOk n l→∃ t,keyOf P k (kEI l)=some t
theorem find_mI(T:KeyTI P k 1)(hm:KOk 1 m)(hk:KeyOk 1 key) :
    ((Instr.findKey k (kEI key) (mEsI vE 0 m)).run P w = .ok none w∧∀ p∈m,p.1≠key)∨∃ j v,(Instr.findKey k (kEI key) (mEsI vE 0 m)).run P w = .ok (some (j,vE v)) w∧m[j]? = some (key,v):=by
  obtain ⟨t,ht⟩:=T.of key hk
  have hes:∀ x∈mEsI vE 0 m,∃ p∈m,x.key=kEI p.1:=fun x hx=>by
    obtain ⟨j,hj⟩:=List.getElem?_of_mem hx
    rw [yf6] at hj
    cases hq:m[j]? with
    | none=>rw [hq] at hj;cases hj
    | some p=>rw [hq] at hj;cases hj;exact ⟨p,List.mem_of_getElem? hq,rfl⟩
  rcases T.law.find w ht (mEsI vE 0 m) (fun x hx=>by obtain ⟨p,hp,e⟩:=hes x hx;rw [e];exact T.of _ (hm.2 p hp)) with ⟨h1,h2⟩ | ⟨j,x,h1,h2,h3⟩
  · refine .inl ⟨h1,fun p hp e=>?_⟩
    obtain ⟨j,hj⟩:=List.getElem?_of_mem hp
    have:(mEsI vE 0 m)[j]? = some ⟨kEI p.1,vE p.2,0+j⟩:=by rw [yf6,hj];rfl
    exact h2 _ (List.mem_of_getElem? this) (by rw [e])
  · rw [yf6] at h2
    cases hq:m[j]? with
    | none=>rw [hq] at h2;cases h2
    | some p =>
      rw [hq] at h2
      cases h2
      have e:=kE_injI (n:=0) (hm.2 _ (List.mem_of_getElem? hq)).1 hk.1 h3
      refine .inr ⟨j,p.2,h1,?_⟩
      rw [←e];exact hq
theorem mEs_setI(vE:τ→Value){m:List (List Int×τ)}{j:Nat}{v v':τ}(h:m[j]? = some (key,v)):(mEsI vE 0 m).toArray.modify j (fun x=>{ x with key:=kEI key,val:=vE v' })=(mEsI vE 0 (m.set j (key,v'))).toArray:=by
  apply Array.ext_getElem?
  intro i
  rw [Array.getElem?_modify]
  simp only [List.getElem?_toArray,yf6,List.getElem?_set]
  by_cases e:j=i
  · subst e
    rw [if_pos rfl,if_pos rfl,h,if_pos (List.getElem?_eq_some_iff.1 h).1]
    rfl
  · rw [if_neg e,if_neg e]
theorem mEs_pushI(vE:τ→Value)(m:List (List Int×τ))(v:τ):(mEsI vE 0 m).toArray.push ⟨kEI key,vE v,m.length⟩=(mEsI vE 0 (m++[(key,v)])).toArray:=by
  have H:∀ (m:List (List Int×τ)) (i:Nat),mEsI vE i (m++[(key,v)])=mEsI vE i m++[⟨kEI key,vE v,i+m.length⟩]:=by
    intro m
    induction m with
    | nil=>intro i;rfl
    | cons a t ih=>intro i;simp only [List.cons_append,mEsI,ih,List.length_cons];rw [Nat.add_assoc,Nat.add_comm 1]
  rw [H];simp
theorem run_mputI(T:KeyTI P k 1)(hm:KOk 1 m)(hk:KeyOk 1 key)(hu:P.underlying mt=some (.map k e))(hb:w.heap[b]? = some (mapOI vE m))(v:τ) :
    ∃ w',(Instr.mapUpdate mt (.map (some b)) (kEI key) (vE v)).run P w = .ok () w'∧w'.heap[b]? = some (mapOI vE (mput m key v))∧Keeps (fun j=>j=b) w w':=by
  obtain ⟨t,ht⟩:=T.of key hk
  have hKp:∀ o:Obj,Keeps (fun j=>j=b) w { w with heap:=w.heap.setIfInBounds b o }:=fun o=>⟨rfl,rfl,rfl,by simp,fun j _ hj=>(MapKept.heap_set hb).2 j hj⟩
  have hb':w.heap[b]? = some (.map (mEsI vE 0 m).toArray m.length):=hb
  rcases find_mI (vE:=vE) (w:=w) T hm hk with ⟨h1,h2⟩ | ⟨j,v0,h1,h2⟩
  · refine ⟨{ w with heap:=w.heap.setIfInBounds b (.map ((mEsI vE 0 m).toArray.push ⟨kEI key,vE v,m.length⟩) (m.length+1)) },?_,?_,hKp _⟩
    · simp [Instr.mapUpdate,run_underlying hu,MapKept.run_getObj_map hb',T.law.check w _ ht,h1,MapKept.run_setObj_map _ hb',Result.andThen]
    · rw [(MapKept.heap_set hb').1,mput_none h2,mEs_pushI]
      simp [mapOI]
  · have hj:(mEsI vE 0 m)[j]? = some ⟨kEI key,vE v0,0+j⟩:=by rw [yf6,h2];rfl
    refine ⟨{ w with heap:=w.heap.setIfInBounds b (.map ((mEsI vE 0 m).toArray.modify j (fun x=>{ x with key:=kEI key,val:=vE v })) m.length) },?_,?_,hKp _⟩
    · simp [Instr.mapUpdate,run_underlying hu,MapKept.run_getObj_map hb',T.law.check w _ ht,h1,hj,T.law.stays w ht,MapKept.run_setObj_map _ hb',Result.andThen]
    · rw [(MapKept.heap_set hb').1,mput_at hm.1 h2,mEs_setI vE h2]
      simp [mapOI]
end
section
variable {τ : Type} {P : Program} {E : Env} {w : World} {d : Option Tmp} {x y z : Operand} {ty xt k e : TypeId} {ps : String} {af : Array Edge} {g : Option (Nat × Bool)} {K : Value → World → Prop} {n b : Nat} {vE : τ → Value} {m : List (List Int × τ)} {key : List Int}
theorem n_mkmapI{o:Option Operand}(hx:o=none)(h:∀ g' w',g'=w.heap.size→w'=w.alloc (mapOI vE ([]:List (List Int×τ)))→K (.map (some g')) w'):ybz P ⟨d, .makeMap xt o,ty,ps,af,g⟩ (evE E) w K:=by
  subst hx
  unfold ybz execOp
  simp only [Instr.makeMap,newObj,Option.map_none,Sem.run_bind,Sem.run_pure,Result.andThen,Sem.run]
  exact h _ _ rfl rfl
theorem v_mlenI(hx:evE E x = .map (some b))(hu:P.underlying xt=some (.map k e))(hb:w.heap[b]? = some (mapOI vE m)):(execOp (evE E) ⟨d, .call ⟨.builtin .len,#[x],#[xt]⟩,ty,ps,af,g⟩).run P w = .ok (.value (.int .i64 ((m.length:Nat):Int))) w:=by
  have hb':w.heap[b]? = some (.map (mEsI vE 0 m).toArray m.length):=hb
  simp [execOp,hx,resolve,invoke,builtin,Builtin.len_,go_sem,underlying,hu,goInt,MapKept.run_getObj_map hb',mEs_lenI]
theorem n_mputI(T:KeyTI P k 1)(hm:KOk 1 m)(hk:KeyOk 1 key){v:τ}(hx:evE E x = .map (some b))(hy:evE E y=kEI key)(hz:evE E z=vE v)(hu:P.underlying xt=some (.map k e))(hb:w.heap[b]? = some (mapOI vE m))
    (h:∀ w',w'.heap[b]? = some (mapOI vE (mput m key v))→Keeps (fun j=>j=b) w w'→K undef w'):ybz P ⟨d, .mapUpdate xt x y z,ty,ps,af,g⟩ (evE E) w K:=by
  obtain ⟨w',h1,h2,h3⟩:=run_mputI T hm hk hu hb v
  unfold ybz execOp
  simp only [hx,hy,hz,h1,Sem.run_bind,Sem.run_pure,Result.andThen]
  exact h w' h2 h3
end
theorem keyT_int{P:Program}{k:TypeId}(hu:P.underlying k=some (.int .i64)):KeyTI P k 1 where
  law:=Maps.int_keyed hu
  of:=fun l ⟨hll,hin⟩=>by
    match l,hll with
    | [x],_ =>
      have hx:=hin x (by simp)
      exact ⟨_,Maps.keyOf_int_mk hu (by simp only [Lit.wf,Bool.and_eq_true,decide_eq_true_eq];exact ⟨hx.1,by have:=hx.2;show x≤9223372036854775807;omega⟩)⟩
end Go.Proofs.YtencmgolklfmkaaGreat

/- Maps' key types that are arrays of numbers. -/
namespace Go.Proofs.YtencmgolklfmkaaGreat
open Go Go.RowKit Go.Shelf Go.Proofs.Tryz
theorem keyt_3:KeyTI Tryz.prog 3 1:=keyT_int underlying3
end Go.Proofs.YtencmgolklfmkaaGreat

/- The walks of package chips and of the small library functions that the checks use: what each returns, for all arguments. -/
namespace Go.Proofs.YtencmgolklfmkaaGreat
open Go.RowKit Go.Proofs.Tryz
set_option maxRecDepth 100000
set_option maxHeartbeats 400000
theorem int_info:(Tryz.prog.info? 3).map (fun i=>(i.zero,i.size,i.bytes))=some (some (.int .i64 0),1,8):=by kernel_rfl
def inF(k:Int):Bool:=decide (-1048576≤k∧k≤1048576)
def vertsF(n:Int):Int:=if 1≤n∧n≤12 then 0 else 2
def checkF(d:List Int)(n:Int):Int :=
  if vertsF n=0 then (if (d.length:Int)=n then (if d.all inF then 0 else 2) else 8) else 2
def cmpF(a b:Int):Int:=if a<b then -1 else if b<a then 1 else 0
theorem isNaN_any(a:Int)(w:World):Calls Tryz.prog 136 #[.int .i64 a] w fun e w'=>e = .returned (.bool false)∧w=w':=by
  go_enter func136,ntmps136
  go_wp2
  go_ret
  exact ⟨by simp,rfl⟩
theorem ygr(a b:Int)(w:World):Calls Tryz.prog 97 #[.int .i64 a, .int .i64 b] w fun e w'=>e = .returned (.int .i64 (cmpF a b))∧w=w':=by
  go_enter func97,ntmps97
  go_wp2_with (first | (go_at_call 136;refine (isNaN_any _ _).mono ?_;rintro e w' ⟨rfl,rfl⟩))
  all_goals go_ret
  all_goals refine ⟨yfN (int_eq ?_),rfl⟩
  all_goals unfold cmpF
  all_goals (split <;> try split)
  all_goals omega
theorem vertex_any(n v:Int)(w:World):Calls Tryz.prog 117 #[.int .i64 n, .int .i64 v] w fun e w'=>e = .returned (.bool (decide (0≤v∧v<n)))∧w=w':=by
  go_enter func117,ntmps117
  go_wp2
  all_goals go_ret
  all_goals exact ⟨by simp;try omega,rfl⟩
def orF(x y:Int):Int:=if x≠0 then x else y
theorem or_two(b off:Nat)(x y:Int)(w:World)(h0:w.cell? ⟨b,off,none⟩=some (.int .i64 x))(h1:w.cell? ⟨b,off+1,none⟩=some (.int .i64 y)) :
    Calls Tryz.prog 150 #[.slice (some ⟨b,off,none⟩) 2 2] w fun e w'=>e = .returned (.int .i64 (orF x y))∧w=w':=by
  go_enter func150,ntmps150
  go_wp2
  refine wp_loop_rounds 3 ?_
  repeat any_goals (rw [rounds_succ];go_wp2)
  all_goals go_ret
  all_goals refine ⟨yfN (int_eq ?_),rfl⟩
  all_goals (unfold orF;simp_all)
end Go.Proofs.YtencmgolklfmkaaGreat

/- The walks of the functions of package slices that the program uses, at slices of ints. -/
namespace Go.Proofs.YtencmgolklfmkaaGreat
open Go.RowKit Go.Proofs.Tryz
set_option maxRecDepth 100000
set_option maxHeartbeats 400000
end Go.Proofs.YtencmgolklfmkaaGreat

/- Forests that join vertices, in plain Lean: each vertex has one of its part that is not greater. -/
namespace Go.Proofs.YtencmgolklfmkaaGreat
open Go.RowKit Go.Proofs.Tryz
def gn(l:List Nat)(k:Nat):Nat:=l.getD k 0
theorem yfl{l:List Nat}{k:Nat}(h:k<l.length):gn l k=l[k]:=by simp [gn,h]
theorem gn_set{l:List Nat}{k j:Nat}{x:Nat}(h:k<l.length):gn (l.set k x) j=if j=k then x else gn l j:=by
  unfold gn
  simp only [List.getD_eq_getElem?_getD,List.getElem?_set]
  by_cases e:j=k
  · subst e;simp [h]
  · rw [if_neg (by omega),if_neg e]
abbrev NRow(w:World)(g:Nat)(e:TypeId)(size:Nat)(xs:List Nat):Prop:=Row w g e size (xs.map fun (n:Nat)=>Value.int .i64 (Int.ofNat n))
section
variable {w : World} {g : Nat} {e : TypeId} {size : Nat}
theorem ncell{xs:List Nat}(h:NRow w g e size xs){k:Nat}(hk:k<xs.length):w.cell? ⟨g,k,none⟩=some (.int .i64 (Int.ofNat (gn xs k))) :=
  Row.cell h (by rw [List.getElem?_map,List.getElem?_eq_getElem hk,yfl hk];rfl)
theorem nset{xs:List Nat}(h:NRow w g e size xs)(k:Nat)(v:Nat):NRow (w.setCell ⟨g,k,none⟩ (.int .i64 (Int.ofNat v))) g e size (xs.set k v):=by
  have:=Row.set_ h k (.int .i64 (Int.ofNat v))
  unfold NRow;rwa [List.map_set]
end
def ydO(xs:List Nat):List Value:=xs.map fun (n:Nat)=>Value.int .i64 (Int.ofNat n)
theorem yeE(xs:List Nat):(ydO xs).length=xs.length:=by simp [ydO]
theorem nvals_one(xs:List Nat):∀ v∈(ydO xs).toArray.toList,v.oneCell'=true:=by
  intro v hv
  simp [ydO] at hv
  obtain ⟨a,_,rfl⟩:=hv
  rfl
theorem NRow.full{w:World}{g:Nat}{e:TypeId}{xs:List Nat}(h:NRow w g e xs.length xs):w.heap[g]? = some (.cells (ydO xs).toArray e (0,0)):=by
  have h':Row w g e (ydO xs).length (ydO xs):=by rw [yeE];exact h
  exact Row.full h'
def ycb(F:List Nat):Prop:=F.length=12∧∀ v,v<12→gn F v≤v
def yd3(F:List Nat):Nat→Nat→Nat
  | 0,v=>v
  | k+1,v=>if gn F v=v then v else yd3 F k (gn F v)
def root(F:List Nat)(v:Nat):Nat:=yd3 F v v
theorem rootFuel_more{F:List Nat}(h:ycb F):∀ (k v j:Nat),v<12→v≤k→v≤j→yd3 F k v=yd3 F j v:=by
  intro k
  induction k using Nat.strongRecOn with
  | _ k ih =>
    intro v j hv hk hj
    have hle:=h.2 v hv
    cases k with
    | zero =>
      obtain rfl:v=0:=by omega
      have h0:gn F 0=0:=by omega
      cases j with
      | zero=>rfl
      | succ j=>simp [yd3,h0]
    | succ k =>
      cases j with
      | zero =>
        obtain rfl:v=0:=by omega
        have h0:gn F 0=0:=by omega
        simp [yd3,h0]
      | succ j =>
        simp only [yd3]
        split
        · rfl
        · exact ih k (by omega) _ j (by omega) (by omega) (by omega)
theorem ycm{F:List Nat}{v:Nat}(h:gn F v=v):root F v=v:=by
  unfold root
  cases v with
  | zero=>rfl
  | succ v=>simp [yd3,h]
theorem yed{F:List Nat}(h:ycb F){v:Nat}(hv:v<12)(hne:gn F v≠v):root F v=root F (gn F v):=by
  have hle:=h.2 v hv
  unfold root
  cases v with
  | zero=>omega
  | succ v =>
    simp only [yd3]
    rw [if_neg hne]
    exact rootFuel_more h _ _ _ (by omega) (by omega) (Nat.le_refl _)
theorem ycj{F:List Nat}(h:ycb F):∀ v,v<12→root F v≤v∧gn F (root F v)=root F v:=by
  intro v
  induction v using Nat.strongRecOn with
  | _ v ih =>
    intro hv
    by_cases he:gn F v=v
    · rw [ycm he];exact ⟨Nat.le_refl _,he⟩
    · have hle:=h.2 v hv
      rw [yed h hv he]
      have:=ih (gn F v) (by omega) (by omega)
      exact ⟨by omega,this.2⟩
theorem yd6{F:List Nat}(h:ycb F){v:Nat}(hv:v<12):root F (root F v)=root F v:=ycm (ycj h v hv).2
def ycu(F:List Nat)(a b:Nat):List Nat:=F.set (max (root F a) (root F b)) (min (root F a) (root F b))
theorem yex{F:List Nat}(h:ycb F){a b:Nat}(ha:a<12)(hb:b<12):ycb (ycu F a b):=by
  have h1:=ycj h a ha
  have h2:=ycj h b hb
  refine ⟨by simp [ycu,h.1],fun v hv=>?_⟩
  unfold ycu
  rw [gn_set (by rw [h.1];omega)]
  split
  · omega
  · exact h.2 v hv
theorem yga{F:List Nat}(h:ycb F){a b:Nat}(ha:a<12)(hb:b<12):∀ v,v<12 →
    root (ycu F a b) v=if root F v=max (root F a) (root F b) then min (root F a) (root F b) else root F v:=by
  have h1:=ycj h a ha
  have h2:=ycj h b hb
  have hJ:=yex h ha hb
  have hg:∀ j,gn (ycu F a b) j=if j=max (root F a) (root F b) then min (root F a) (root F b) else gn F j:=fun j=>by
    unfold ycu;exact gn_set (by rw [h.1];omega)
  have hmin:root (ycu F a b) (min (root F a) (root F b))=min (root F a) (root F b):=by
    apply ycm
    rw [hg]
    split
    · rfl
    · rcases Nat.le_total (root F a) (root F b) with hl | hl
      · rw [Nat.min_eq_left hl];exact h1.2
      · rw [Nat.min_eq_right hl];exact h2.2
  intro v
  induction v using Nat.strongRecOn with
  | _ v ih =>
    intro hv
    by_cases hM:v=max (root F a) (root F b)
    · have hrv:root F v=v:=by
        apply ycm
        rw [hM]
        rcases Nat.le_total (root F a) (root F b) with hl | hl
        · rw [Nat.max_eq_right hl];exact h2.2
        · rw [Nat.max_eq_left hl];exact h1.2
      rw [hrv,if_pos hM]
      by_cases he:gn (ycu F a b) v=v
      · rw [ycm he]
        rw [hg,if_pos hM] at he
        exact he.symm
      · rw [yed hJ hv he,hg,if_pos hM,hmin]
    · by_cases he:gn F v=v
      · have he':gn (ycu F a b) v=v:=by rw [hg,if_neg hM];exact he
        rw [ycm he',ycm he,if_neg hM]
      · have he':gn (ycu F a b) v≠v:=by rw [hg,if_neg hM];exact he
        have hle:=h.2 v hv
        rw [yed hJ hv he',yed h hv he,hg,if_neg hM]
        exact ih _ (by omega) (by omega)
def ycr:List Nat:=List.range 12
theorem ye9:ycb ycr:=⟨rfl,fun v hv=>by rw [yfl (by simpa [ycr] using hv)];simp [ycr]⟩
def yap(es:List E3):List Nat:=es.foldl (fun F x=>ycu F x.1.toNat x.2.1.toNat) ycr
def yay(F:List Nat):Nat→Nat
  | 0=>0
  | n+1=>yay F n+if root F n=n then 1 else 0
def ycL(es:List E3):Prop:=∀ x,x∈es→0≤x.1∧x.1<12∧0≤x.2.1∧x.2.1<12
theorem yaU(es:List E3)(h:ycL es):ycb (yap es):=by
  unfold yap
  suffices H:∀ (l:List E3) (F:List Nat),(∀ x,x∈l→0≤x.1∧x.1<12∧0≤x.2.1∧x.2.1<12)→ycb F→ycb (l.foldl (fun F x=>ycu F x.1.toNat x.2.1.toNat) F) from H es _ h ye9
  intro l
  induction l with
  | nil=>exact fun F _ h=>h
  | cons x l ih =>
    intro F hl hF
    have hx:=hl x (by simp)
    exact ih _ (fun y hy=>hl y (by simp [hy])) (yex hF (by omega) (by omega))
theorem joinedF_take(es:List E3){k:Nat}(hk:k<es.length):yap (es.take (k+1))=ycu (yap (es.take k)) (ge es k).1.toNat (ge es k).2.1.toNat:=by
  unfold yap
  rw [List.take_add_one,List.getElem?_eq_getElem hk,List.foldl_append,ydg hk]
  rfl
theorem ycL.take{es:List E3}(h:ycL es)(k:Nat):ycL (es.take k):=fun x hx=>h x (List.mem_of_mem_take hx)
end Go.Proofs.YtencmgolklfmkaaGreat

/- The iterator over the single edges at a vertex, and the loop that adds up what a property picks. -/
namespace Go.Proofs.YtencmgolklfmkaaGreat
open Go.RowKit Go.Shelf Go.Proofs.Tryz
attribute [local go_sem] Oper.semAt_some
set_option maxRecDepth 100000
set_option maxHeartbeats 8000000
def link(v:Int)(x:E3):Option (Int×Int):=if x.1≠x.2.1∧(x.1=v∨x.2.1=v) then some (x.1+x.2.1-v,x.2.2) else none
def yeO(es:List E3)(v:Int):List (Int×Int):=es.filterMap (link v)
def KB(K:Nat→Prop)(W W':World):Prop:=∀ k,K k→W'.heap[k]? = W.heap[k]?
theorem KB.refl(K:Nat→Prop)(W:World):KB K W W:=fun _ _=>rfl
theorem KB.trans{K:Nat→Prop}{A B C:World}(h:KB K A B)(k:KB K B C):KB K A C:=fun i hi=>(k i hi).trans (h i hi)
theorem KB.alloc{K:Nat→Prop}{A W:World}(h:KB K A W)(hK:∀ k,K k→k<A.heap.size)(o:Obj):KB K A (W.alloc o):=fun i hi=>by
  have h1:=h i hi
  rw [Array.getElem?_eq_getElem (hK i hi)] at h1
  rw [Below.heap_alloc W o i (Array.getElem?_eq_some_iff.1 h1).1]
  exact h i hi
theorem KB.cell{K:Nat→Prop}{W W':World}(h:KB K W W'){p:Addr}(hp:K p.block){v:Value}(hc:W.cell? p=some v):W'.cell? p=some v:=by
  rw [World.cell?_of_block (w:=W) (h p.block hp)];exact hc
theorem KB.put{K:Nat→Prop}{w:World}(hK:∀ k,K k→k<w.heap.size)(W:World)(l:Nat)(o o':Obj)(hl:w.heap.size≤l)(_:W.heap[l]? = some o)(_:o.isCells=false)(_:o.isWalk=false):KB K W (W.putObj l o') :=
  fun k hk=>by
    have h1:=hK k hk
    exact World.putObj_heap_other (by omega)
end Go.Proofs.YtencmgolklfmkaaGreat

/- The loop that adds up the single edges from a vertex to those with a property. -/
namespace Go.Proofs.YtencmgolklfmkaaGreat
open Go.RowKit Go.Shelf Go.Proofs.Tryz
attribute [local go_sem] Oper.semAt_some
set_option maxRecDepth 100000
set_option maxHeartbeats 8000000
def addF(p:Int→Bool)(l:List (Int×Int)):Int:=l.foldl (fun n x=>if p x.1 then n+x.2 else n) 0
def yaV(es:List E3)(v:Int)(p:Int→Bool):Int:=addF p (yeO es v)
end Go.Proofs.YtencmgolklfmkaaGreat

/- The walk of reduced.begin: the state of a divisor. -/
namespace Go.Proofs.YtencmgolklfmkaaGreat
open Go.RowKit Go.Proofs.Tryz
set_option maxRecDepth 100000
set_option maxHeartbeats 8000000
end Go.Proofs.YtencmgolklfmkaaGreat

/- The walk of the fire that starts at q: the unburnt vertices of a state. -/
namespace Go.Proofs.YtencmgolklfmkaaGreat
open Go.RowKit Go.Proofs.Tryz
set_option maxRecDepth 100000
set_option maxHeartbeats 4000000
def cf(b:List Bool):Nat:=(b.filter fun x=>!x).length
theorem cf_set{b:List Bool}{v:Nat}(h:v<b.length)(hv:gb b v=false):cf (b.set v true)+1=cf b:=by
  unfold cf
  induction b generalizing v with
  | nil=>simp at h
  | cons x b ih =>
    cases v with
    | zero =>
      simp [gb] at hv
      subst hv
      simp
    | succ v =>
      have:=ih (v:=v) (by simpa using h) (by simpa [gb] using hv)
      simp only [List.set_cons_succ,List.filter_cons]
      split
      · simp only [List.length_cons];omega
      · omega
def Closed(n:Nat)(es:List E3)(d:List Int)(b:List Bool):Prop:=∀ v,v<n→gb b v=false→yaV es (v:Int) (fun u=>gb b u.toNat)≤gi d v
def Forced(n:Nat)(es:List E3)(q:Nat)(d:List Int)(b:List Bool):Prop :=
  ∀ S:Nat→Bool,S q=false→(∀ v,v<n→S v=true→yaV es (v:Int) (fun u=>!S u.toNat)≤gi d v)→∀ v,v<n→S v=true→gb b v=false
theorem addF_mono{p p':Int→Bool}(l:List (Int×Int))(h:∀ q∈l,0≤q.2)(hpp:∀ q∈l,p q.1=true→p' q.1=true):addF p l≤addF p' l:=by
  suffices H:∀ (l:List (Int×Int)) (a a':Int),(∀ q∈l,0≤q.2)→(∀ q∈l,p q.1=true→p' q.1=true)→a≤a'→l.foldl (fun n x=>if p x.1 then n+x.2 else n) a≤l.foldl (fun n x=>if p' x.1 then n+x.2 else n) a' from H l 0 0 h hpp (Int.le_refl _)
  intro l
  induction l with
  | nil=>intro a a' _ _ h;exact h
  | cons x l ih =>
    intro a a' h hpp hle
    rw [List.foldl_cons,List.foldl_cons]
    refine ih _ _ (fun q hq=>h q (by simp [hq])) (fun q hq=>hpp q (by simp [hq])) ?_
    have h0:=h x (by simp)
    have h1:=hpp x (by simp)
    by_cases hp:p x.1=true
    · rw [if_pos hp,if_pos (h1 hp)];omega
    · rw [if_neg hp];split <;> omega
theorem yes{es:List E3}{n:Nat}(hE:∀ x∈es,0≤x.1∧x.1<n∧0≤x.2.1∧x.2.1<n∧0≤x.2.2∧x.2.2≤50){v u m:Int}(h:(u,m)∈yeO es v):0≤u∧u<n∧0≤m∧m≤50:=by
  obtain ⟨x,hx,hl⟩:=List.mem_filterMap.1 h
  have h1:=hE x hx
  unfold link at hl
  split at hl
  · simp only [Option.some.injEq,Prod.mk.injEq] at hl
    omega
  · cases hl
theorem Forced.step{n:Nat}{es:List E3}{q:Nat}{d:List Int}{b:List Bool}(h:Forced n es q d b)(hE:∀ x∈es,0≤x.1∧x.1<n∧0≤x.2.1∧x.2.1<n∧0≤x.2.2∧x.2.2≤50){v:Nat}(hv:v<b.length)(hc:gi d v<yaV es (v:Int) (fun u=>gb b u.toNat)):Forced n es q d (b.set v true):=by
  intro S hq hS u hu hSu
  rw [ycX hv]
  by_cases e:u=v
  · subst e
    exfalso
    have h1:=hS u hu hSu
    have h2:yaV es (u:Int) (fun x=>gb b x.toNat)≤yaV es (u:Int) (fun x=>!S x.toNat):=by
      unfold yaV
      refine addF_mono _ (fun q hq=>(yes hE (v:=(u:Int)) (u:=q.1) (m:=q.2) hq).2.2.1) (fun y hy hb=>?_)
      have hr:=yes hE (v:=(u:Int)) (u:=y.1) (m:=y.2) hy
      cases hs:S y.1.toNat with
      | false=>rfl
      | true =>
        have:=h S hq hS y.1.toNat (by omega) hs
        simp only [this] at hb
        cases hb
    omega
  · rw [if_neg e]
    exact h S hq hS u hu hSu
end Go.Proofs.YtencmgolklfmkaaGreat

/- Words for contracts that are proved from shallow forms: rows of numbers and bools read and written by index, states, the links' iterator. -/
namespace Go.Proofs.YtencmgolklfmkaaGreat
open Go Go.RowKit Go.Shelf Go.Proofs.Tryz
set_option maxRecDepth 100000
theorem ix_some{p:Addr}{l:Nat}{i:Int}(h0:0≤i)(h1:i<(l:Int)):Ix (some p) l i:=⟨rfl,h0,h1⟩
theorem ixA_zero(g:Nat)(i:Int)(sz:Nat):ixA (some ⟨g,0,none⟩) i sz=⟨g,i.toNat*sz,none⟩:=by simp [ixA,Addr.add_mid]
theorem ixA_one(g:Nat)(i:Int):ixA (some ⟨g,0,none⟩) i 1=⟨g,i.toNat,none⟩:=by simp [ixA_zero]
theorem ixA_off(g o:Nat)(i:Int)(sz:Nat):ixA (some ⟨g,o,none⟩) i sz=⟨g,o+i.toNat*sz,none⟩:=by simp [ixA,Addr.add_mid]
theorem add_zero_ (g k:Nat):(⟨g,0,none⟩:Addr).add k=⟨g,k,none⟩:=by simp [Addr.add_mid]
section
variable {w w' : World} {g : Nat} {e : TypeId} {size : Nat}
theorem Row.at_ {xs:List Value}(h:Row w g e size xs)(k:Nat){v:Value}(hv:xs[k]? = some v):w.cell? ((⟨g,0,none⟩:Addr).add k)=some v:=by rw [add_zero_];exact h.cell hv
theorem bwr{xs:List Bool}(h:BRow w g e size xs){i:Int}(h0:0≤i)(h1:i<(xs.length:Int)):Wr w (ixA (some ⟨g,0,none⟩) i 1):=by
  rw [ixA_one];exact ⟨by rw [bcell h (by omega)];rfl,Row.frozen h _⟩
theorem bst{xs:List Bool}(h:BRow w g e size xs)(i:Int)(v:Bool):BRow (w.setCell (ixA (some ⟨g,0,none⟩) i 1) (.bool v)) g e size (xs.set i.toNat v):=by
  rw [ixA_one];exact bset h _ _
theorem Keeps.set_ {S:Nat→Prop}{a:World}(h:Keeps S a w){k:Nat}(hk:S k)(i:Int)(v:Value):Keeps S a (w.setCell (ixA (some ⟨k,0,none⟩) i 1) v):=by
  rw [ixA_one];exact h.setCell (fun _=>hk) v
end
end Go.Proofs.YtencmgolklfmkaaGreat

/- Shallow forms of functions, made by program (sh.py), each with the proof that the code does so. -/
namespace Go.Proofs.YtencmgolklfmkaaGreat
open Go Go.RowKit Go.Shelf Go.Proofs.Tryz
set_option maxRecDepth 100000
set_option maxHeartbeats 8000000
end Go.Proofs.YtencmgolklfmkaaGreat

/- Shallow forms of functions, made by program (sh.py), each with the proof that the code does so. -/
namespace Go.Proofs.YtencmgolklfmkaaGreat
open Go Go.RowKit Go.Shelf Go.Proofs.Tryz
set_option maxRecDepth 100000
set_option maxHeartbeats 8000000
end Go.Proofs.YtencmgolklfmkaaGreat

/- The contracts of slices.Repeat at one number, of bits.Mul at small numbers, of slices.Max. -/
namespace Go.Proofs.YtencmgolklfmkaaGreat
open Go Go.RowKit Go.Shelf Go.Proofs.Tryz
set_option maxRecDepth 100000
set_option maxHeartbeats 8000000
end Go.Proofs.YtencmgolklfmkaaGreat

/- Distances by a search in breadth: what its two lists say at each step. No program in sight. -/
namespace Go.Proofs.YtencmgolklfmkaaGreat
open Go Go.Proofs.Tryz
def Adj(es:List E3)(v u:Nat):Prop:=∃ m,((u:Int),m)∈yeO es (v:Int)
theorem ybN{es:List E3}{v u m:Int} : (u,m)∈yeO es v↔∃ x∈es,x.1≠x.2.1∧(x.1=v∨x.2.1=v)∧u=x.1+x.2.1-v∧m=x.2.2:=by
  unfold yeO
  rw [List.mem_filterMap]
  constructor
  · rintro ⟨x,hx,hl⟩
    unfold link at hl
    split at hl
    · rename_i h
      simp only [Option.some.injEq,Prod.mk.injEq] at hl
      exact ⟨x,hx,h.1,h.2,hl.1.symm,hl.2.symm⟩
    · cases hl
  · rintro ⟨x,hx,h1,h2,rfl,rfl⟩
    exact ⟨x,hx,by unfold link;rw [if_pos ⟨h1,h2⟩]⟩
theorem Adj.symm{es:List E3}{v u:Nat}(h:Adj es v u):Adj es u v:=by
  obtain ⟨m,h⟩:=h
  obtain ⟨x,hx,h1,h2,h3,h4⟩:=ybN.1 h
  exact ⟨m,ybN.2 ⟨x,hx,h1,by omega,by omega,h4⟩⟩
def cu(o:List Int):Nat:=(o.filter fun x=>decide (x<0)).length
theorem cu_set{o:List Int}{v:Nat}{x:Int}(h:v<o.length)(hv:gi o v<0)(hx:0≤x):cu (o.set v x)+1=cu o:=by
  unfold cu
  induction o generalizing v with
  | nil=>simp at h
  | cons y o ih =>
    cases v with
    | zero =>
      simp [gi] at hv
      simp [List.filter_cons,hv,Int.not_lt.2 hx]
    | succ v =>
      have:=ih (v:=v) (by simpa using h) (by simpa [gi] using hv)
      simp only [List.set_cons_succ,List.filter_cons]
      split
      · simp only [List.length_cons];omega
      · omega
structure BIn(n:Nat)(es:List E3)(q v:Nat)(pre:List (Int×Int))(o:List Int)(Q:List Nat):Prop where
  len:o.length=n
  vn:v<n
  v0:0≤gi o v
  rng:∀ a∈Q,a<n∧0≤gi o a
  q0:gi o q=0
  low:∀ b, -1≤gi o b
  val:∀ b,gi o b+cu o≤(n:Int)-1
  par:∀ b,b<n→0<gi o b→∃ u,u<n∧Adj es b u∧gi o u=gi o b-1
  top:∀ b,b<n→gi o b≤gi o v+1
  bot:∀ a∈Q,gi o v≤gi o a
  mono:Q.Pairwise fun a b=>gi o a≤gi o b
  done:∀ x,x<n→0≤gi o x→x∉Q→x≠v→gi o x≤gi o v∧∀ u,Adj es x u→0≤gi o u∧gi o u≤gi o x+1
  now:∀ p∈pre,0≤gi o p.1.toNat∧gi o p.1.toNat≤gi o v+1
  zero:∀ b,b<n→gi o b=0→b=q
structure BInv(n:Nat)(es:List E3)(q:Nat)(o:List Int)(Q:List Nat):Prop where
  len:o.length=n
  rng:∀ a∈Q,a<n∧0≤gi o a
  q0:gi o q=0
  low:∀ b, -1≤gi o b
  val:∀ b,gi o b+cu o≤(n:Int)-1
  par:∀ b,b<n→0<gi o b→∃ u,u<n∧Adj es b u∧gi o u=gi o b-1
  top:∀ a∈Q,∀ b,b<n→gi o b≤gi o a+1
  mono:Q.Pairwise fun a b=>gi o a≤gi o b
  done:∀ x,x<n→0≤gi o x→x∉Q→(∀ a∈Q,gi o x≤gi o a)∧∀ u,Adj es x u→0≤gi o u∧gi o u≤gi o x+1
  zero:∀ b,b<n→gi o b=0→b=q
theorem BIn.push{n:Nat}{es:List E3}{q v:Nat}{pre:List (Int×Int)}{o:List Int}{Q:List Nat}(h:BIn n es q v pre o Q){u:Nat}{m:Int}(hu:u<n)(ha:Adj es v u)(hneg:gi o u<0) :
    BIn n es q v (pre++[((u:Int),m)]) (o.set u (gi o v+1)) (Q++[u]):=by
  have hul:u<o.length:=by rw [h.len];exact hu
  have hs:∀ b,gi (o.set u (gi o v+1)) b=if b=u then gi o v+1 else gi o b:=fun b=>ycM hul
  have hv0:=h.v0
  have hvu:v≠u:=by rintro rfl;omega
  have hc:=cu_set hul hneg (x:=gi o v+1) (by omega)
  have hkn:∀ b,0≤gi o b→gi (o.set u (gi o v+1)) b=gi o b:=fun b hb=>by
    rw [hs,if_neg (by rintro rfl;omega)]
  refine ⟨by simpa using h.len,h.vn,by rw [hkn v hv0];exact hv0,?_,by rw [hkn q (by rw [h.q0];omega)];exact h.q0,?_,?_,?_,?_,?_,?_,?_,?_,fun b hb h0=>by
    rw [hs] at h0
    split at h0
    · omega
    · exact h.zero b hb h0⟩
  · intro a ha'
    rcases List.mem_append.1 ha' with h1 | h1
    · have:=h.rng a h1;exact ⟨this.1,by rw [hkn a this.2];exact this.2⟩
    · simp only [List.mem_singleton] at h1;subst h1;exact ⟨hu,by rw [hs,if_pos rfl];omega⟩
  · intro b;rw [hs];split
    · omega
    · exact h.low b
  · intro b;rw [hs]
    have:=h.val b
    have:=h.val v
    split <;> omega
  · intro b hb h0
    rw [hs] at h0
    by_cases e:b=u
    · subst e
      refine ⟨v,h.vn,ha.symm,?_⟩
      rw [hkn v hv0,hs,if_pos rfl];omega
    · rw [if_neg e] at h0
      obtain ⟨y,hy,hay,hoy⟩:=h.par b hb h0
      refine ⟨y,hy,hay,?_⟩
      rw [hkn y (by omega),hs,if_neg e];exact hoy
  · intro b hb
    rw [hkn v hv0,hs]
    have:=h.top b hb
    split <;> omega
  · intro a ha'
    rw [hkn v hv0]
    rcases List.mem_append.1 ha' with h1 | h1
    · have h2:=h.rng a h1;rw [hkn a h2.2];exact h.bot a h1
    · simp only [List.mem_singleton] at h1;subst h1;rw [hs,if_pos rfl];omega
  · refine List.pairwise_append.2 ⟨h.mono.imp_of_mem (fun {a b} ha hb hab=>by rw [hkn a (h.rng a ha).2,hkn b (h.rng b hb).2];exact hab),by simp,fun a ha' b hb=>?_⟩
    simp only [List.mem_singleton] at hb;subst hb
    have h2:=h.rng a ha'
    rw [hkn a h2.2,hs,if_pos rfl]
    exact h.top a h2.1
  · intro x hx h0 hn hne
    have hxu:x≠u:=fun e=>hn (by simp [e])
    rw [hs,if_neg hxu] at h0
    have:=h.done x hx h0 (fun h=>hn (by simp [h])) hne
    rw [hkn v hv0,hs x,if_neg hxu]
    refine ⟨this.1,fun y hy=>?_⟩
    have h2:=this.2 y hy
    rw [hkn y h2.1];exact h2
  · intro p hp
    rw [hkn v hv0]
    rcases List.mem_append.1 hp with h1 | h1
    · have h2:=h.now p h1;rw [hkn _ h2.1];exact h2
    · simp only [List.mem_singleton] at h1;subst h1
      simp only [Int.toNat_natCast]
      rw [hs,if_pos rfl];omega
theorem BInv.start{n:Nat}{es:List E3}{q:Nat}(hq:q<n):BInv n es q ((List.replicate n (-1)).set q 0) [q]:=by
  have hl:q<(List.replicate n (-1:Int)).length:=by simpa using hq
  have hs:∀ b,gi ((List.replicate n (-1)).set q 0) b=if b=q then 0 else gi (List.replicate n (-1)) b:=fun b=>ycM hl
  have hr:∀ b,b<n→gi (List.replicate n (-1)) b = -1:=fun b hb=>by rw [ybe (by simpa using hb)];simp
  have hr2:∀ b,gi (List.replicate n (-1)) b = -1∨gi (List.replicate n (-1)) b=0:=fun b=>by
    rcases Nat.lt_or_ge b n with h | h
    · exact .inl (hr b h)
    · exact .inr (gi_ge (by simpa using h))
  have hc0:∀ n:Nat,cu (List.replicate n (-1))=n:=by
    intro n
    unfold cu
    rw [List.filter_eq_self.2 (fun x hx=>by rw [(List.mem_replicate.1 hx).2];rfl)]
    simp
  have hc:=cu_set hl (by rw [hr q hq];omega) (x:=0) (by omega)
  rw [hc0] at hc
  refine ⟨by simp,fun a ha=>?_,by rw [hs,if_pos rfl],fun b=>?_,fun b=>?_,fun b hb h0=>?_,fun a ha b hb=>?_,by simp,fun x hx h0 hn=>?_,fun b hb h0=>by
    rw [hs,hr b hb] at h0
    split at h0
    · assumption
    · omega⟩
  · simp only [List.mem_singleton] at ha;subst ha;exact ⟨hq,by rw [hs,if_pos rfl];omega⟩
  · rw [hs];rcases hr2 b with h | h <;> split <;> omega
  · rw [hs]
    rcases hr2 b with h | h
    · split <;> omega
    · split <;> omega
  · rw [hs] at h0;rw [hr b hb] at h0;split at h0 <;> omega
  · simp only [List.mem_singleton] at ha;subst ha;rw [hs,hs a,if_pos rfl,hr b hb];split <;> omega
  · exfalso
    rw [hs,hr x hx] at h0
    split at h0
    · rename_i e;exact hn (by simp [e])
    · omega
structure Dist(n:Nat)(es:List E3)(q:Nat)(o:List Int):Prop where
  len:o.length=n
  q0:gi o q=0
  low:∀ b, -1≤gi o b
  high:∀ b,gi o b≤(n:Int)-1
  par:∀ b,b<n→0<gi o b→∃ u,u<n∧Adj es b u∧gi o u=gi o b-1
  step:∀ x,x<n→0≤gi o x→∀ u,Adj es x u→0≤gi o u∧gi o u≤gi o x+1
  zero:∀ b,b<n→gi o b=0→b=q
theorem BInv.dist{n:Nat}{es:List E3}{q:Nat}{o:List Int}(h:BInv n es q o []):Dist n es q o :=
  ⟨h.len,h.q0,h.low,fun b=>by have:=h.val b;omega,h.par,fun x hx h0=>(h.done x hx h0 (by simp)).2,h.zero⟩
end Go.Proofs.YtencmgolklfmkaaGreat

/- The contract of distances: a search in breadth from q. -/
namespace Go.Proofs.YtencmgolklfmkaaGreat
open Go Go.RowKit Go.Shelf Go.Proofs.Tryz
set_option maxRecDepth 100000
set_option maxHeartbeats 8000000
theorem OwnS.cell{w:World}{B:Nat}{e:TypeId}{A:Option Addr}{l c:Nat}{xs:List Value}(h:OwnS w B e 1 A l c xs){i:Int}(h0:0≤i){v:Value}(hv:xs[i.toNat]? = some v):Ix A l i∧w.cell? (ixA A i 1)=some v:=by
  have hl:xs.length=l:=by simpa using h.1
  have hlt:i.toNat<xs.length:=(List.getElem?_eq_some_iff.1 hv).1
  rcases h.2 with ⟨rfl,h1,_⟩ | ⟨g,o,cur,rfl,hB,hg,hlc,hcm,hcs,ht⟩
  · omega
  · refine ⟨ix_some h0 (by omega),?_⟩
    rw [ixA_off,cell_of_row w g _ cur e (0,0) hg]
    rw [←ht,List.getElem?_take,if_pos (by omega),List.getElem?_drop] at hv
    simpa using hv
theorem OwnS.tail{w:World}{B:Nat}{e:TypeId}{A:Option Addr}{l c:Nat}{x:Value}{xs:List Value}(h:OwnS w B e 1 A l c (x::xs)):OwnS w B e 1 (slA A c 1 1) (l-1) (c-1) xs:=by
  have hl:xs.length+1=l:=by simpa using h.1
  rcases h.2 with ⟨rfl,h1,_⟩ | ⟨g,o,cur,rfl,hB,hg,hlc,hcm,hcs,ht⟩
  · omega
  · have hd:(cur.toList.drop (o+1)).take (l-1)=xs:=by
      rw [Nat.mul_one] at ht
      have:=congrArg (List.drop 1) ht
      rw [List.drop_take,List.drop_drop] at this
      simpa using this
    refine ⟨by omega, .inr ?_⟩
    unfold slA
    by_cases e1:c=1
    · rw [if_pos e1]
      have hx:xs=[]:=List.eq_nil_of_length_eq_zero (by omega)
      subst hx
      exact ⟨g,o,cur,rfl,hB,hg,by omega,by omega,by omega,by rw [show (l-1)*1=0 by omega];simp⟩
    · rw [if_neg e1]
      refine ⟨g,o+1,cur,by simp [Addr.add_mid],hB,hg,by omega,by omega,by omega,?_⟩
      rw [Nat.mul_one];exact hd
theorem OwnS.keep{w w':World}{B:Nat}{e:TypeId}{sz:Nat}{A:Option Addr}{l c:Nat}{xs:List Value}(h:OwnS w B e sz A l c xs)(hk:∀ a,A=some a→w'.heap[a.block]? = w.heap[a.block]?):OwnS w' B e sz A l c xs:=by
  refine ⟨h.1,?_⟩
  rcases h.2 with h1 | ⟨g,o,cur,rfl,hB,hg,rest⟩
  · exact .inl h1
  · exact .inr ⟨g,o,cur,rfl,hB,(hk _ rfl).trans hg,rest⟩
theorem OwnS.lt{w:World}{B:Nat}{e:TypeId}{sz:Nat}{A:Option Addr}{l c:Nat}{xs:List Value}(h:OwnS w B e sz A l c xs){a:Addr}(ha:A=some a):B≤a.block∧a.block<w.heap.size:=by
  rcases h.2 with ⟨h1,_⟩ | ⟨g,o,cur,h1,hB,hg,rest⟩
  · rw [h1] at ha;cases ha
  · rw [h1] at ha;cases ha;exact ⟨hB,(Array.getElem?_eq_some_iff.1 hg).1⟩
structure QI(w0:World)(B gO gQ n:Nat)(es:List E3)(q:Nat)(m:Nat)(w:World)(o:List Int)(Q:List Nat)(A:Option Addr)(l c:Nat):Prop where
  len:l=Q.length
  mes:2*cu o+Q.length≤m
  out:IRow w gO 3 n o
  box:Row w gQ 35 1 [.slice A l c]
  own:OwnS w B 3 1 A l c (Q.map fun (x:Nat)=>Value.int .i64 (x:Int))
  pure:Pure w0 w
end Go.Proofs.YtencmgolklfmkaaGreat

/- The contract of fire: a set of vertices fires some times. -/
namespace Go.Proofs.YtencmgolklfmkaaGreat
open Go Go.RowKit Go.Shelf Go.Proofs.Tryz
set_option maxRecDepth 100000
set_option maxHeartbeats 8000000
def pay(t:Int)(v:Nat)(d:List Int)(x:Int×Int):List Int:=(d.set v (gi d v-x.2*t)).set x.1.toNat (gi (d.set v (gi d v-x.2*t)) x.1.toNat+x.2*t)
def yh8(t:Int)(v:Nat)(l:List (Int×Int))(d:List Int):List Int:=l.foldl (pay t v) d
def yfB(es:List E3)(inn:List Bool)(t:Int)(d:List Int):Nat→List Int
  | 0=>d
  | k+1=>if gb inn k then yh8 t k (yeO es k) (yfB es inn t d k) else yfB es inn t d k
def yd9(inn:List Bool)(t:Int)(s:List Int):Nat→List Int
  | 0=>s
  | k+1=>if gb inn k then (yd9 inn t s k).set k (gi (yd9 inn t s k) k+t) else yd9 inn t s k
theorem payAll_length(t:Int)(v:Nat)(l:List (Int×Int)):∀ d,(yh8 t v l d).length=d.length:=by
  unfold yh8
  induction l with
  | nil=>intro d;rfl
  | cons x l ih=>intro d;rw [List.foldl_cons,ih];simp [pay]
theorem ydI(es:List E3)(inn:List Bool)(t:Int)(d:List Int):∀ k,(yfB es inn t d k).length=d.length
  | 0=>rfl
  | k+1=>by
    rw [yfB];split
    · rw [payAll_length,ydI es inn t d k]
    · exact ydI es inn t d k
theorem ydG(inn:List Bool)(t:Int)(s:List Int):∀ k,(yd9 inn t s k).length=s.length
  | 0=>rfl
  | k+1=>by
    rw [yd9];split
    · rw [List.length_set,ydG inn t s k]
    · exact ydG inn t s k
theorem fireS_gi(inn:List Bool)(t:Int)(s:List Int):∀ k i,k≤s.length→gi (yd9 inn t s k) i=if i<k∧gb inn i=true then gi s i+t else gi s i
  | 0,i,_=>by simp [yd9]
  | k+1,i,hk=>by
    have ih:=fireS_gi inn t s k
    rw [yd9]
    by_cases hb:gb inn k=true
    · rw [if_pos hb,ycM (by rw [ydG];omega)]
      by_cases e:i=k
      · subst e;rw [if_pos rfl,if_pos ⟨by omega,hb⟩,ih i (by omega),if_neg (by omega)]
      · rw [if_neg e,ih i (by omega)]
        by_cases h2:i<k∧gb inn i=true
        · rw [if_pos h2,if_pos ⟨by omega,h2.2⟩]
        · rw [if_neg h2,if_neg (fun h=>h2 ⟨by omega,h.2⟩)]
    · rw [if_neg hb,ih i (by omega)]
      by_cases h2:i<k∧gb inn i=true
      · rw [if_pos h2,if_pos ⟨by omega,h2.2⟩]
      · rw [if_neg h2,if_neg (fun h=>by
          by_cases e:i=k
          · subst e;exact hb h.2
          · exact h2 ⟨by omega,h.2⟩)]
def Bnd(M:Int)(d:List Int):Prop:=∀ i, -M≤gi d i∧gi d i≤M
def bigAt(d s:List Int)(j:Nat):Bool:=decide (2097152<gi d j∨2097152 < -gi d j∨2097152<gi s j∨2097152 < -gi s j)
def fireE(d s:List Int)(e:Int):Nat→Int
  | 0=>e
  | j+1=>if bigAt d s j=true∧fireE d s e j=0 then 11 else fireE d s e j
end Go.Proofs.YtencmgolklfmkaaGreat

/- The contract of settle: unburnt sets fire until there are none. What fires well is a premise (Good), so that the numbers are plain Lean elsewhere. -/
namespace Go.Proofs.YtencmgolklfmkaaGreat
open Go Go.RowKit Go.Shelf Go.Proofs.Tryz
set_option maxRecDepth 100000
set_option maxHeartbeats 8000000
def ycU(es:List E3)(left:List Bool)(d:List Int):Nat→Int
  | 0=>0
  | k+1=>if gb left k=true∧0<yaV es (k:Int) (fun u=>!gb left u.toNat) then
      (if ycU es left d k=0∨(gi d k).tdiv (yaV es (k:Int) (fun u=>!gb left u.toNat))<ycU es left d k then (gi d k).tdiv (yaV es (k:Int) (fun u=>!gb left u.toNat)) else ycU es left d k)
    else ycU es left d k
structure Burns(n:Nat)(es:List E3)(q:Nat)(d:List Int)(burnt:List Bool):Prop where
  len:burnt.length=n
  at_q:gb burnt q=true
  closed:Closed n es d burnt
  forced:Forced n es q d burnt
def leftOf(burnt:List Bool):List Bool:=burnt.map (!·)
end Go.Proofs.YtencmgolklfmkaaGreat

/- The contracts of slices.Max and of lend: from the farthest vertices on, the nearer ones fire. What fires well is a premise (Good). -/
namespace Go.Proofs.YtencmgolklfmkaaGreat
open Go Go.RowKit Go.Shelf Go.Proofs.Tryz
set_option maxRecDepth 100000
set_option maxHeartbeats 8000000
def yhC(l:List Int):Nat→Int
  | 0=>gi l 0
  | k+1=>mxF (yhC l k) (gi l k)
theorem maxTo_ge(l:List Int):∀ (k j:Nat),j<k→gi l j≤yhC l k
  | k+1,j,h=>by
    rw [yhC,mxF_eq]
    by_cases e:j=k
    · subst e;exact Int.le_max_right _ _
    · exact Int.le_trans (maxTo_ge l k j (by omega)) (Int.le_max_left _ _)
theorem maxTo_mem(l:List Int):∀ k,k≤l.length→0<l.length→∃ j,j<l.length∧yhC l k=gi l j
  | 0,_,h=>⟨0,h,rfl⟩
  | k+1,h,h0=>by
    obtain ⟨j,hj,e⟩:=maxTo_mem l k (by omega) h0
    rw [yhC]
    unfold mxF
    split
    · exact ⟨k,by omega,rfl⟩
    · exact ⟨j,hj,e⟩
def yaZ(o:List Int)(k:Int):List Bool:=o.map fun x=>decide (x<k)
theorem yfP{o:List Int}{k:Int}{j:Nat}(h:j<o.length):gb (yaZ o k) j=decide (gi o j<k):=by
  rw [yda (by simpa [yaZ] using h),ybe h]
  simp [yaZ]
def ycV(es:List E3)(o:List Int)(k:Int)(d:List Int):Nat→Int
  | 0=>0
  | j+1=>if gi o j=k∧gi d j<0 then mxF (ycV es o k d j) ((-gi d j+yaV es (j:Int) (fun u=>gb (yaZ o k) u.toNat)-1).tdiv (yaV es (j:Int) (fun u=>gb (yaZ o k) u.toNat))) else ycV es o k d j
theorem addF_pos{p:Int→Bool}{l:List (Int×Int)}(h:∀ q∈l,0≤q.2){x:Int×Int}(hx:x∈l)(hp:p x.1=true)(hx1:1≤x.2):1≤addF p l:=by
  suffices H:∀ (l:List (Int×Int)) (a:Int),(∀ q∈l,0≤q.2)→a≤l.foldl (fun n x=>if p x.1 then n+x.2 else n) a∧(x∈l→a+1≤l.foldl (fun n x=>if p x.1 then n+x.2 else n) a) by
    have:=(H l 0 h).2 hx
    unfold addF;omega
  intro l
  induction l with
  | nil=>intro a _;simp
  | cons y l ih =>
    intro a h
    have h1:=ih (if p y.1 then a+y.2 else a) (fun q hq=>h q (by simp [hq]))
    have hy:=h y (by simp)
    rw [List.foldl_cons]
    refine ⟨?_,fun hm=>?_⟩
    · split at h1 <;> rename_i hpy <;> simp only [hpy] at h1 ⊢ <;> simp at h1 ⊢ <;> omega
    · rcases List.mem_cons.1 hm with rfl | hm
      · rw [if_pos hp] at h1 ⊢;omega
      · have h2:=h1.2 hm
        split at h2 <;> rename_i hpy <;> simp only [hpy] at h2 ⊢ <;> simp at h2 ⊢ <;> omega
theorem near_pos{n:Nat}{es:List E3}{q:Nat}{o:List Int}(hD:Dist n es q o)(hE1:∀ x∈es,1≤x.2.2){v k:Nat}(hv:v<n)(hk:gi o v=(k:Int)+1):1≤yaV es (v:Int) (fun u=>gb (yaZ o ((k:Int)+1)) u.toNat):=by
  obtain ⟨u,hu,⟨m,hm⟩,ho⟩:=hD.par v hv (by omega)
  have hpos:∀ p∈yeO es (v:Int),1≤p.2:=fun p hp=>by
    obtain ⟨x,hx,_,_,_,h4⟩:=(ybN (u:=p.1) (m:=p.2)).1 hp
    rw [h4];exact hE1 x hx
  refine addF_pos (fun p hp=>by have:=hpos p hp;omega) hm ?_ (hpos _ hm)
  simp only [Int.toNat_natCast]
  rw [yfP (by rw [hD.len];exact hu)]
  simp;omega
end Go.Proofs.YtencmgolklfmkaaGreat

/- Sums, weights, the Laplacian, and what firing does to the chips. No program in sight. -/
namespace Go.Proofs.YtencmgolklfmkaaGreat
open Go Go.Proofs.Tryz
def sm:Nat→(Nat→Int)→Int
  | 0,_=>0
  | n+1,f=>sm n f+f n
theorem yaw{f g:Nat→Int} : ∀ {n:Nat},(∀ i,i<n→f i=g i)→sm n f=sm n g
  | 0,_=>rfl
  | n+1,h=>by rw [sm,sm,yaw (fun i hi=>h i (by omega)),h n (by omega)]
theorem ybY:∀ n,sm n (fun _=>0)=0
  | 0=>rfl
  | n+1=>by rw [sm,ybY n];rfl
theorem ydu(f g:Nat→Int):∀ n,sm n (fun i=>f i+g i)=sm n f+sm n g
  | 0=>rfl
  | n+1=>by simp only [sm,ydu f g n];omega
theorem ygl(f g:Nat→Int):∀ n,sm n (fun i=>f i-g i)=sm n f-sm n g
  | 0=>rfl
  | n+1=>by simp only [sm,ygl f g n];omega
theorem yjF(c:Int)(f:Nat→Int):∀ n,sm n (fun i=>c*f i)=c*sm n f
  | 0=>by simp [sm]
  | n+1=>by simp only [sm,yjF c f n,Int.mul_add]
theorem yiB{f g:Nat→Int} : ∀ {n:Nat},(∀ i,i<n→f i≤g i)→sm n f≤sm n g
  | 0,_=>Int.le_refl _
  | n+1,h=>by
    have h1:=yiB (fun i hi=>h i (by omega):∀ i,i<n→f i≤g i)
    have h2:=h n (by omega)
    rw [sm,sm];omega
theorem ybo{f:Nat→Int}{n:Nat}(h:∀ i,i<n→0≤f i):0≤sm n f:=by
  have:=yiB h
  rwa [ybY] at this
theorem ygu{f:Nat→Int} : ∀ {n:Nat},(∀ i,i<n→0≤f i)→∀ j,j<n→f j≤sm n f
  | n+1,h,j,hj=>by
    have h1:=ybo (fun i hi=>h i (by omega):∀ i,i<n→0≤f i)
    have h2:=h n (by omega)
    rw [sm]
    by_cases e:j=n
    · subst e;omega
    · have:=ygu (fun i hi=>h i (by omega):∀ i,i<n→0≤f i) j (by omega);omega
theorem sm_swap(f:Nat→Nat→Int)(m:Nat):∀ n,sm n (fun i=>sm m (fun j=>f i j))=sm m (fun j=>sm n (fun i=>f i j))
  | 0=>by simp only [sm];rw [ybY]
  | n+1=>by
    simp only [sm]
    rw [sm_swap f m n,←ydu]
theorem ygg(c:Int):∀ {n j:Nat},j<n→sm n (fun i=>if i=j then c else 0)=c
  | n+1,j,h=>by
    rw [sm]
    by_cases e:j=n
    · subst e
      rw [if_pos rfl,yaw (g:=fun _=>0) (fun i hi=>if_neg (by omega)),ybY];omega
    · rw [ygg c (by omega:j<n),if_neg (by omega)];omega
def addG(p:Int→Bool):List (Int×Int)→Int
  | []=>0
  | x::l=>(if p x.1 then x.2 else 0)+addG p l
theorem yhf(p:Int→Bool)(l:List (Int×Int)):addF p l=addG p l:=by
  suffices H:∀ (l:List (Int×Int)) (a:Int),l.foldl (fun n x=>if p x.1 then n+x.2 else n) a=a+addG p l by
    unfold addF;rw [H];omega
  intro l
  induction l with
  | nil=>intro a;simp [addG]
  | cons x l ih=>intro a;rw [List.foldl_cons,ih,addG];split <;> omega
theorem addG_sum{n:Nat}(p:Int→Bool):∀ (l:List (Int×Int)),(∀ x∈l,0≤x.1∧x.1<n)→addG p l=sm n (fun u=>if p (u:Int) then addG (fun x=>x==(u:Int)) l else 0)
  | [],_=>by
    rw [addG,yaw (g:=fun _=>0) (fun i _=>by simp [addG]),ybY]
  | x::l,h=>by
    have hx:=h x (by simp)
    have ih:=addG_sum p l (fun y hy=>h y (by simp [hy]))
    have h1:sm n (fun u=>if p (u:Int) then addG (fun y=>y==(u:Int)) (x::l) else 0)=sm n (fun u=>(if u=x.1.toNat then (if p x.1 then x.2 else 0) else 0)+(if p (u:Int) then addG (fun y=>y==(u:Int)) l else 0)):=by
      refine yaw (fun u hu=>?_)
      simp only [addG]
      by_cases e:u=x.1.toNat
      · have e2:x.1=(u:Int):=by omega
        rw [if_pos e,e2]
        simp only [beq_self_eq_true,if_true]
        split <;> omega
      · have e2:(x.1==(u:Int))=false:=by simp;omega
        rw [if_neg e]
        simp only [e2,Bool.false_eq_true,if_false]
        split <;> omega
    rw [h1,ydu,ygg _ (by omega),addG,ih]
def W(es:List E3)(v u:Nat):Int:=yaV es (v:Int) (fun x=>x==(u:Int))
def EOk(n:Nat)(es:List E3):Prop:=∀ x∈es,0≤x.1∧x.1<n∧0≤x.2.1∧x.2.1<n∧1≤x.2.2∧x.2.2≤50
theorem EOk.range{n:Nat}{es:List E3}(h:EOk n es):∀ x∈es,0≤x.1∧x.1<n∧0≤x.2.1∧x.2.1<n∧0≤x.2.2∧x.2.2≤50:=fun x hx=>by have:=h x hx;omega
theorem yfI{n:Nat}{es:List E3}(h:EOk n es)(v:Nat)(p:Int→Bool):yaV es (v:Int) p=sm n (fun u=>if p (u:Int) then W es v u else 0):=by
  have h1:∀ x∈yeO es (v:Int),0≤x.1∧x.1<n:=fun x hx=>by
    have:=yes h.range (v:=(v:Int)) (u:=x.1) (m:=x.2) hx;omega
  unfold yaV
  rw [yhf,addG_sum p _ h1]
  refine yaw fun u _=>?_
  unfold W yaV
  rw [yhf]
def w1(x:E3)(v u:Nat):Int:=if x.1≠x.2.1∧((x.1=v∧x.2.1=u)∨(x.1=u∧x.2.1=v)) then x.2.2 else 0
theorem ygV(x:E3)(es:List E3)(v u:Nat):W (x::es) v u=w1 x v u+W es v u:=by
  unfold W yaV yeO w1
  rw [yhf,yhf,List.filterMap_cons]
  unfold link
  by_cases c:x.1≠x.2.1∧(x.1=v∨x.2.1=v)
  · rw [if_pos c]
    simp only [addG]
    by_cases e:x.1+x.2.1-v=u
    · rw [if_pos (by simpa using e),if_pos ⟨c.1,by omega⟩]
    · rw [if_neg (by simpa using e),if_neg (fun h=>by omega)]
  · simp only [if_neg c]
    rw [if_neg (fun h=>c ⟨h.1,by omega⟩)]
    omega
theorem W_nil(v u:Nat):W [] v u=0:=rfl
theorem w1_symm(x:E3)(v u:Nat):w1 x v u=w1 x u v:=by
  unfold w1
  by_cases c:x.1≠x.2.1∧((x.1=v∧x.2.1=u)∨(x.1=u∧x.2.1=v))
  · rw [if_pos c,if_pos ⟨c.1,by omega⟩]
  · rw [if_neg c,if_neg (fun h=>c ⟨h.1,by omega⟩)]
theorem yfq:∀ (es:List E3) (v u:Nat),W es v u=W es u v
  | [],v,u=>rfl
  | x::es,v,u=>by rw [ygV,ygV,w1_symm,yfq es v u]
theorem W_self:∀ (es:List E3) (v:Nat),W es v v=0
  | [],v=>rfl
  | x::es,v=>by
    rw [ygV,W_self es v]
    unfold w1
    rw [if_neg (fun h=>h.1 (by omega))];rfl
theorem ycE{n:Nat}{es:List E3}(h:EOk n es):∀ v u,0≤W es v u:=by
  induction es with
  | nil=>intro v u;rw [W_nil];omega
  | cons x es ih =>
    intro v u
    have h1:=ih (fun y hy=>h y (by simp [hy])) v u
    have h2:=h x (by simp)
    rw [ygV]
    unfold w1
    split <;> omega
theorem W_adj{n:Nat}{es:List E3}(h:EOk n es){v u:Nat} : 0<W es v u↔Adj es v u:=by
  induction es with
  | nil=>rw [W_nil];constructor;(intro h;omega);rintro ⟨m,hm⟩;exact absurd hm (by simp [yeO])
  | cons x es ih =>
    have h1:=ih (fun y hy=>h y (by simp [hy]))
    have h2:=h x (by simp)
    have h3:=ycE (fun y hy=>h y (by simp [hy]):EOk n es) v u
    rw [ygV]
    have h4:Adj (x::es) v u↔(x.1≠x.2.1∧((x.1=v∧x.2.1=u)∨(x.1=u∧x.2.1=v)))∨Adj es v u:=by
      constructor
      · rintro ⟨m,hm⟩
        obtain ⟨y,hy,q1,q2,q3,q4⟩:=ybN.1 hm
        rcases List.mem_cons.1 hy with rfl | hy
        · exact .inl ⟨q1,by omega⟩
        · exact .inr ⟨m,ybN.2 ⟨y,hy,q1,q2,q3,q4⟩⟩
      · rintro (q | ⟨m,hm⟩)
        · exact ⟨x.2.2,ybN.2 ⟨x,by simp,q.1,by omega,by omega,rfl⟩⟩
        · obtain ⟨y,hy,q1,q2,q3,q4⟩:=ybN.1 hm
          exact ⟨m,ybN.2 ⟨y,by simp [hy],q1,q2,q3,q4⟩⟩
    rw [h4,←h1]
    unfold w1
    constructor
    · intro hh
      split at hh
      · rename_i c;exact .inl c
      · exact .inr (by omega)
    · rintro (c | c)
      · rw [if_pos c];omega
      · split <;> omega
def Lp(n:Nat)(es:List E3)(s:Nat→Int)(v:Nat):Int:=sm n (fun u=>W es v u*(s v-s u))
def deg(n:Nat)(es:List E3)(v:Nat):Int:=sm n (fun u=>W es v u)
theorem gi_pay{t:Int}{v:Nat}{x:Int×Int}{d:List Int}(hv:v<d.length)(hu:x.1.toNat<d.length)(hne:x.1.toNat≠v)(i:Nat) :
    gi (pay t v d x) i=gi d i-(if i=v then x.2*t else 0)+(if i=x.1.toNat then x.2*t else 0):=by
  unfold pay
  rw [ycM (by simpa using hu),ycM hv]
  by_cases e:i=x.1.toNat
  · subst e;rw [if_pos rfl,if_pos rfl,if_neg hne];rw [if_neg hne];omega
  · rw [if_neg e,if_neg e,ycM hv];split <;> (try subst_vars) <;> omega
theorem gi_payAll{t:Int}{v n:Nat} : ∀ (l:List (Int×Int)) (d:List Int),d.length=n→v<n→(∀ x∈l,0≤x.1∧x.1<n∧x.1.toNat≠v)→∀ i,
    gi (yh8 t v l d) i=gi d i-(if i=v then t*addG (fun _=>true) l else 0)+t*addG (fun y=>y==(i:Int)) l
  | [],d,_,_,_,i=>by simp [yh8,addG]
  | x::l,d,hd,hv,h,i=>by
    have hx:=h x (by simp)
    have h1:=gi_payAll (t:=t) (v:=v) l (pay t v d x) (by simp [pay,hd]) hv (fun y hy=>h y (by simp [hy])) i
    have h2:yh8 t v (x::l) d=yh8 t v l (pay t v d x):=rfl
    rw [h2,h1,gi_pay (by omega) (by omega) hx.2.2]
    simp only [addG,if_true]
    have hb:(x.1==(i:Int))=decide (i=x.1.toNat):=by
      rw [Bool.eq_iff_iff];simp;omega
    simp only [hb,decide_eq_true_eq]
    have e1:t*(x.2+addG (fun _=>true) l)=x.2*t+t*addG (fun _=>true) l:=by rw [Int.mul_add,Int.mul_comm t x.2]
    have e2:∀ a:Int,t*(x.2+a)=x.2*t+t*a:=fun a=>by rw [Int.mul_add,Int.mul_comm t x.2]
    by_cases c1:i=v <;> by_cases c2:i=x.1.toNat <;> simp only [c1,c2,if_true,if_false,e2,Int.zero_add] <;> (try split) <;> (try split) <;> (try simp only [e2,Int.zero_add]) <;> omega
def ind(inn:List Bool)(v:Nat):Int:=if gb inn v then 1 else 0
theorem links_ok{n:Nat}{es:List E3}(h:EOk n es)(v:Nat):∀ x∈yeO es (v:Int),0≤x.1∧x.1<n∧x.1.toNat≠v:=fun x hx=>by
  have h1:=yes h.range (v:=(v:Int)) (u:=x.1) (m:=x.2) hx
  obtain ⟨y,hy,q1,q2,q3,q4⟩:=(ybN (u:=x.1) (m:=x.2)).1 hx
  omega
theorem addG_true{n:Nat}{es:List E3}(h:EOk n es)(v:Nat):addG (fun _=>true) (yeO es (v:Int))=deg n es v:=by
  have:=yfI h v (fun _=>true)
  unfold yaV at this
  rw [yhf] at this
  rw [this]
  exact yaw fun u _=>by simp
theorem gi_fireD{n:Nat}{es:List E3}(h:EOk n es)(inn:List Bool)(t:Int)(d:List Int)(hd:d.length=n):∀ k,k≤n→∀ i,i<n →
    gi (yfB es inn t d k) i=gi d i-t*(if i<k then ind inn i*deg n es i else 0)+t*sm k (fun j=>ind inn j*W es j i)
  | 0,_,i,_=>by simp [yfB,sm]
  | k+1,hk,i,hi=>by
    have ih:=gi_fireD h inn t d hd k (by omega) i hi
    rw [yfB,sm]
    by_cases hb:gb inn k=true
    · rw [if_pos hb,gi_payAll (n:=n) _ _ (by rw [ydI];exact hd) (by omega) (links_ok h k),ih,addG_true h]
      have hW:addG (fun y=>y==(i:Int)) (yeO es (k:Int))=W es k i:=by unfold W yaV;rw [yhf]
      rw [hW]
      have hind:ind inn k=1:=by simp [ind,hb]
      rw [hind]
      by_cases c1:i=k
      · subst c1
        rw [if_neg (by omega),if_pos rfl,if_pos (by omega),hind]
        simp only [Int.mul_add,Int.one_mul,Int.mul_zero];omega
      · rw [if_neg c1]
        by_cases c2:i<k
        · rw [if_pos c2,if_pos (by omega)];simp only [Int.mul_add,Int.one_mul];omega
        · rw [if_neg c2,if_neg (by omega)];simp only [Int.mul_add,Int.one_mul];omega
    · rw [if_neg hb,ih]
      have hind:ind inn k=0:=by simp [ind,hb]
      rw [hind]
      by_cases c1:i=k
      · subst c1
        rw [if_neg (by omega),if_pos (by omega),hind]
        simp
      · by_cases c2:i<k
        · rw [if_pos c2,if_pos (by omega)];simp
        · rw [if_neg c2,if_neg (by omega)];simp
theorem Lp_ind{n:Nat}{es:List E3}(s:Nat→Int)(v:Nat):Lp n es s v=s v*deg n es v-sm n (fun u=>s u*W es u v):=by
  unfold Lp deg
  rw [←yjF,←ygl]
  refine yaw fun u _=>?_
  rw [Int.mul_sub,Int.mul_comm (W es v u) (s v),yfq es v u,Int.mul_comm (W es u v) (s u)]
theorem fire_lp{n:Nat}{es:List E3}(h:EOk n es)(inn:List Bool)(t:Int)(d:List Int)(hd:d.length=n){i:Nat}(hi:i<n):gi (yfB es inn t d n) i=gi d i-t*Lp n es (ind inn) i:=by
  rw [gi_fireD h inn t d hd n (Nat.le_refl _) i hi,if_pos hi,Lp_ind,Int.mul_sub];omega
theorem Lp_add{n:Nat}{es:List E3}(a b:Nat→Int)(v:Nat):Lp n es (fun i=>a i+b i) v=Lp n es a v+Lp n es b v:=by
  unfold Lp
  rw [←ydu]
  exact yaw fun u _=>by rw [←Int.mul_add];congr 1;show a v+b v-(a u+b u)=_;omega
theorem Lp_mul{n:Nat}{es:List E3}(c:Int)(a:Nat→Int)(v:Nat):Lp n es (fun i=>c*a i) v=c*Lp n es a v:=by
  unfold Lp
  rw [←yjF]
  exact yaw fun u _=>by rw [←Int.mul_sub,Int.mul_left_comm]
theorem Lp_const{n:Nat}{es:List E3}(c:Int)(v:Nat):Lp n es (fun _=>c) v=0:=by
  unfold Lp
  rw [yaw (g:=fun _=>0) (fun u _=>by simp),ybY]
theorem Lp_congr{n:Nat}{es:List E3}{a b:Nat→Int}(h:∀ i,i<n→a i=b i){v:Nat}(hv:v<n):Lp n es a v=Lp n es b v:=by
  unfold Lp
  exact yaw fun u hu=>by rw [h v hv,h u hu]
theorem Lp_cut{n:Nat}{es:List E3}(S:Nat→Bool)(s:Nat→Int):sm n (fun v=>if S v then Lp n es s v else 0)=sm n (fun v=>sm n (fun u=>if S v && !S u then W es v u*(s v-s u) else 0)):=by
  have h1:sm n (fun v=>if S v then Lp n es s v else 0)=sm n (fun v=>sm n (fun u=>(if S v && !S u then W es v u*(s v-s u) else 0)))+sm n (fun v=>sm n (fun u=>(if S v&&S u then W es v u*(s v-s u) else 0))):=by
    rw [←ydu]
    refine yaw fun v _=>?_
    rw [←ydu]
    cases hv:S v with
    | false=>simp [ybY]
    | true =>
      simp only [if_true,Bool.true_and]
      unfold Lp
      refine yaw fun u _=>?_
      cases S u <;> simp
  have h2:sm n (fun v=>sm n (fun u=>(if S v&&S u then W es v u*(s v-s u) else 0)))=0:=by
    have h3:sm n (fun v=>sm n (fun u=>(if S v&&S u then W es v u*(s v-s u) else 0))) = - sm n (fun v=>sm n (fun u=>(if S v&&S u then W es v u*(s v-s u) else 0))):=by
      conv=>lhs;rw [sm_swap]
      have:∀ m (f:Nat→Int), - sm m f=sm m (fun i => - f i):=fun m f=>by
        have:=yjF (-1) f m
        simp only [Int.neg_mul,Int.one_mul] at this
        exact this.symm
      rw [this]
      refine yaw fun v _=>?_
      rw [this]
      refine yaw fun u _=>?_
      cases S u <;> cases S v <;> simp
      rw [yfq es u v,←Int.mul_neg];congr 1;omega
    omega
  rw [h1,h2];omega
theorem Lp_total{n:Nat}{es:List E3}(s:Nat→Int):sm n (fun v=>Lp n es s v)=0:=by
  have:=Lp_cut (n:=n) (es:=es) (fun _=>true) s
  simp only [if_true,Bool.not_true,Bool.and_false,Bool.false_eq_true,if_false] at this
  rw [this,yaw (g:=fun _=>0) (fun v _=>ybY n),ybY]
end Go.Proofs.YtencmgolklfmkaaGreat

/- The contract of result: the script is laid so that q does not fire; numbers out of range are an error. -/
namespace Go.Proofs.YtencmgolklfmkaaGreat
open Go Go.RowKit Go.Shelf Go.Proofs.Tryz
set_option maxRecDepth 100000
set_option maxHeartbeats 8000000
structure ResNil(A1:Option Addr)(l1 c1:Nat)(A2:Option Addr)(l2 c2:Nat):Prop where
  a1:A1=none
  l1:l1=0
  c1:c1=0
  a2:A2=none
  l2:l2=0
  c2:c2=0
structure ResOk(gd gs n cd cs:Nat)(d s:List Int)(A1:Option Addr)(l1 c1:Nat)(A2:Option Addr)(l2 c2:Nat)(w':World):Prop where
  a1:A1=some ⟨gd,0,none⟩
  l1:l1=n
  c1:c1=cd
  a2:A2=some ⟨gs,0,none⟩
  l2:l2=n
  c2:c2=cs
  row1:IRow w' gd 3 cd d
  row2:IRow w' gs 3 cs s
end Go.Proofs.YtencmgolklfmkaaGreat

/- The plain laws ya8 lending: levels, cuts, bounds. No program in sight. -/
namespace Go.Proofs.YtencmgolklfmkaaGreat
open Go Go.Proofs.Tryz
theorem fireE_ok{d s:List Int}(hd:∀ j, -2097152≤gi d j∧gi d j≤2097152)(hs:∀ j, -2097152≤gi s j∧gi s j≤2097152)(e:Int):∀ j,fireE d s e j=e
  | 0=>rfl
  | j+1=>by
    rw [fireE,fireE_ok hd hs e j,if_neg]
    rintro ⟨h, -⟩
    have h1:=hd j
    have h2:=hs j
    unfold bigAt at h
    rw [decide_eq_true_eq] at h
    omega
theorem yhh{d:List Int}{n:Nat}(h:d.length=n){i:Nat}(hi:¬i<n):gi d i=0:=gi_ge (by omega)
theorem yiy{inn:List Bool}{t:Int}{s:List Int}{n:Nat}(hs:s.length=n){v:Nat}(hv:v<n):gi (yd9 inn t s n) v=gi s v+t*ind inn v:=by
  rw [fireS_gi inn t s n v (by omega)]
  unfold ind
  by_cases h:gb inn v=true
  · rw [if_pos ⟨hv,h⟩,if_pos h];omega
  · rw [if_neg (fun x=>h x.2),if_neg h];omega
theorem Lp_fireS{n:Nat}{es:List E3}{inn:List Bool}{t:Int}{s:List Int}(hs:s.length=n){v:Nat}(hv:v<n):Lp n es (gi (yd9 inn t s n)) v=Lp n es (gi s) v+t*Lp n es (ind inn) v:=by
  rw [Lp_congr (b:=fun i=>gi s i+t*ind inn i) (fun i hi=>yiy hs hi) hv,Lp_add,Lp_mul]
theorem Lp_ind_in{n:Nat}{es:List E3}{inn:List Bool}{v:Nat}(hb:gb inn v=true):Lp n es (ind inn) v=sm n (fun u=>if gb inn u=true then 0 else W es v u):=by
  unfold Lp
  refine yaw fun u _=>?_
  have:ind inn v=1:=by simp [ind,hb]
  rw [this]
  unfold ind
  split <;> simp
theorem yha{n:Nat}{es:List E3}{inn:List Bool}{v:Nat}(hb:¬gb inn v=true):Lp n es (ind inn) v = - sm n (fun u=>if gb inn u=true then W es v u else 0):=by
  have e:∀ (f:Nat→Int), - sm n f=sm n (fun i => - f i):=fun f=>by
    have:=yjF (-1) f n
    simp only [Int.neg_mul,Int.one_mul] at this
    exact this.symm
  rw [e]
  unfold Lp
  refine yaw fun u _=>?_
  have:ind inn v=0:=by simp [ind,hb]
  rw [this]
  unfold ind
  split <;> simp
def FF(n:Nat)(es:List E3)(o:List Int)(k:Int):Int:=sm n (fun v=>if k<gi o v then sm n (fun u=>if gi o u<gi o v then W es v u else 0) else 0)
def CC(n:Nat)(es:List E3)(o:List Int)(k:Int):Int:=sm n (fun v=>if gi o v=k then sm n (fun u=>if gi o u<k then W es v u else 0) else 0)
def tot(n:Nat)(es:List E3):Int:=sm n (fun v=>sm n (fun u=>W es v u))
theorem FF_step(n:Nat)(es:List E3)(o:List Int)(k:Int):FF n es o k=FF n es o (k+1)+CC n es o (k+1):=by
  unfold FF CC
  rw [←ydu]
  refine yaw fun v _=>?_
  by_cases h:gi o v=k+1
  · rw [if_pos (by omega),if_neg (by omega),if_pos h,h];omega
  · by_cases h2:k<gi o v
    · rw [if_pos h2,if_pos (by omega),if_neg h];omega
    · rw [if_neg h2,if_neg (by omega),if_neg h];omega
section
variable {n : Nat} {es : List E3} (hE : EOk n es)
include hE
theorem CC_nonneg(o:List Int)(k:Int):0≤CC n es o k:=ybo fun v _=>by
  split
  · exact ybo fun u _=>by have:=ycE hE v u;split <;> omega
  · omega
theorem FF_nonneg(o:List Int)(k:Int):0≤FF n es o k:=ybo fun v _=>by
  split
  · exact ybo fun u _=>by have:=ycE hE v u;split <;> omega
  · omega
theorem FF_half(o:List Int)(k:Int):2*FF n es o k≤tot n es:=by
  have h1:FF n es o k≤sm n (fun v=>sm n (fun u=>if gi o u<gi o v then W es v u else 0)):=yiB fun v _=>by
    split
    · exact Int.le_refl _
    · exact ybo fun u _=>by have:=ycE hE v u;split <;> omega
  have h2:sm n (fun v=>sm n (fun u=>if gi o u<gi o v then W es v u else 0))=sm n (fun v=>sm n (fun u=>if gi o v<gi o u then W es v u else 0)):=by
    rw [sm_swap]
    exact yaw fun v _=>yaw fun u _=>by rw [yfq es u v]
  have h3:sm n (fun v=>sm n (fun u=>if gi o u<gi o v then W es v u else 0))+sm n (fun v=>sm n (fun u=>if gi o v<gi o u then W es v u else 0))≤tot n es:=by
    unfold tot
    rw [←ydu]
    refine yiB fun v _=>?_
    rw [←ydu]
    refine yiB fun u _=>?_
    have:=ycE hE v u
    split <;> split <;> omega
  omega
variable {q : Nat} {o : List Int} (hD : Dist n es q o) (hc : ∀ v, v < n → 0 ≤ gi o v)
include hD hc
theorem Dist.lip{v u:Nat}(hv:v<n)(hu:u<n)(h:W es v u≠0):gi o u≤gi o v+1:=by
  have h1:0<W es v u:=by have:=ycE hE v u;omega
  exact (hD.step v hv (hc v hv) u ((W_adj hE).1 h1)).2
theorem near_in{k:Int}{v:Nat}(hv:v<n)(hk:gi o v<k):0≤Lp n es (ind (yaZ o k)) v∧Lp n es (ind (yaZ o k)) v≤CC n es o k:=by
  have hol:=hD.len
  rw [Lp_ind_in (by rw [yfP (by omega)];simpa using hk)]
  constructor
  · exact ybo fun u _=>by have:=ycE hE v u;split <;> omega
  · refine yiB fun u hu=>?_
    rw [yfP (by omega)]
    by_cases h:gi o u=k
    · rw [if_neg (by simp;omega),if_pos h]
      have h2:=ygu (f:=fun i=>if gi o i<k then W es u i else 0) (n:=n) (fun i _=>by have:=ycE hE u i;show 0≤ite _ _ _;split <;> omega) v hv
      simp only [if_pos hk] at h2
      rw [yfq es v u];exact h2
    · rw [if_neg h]
      split
      · omega
      · rename_i h2
        simp only [decide_eq_true_eq] at h2
        by_cases h3:W es v u=0
        · omega
        · have:=hD.lip hE hc hv hu h3;omega
theorem near_at{k:Int}{v:Nat}(hv:v<n)(hk:gi o v=k):Lp n es (ind (yaZ o k)) v = - yaV es (v:Int) (fun u=>gb (yaZ o k) u.toNat) ∧ - CC n es o k≤Lp n es (ind (yaZ o k)) v:=by
  have hol:=hD.len
  have h1:=yha (n:=n) (es:=es) (inn:=yaZ o k) (v:=v) (by rw [yfP (by omega)];simp;omega)
  rw [yfI hE,h1]
  simp only [Int.toNat_natCast]
  refine ⟨trivial,?_⟩
  have h2:=ygu (f:=fun v=>if gi o v=k then sm n (fun u=>if gi o u<k then W es v u else 0) else 0) (n:=n) (fun i _=>by
    show 0≤ite _ _ _
    split
    · exact ybo fun u _=>by have:=ycE hE i u;split <;> omega
    · omega) v hv
  simp only [if_pos hk] at h2
  have h3:sm n (fun u=>if gb (yaZ o k) u=true then W es v u else 0)=sm n (fun u=>if gi o u<k then W es v u else 0):=yaw fun u hu=>by
    rw [yfP (by omega)]
    simp only [decide_eq_true_eq]
  rw [h3]
  unfold CC
  omega
theorem near_out{k:Int}{v:Nat}(hv:v<n)(hk:k<gi o v):Lp n es (ind (yaZ o k)) v=0:=by
  have hol:=hD.len
  rw [yha (by rw [yfP (by omega)];simp;omega)]
  have:sm n (fun u=>if gb (yaZ o k) u=true then W es v u else 0)=sm n (fun _=>0):=yaw fun u hu=>by
    rw [yfP (by omega)]
    by_cases h:gi o u<k
    · rw [if_pos (by simpa using h)]
      by_cases h3:W es v u=0
      · exact h3
      · have:=hD.lip hE hc hu hv (by rw [yfq];exact h3);omega
    · rw [if_neg (by simpa using h)]
  rw [this,ybY];rfl
end
section
variable {es : List E3} {o : List Int} {k : Int} {d : List Int}
theorem ceil_ge{a b:Int}(hb:1≤b):a≤(a+b-1).tdiv b*b∨a+b-1<0:=by
  by_cases h:a+b-1<0
  · exact .inr h
  · left
    rw [Int.tdiv_eq_ediv_of_nonneg (by omega)]
    have h1:=Int.emod_add_mul_ediv (a+b-1) b
    have h2:=Int.emod_lt_of_pos (a+b-1) (show 0<b by omega)
    rw [Int.mul_comm b] at h1
    omega
theorem ceil_le{a b M:Int}(hb:1≤b)(ha:1≤a)(hM:a≤M):(a+b-1).tdiv b≤M∧1≤(a+b-1).tdiv b:=by
  rw [Int.tdiv_eq_ediv_of_nonneg (by omega)]
  constructor
  · apply Int.le_of_lt_add_one
    apply Int.ediv_lt_of_lt_mul (by omega)
    have:a≤M*b:=by
      have:=Int.mul_le_mul_of_nonneg_left hb (show 0≤M by omega)
      omega
    rw [Int.add_mul];omega
  · apply Int.le_ediv_of_mul_le (by omega);omega
theorem timesL_le{M:Int}(h0:0≤M):∀ n,(∀ v,v<n → -gi d v≤M)→(∀ v,v<n→gi o v=k→1≤yaV es (v:Int) (fun u=>gb (yaZ o k) u.toNat))→0≤ycV es o k d n∧ycV es o k d n≤M
  | 0,_,_=>by simp [ycV];exact h0
  | n+1,hd,hj=>by
    have ih:=timesL_le h0 n (fun v hv=>hd v (by omega)) (fun v hv=>hj v (by omega))
    rw [ycV]
    split
    · rename_i h
      have:=ceil_le (hj n (by omega) h.1) (show 1 ≤ -gi d n by omega) (hd n (by omega))
      unfold mxF
      split <;> omega
    · exact ih
theorem timesL_ge:∀ n,(∀ v,v<n→gi o v=k→1≤yaV es (v:Int) (fun u=>gb (yaZ o k) u.toNat))→∀ v,v<n→gi o v=k→gi d v<0 →
    1≤ycV es o k d n ∧ -gi d v≤ycV es o k d n*yaV es (v:Int) (fun u=>gb (yaZ o k) u.toNat)
  | n+1,hj,v,hv,hk,hd=>by
    rw [ycV]
    have mx:∀ a b:Int,a≤mxF a b∧b≤mxF a b:=fun a b=>by unfold mxF;split <;> omega
    have hjv:=hj v hv hk
    have up:∀ {a b:Int},a≤b → -gi d v≤a*yaV es (v:Int) (fun u=>gb (yaZ o k) u.toNat) → -gi d v≤b*yaV es (v:Int) (fun u=>gb (yaZ o k) u.toNat):=fun {a b} h h2 =>
      Int.le_trans h2 (Int.mul_le_mul_of_nonneg_right h (by omega))
    by_cases e:v=n
    · subst e
      rw [if_pos ⟨hk,hd⟩]
      have h1:=ceil_le (M := -gi d v) hjv (show 1 ≤ -gi d v by omega) (Int.le_refl _)
      have h2:=mx (ycV es o k d v) ((-gi d v+yaV es (v:Int) (fun u=>gb (yaZ o k) u.toNat)-1).tdiv (yaV es (v:Int) (fun u=>gb (yaZ o k) u.toNat)))
      refine ⟨by omega,up h2.2 ?_⟩
      rcases ceil_ge (a := -gi d v) hjv with h | h
      · exact h
      · omega
    · have ih:=timesL_ge n (fun v hv=>hj v (by omega)) v (by omega) hk hd
      split
      · have h2:=mx (ycV es o k d n) ((-gi d n+yaV es (n:Int) (fun u=>gb (yaZ o k) u.toNat)-1).tdiv (yaV es (n:Int) (fun u=>gb (yaZ o k) u.toNat)))
        exact ⟨by omega,up h2.1 ih.2⟩
      · exact ih
theorem yhW:∀ n,(∀ v,v<n→gi o v=k→0≤gi d v)→ycV es o k d n=0
  | 0,_=>rfl
  | n+1,h=>by
    rw [ycV,if_neg (fun x=>by have:=h n (by omega) x.1;omega)]
    exact yhW n fun v hv=>h v (by omega)
end
end Go.Proofs.YtencmgolklfmkaaGreat

/- Lending: what holds before and ya8 each level. No program in sight. -/
namespace Go.Proofs.YtencmgolklfmkaaGreat
open Go Go.Proofs.Tryz
structure GL(n:Nat)(es:List E3)(q:Nat)(D:Int)(d0:List Int)(o:List Int)(k:Nat)(d s:List Int)(e:Int):Prop where
  e0:e=0
  dl:d.length=n
  sl:s.length=n
  kn:k+1≤n
  lp:∀ v,v<n→gi d v=gi d0 v-Lp n es (gi s) v
  bd:∀ v,v<n → - (D*2^(FF n es o k).toNat)≤gi d v∧gi d v≤D*2^(FF n es o k).toNat
  pos:∀ v,v<n→(k:Int)<gi o v→0≤gi d v
  s0:∀ v,v<n→0≤gi s v∧gi s v≤((n:Int)-1-k)*(D*512)
  sq:∀ v,v<n→gi s v≤gi s q
  same:(∀ v,v<n→v≠q→0≤gi d0 v)→d=d0∧∀ v,v<n→gi s v=0
theorem pow_bnd{D x:Int}(hD:0≤D)(hx:x≤9):D*2^x.toNat≤D*512:=by
  refine Int.mul_le_mul_of_nonneg_left ?_ hD
  have:(2:Nat)^x.toNat≤2^9:=Nat.pow_le_pow_right (by omega) (by omega)
  have h2:((2^x.toNat:Nat):Int)≤((2^9:Nat):Int):=by exact_mod_cast this
  have h3:((2^x.toNat:Nat):Int)=(2:Int)^x.toNat:=by push_cast;rfl
  rw [←h3];exact h2
theorem pow_step{D x c T:Int}(hD:0≤D)(hx:0≤x)(hc:0≤c)(h0:0≤T)(hT:T≤D*2^x.toNat):D*2^x.toNat+T*c≤D*2^(x+c).toNat:=by
  have e:(x+c).toNat=x.toNat+c.toNat:=by omega
  rw [e,Int.pow_add,←Int.mul_assoc]
  generalize hB:D*2^x.toNat=B at *
  have h1:T*c≤B*c:=Int.mul_le_mul_of_nonneg_right hT hc
  have h2:(c:Int)+1≤2^c.toNat:=by
    have:c.toNat<2^c.toNat:=Nat.lt_two_pow_self
    have h3:((c.toNat:Nat):Int)<((2^c.toNat:Nat):Int):=by exact_mod_cast this
    have h4:((2^c.toNat:Nat):Int)=(2:Int)^c.toNat:=by push_cast;rfl
    rw [h4] at h3;omega
  have h5:B*(c+1)≤B*2^c.toNat:=Int.mul_le_mul_of_nonneg_left h2 (by omega)
  rw [Int.mul_add] at h5
  omega
theorem mul_bnd{n k:Nat}{D:Int}(hD:0≤D)(hn:n≤6):((n:Int)-1-k)*(D*512)≤D*2560:=by
  have:((n:Int)-1-k)*(D*512)≤5*(D*512):=Int.mul_le_mul_of_nonneg_right (by omega) (by omega)
  omega
section
variable {n : Nat} {es : List E3} {q : Nat} {D : Int} {d0 : List Int} (hE : EOk n es) (hn : n ≤ 6) (hq : q < n) (ht : tot n es ≤ 18) (hD0 : 0 ≤ D) (hD1 : D ≤ 200) (hc : ∀ o, Dist n es q o → ∀ v, v < n → 0 ≤ gi o v)
  (hd0:∀ v,v<n → -D≤gi d0 v∧gi d0 v≤D) (hdl:d0.length=n)
include hE hn hq ht hD0 hD1 hc hd0 hdl
theorem GL.start(o:List Int)(hD:Dist n es q o):GL n es q D d0 o (yhC o n).toNat d0 (List.replicate n 0) 0:=by
  have hm:∃ j,j<o.length∧yhC o n=gi o j:=maxTo_mem o n (by rw [hD.len];omega) (by rw [hD.len];omega)
  obtain ⟨j,hj,hmj⟩:=hm
  have hhi:=hD.high j
  have h0:0≤yhC o n:=by
    have:=maxTo_ge o n q hq
    rw [hD.q0] at this;omega
  have hs:∀ v,gi (List.replicate n 0) v=0:=fun v=>by
    rcases Nat.lt_or_ge v n with h | h
    · rw [ybe (by simpa using h)];simp
    · exact gi_ge (by simpa using h)
  have hF:0≤FF n es o (yhC o n).toNat:=FF_nonneg hE o _
  have h1:D*1≤D*2^(FF n es o (yhC o n).toNat).toNat:=Int.mul_le_mul_of_nonneg_left (by
    have:(0:Int)<2^(FF n es o (yhC o n).toNat).toNat:=Int.pow_pos (by omega)
    omega) hD0
  refine ⟨rfl,hdl,by simp,by omega,fun v hv=>?_,fun v hv=>?_,fun v hv h=>?_,fun v hv=>?_,fun v hv=>?_,fun _=>⟨rfl,fun v hv=>hs v⟩⟩
  · rw [Lp_congr (b:=fun _=>0) (fun i _=>hs i) hv,Lp_const];omega
  · have:=hd0 v hv;omega
  · have:=maxTo_ge o n v hv;omega
  · rw [hs]
    have:0≤((n:Int)-1-(yhC o n).toNat)*(D*512):=Int.mul_nonneg (by omega) (by omega)
    omega
  · rw [hs,hs];exact Int.le_refl _
theorem GL.bnd{o:List Int}{k:Nat}{d s:List Int}{e:Int}(h:GL n es q D d0 o k d s e):Bnd 102400 d∧Bnd 512000 s:=by
  constructor
  · intro i
    by_cases hi:i<n
    · have h1:=h.bd i hi
      have h2:=FF_half hE o k
      have h3:=pow_bnd hD0 (show FF n es o k≤9 by omega)
      omega
    · rw [yhh h.dl hi];omega
  · intro i
    by_cases hi:i<n
    · have h1:=h.s0 i hi
      have h2:=mul_bnd (k:=k) hD0 hn
      omega
    · rw [yhh h.sl hi];omega
theorem GL.step{o:List Int}{k:Nat}{d s:List Int}(hD:Dist n es q o)(h:GL n es q D d0 o (k+1) d s 0) :
    ycV es o ((k:Int)+1) d n≤2147483648 ∧
      (0<ycV es o ((k:Int)+1) d n→GL n es q D d0 o k (yfB es (yaZ o ((k:Int)+1)) (ycV es o ((k:Int)+1) d n) d n) (yd9 (yaZ o ((k:Int)+1)) (ycV es o ((k:Int)+1) d n) s n)
        (fireE (yfB es (yaZ o ((k:Int)+1)) (ycV es o ((k:Int)+1) d n) d n) (yd9 (yaZ o ((k:Int)+1)) (ycV es o ((k:Int)+1) d n) s n) 0 n)) ∧
      (¬0<ycV es o ((k:Int)+1) d n→GL n es q D d0 o k d s 0):=by
  have hb:=h.bnd hE hn hq ht hD0 hD1 hc hd0 hdl
  obtain ⟨-,dl,sl,kn,lp,bd,pos,s0,sq,same⟩:=h
  have hcast:((k+1:Nat):Int)=(k:Int)+1:=by omega
  rw [hcast] at bd pos s0
  have hF0:=FF_nonneg hE o ((k:Int)+1)
  have hF1:=FF_half hE o ((k:Int)+1)
  have hFk1:=FF_half hE o (k:Int)
  have hCC:=CC_nonneg hE o ((k:Int)+1)
  have hFk:FF n es o k=FF n es o ((k:Int)+1)+CC n es o ((k:Int)+1):=FF_step n es o k
  have hj:∀ v,v<n→gi o v=(k:Int)+1→1≤yaV es (v:Int) (fun u=>gb (yaZ o ((k:Int)+1)) u.toNat):=fun v hv hk=>near_pos hD (fun x hx=>(hE x hx).2.2.2.2.1) hv hk
  have hcc:=hc o hD
  have hol:=hD.len
  have hB0:0≤D*2^(FF n es o ((k:Int)+1)).toNat:=Int.mul_nonneg hD0 (Int.le_of_lt (Int.pow_pos (by omega)))
  have hT:=timesL_le (es:=es) (o:=o) (k:=(k:Int)+1) (d:=d) hB0 n (fun v hv=>by have:=bd v hv;omega) hj
  have hBk:=pow_bnd hD0 (show FF n es o ((k:Int)+1)≤9 by omega)
  have hTg:=timesL_ge (es:=es) (o:=o) (k:=(k:Int)+1) (d:=d) n hj
  have hTz:=yhW (es:=es) (o:=o) (k:=(k:Int)+1) (d:=d) n
  have hst:=pow_step hD0 hF0 hCC hT.1 hT.2
  rw [←hFk] at hst
  generalize ycV es o ((k:Int)+1) d n=T at *
  generalize hC:CC n es o ((k:Int)+1)=C at *
  generalize D*2^(FF n es o ((k:Int)+1)).toNat=B at *
  have hBk':D*2^(FF n es o (k:Int)).toNat≤D*512:=pow_bnd hD0 (by omega)
  generalize hBB:D*2^(FF n es o (k:Int)).toNat=B' at *
  have hTC:0≤T*C:=Int.mul_nonneg hT.1 hCC
  have hsm:((n:Int)-1-((k:Int)+1))*(D*512)+D*512=((n:Int)-1-k)*(D*512):=by
    have:(n:Int)-1-k=((n:Int)-1-((k:Int)+1))+1:=by omega
    rw [this,Int.add_mul,Int.one_mul]
  refine ⟨by omega,fun hpos=>?_,fun hz=>?_⟩
  · have hfd:∀ v,v<n→gi (yfB es (yaZ o ((k:Int)+1)) T d n) v=gi d v-T*Lp n es (ind (yaZ o ((k:Int)+1))) v:=fun v hv=>fire_lp hE _ T d dl hv
    have hfs:∀ v,v<n→gi (yd9 (yaZ o ((k:Int)+1)) T s n) v=gi s v+T*ind (yaZ o ((k:Int)+1)) v:=fun v hv=>yiy sl hv
    have hdl':(yfB es (yaZ o ((k:Int)+1)) T d n).length=n:=by rw [ydI,dl]
    have hsl':(yd9 (yaZ o ((k:Int)+1)) T s n).length=n:=by rw [ydG,sl]
    have hind:∀ v,0≤T*ind (yaZ o ((k:Int)+1)) v∧T*ind (yaZ o ((k:Int)+1)) v≤T:=fun v=>by unfold ind;split <;> omega
    have hbd:∀ v,v<n → -B'≤gi d v-T*Lp n es (ind (yaZ o ((k:Int)+1))) v∧gi d v-T*Lp n es (ind (yaZ o ((k:Int)+1))) v≤B':=fun v hv=>by
      have b:=bd v hv
      have mulb:∀ x:Int,x≤C→T*x≤T*C:=fun x hx=>Int.mul_le_mul_of_nonneg_left hx hT.1
      rcases Int.lt_trichotomy (gi o v) ((k:Int)+1) with h | h | h
      · have h1:=near_in hE hD hcc hv h
        rw [hC] at h1
        have h2:=mulb _ h1.2
        have h3:=Int.mul_nonneg hT.1 h1.1
        omega
      · have h1:=near_at hE hD hcc hv h
        have h4:=yfI hE v (fun u=>gb (yaZ o ((k:Int)+1)) u.toNat)
        have h5:1≤yaV es (v:Int) (fun u=>gb (yaZ o ((k:Int)+1)) u.toNat):=hj v hv h
        rw [hC] at h1
        have h2:=mulb (- Lp n es (ind (yaZ o ((k:Int)+1))) v) (by omega)
        have h3:=Int.mul_nonneg hT.1 (show 0 ≤ - Lp n es (ind (yaZ o ((k:Int)+1))) v by omega)
        rw [Int.mul_neg] at h2 h3
        omega
      · have h1:=near_out hE hD hcc hv h
        rw [h1];omega
    have hsb:∀ v,v<n→0≤gi s v+T*ind (yaZ o ((k:Int)+1)) v∧gi s v+T*ind (yaZ o ((k:Int)+1)) v≤((n:Int)-1-k)*(D*512):=fun v hv=>by
      have h1:=s0 v hv
      have h2:=hind v
      omega
    have hbig:((n:Int)-1-k)*(D*512)≤D*2560:=mul_bnd hD0 hn
    refine ⟨fireE_ok (fun j=>?_) (fun j=>?_) 0 n,hdl',hsl',by omega,fun v hv=>?_,fun v hv=>?_,fun v hv hk=>?_,fun v hv=>?_,fun v hv=>?_,fun hs=>?_⟩
    · by_cases hjn:j<n
      · rw [hfd j hjn]
        have h1:=bd j hjn
        have h2 : -1*(T*C)≤0:=by omega
        have h3:T*C≤B':=by omega
        have h4:=hbd j hjn
        omega
      · rw [yhh hdl' hjn];omega
    · by_cases hjn:j<n
      · rw [hfs j hjn]
        have:=hsb j hjn
        omega
      · rw [yhh hsl' hjn];omega
    · rw [hfd v hv,Lp_fireS sl hv,lp v hv];omega
    · rw [hfd v hv,hBB]
      exact hbd v hv
    · rw [hfd v hv]
      by_cases h:gi o v=(k:Int)+1
      · have h1:=near_at hE hD hcc hv h
        rw [h1.1,Int.mul_neg]
        have h2:=hj v hv h
        by_cases hneg:gi d v<0
        · have:=(hTg v hv h hneg).2;omega
        · have:=Int.mul_nonneg hT.1 (show 0≤yaV es (v:Int) (fun u=>gb (yaZ o ((k:Int)+1)) u.toNat) by omega)
          omega
      · rw [near_out hE hD hcc hv (by omega)]
        have:=pos v hv (by omega)
        omega
    · rw [hfs v hv];exact hsb v hv
    · rw [hfs v hv,hfs q hq]
      have h1:ind (yaZ o ((k:Int)+1)) q=1:=by
        unfold ind
        rw [if_pos]
        rw [yfP (by omega),hD.q0];simp <;> omega
      have h2:=hind v
      have h3:=sq v hv
      rw [h1];omega
    · exfalso
      obtain ⟨rfl,hs2⟩:=same hs
      have:=hTz (fun v hv hk=>hs v hv (fun e=>by subst e;rw [hD.q0] at hk;omega))
      omega
  · have hT0:T=0:=by omega
    subst hT0
    refine ⟨rfl,dl,sl,by omega,lp,fun v hv=>by have:=bd v hv;rw [hBB];omega,fun v hv hk=>?_,fun v hv=>?_,sq,same⟩
    · by_cases h:gi o v=(k:Int)+1
      · apply Int.not_lt.1
        intro hneg
        have:=(hTg v hv h hneg).1
        omega
      · exact pos v hv (by omega)
    · have:=s0 v hv;omega
end
end Go.Proofs.YtencmgolklfmkaaGreat

/- Settling: what holds before and ya8 each firing; reduced divisors and that they are alone. No program in sight. -/
namespace Go.Proofs.YtencmgolklfmkaaGreat
open Go Go.Proofs.Tryz
def Conn(n:Nat)(es:List E3)(q:Nat):Prop:=∀ S:Nat→Bool,S q=false→(∃ v,v<n∧S v=true)→∃ v u,v<n∧u<n∧S v=true∧S u=false∧0<W es v u
structure Red(n:Nat)(es:List E3)(q:Nat)(d:List Int):Prop where
  pos:∀ v,v<n→v≠q→0≤gi d v
  no:∀ S:Nat→Bool,S q=false→(∃ v,v<n∧S v=true)→∃ v,v<n∧S v=true∧gi d v<sm n (fun u=>if S u then 0 else W es v u)
theorem ygG(c:Int):∀ n:Nat,sm n (fun _=>c)=n*c
  | 0=>by simp [sm]
  | n+1=>by
    rw [sm,ygG c n]
    have:((n+1:Nat):Int)=(n:Int)+1:=by omega
    rw [this,Int.add_mul];omega
theorem sm_split{f:Nat→Int}{n q:Nat}(hq:q<n):sm n f=f q+sm n (fun v=>if v=q then 0 else f v):=by
  have h1:=ygg (f q) hq
  rw [←h1,←ydu]
  exact yaw fun i _=>by
    show f i=ite _ _ _+ite _ _ _
    split
    · subst_vars;omega
    · omega
def low(n:Nat)(f:Nat→Int)(c:Int):Int:=sm n (fun x=>if f x<c then 1 else 0)
theorem climb{n:Nat}{es:List E3}{q:Nat}(hE:EOk n es)(hC:Conn n es q)(hq:q<n){f:Nat→Int}{G:Int}(hG0:0≤G)(hG:∀ S:Nat→Bool,S q=false→sm n (fun v=>if S v then Lp n es f v else 0)≤G) :
    ∀ v,v<n→f v-f q≤low n f (f v)*G:=by
  suffices H:∀ (k:Nat) v,v<n→low n f (f v)≤k→f v-f q≤low n f (f v)*G from fun v hv=>H (low n f (f v)).toNat v hv (by omega)
  have lown:∀ c,0≤low n f c:=fun c=>ybo fun x _=>by show 0≤ite _ _ _;split <;> omega
  have step:∀ v,v<n→f q<f v→∃ u,u<n∧f u<f v∧f v-f u≤G∧low n f (f u)+1≤low n f (f v):=by
    intro v hv hlt
    have hS0:(fun x=>decide (f v≤f x)) q=false:=by simp;omega
    obtain ⟨x,u,hx,hu,hSx,hSu,hW⟩:=hC (fun x=>decide (f v≤f x)) hS0 ⟨v,hv,by simp⟩
    simp only [decide_eq_true_eq,decide_eq_false_iff_not] at hSx hSu
    have h1:=hG (fun x=>decide (f v≤f x)) hS0
    rw [Lp_cut] at h1
    have nn:∀ a b,0≤(if (decide (f v≤f a) && !decide (f v≤f b))=true then W es a b*(f a-f b) else 0):=fun a b=>by
      split
      · rename_i h
        simp only [Bool.and_eq_true,decide_eq_true_eq,Bool.not_eq_true',decide_eq_false_iff_not] at h
        exact Int.mul_nonneg (ycE hE a b) (by omega)
      · omega
    have h2:=ygu (n:=n) (f:=fun a=>sm n (fun b=>if (decide (f v≤f a) && !decide (f v≤f b))=true then W es a b*(f a-f b) else 0)) (fun a _=>ybo fun b _=>nn a b) x hx
    have h3:=ygu (n:=n) (f:=fun b=>if (decide (f v≤f x) && !decide (f v≤f b))=true then W es x b*(f x-f b) else 0) (fun b _=>nn x b) u hu
    have h4:(decide (f v≤f x) && !decide (f v≤f u))=true:=by
      simp only [Bool.and_eq_true,decide_eq_true_eq,Bool.not_eq_true',decide_eq_false_iff_not];omega
    simp only [h4,if_true] at h3
    have h5:1*(f x-f u)≤W es x u*(f x-f u):=Int.mul_le_mul_of_nonneg_right (by omega) (by omega)
    have h6:f x-f u≤G:=by
      have h2':sm n (fun b=>if (decide (f v≤f x) && !decide (f v≤f b))=true then W es x b*(f x-f b) else 0)≤sm n (fun a=>sm n (fun b=>if (decide (f v≤f a) && !decide (f v≤f b))=true then W es a b*(f a-f b) else 0)):=h2
      omega
    refine ⟨u,hu,by omega,by omega,?_⟩
    unfold low
    have h7:=ygg 1 hu
    rw [←h7,←ydu]
    refine yiB fun i _=>?_
    show ite _ _ _+ite _ _ _≤ite _ _ _
    by_cases e:i=u
    · subst e;rw [if_neg (by omega),if_pos rfl,if_pos (by omega)];omega
    · rw [if_neg e];split <;> split <;> omega
  intro k
  induction k with
  | zero =>
    intro v hv hk
    by_cases h:f q<f v
    · obtain ⟨u,hu,h1,h2,h3⟩:=step v hv h
      have:=lown (f u);omega
    · have:=Int.mul_nonneg (lown (f v)) hG0;omega
  | succ k ih =>
    intro v hv hk
    by_cases h:f q<f v
    · obtain ⟨u,hu,h1,h2,h3⟩:=step v hv h
      have h4:=ih u hu (by omega)
      have h5:(low n f (f u)+1)*G≤low n f (f v)*G:=Int.mul_le_mul_of_nonneg_right h3 hG0
      rw [Int.add_mul] at h5;omega
    · have:=Int.mul_nonneg (lown (f v)) hG0;omega
theorem low_le{n:Nat}{f:Nat→Int}{v:Nat}(hv:v<n):low n f (f v)≤(n:Int)-1:=by
  have h7:=ygg 1 hv
  have h1:low n f (f v)+sm n (fun i=>if i=v then 1 else 0)≤sm n (fun _=>1):=by
    unfold low
    rw [←ydu]
    refine yiB fun i _=>?_
    show (if f i<f v then (1:Int) else 0)+(if i=v then (1:Int) else 0)≤1
    by_cases e:i=v
    · subst e;rw [if_neg (by omega),if_pos rfl];omega
    · rw [if_neg e];split <;> omega
  rw [h7] at h1
  rw [ygG] at h1;omega
end Go.Proofs.YtencmgolklfmkaaGreat

/- Settling: each firing keeps the bounds and comes nearer to the end. No program in sight. -/
namespace Go.Proofs.YtencmgolklfmkaaGreat
open Go Go.Proofs.Tryz
structure GS0(n:Nat)(es:List E3)(q:Nat)(D:Int)(d0 d s:List Int):Prop where
  dl:d.length=n
  sl:s.length=n
  lp:∀ v,v<n→gi d v=gi d0 v-Lp n es (gi s) v
  pos:∀ v,v<n→v≠q→0≤gi d v
  off:sm n (fun v=>if v=q then 0 else gi d v)≤D*2560
  s0:∀ v,v<n→0≤gi s v
  sq:gi s q≤D*2560
def left' (D:Int)(n:Nat)(s:List Int):Int:=sm n (fun v=>D*2600-gi s v)
def GS(n:Nat)(es:List E3)(q:Nat)(D:Int)(d0:List Int)(m:Nat)(d s:List Int)(e:Int):Prop:=e=0∧GS0 n es q D d0 d s∧m=(left' D n s).toNat
theorem timesS_all{es:List E3}{left:List Bool}{d:List Int}{M:Int}(hM:0≤M):∀ n,(∀ v,v<n→gi d v≤M∨gb left v=false)→(∀ v,v<n→gb left v=true→yaV es (v:Int) (fun u=>!gb left u.toNat)≤gi d v∧0≤yaV es (v:Int) (fun u=>!gb left u.toNat)) →
    0≤ycU es left d n∧ycU es left d n≤M∧∀ v,v<n→gb left v=true→0<yaV es (v:Int) (fun u=>!gb left u.toNat)→1≤ycU es left d n∧ycU es left d n*yaV es (v:Int) (fun u=>!gb left u.toNat)≤gi d v
  | 0,_,_=>by simp [ycU];exact hM
  | n+1,hd,hj=>by
    obtain ⟨i1,i2,i3⟩:=timesS_all hM n (fun v hv=>hd v (by omega)) (fun v hv=>hj v (by omega))
    rw [ycU]
    by_cases hc:gb left n=true∧0<yaV es (n:Int) (fun u=>!gb left u.toNat)
    · rw [if_pos hc]
      have h1:=hj n (by omega) hc.1
      have hdM:gi d n≤M:=by
        rcases hd n (by omega) with h | h
        · exact h
        · rw [hc.1] at h;cases h
      have hJ:=hc.2
      have hq1:(gi d n).tdiv (yaV es (n:Int) (fun u=>!gb left u.toNat))*yaV es (n:Int) (fun u=>!gb left u.toNat)≤gi d n:=by
        rw [Int.tdiv_eq_ediv_of_nonneg (by omega)]
        exact Int.ediv_mul_le _ (by omega)
      have hq2:1≤(gi d n).tdiv (yaV es (n:Int) (fun u=>!gb left u.toNat)):=by
        rw [Int.tdiv_eq_ediv_of_nonneg (by omega)]
        exact Int.le_ediv_of_mul_le hJ (by omega)
      have hq3:(gi d n).tdiv (yaV es (n:Int) (fun u=>!gb left u.toNat))≤M:=by
        have:=Int.mul_le_mul_of_nonneg_left (show 1≤yaV es (n:Int) (fun u=>!gb left u.toNat) by omega) (show 0≤(gi d n).tdiv (yaV es (n:Int) (fun u=>!gb left u.toNat)) by omega)
        omega
      generalize hX:(gi d n).tdiv (yaV es (n:Int) (fun u=>!gb left u.toNat))=X at *
      by_cases hc2:ycU es left d n=0∨X<ycU es left d n
      · rw [if_pos hc2]
        refine ⟨by omega,hq3,fun v hv hl hp=>?_⟩
        by_cases e:v=n
        · subst e;exact ⟨hq2,hq1⟩
        · obtain ⟨j1,j2⟩:=i3 v (by omega) hl hp
          refine ⟨hq2,?_⟩
          have:=Int.mul_le_mul_of_nonneg_right (show X≤ycU es left d n by omega) (Int.le_of_lt hp)
          omega
      · rw [if_neg hc2]
        refine ⟨i1,i2,fun v hv hl hp=>?_⟩
        by_cases e:v=n
        · subst e
          refine ⟨by omega,?_⟩
          have:=Int.mul_le_mul_of_nonneg_right (show ycU es left d v≤X by omega) (Int.le_of_lt hp)
          omega
        · exact i3 v (by omega) hl hp
    · rw [if_neg hc]
      refine ⟨i1,i2,fun v hv hl hp=>?_⟩
      by_cases e:v=n
      · subst e;exact absurd ⟨hl,hp⟩ hc
      · exact i3 v (by omega) hl hp
theorem gb_left{burnt:List Bool}{n v:Nat}(hl:burnt.length=n)(hv:v<n):gb (leftOf burnt) v = !gb burnt v:=by
  rw [yda (by simpa [leftOf] using (by omega:v<burnt.length)),yda (by omega)]
  simp [leftOf]
section
variable {n : Nat} {es : List E3} {q : Nat} {D : Int} {d0 : List Int} (hE : EOk n es) (hn : n ≤ 6) (hq : q < n) (hD0 : 0 ≤ D) (hD1 : D ≤ 200) (hC : Conn n es q)
  (hd0:∀ v,v<n → -D≤gi d0 v∧gi d0 v≤D)
include hE hn hq hD0 hD1 hC hd0
theorem GS0.bnd{d s:List Int}(h:GS0 n es q D d0 d s):(∀ v,v<n→gi s v≤gi s q+D*30)∧(∀ v,v<n → -(D*2566)≤gi d v∧gi d v≤D*2566)∧0≤gi s q:=by
  refine ⟨fun v hv=>?_,?_,h.s0 q hq⟩
  · have hnD:sm n (fun _=>D)≤6*D:=by
      rw [ygG]
      exact Int.mul_le_mul_of_nonneg_right (by omega) hD0
    have h1:=climb hE hC hq (f:=gi s) (G:=6*D) (by omega) (fun S hS=>by
      refine Int.le_trans (yiB fun v hv=>?_) hnD
      show ite _ _ _≤D
      split
      · rename_i hSv
        have h1:=h.lp v hv
        have h2:=h.pos v hv (fun e=>by subst e;rw [hS] at hSv;cases hSv)
        have h3:=hd0 v hv
        omega
      · exact hD0) v hv
    have h2:=low_le (f:=gi s) hv
    have h3:=Int.mul_le_mul_of_nonneg_right (show low n (gi s) (gi s v)≤5 by omega) (show 0≤6*D by omega)
    omega
  · have hoff0:∀ v,v<n→0≤(if v=q then 0 else gi d v):=fun v hv=>by
      split
      · omega
      · rename_i e;exact h.pos v hv e
    have hoffn:=ybo hoff0
    have hoffs:=h.off
    have htot:sm n (gi d)=sm n (gi d0):=by
      have h1:=Lp_total (n:=n) (es:=es) (gi s)
      have h2:sm n (gi d)=sm n (gi d0)-sm n (fun v=>Lp n es (gi s) v):=by
        rw [←ygl]
        exact yaw fun i hi=>h.lp i hi
      omega
    have h6:sm n (gi d0)≤6*D ∧ -(6*D)≤sm n (gi d0):=by
      constructor
      · refine Int.le_trans (yiB fun v hv=>(hd0 v hv).2) ?_
        rw [ygG];exact Int.mul_le_mul_of_nonneg_right (by omega) hD0
      · have h7:sm n (fun _ => -D)≤sm n (gi d0):=yiB fun v hv=>(hd0 v hv).1
        rw [ygG] at h7
        have h8:(n:Int)*D≤6*D:=Int.mul_le_mul_of_nonneg_right (by omega) hD0
        rw [Int.mul_neg] at h7
        omega
    have hsp:=sm_split (f:=gi d) hq
    intro v hv
    by_cases e:v=q
    · subst e;omega
    · have h8:=ygu hoff0 v hv
      rw [if_neg e] at h8
      have h9:=h.pos v hv e
      omega
theorem GS.bnd{m:Nat}{d s:List Int}{e:Int}(h:GS n es q D d0 m d s e):Bnd 600000 d∧Bnd 600000 s:=by
  obtain ⟨-,h0, -⟩:=h
  obtain ⟨b1,b2,b3⟩:=h0.bnd hE hn hq hD0 hD1 hC hd0
  have hsq:=h0.sq
  constructor
  · intro i
    by_cases hi:i<n
    · have:=b2 i hi;omega
    · rw [yhh h0.dl hi];omega
  · intro i
    by_cases hi:i<n
    · have:=b1 i hi;have:=h0.s0 i hi;omega
    · rw [yhh h0.sl hi];omega
theorem GS.step{m:Nat}{d s:List Int}{burnt:List Bool}(h:GS n es q D d0 m d s 0)(hB:Burns n es q d burnt)(hany:(leftOf burnt).any id=true) :
    0≤ycU es (leftOf burnt) d n∧ycU es (leftOf burnt) d n≤2147483648∧(∀ v,v<n→gb (leftOf burnt) v=true→0≤gi d v) ∧
      ∃ m',m'<m∧GS n es q D d0 m' (yfB es (leftOf burnt) (ycU es (leftOf burnt) d n) d n) (yd9 (leftOf burnt) (ycU es (leftOf burnt) d n) s n)
        (fireE (yfB es (leftOf burnt) (ycU es (leftOf burnt) d n) d n) (yd9 (leftOf burnt) (ycU es (leftOf burnt) d n) s n) 0 n):=by
  have hb:=h.bnd hE hn hq hD0 hD1 hC hd0
  obtain ⟨-,h0,hm⟩:=h
  have hLq:gb (leftOf burnt) q=false:=by rw [gb_left hB.len hq,hB.at_q];rfl
  have hnq:∀ v,gb (leftOf burnt) v=true→v≠q:=fun v hv e=>by subst e;rw [hLq] at hv;cases hv
  have hjl:∀ v:Nat,yaV es (v:Int) (fun u=>!gb (leftOf burnt) u.toNat)=sm n (fun u=>if gb (leftOf burnt) u=true then 0 else W es v u):=fun v=>by
    rw [yfI hE]
    exact yaw fun u hu=>by
      simp only [Int.toNat_natCast]
      by_cases hs:gb (leftOf burnt) u=true
      · simp [hs]
      · simp [hs]
  have hj0:∀ v:Nat,0≤yaV es (v:Int) (fun u=>!gb (leftOf burnt) u.toNat):=fun v=>by
    rw [hjl]
    exact ybo fun u _=>by have:=ycE hE v u;split <;> omega
  have hjd:∀ v,v<n→gb (leftOf burnt) v=true→yaV es (v:Int) (fun u=>!gb (leftOf burnt) u.toNat)≤gi d v:=fun v hv hl=>by
    have h1:=hB.closed v hv (by rw [gb_left hB.len hv] at hl;simpa using hl)
    rw [yfI hE] at h1 ⊢
    refine Int.le_trans (Int.le_of_eq (yaw fun u hu=>?_)) h1
    simp only [Int.toNat_natCast,gb_left hB.len hu,Bool.not_not]
  obtain ⟨t0,t1,t2⟩:=timesS_all (es:=es) (left:=leftOf burnt) (d:=d) (M:=600000) (by omega) n (fun v hv => .inl (hb.1 v).2) (fun v hv hl=>⟨hjd v hv hl,hj0 v⟩)
  -- a way out
  have hex:∃ v,v<n∧gb (leftOf burnt) v=true:=by
    obtain ⟨x,hx,hxt⟩:=List.any_eq_true.1 hany
    obtain ⟨i,hi,hxi⟩:=List.mem_iff_getElem.1 hx
    refine ⟨i,by simpa [leftOf,hB.len] using hi,?_⟩
    rw [yda hi,hxi];simpa using hxt
  obtain ⟨v,u,hv,hu,hSv,hSu,hW⟩:=hC (gb (leftOf burnt)) hLq hex
  have hjv:0<yaV es (v:Int) (fun u=>!gb (leftOf burnt) u.toNat):=by
    rw [hjl]
    have:=ygu (n:=n) (f:=fun u=>if gb (leftOf burnt) u=true then 0 else W es v u) (fun u _=>by have:=ycE hE v u;show 0≤ite _ _ _;split <;> omega) u hu
    simp only [hSu,Bool.false_eq_true,if_false] at this
    omega
  have hT1:=(t2 v hv hSv hjv).1
  clear hex
  refine ⟨t0,by omega,fun v hv hl=>h0.pos v hv (hnq v hl),?_⟩
  generalize ycU es (leftOf burnt) d n=T at *
  have hfd:∀ v,v<n→gi (yfB es (leftOf burnt) T d n) v=gi d v-T*Lp n es (ind (leftOf burnt)) v:=fun v hv=>fire_lp hE _ T d h0.dl hv
  have hfs:∀ v,v<n→gi (yd9 (leftOf burnt) T s n) v=gi s v+T*ind (leftOf burnt) v:=fun v hv=>yiy h0.sl hv
  have hind:∀ v,0≤T*ind (leftOf burnt) v:=fun v=>by unfold ind;split <;> omega
  have hq0:ind (leftOf burnt) q=0:=by unfold ind;rw [hLq];rfl
  have hout:∀ v,¬gb (leftOf burnt) v=true→Lp n es (ind (leftOf burnt)) v≤0:=fun v hl=>by
    rw [yha hl]
    have:=ybo (n:=n) (f:=fun u=>if gb (leftOf burnt) u=true then W es v u else 0) (fun u _=>by have:=ycE hE v u;show 0≤ite _ _ _;split <;> omega)
    omega
  have hG:GS0 n es q D d0 (yfB es (leftOf burnt) T d n) (yd9 (leftOf burnt) T s n):=by
    refine ⟨by rw [ydI,h0.dl],by rw [ydG,h0.sl],fun v hv=>?_,fun v hv hvq=>?_,?_,fun v hv=>?_,?_⟩
    · rw [hfd v hv,Lp_fireS h0.sl hv,h0.lp v hv];omega
    · rw [hfd v hv]
      have hp:=h0.pos v hv hvq
      by_cases hl:gb (leftOf burnt) v=true
      · rw [Lp_ind_in hl,←hjl]
        by_cases hz:0<yaV es (v:Int) (fun u=>!gb (leftOf burnt) u.toNat)
        · have:=(t2 v hv hl hz).2;omega
        · have h1:=hj0 v
          rw [show yaV es (v:Int) (fun u=>!gb (leftOf burnt) u.toNat)=0 by omega];omega
      · have h1:=hout v hl
        have h2:=Int.mul_nonneg t0 (show 0 ≤ - Lp n es (ind (leftOf burnt)) v by omega)
        rw [Int.mul_neg] at h2;omega
    · have h1:sm n (fun v=>if v=q then 0 else gi (yfB es (leftOf burnt) T d n) v)=sm n (fun v=>if v=q then 0 else gi d v)-T*sm n (fun v=>if v=q then 0 else Lp n es (ind (leftOf burnt)) v):=by
        rw [←yjF,←ygl]
        refine yaw fun v hv=>?_
        show ite _ _ _=ite _ _ _-T*ite _ _ _
        split
        · omega
        · exact hfd v hv
      have h2:=sm_split (f:=Lp n es (ind (leftOf burnt))) hq
      have h3:sm n (Lp n es (ind (leftOf burnt)))=0:=Lp_total (n:=n) (es:=es) (ind (leftOf burnt))
      have h4:=hout q (by rw [hLq];simp)
      have h5:=Int.mul_nonneg t0 (show 0≤sm n (fun v=>if v=q then 0 else Lp n es (ind (leftOf burnt)) v) by omega)
      have:=h0.off
      omega
    · rw [hfs v hv];have:=h0.s0 v hv;have:=hind v;omega
    · rw [hfs q hq,hq0];have:=h0.sq;omega
  obtain ⟨b1,b2,b3⟩:=hG.bnd hE hn hq hD0 hD1 hC hd0
  have hsq:=hG.sq
  refine ⟨_,?_,fireE_ok (fun j=>?_) (fun j=>?_) 0 n,hG,rfl⟩
  · rw [hm]
    have h1:0≤left' D n (yd9 (leftOf burnt) T s n):=ybo fun v hv=>by
      show 0≤D*2600-gi (yd9 (leftOf burnt) T s n) v
      have:=b1 v hv;omega
    have h2:left' D n (yd9 (leftOf burnt) T s n)+1≤left' D n s:=by
      unfold left'
      have h3:sm n (fun v=>D*2600-gi (yd9 (leftOf burnt) T s n) v)=sm n (fun v=>D*2600-gi s v)-sm n (fun v=>T*ind (leftOf burnt) v):=by
        rw [←ygl]
        refine yaw fun v hv=>?_
        show D*2600-gi (yd9 (leftOf burnt) T s n) v=_-_
        rw [hfs v hv];omega
      have h4:=ygu (n:=n) (f:=fun v=>T*ind (leftOf burnt) v) (fun v _=>hind v) v hv
      have h5:ind (leftOf burnt) v=1:=by unfold ind;rw [if_pos hSv]
      simp only [h5] at h4
      omega
    omega
  · by_cases hj:j<n
    · have:=b2 j hj;omega
    · rw [yhh hG.dl hj];omega
  · by_cases hj:j<n
    · have:=b1 j hj;have:=hG.s0 j hj;omega
    · rw [yhh hG.sl hj];omega
end
end Go.Proofs.YtencmgolklfmkaaGreat

/- The walk of graph.Check. -/
namespace Go.Proofs.YtencmgolklfmkaaGreat
open Go.RowKit Go.Proofs.Tryz
set_option maxRecDepth 100000
set_option maxHeartbeats 400000
def ygK(a b c d:Int):Int:=orF (cmpF a c) (cmpF b d)
theorem pcompare_any(a b c d:Int)(w:World):Calls Tryz.prog 118 #[.agg #[.int .i64 a, .int .i64 b], .agg #[.int .i64 c, .int .i64 d]] w fun e w' =>
    e = .returned (.int .i64 (ygK a b c d))∧Pure w w':=by
  go_enter func118,ntmps118
  go_wp2
  go_region_held3 (fun w'=>w'.cell? ⟨w.heap.size,0,none⟩=some (.int .i64 a)∧w'.cell? ⟨w.heap.size,1,none⟩=some (.int .i64 b)∧w'.cell? ⟨w.heap.size+1,0,none⟩=some (.int .i64 c)∧w'.cell? ⟨w.heap.size+1,1,none⟩=some (.int .i64 d)) (simp [go_sem,World.cell?_alloc_past])
    (first
      | (go_at_call 97;refine (ygr _ _ _).mono ?_;rintro e w' ⟨rfl,rfl⟩)
      | (go_at_call 150;refine (or_two _ _ (cmpF a c) (cmpF b d) _ (by simp [go_sem]) (by simp [go_sem])).mono ?_;rintro e w' ⟨rfl,rfl⟩))
  go_wp2
  go_ret
  exact ⟨rfl,(by repeat (first | exact Keeps.refl _ _ | assumption | refine Keeps.drew ?_ | refine Keeps.drewN ?_ _ | refine Keeps.alloc ?_ _ | refine Keeps.setRow ?_ (by simp) _ | refine Keeps.setRow ?_ (by simp;omega) _ | refine Keeps.setCell ?_ (by simp) _ | refine Keeps.setCell ?_ (by simp;omega) _))⟩
def gchk(n:Int):Int→Int→List E3→Int
  | _,_,[]=>0
  | a,b,x::t =>
    if (0≤x.1∧x.1<n)∧(0≤x.2.1∧x.2.1<n)∧1≤x.2.2∧x.2.2≤50 then
      (if x.1≤x.2.1∧ygK a b x.1 x.2.1<0 then gchk n x.1 x.2.1 t else 9)
    else 2
def yat(n:Int)(es:List E3):Int:=if 1≤n∧n≤12 then gchk n (-1) (-1) es else 2
theorem gcheck_any(A:Option Addr)(es:List E3)(cap:Nat)(n:Int)(w:World)(hd:yhy w A es)(hlen:es.length≤1000000000) :
    Calls Tryz.prog 86 #[.agg #[.int .i64 n, .slice A es.length cap]] w fun e w'=>e = .returned (.int .i64 (yat n es))∧Pure w w':=by
  have HD:=Lib.hid hd
  clear hd
  by_cases h1:1≤n∧n≤12
  case neg =>
    go_enter func86,ntmps86
    go_wp2
    all_goals try (exfalso;omega)
    all_goals go_ret
    all_goals exact ⟨yfN (by rw [yat,if_neg h1];rfl),(by repeat (first | exact Keeps.refl _ _ | assumption | refine Keeps.drew ?_ | refine Keeps.drewN ?_ _ | refine Keeps.alloc ?_ _ | refine Keeps.setRow ?_ (by simp) _ | refine Keeps.setRow ?_ (by simp;omega) _ | refine Keeps.setCell ?_ (by simp) _ | refine Keeps.setCell ?_ (by simp;omega) _))⟩
  obtain ⟨h1,h2⟩:=h1
  have hb1:decide (n<1)=false:=by simp;omega
  have hb2:decide (12<n)=false:=by simp;omega
  have hg:Hid (yat n es=gchk n (-1) (-1) (es.drop 0)):=by rw [yat,if_pos ⟨h1,h2⟩];rfl
  go_enter func86,ntmps86
  go_wp2
  have hr1:=Row.alloc (Row.new w #[.int .i64 n, .slice A es.length cap] 24) (.cells #[.int .i64 (-1), .int .i64 (-1)] 126)
  have hr2:=Row.new (w.alloc (.cells #[.int .i64 n, .slice A es.length cap] 24)) #[.int .i64 (-1), .int .i64 (-1)] 126
  have hk0:Pure w ((w.alloc (.cells #[.int .i64 n, .slice A es.length cap] 24)).alloc (.cells #[.int .i64 (-1), .int .i64 (-1)] 126)):=(by repeat (first | exact Keeps.refl _ _ | assumption | refine Keeps.drew ?_ | refine Keeps.drewN ?_ _ | refine Keeps.alloc ?_ _ | refine Keeps.setRow ?_ (by simp) _ | refine Keeps.setRow ?_ (by simp;omega) _ | refine Keeps.setCell ?_ (by simp) _ | refine Keeps.setCell ?_ (by simp;omega) _))
  simp only [World.size_alloc] at hr1 hr2
  go_loopw [19] (fun i wr=>∃ (k:Nat) (la lb:Int),k≤es.length∧i = .int .i64 k∧Row wr w.heap.size 24 2 [.int .i64 n, .slice A es.length cap]∧Row wr (w.heap.size+1) 126 2 [.int .i64 la, .int .i64 lb]∧Pure w wr∧Hid (yat n es=gchk n la lb (es.drop k))) (fun i _=>es.length-(intOf i).toNat)
  case atStart=>exact ⟨0, -1, -1,Nat.zero_le _,rfl,hr1,hr2,hk0,hg⟩
  case round =>
    clear hg hr1 hr2 hk0
    obtain ⟨k,la,lb,hk,rfl,hr1,hr2,hp,hg⟩:=hrel
    by_cases hlt:k<es.length
    · obtain ⟨b,off,rfl,hb,hc⟩:=HD.out (by omega)
      obtain ⟨c0,c1,c2⟩:=hc k hlt
      clear hc
      replace c0:=hp.cell id c0
      replace c1:=hp.cell id c1
      replace c2:=hp.cell id c2
      have r10:=Row.cell hr1 (i:=0) rfl
      have r20:=Row.cell hr2 (i:=0) rfl
      have r21:=Row.cell hr2 (i:=1) rfl
      have f20:=Row.frozen hr2 0
      have f21:=Row.frozen hr2 1
      have hsz:=hr2.lt
      have hsz0:=hr1.lt
      have hbw:b<wr.heap.size:=Nat.lt_of_lt_of_le hb hp.size
      have e1:Row ((wr.alloc (.cells #[.int .i64 (ge es k).1, .int .i64 (ge es k).2.1, .int .i64 (ge es k).2.2] 93)).alloc (.cells #[.int .i64 (ge es k).1, .int .i64 (ge es k).2.1] 126)) (wr.heap.size+1) 126 2 [.int .i64 (ge es k).1, .int .i64 (ge es k).2.1]:=by
        have:=Row.new (wr.alloc (.cells #[.int .i64 (ge es k).1, .int .i64 (ge es k).2.1, .int .i64 (ge es k).2.2] 93)) #[.int .i64 (ge es k).1, .int .i64 (ge es k).2.1] 126
        rw [World.size_alloc] at this;exact this
      have e2:=Row.alloc (Row.alloc hr1 (.cells #[.int .i64 (ge es k).1, .int .i64 (ge es k).2.1, .int .i64 (ge es k).2.2] 93)) (.cells #[.int .i64 (ge es k).1, .int .i64 (ge es k).2.1] 126)
      have e3:=Row.alloc (Row.alloc hr2 (.cells #[.int .i64 (ge es k).1, .int .i64 (ge es k).2.1, .int .i64 (ge es k).2.2] 93)) (.cells #[.int .i64 (ge es k).1, .int .i64 (ge es k).2.1] 126)
      have e4:Pure w ((wr.alloc (.cells #[.int .i64 (ge es k).1, .int .i64 (ge es k).2.1, .int .i64 (ge es k).2.2] 93)).alloc (.cells #[.int .i64 (ge es k).1, .int .i64 (ge es k).2.1] 126)):=(by repeat (first | exact Keeps.refl _ _ | assumption | refine Keeps.drew ?_ | refine Keeps.drewN ?_ _ | refine Keeps.alloc ?_ _ | refine Keeps.setRow ?_ (by simp) _ | refine Keeps.setRow ?_ (by simp;omega) _ | refine Keeps.setCell ?_ (by simp) _ | refine Keeps.setCell ?_ (by simp;omega) _))
      have hne:¬w.heap.size+1<w.heap.size:=by omega
      go_wp2_with (first | (go_at_call 117;refine (vertex_any _ _ _).mono ?_;rintro e w' ⟨rfl,rfl⟩) | (go_at_call 118;refine (pcompare_any _ _ _ _ _).mono ?_;rintro e w1 ⟨rfl,hp1⟩;have k1:=hp1.row e1 id;have k2:=hp1.row e2 id;have k3:=hp1.row e3 id;have k4:=Pure.after e4 hp1;clear e1 e2 e3 e4 hp1;have q0:=Row.cell k1 (i:=0) rfl;have q1:=Row.cell k1 (i:=1) rfl;have q2:=Row.frozen k3 0;have q3:=Row.frozen k3 1;have q4:=Row.cell k3 (i:=0) rfl;have q5:=Row.cell k3 (i:=1) rfl))
      all_goals (first
        | (go_ret
           refine ⟨yfN (int_eq ?_),(by repeat (first | exact Keeps.refl _ _ | assumption | refine Keeps.drew ?_ | refine Keeps.drewN ?_ _ | refine Keeps.alloc ?_ _ | refine Keeps.setRow ?_ (by simp) _ | refine Keeps.setRow ?_ (by simp;omega) _ | refine Keeps.setCell ?_ (by simp) _ | refine Keeps.setCell ?_ (by simp;omega) _))⟩
           rw [hg.out,yfM hlt,gchk]
           first
             | rw [if_neg (by omega)]
             | rw [if_pos (by omega),if_neg (by omega)])
        | (refine ⟨⟨k+1,(ge es k).1,(ge es k).2.1,by omega,by go_num,(k2.far (by simp) _).far (by simp) _,(k3.set_ 0 _).set_ 1 _,(k4.setCell (fun h=>absurd h (by simp)) _).setCell (fun h=>absurd h (by simp)) _,?_⟩,by simp [intOf];omega⟩
           show yat n es=_
           rw [hg.out,yfM hlt,gchk,if_pos (by omega),if_pos (by omega)]))
    · go_wp2
      go_ret
      refine ⟨yfN (int_eq ?_),hp⟩
      rw [hg.out,List.drop_eq_nil_of_le (by omega),gchk]
end Go.Proofs.YtencmgolklfmkaaGreat

/- The walks of package connect's forests, up to Connected. -/
namespace Go.Proofs.YtencmgolklfmkaaGreat
open Go.RowKit Go.Maps Go.Proofs.Tryz
set_option maxRecDepth 100000
set_option maxHeartbeats 400000
theorem yhQ{sz:Nat}(g:Nat)(F:List Nat)(v:Nat)(w:World)(hF:NRow w g 105 sz F)(h:ycb F)(hv:v<12) :
    Calls Tryz.prog 122 #[.pointer (some ⟨g,0,none⟩), .int .i64 (v:Int)] w fun e w'=>e = .returned (.int .i64 (root F v:Int))∧w=w':=by
  have H:=Lib.hid h
  clear h
  go_enter func122,ntmps122
  go_wp2
  go_loopw [1] (fun i wr=>∃ u:Nat,u<12∧i = .int .i64 (u:Int)∧Hid (root F v=root F u)∧Same wr w) (fun i _=>(intOf i).toNat)
  case atStart=>exact ⟨v,hv,rfl,rfl, .refl _⟩
  case round =>
    obtain ⟨u,hu,rfl,hr,hw⟩:=hrel
    obtain rfl:wr=w:=hw.out
    have hc:=ncell hF (k:=u) (by rw [H.out.1];exact hu)
    simp only [Int.ofNat_eq_natCast] at hc
    have hle:=H.out.2 u hu
    by_cases he:gn F u=u
    · have hb:=neF (a:=(gn F u:Int)) (b:=(u:Int)) (by rw [he])
      have HE:=Lib.hid he
      clear he hw
      go_wp2
      go_ret
      exact ⟨yfN (int_eq (by rw [hr.out,ycm HE.out])),rfl⟩
    · have hb:=neT (a:=(gn F u:Int)) (b:=(u:Int)) (by omega)
      clear hw
      go_wp2
      go_roundw
      case rel=>exact ⟨gn F u,by omega,rfl,by rw [Hid,hr.out,yed H.out hu he], .refl _⟩
      case measure=>simp [intOf];omega
theorem join_any(g:Nat)(F:List Nat)(a b:Nat)(w:World)(hF:NRow w g 105 12 F)(h:ycb F)(ha:a<12)(hb:b<12) :
    Calls Tryz.prog 121 #[.pointer (some ⟨g,0,none⟩), .int .i64 (a:Int), .int .i64 (b:Int)] w fun e w'=>e = .returned (.tuple #[])∧NRow w' g 105 12 (ycu F a b)∧Keeps (· = g) w w':=by
  have h1:=ycj h a ha
  have h2:=ycj h b hb
  have hfa:=Row.frozen hF (root F a)
  have hfb:=Row.frozen hF (root F b)
  have hca:=ncell hF (k:=root F a) (by rw [h.1];omega)
  have hcb:=ncell hF (k:=root F b) (by rw [h.1];omega)
  have l1:root F a<12:=by omega
  have l2:root F b<12:=by omega
  have H1:=Lib.hid h1
  have H2:=Lib.hid h2
  clear h1 h2
  go_enter func121,ntmps121
  go_wp2_with fail
  refine (yhQ g F a _ hF h ha).mono ?_
  rintro e w' ⟨rfl,rfl⟩
  go_wp2_with fail
  refine (yhQ g F b _ hF h hb).mono ?_
  rintro e w' ⟨rfl,rfl⟩
  have HF:=Lib.hid hF
  clear hF
  go_wp2
  all_goals go_end0
  all_goals (refine ⟨rfl,?_,(by repeat (first | exact Keeps.refl _ _ | assumption | refine Keeps.drew ?_ | refine Keeps.drewN ?_ _ | refine Keeps.alloc ?_ _ | refine Keeps.setRow ?_ (by simp) _ | refine Keeps.setRow ?_ (by simp;omega) _ | refine Keeps.setCell ?_ (by simp) _ | refine Keeps.setCell ?_ (by simp;omega) _))⟩)
  all_goals (first
    | (rw [show ycu F a b=F.set (root F a) (root F b) by unfold ycu;rw [Nat.max_eq_left (by omega),Nat.min_eq_right (by omega)]];exact nset HF.out _ _)
    | (rw [show ycu F a b=F.set (root F b) (root F a) by unfold ycu;rw [Nat.max_eq_right (by omega),Nat.min_eq_left (by omega)]];exact nset HF.out _ _)
    | (rw [show ycu F a b=F.set (root F a) (root F a) by unfold ycu;rw [Nat.max_eq_right (by omega),Nat.min_eq_left (by omega)];congr 1 <;> omega];exact nset HF.out _ _))
def yg6(F:List Nat):Value := .agg (ydO F).toArray
theorem grown_any(w:World) :
    Calls Tryz.prog 120 #[] w fun e w'=>e = .returned (yg6 ycr)∧Pure w w':=by
  go_enter func120,ntmps120
  go_wp2
  refine wp_loop_rounds 13 ?_
  repeat any_goals (rw [rounds_succ];go_wp2)
  exact bodyPost_ret (v:=yg6 ycr) (by simp [results,Tryz.results120,go_sem,yg6,ydO,ycr,List.range,List.range.loop]) rfl ⟨rfl,(by repeat (first | exact Keeps.refl _ _ | assumption | refine Keeps.drew ?_ | refine Keeps.drewN ?_ _ | refine Keeps.alloc ?_ _ | refine Keeps.setRow ?_ (by simp) _ | refine Keeps.setRow ?_ (by simp;omega) _ | refine Keeps.setCell ?_ (by simp) _ | refine Keeps.setCell ?_ (by simp;omega) _))⟩
theorem forestV_lit{F:List Nat}(h:F.length=12):∃ a0 a1 a2 a3 a4 a5 a6 a7 a8 a9 a10 a11:Nat,F=[a0,a1,a2,a3,a4,a5,a6,a7,a8,a9,a10,a11]:=by
  match F,h with
  | [a0,a1,a2,a3,a4,a5,a6,a7,a8,a9,a10,a11],_=>exact ⟨a0,a1,a2,a3,a4,a5,a6,a7,a8,a9,a10,a11,rfl⟩
theorem forest_info:(Tryz.prog.info? 105).map (·.size)=some 12:=by kernel_rfl
theorem joined_any(A:Option Addr)(es:List E3)(cap:Nat)(n:Int)(w:World)(hd:yhy w A es)(hlen:es.length≤1000000000)(hE:ycL es) :
    Calls Tryz.prog 89 #[.agg #[.int .i64 n, .slice A es.length cap]] w fun e w'=>e = .returned (yg6 (yap es))∧Pure w w':=by
  have HD:=Lib.hid hd
  have HE:=Lib.hid hE
  clear hd hE
  go_enter func89,ntmps89
  go_wp2_with fail
  refine (grown_any _).mono ?_
  rintro e w1 ⟨rfl,hp1⟩
  have r0:=hp1.row (Row.alloc (Row.new w #[.int .i64 n, .slice A es.length cap] 24) _) id
  have r1:=hp1.row (Row.new (w.alloc (.cells #[.int .i64 n, .slice A es.length cap] 24)) #[.int .i64 0, .int .i64 0, .int .i64 0, .int .i64 0, .int .i64 0, .int .i64 0, .int .i64 0, .int .i64 0, .int .i64 0, .int .i64 0, .int .i64 0, .int .i64 0] 105) id
  rw [World.size_alloc] at r1
  have k0:Pure w w1:=Pure.after (by repeat (first | exact Keeps.refl _ _ | assumption | refine Keeps.drew ?_ | refine Keeps.drewN ?_ _ | refine Keeps.alloc ?_ _ | refine Keeps.setRow ?_ (by simp) _ | refine Keeps.setRow ?_ (by simp;omega) _ | refine Keeps.setCell ?_ (by simp) _ | refine Keeps.setCell ?_ (by simp;omega) _)) hp1
  have r00:=Row.cell r0 (i:=0) rfl
  have r01:=Row.cell r0 (i:=1) rfl
  have s0:=r0.lt
  have s1:=r1.lt
  unfold yg6 ydO ycr
  simp only [List.range,List.range.loop,List.map]
  go_wp2
  have hf0:NRow (w1.alloc (.cells #[.int .i64 0, .int .i64 1, .int .i64 2, .int .i64 3, .int .i64 4, .int .i64 5, .int .i64 6, .int .i64 7, .int .i64 8, .int .i64 9, .int .i64 10, .int .i64 11] 105)) w1.heap.size 105 12 (yap (es.take 0)) :=
    Row.new w1 #[.int .i64 0, .int .i64 1, .int .i64 2, .int .i64 3, .int .i64 4, .int .i64 5, .int .i64 6, .int .i64 7, .int .i64 8, .int .i64 9, .int .i64 10, .int .i64 11] 105
  have g0:=Row.alloc r0 (.cells #[.int .i64 0, .int .i64 1, .int .i64 2, .int .i64 3, .int .i64 4, .int .i64 5, .int .i64 6, .int .i64 7, .int .i64 8, .int .i64 9, .int .i64 10, .int .i64 11] 105)
  have g1:=Row.alloc r1 (.cells #[.int .i64 0, .int .i64 1, .int .i64 2, .int .i64 3, .int .i64 4, .int .i64 5, .int .i64 6, .int .i64 7, .int .i64 8, .int .i64 9, .int .i64 10, .int .i64 11] 105)
  have k1:=Keeps.alloc k0 (.cells #[.int .i64 0, .int .i64 1, .int .i64 2, .int .i64 3, .int .i64 4, .int .i64 5, .int .i64 6, .int .i64 7, .int .i64 8, .int .i64 9, .int .i64 10, .int .i64 11] 105)
  go_loopw [10] (fun i wr=>∃ k:Nat,k≤es.length∧i = .int .i64 k∧NRow wr w1.heap.size 105 12 (yap (es.take k))∧Row wr (w.heap.size+1) 105 12 [.int .i64 0, .int .i64 0, .int .i64 0, .int .i64 0, .int .i64 0, .int .i64 0, .int .i64 0, .int .i64 0, .int .i64 0, .int .i64 0, .int .i64 0, .int .i64 0]∧Pure w wr) (fun i _=>es.length-(intOf i).toNat)
  case atStart=>exact ⟨0,Nat.zero_le _,rfl,hf0,g1,k1⟩
  clear hf0 g0 g1 k1 r0 r1 k0 r00 r01 hp1
  case round =>
    obtain ⟨k,hk,rfl,hf,hr1,hp⟩:=hrel
    have sM:=hf.lt
    by_cases hlt:k<es.length
    · obtain ⟨b,off,rfl,hb,hc⟩:=HD.out (by omega)
      obtain ⟨c0,c1,c2⟩:=hc k hlt
      clear hc
      replace c0:=hp.cell id c0
      replace c1:=hp.cell id c1
      replace c2:=hp.cell id c2
      obtain ⟨x1,x2,x3,x4⟩:=HE.out _ (ge_mem hlt)
      obtain ⟨u,hu⟩:∃ u:Nat,(ge es k).1=(u:Int):=⟨(ge es k).1.toNat,by omega⟩
      obtain ⟨v,hv⟩:∃ v:Nat,(ge es k).2.1=(v:Int):=⟨(ge es k).2.1.toNat,by omega⟩
      have hbw:b<wr.heap.size:=Nat.lt_of_lt_of_le hb hp.size
      have hT:Hid (yap (es.take (k+1))=ycu (yap (es.take k)) u v):=by rw [Hid,joinedF_take es hlt,hu,hv];rfl
      rw [hu] at c0 x1 x2
      rw [hv] at c1 x3 x4
      clear hu hv
      go_wp2_with fail
      refine (join_any w1.heap.size (yap (es.take k)) u v _ (Row.alloc hf _) (yaU _ (HE.out.take k)) (by omega) (by omega)).mono ?_
      rintro e w2 ⟨rfl,hf2,hp2⟩
      go_wp2
      go_roundw
      case rel=>exact ⟨k+1,by omega,by go_num,by rw [hT.out];exact hf2,hp2.row (Row.alloc hr1 _) (by omega),(Keeps.alloc hp _).then hp2 (fun j hj e=>by omega)⟩
      case measure=>simp [intOf];omega
    · obtain rfl:k=es.length:=by omega
      rw [List.take_length] at hf
      have hL:=(yaU es HE.out).1
      have hfull:=NRow.full (xs:=yap es) (by rw [hL];exact hf)
      have hold:=Row.full (xs:=[.int .i64 0, .int .i64 0, .int .i64 0, .int .i64 0, .int .i64 0, .int .i64 0, .int .i64 0, .int .i64 0, .int .i64 0, .int .i64 0, .int .i64 0, .int .i64 0]) hr1
      have hinfo:(Tryz.prog.info? 105).map (·.size)=some (ydO (yap es)).toArray.size:=by
        rw [List.size_toArray,yeE,hL];exact forest_info
      have HFU:=Lib.hid hfull
      have HOL:=Lib.hid hold
      have HIN:=Lib.hid hinfo
      clear hfull hold hinfo hL
      go_wp2_with (first
        | (refine wpList_load_row rfl 105 (.tmp 3) rfl w1.heap.size rfl 105 (ydO (yap es)).toArray (0,0) _ HFU.out underlying105 rfl HIN.out ?_)
        | (refine yhs rfl 105 (.tmp 2) (.tmp 20) rfl (w.heap.size+1) rfl (ydO (yap es)).toArray rfl 105 _ HOL.out (by rw [List.size_toArray,List.size_toArray,yeE,(yaU es HE.out).1];rfl) HIN.out (nvals_one _) ?_))
      refine bodyPost_ret (results_cell_row rfl _ _ (w.heap.size+1) 105 (ydO (yap es)).toArray (0,0) _ rfl (setRow_heap _ _ _ _ _ _ HOL.out) underlying105 rfl HIN.out) rfl ⟨rfl,(by repeat (first | exact Keeps.refl _ _ | assumption | refine Keeps.drew ?_ | refine Keeps.drewN ?_ _ | refine Keeps.alloc ?_ _ | refine Keeps.setRow ?_ (by simp) _ | refine Keeps.setRow ?_ (by simp;omega) _ | refine Keeps.setCell ?_ (by simp) _ | refine Keeps.setCell ?_ (by simp;omega) _))⟩
end Go.Proofs.YtencmgolklfmkaaGreat

/- The walk of the parts of a forest: slices of slices that grow. -/
namespace Go.Proofs.YtencmgolklfmkaaGreat
open Go.RowKit Go.Maps Go.Proofs.Tryz
set_option maxRecDepth 100000
set_option maxHeartbeats 400000
def ybT(F:List Nat):Nat→List (List Nat)
  | 0=>[]
  | k+1=>(if root F k=k then ybT F k++[[]] else ybT F k).modify (yay F (root F k)) (· ++ [k])
theorem ycg(F:List Nat):∀ k,(ybT F k).length=yay F k
  | 0=>rfl
  | k+1=>by
    rw [ybT,List.length_modify,yay]
    split <;> simp [ycg F k]
theorem rows_le(F:List Nat):∀ k,∀ r∈ybT F k,r.length≤k
  | 0=>by simp [ybT]
  | k+1=>by
    intro r hr
    rw [ybT] at hr
    obtain ⟨i,hi,rfl⟩:=List.getElem_of_mem hr
    have hb:∀ r'∈(if root F k=k then ybT F k++[[]] else ybT F k),r'.length≤k:=by
      intro r' hr'
      split at hr'
      · rcases List.mem_append.1 hr' with h1 | h1
        · exact rows_le F k r' h1
        · simp at h1;subst h1;simp
      · exact rows_le F k r' hr'
    rw [List.getElem_modify]
    rw [List.length_modify] at hi
    have:=hb _ (List.getElem_mem hi)
    split
    · simp;omega
    · omega
theorem nroots_mono(F:List Nat){a b:Nat}(h:a≤b):yay F a≤yay F b:=by
  induction b with
  | zero => obtain rfl : a = 0 := by omega
            exact Nat.le_refl _
  | succ b ih =>
    rcases Nat.lt_or_ge a (b+1) with h1 | h1
    · rw [yay];have:=ih (by omega);omega
    · obtain rfl:a=b+1:=by omega
      exact Nat.le_refl _
theorem yin(F:List Nat){r k:Nat}(h:r<k)(hr:root F r=r):yay F r<yay F k:=by
  have:=nroots_mono F (show r+1≤k from h)
  rw [yay,if_pos hr] at this
  omega
theorem nroots_le(F:List Nat):∀ k,yay F k≤k
  | 0=>Nat.le_refl _
  | k+1=>by rw [yay];have:=nroots_le F k;split <;> omega
def yeg(w:World)(B:Nat)(vals:List Value)(rows:List (List Nat)):Prop :=
  vals.length=rows.length∧(∀ (i:Nat) (v:Value) (r:List Nat),vals[i]? = some v→rows[i]? = some r→w.ownsRow B 3 1 v r.length (ydO r)) ∧
    ∀ (i j:Nat) (v u:Value),i≠j→vals[i]? = some v→vals[j]? = some u→v.ownBlock=none∨v.ownBlock≠u.ownBlock
theorem yeg.nil(w:World)(B:Nat):yeg w B [] []:=⟨rfl,by simp,by simp⟩
theorem yeg.kept{w w':World}{B:Nat}{vals:List Value}{rows:List (List Nat)}{row:Option Nat}(h:yeg w B vals rows)(hg:w.grownBy w' row)(hr:∀ v∈vals,v.ownBlock=none∨v.ownBlock≠row):yeg w' B vals rows :=
  ⟨h.1,fun i v r hv hr'=>(h.2.1 i v r hv hr').kept hg (hr v (List.mem_of_getElem? hv)),h.2.2⟩
theorem yeg.push{w:World}{B:Nat}{vals:List Value}{rows:List (List Nat)}(h:yeg w B vals rows):yeg w B (vals++[.slice none 0 0]) (rows++[[]]):=by
  refine ⟨by simp [h.1],fun i v r hv hr=>?_,fun i j v u hij hv hu=>?_⟩
  · rcases Nat.lt_or_ge i vals.length with hi | hi
    · rw [List.getElem?_append_left hi] at hv
      rw [List.getElem?_append_left (by rw [←h.1];exact hi)] at hr
      exact h.2.1 i v r hv hr
    · rw [List.getElem?_append_right hi] at hv
      rw [List.getElem?_append_right (by rw [←h.1];exact hi)] at hr
      have hi0:i-vals.length=0:=by
        rcases Nat.eq_zero_or_pos (i-vals.length) with h0 | h0
        · exact h0
        · rw [List.getElem?_eq_none (by simp;omega)] at hv;cases hv
      rw [hi0] at hv
      rw [←h.1,hi0] at hr
      simp at hv hr
      subst hv;subst hr
      exact World.ownsRow_nil _ _ _ _
  · rcases Nat.lt_or_ge i vals.length with hi | hi
    · rcases Nat.lt_or_ge j vals.length with hj | hj
      · rw [List.getElem?_append_left hi] at hv
        rw [List.getElem?_append_left hj] at hu
        exact h.2.2 i j v u hij hv hu
      · rw [List.getElem?_append_right hj] at hu
        cases hvo:v.ownBlock with
        | none=>exact .inl rfl
        | some g =>
          refine .inr ?_
          have:u = .slice none 0 0:=by
            have:=List.mem_of_getElem? hu
            simpa using this
          subst this
          simp [Value.ownBlock]
    · rw [List.getElem?_append_right hi] at hv
      have:v = .slice none 0 0:=by
        have:=List.mem_of_getElem? hv
        simpa using this
      subst this
      exact .inl rfl
theorem yeg.grow{w w':World}{B:Nat}{vals:List Value}{rows:List (List Nat)}{c:Nat}{v v':Value}{r:List Nat}{x:Nat}(h:yeg w B vals rows)(hv:vals[c]? = some v)(hr:rows[c]? = some r)
    (hg:w.grownBy w' v.ownBlock) (hown:w'.ownsRow B 3 1 v' (r.length+1) (ydO r++[.int .i64 (Int.ofNat x)])) (hat:v'.ownBlock=v.ownBlock∨∃ g,v'.ownBlock=some g∧w.heap.size≤g) :
    yeg w' B (vals.set c v') (rows.modify c (· ++ [x])):=by
  have hc:c<vals.length:=(List.getElem?_eq_some_iff.1 hv).1
  have hlt:∀ (i:Nat) (u:Value),vals[i]? = some u→∀ k,u.ownBlock=some k→k<w.heap.size:=fun i u hu k hk=>by
    have hi:i<vals.length:=(List.getElem?_eq_some_iff.1 hu).1
    have hri:rows[i]? = some (rows[i]'(by rw [←h.1];exact hi)):=List.getElem?_eq_getElem (by rw [←h.1];exact hi)
    exact ((h.2.1 i u _ hu hri).lt k hk).2
  refine ⟨by simp [h.1],fun i u r' hu hr'=>?_,fun i j u z hij hu hz=>?_⟩
  · by_cases e:i=c
    · subst e
      rw [List.getElem?_set_self hc] at hu
      rw [List.getElem?_modify,hr] at hr'
      simp at hu hr'
      subst hu;subst hr'
      simpa [ydO] using hown
    · rw [List.getElem?_set_ne (fun e'=>e e'.symm)] at hu
      rw [List.getElem?_modify] at hr'
      have e':¬c=i:=fun h=>e h.symm
      have hr'':rows[i]? = some r':=by cases hq:rows[i]? <;> simp_all
      exact (h.2.1 i u r' hu hr'').kept hg (h.2.2 i c u v e hu hv)
  · by_cases e:i=c
    · subst e
      rw [List.getElem?_set_self hc] at hu
      rw [List.getElem?_set_ne (fun e'=>hij e')] at hz
      simp at hu
      subst hu
      rcases hat with e1 | ⟨g,e1,hgs⟩
      · rw [e1];exact h.2.2 i j v z hij hv hz
      · refine .inr ?_
        rw [e1]
        intro e2
        have:=hlt j z hz g e2.symm
        omega
    · rw [List.getElem?_set_ne (fun e'=>e e'.symm)] at hu
      by_cases e3:j=c
      · subst e3
        rw [List.getElem?_set_self hc] at hz
        simp at hz
        subst hz
        cases huo:u.ownBlock with
        | none=>exact .inl rfl
        | some k =>
          refine .inr ?_
          rcases hat with e1 | ⟨g,e1,hgs⟩
          · rw [e1]
            have:=h.2.2 i j u v hij hu hv
            rw [huo] at this
            rcases this with h0 | h0
            · cases h0
            · exact h0
          · rw [e1]
            intro e2
            have:=hlt i u hu k huo
            cases e2
            omega
      · rw [List.getElem?_set_ne (fun e'=>e3 e'.symm)] at hz
        exact h.2.2 i j u z hij hu hz
theorem ints_info:(Tryz.prog.info? 35).map (fun i=>(i.zero,i.size,i.bytes))=some (some (.slice none 0 0),1,24):=by kernel_rfl
theorem zero_int(w:World):(zeroValue 3).run Tryz.prog w = .ok (.int .i64 0) w:=by kernel_rfl
theorem key_int:Keyed Tryz.prog 3:=int_keyed underlying3
theorem wf_small{r:Nat}(hr:r<1000):(Lit.int .i64 (r:Int)).wf=true:=WalkArith.wf_i64 (by omega)
theorem ybP{H:Type}{w:World}{M n:Nat}{D:DataW H}{r:Nat}{c:Int}(h:w.ownsMap Tryz.prog 3 (plainElem Tryz.prog 3) M n D)(hr:r<1000)(hD:D.atKey (.int .i64 (r:Int)) (.lit (.int .i64 0)) = .lit (.int .i64 c)) :
    (Instr.lookup 139 (.map (some M)) (.int .i64 (r:Int)) false).run Tryz.prog w = .ok (.int .i64 c) w:=by
  obtain ⟨c',h1,h2,_⟩:=h.lookup_int key_int underlying139 underlying3 (zero_int w) (key := .int .i64 (r:Int)) (keyOf_int_mk underlying3 (wf_small hr))
  rw [hD] at h2
  simp at h2
  rw [h1,h2]
theorem yh2{w:World}{B n:Nat}{v:Value}{xs:List Value}{e:TypeId}(h:w.ownsRow B e 1 v n xs):∃ A c,v = .slice A n c:=by
  rcases h.2 with ⟨rfl,rfl⟩ | ⟨g,cap,cur,rfl,_⟩
  · exact ⟨_,_,rfl⟩
  · exact ⟨_,_,rfl⟩
theorem yg2{H:Type}{P:Program}{w:World}{B e size n m k:Nat}{v:Value}{xs:List Value}{R:Value→Option (DataW H×List MemPlace)}{D:DataW H}{M:Nat}(h:w.ownsRow B e size v n xs)(hm:w.ownsMap P k R M m D):v.ownBlock=none∨v.ownBlock≠some M:=by
  obtain ⟨es,clock,hM,_⟩:=hm
  rcases h.2 with ⟨rfl,_⟩ | ⟨g,cap,cur,rfl,_,hg,_⟩
  · exact .inl rfl
  · refine .inr ?_
    simp only [Value.ownBlock]
    intro e'
    cases e'
    rw [hg] at hM
    cases hM
theorem own_ne_map' {H:Type}{P:Program}{w:World}{B e size n m k:Nat}{v:Value}{xs:List Value}{R:Value→Option (DataW H×List MemPlace)}{D:DataW H}{M:Nat}(h:w.ownsRow B e size v n xs)(hm:w.ownsMap P k R M m D):some M≠v.ownBlock:=by
  rcases yg2 h hm with e | e
  · rw [e];simp
  · exact fun e'=>e e'.symm
theorem undrew{w w':World}{r:Option Nat}(h:w.drew.grownBy w' r):w.grownBy w' r:=⟨h.os,h.tape,h.output,h.size,h.block⟩
theorem yeL{w:World}{B B' e e' size size' n n':Nat}{v v':Value}{xs xs':List Value}(he:e≠e')(h:w.ownsRow B e size v n xs)(h':w.ownsRow B' e' size' v' n' xs'):v.ownBlock=none∨v.ownBlock≠v'.ownBlock:=by
  rcases h.2 with ⟨rfl,_⟩ | ⟨g,cap,cur,rfl,_,hg,_⟩
  · exact .inl rfl
  · refine .inr ?_
    rcases h'.2 with ⟨rfl,_⟩ | ⟨g',cap',cur',rfl,_,hg',_⟩
    · simp [Value.ownBlock]
    · simp only [Value.ownBlock]
      intro e''
      simp only [Option.some.injEq] at e''
      subst e''
      rw [hg] at hg'
      simp only [Option.some.injEq,Obj.cells.injEq] at hg'
      exact he hg'.2.1
theorem yeg.row{w:World}{B:Nat}{vals:List Value}{rows:List (List Nat)}(h:yeg w B vals rows){v:Value}(hv:v∈vals):∃ n xs,w.ownsRow B 3 1 v n xs:=by
  obtain ⟨i,hi,rfl⟩:=List.getElem_of_mem hv
  have hr:rows[i]? = some (rows[i]'(by rw [←h.1];exact hi)):=List.getElem?_eq_getElem (by rw [←h.1];exact hi)
  exact ⟨_,_,h.2.1 i _ _ (List.getElem?_eq_getElem hi) hr⟩
theorem yh0{w:World}{B e n c g cap:Nat}{xs:List Value}{u:Value}(h:w.ownsRow B e 1 (.slice (some ⟨g,0,none⟩) n cap) n xs)(hu:xs[c]? = some u):w.cell? ⟨g,c,none⟩=some u∧w.frozen? ⟨g,c,none⟩=false:=by
  have h1:=h.cells (g:=g) rfl c u hu
  have hadd:(⟨g,0,none⟩:Addr).add c=⟨g,c,none⟩:=by unfold Addr.add;split <;> simp_all
  rw [hadd] at h1
  refine ⟨h1,?_⟩
  rcases h.2 with ⟨h0,_⟩ | ⟨g',cap',cur,h0,_,hg,_⟩
  · cases h0
  · cases h0
    simp [World.frozen?,hg]
set_option maxHeartbeats 4000000 in
theorem parts_any{sz:Nat}(g:Nat)(F:List Nat)(n:Nat)(w:World)(hF:NRow w g 105 sz F)(h:ycb F)(hn:n≤12) :
    Calls Tryz.prog 90 #[.pointer (some ⟨g,0,none⟩), .int .i64 (n:Int)] w fun e w'=>∃ v vals,e = .returned v∧w'.ownsRow w.heap.size 35 1 v (yay F n) vals∧yeg w' w.heap.size vals (ybT F n)∧Pure w w':=by
  have HF:=Lib.hid h
  clear h
  obtain ⟨i0,hi,hz0,hz1,hz2⟩:=info_parts int_info
  obtain ⟨i1,hi1,hy0,hy1,hy2⟩:=info_parts ints_info
  have hmm:=@run_makeMap Tryz.prog
  go_enter func90,ntmps90
  go_wp2
  have hm0:=World.ownsMap_made (H:=Unit) w Tryz.prog 3 (plainElem Tryz.prog 3)
  go_loopw [5,11] (fun out i wr=>∃ (k:Nat) (vals:List Value) (D:DataW Unit),k≤n∧i = .int .i64 k∧wr.ownsRow w.heap.size 35 1 out (yay F k) vals∧yeg wr w.heap.size vals (ybT F k) ∧
      wr.ownsMap Tryz.prog 3 (plainElem Tryz.prog 3) w.heap.size k D∧Hid (IsMap D∧∀ r,r<k→root F r=r→D.atKey (.int .i64 (r:Int)) (.lit (.int .i64 0)) = .lit (.int .i64 (yay F r:Int)))∧Pure w wr) (fun _ i _=>n-(intOf i).toNat)
  case atStart=>exact ⟨0,[], .map [],Nat.zero_le _,rfl,World.ownsRow_nil _ _ _ _,yeg.nil _ _,hm0,⟨isMap_empty,fun r hr=>absurd hr (by omega)⟩,(by repeat (first | exact Keeps.refl _ _ | assumption | refine Keeps.drew ?_ | refine Keeps.drewN ?_ _ | refine Keeps.alloc ?_ _ | refine Keeps.setRow ?_ (by simp) _ | refine Keeps.setRow ?_ (by simp;omega) _ | refine Keeps.setCell ?_ (by simp) _ | refine Keeps.setCell ?_ (by simp;omega) _))⟩
  case round =>
    obtain ⟨k,vals,D,hk,rfl,hown,hsl,hmap,HD,hp⟩:=hrel
    clear hm0
    have hFr:NRow wr g 105 sz F:=hp.row hF id
    obtain ⟨A,cp,rfl⟩:=yh2 hown
    by_cases hlt:k<n
    · have hrl:=ycj HF.out k (by omega)
      have hnk:=nroots_le F k
      have hMw:w.heap.size<wr.heap.size:=hmap.lt
      by_cases hr:root F k=k
      case' pos =>
        have hb:((root F k:Int)==(k:Int))=true:=by simp [hr]
        have HR:=Lib.hid hr
        go_wp2_with fail
        refine (yhQ g F k _ hFr HF.out (by omega)).mono ?_
        rintro e w' ⟨rfl,rfl⟩
        rw [hr] at hb ⊢
        clear hr
        go_wp2_with (first
          | (refine wpList_mapUpdate_own _ rfl _ _ _ 139 rfl 3 3 key_int underlying139 _ w.heap.size k D rfl hmap (by unfold maxLen;omega) _ _ _ rfl rfl (keyOf_int_mk underlying3 (wf_small (by omega))) (.lit (.int .i64 (yay F k:Int))) [] (plainElem_int underlying3 (wf_small (by omega))) ?_;intro w1 hmap1 hgrow1;have hown1:=hown.kept hgrow1 (yg2 hown hmap);have hsl1:=hsl.kept hgrow1 (fun v hv=>by obtain ⟨_,_,hq⟩:=hsl.row hv;exact yg2 hq hmap);have hsz1:=hgrow1.size)
          | (at_builtin;refine wpList_append_own _ rfl _ _ 27 rfl w.heap.size 35 i1 (.slice none 0 0) 1 24 underlying27 hi1 hy0 hy1 hy2 rfl (by decide) _ _ _ rfl (hown1.alloc _) ⟨w1.heap.size,0,none⟩ 1 1 [.slice none 0 0] rfl rfl (cell_one_new _ _ _) (by simp [Value.oneCell']) (by unfold maxLen;omega) (by omega) (by have:=hp.size;simp;omega) ?_;intro v2 wA hown2 hgrow2 _))
        obtain ⟨G,capA,rfl,hG1,hG2⟩:=hown2.form (by omega)
        have hS:=((hsl1.kept (World.grownBy_alloc w1 _ none) (fun v _=>by cases v.ownBlock <;> simp)).kept hgrow2 (fun v hv=>by obtain ⟨_,_,hq⟩:=hsl1.row hv;exact yeL (by decide) hq hown1)).push
        have hM:=(hmap1.alloc (.cells #[.slice none 0 0] 35)).kept hgrow2 (own_ne_map' hown1 hmap1)
        have hP:Pure w wA:=by
          refine Keeps.grown (Keeps.alloc (Keeps.grown hp hgrow1 (fun j e hj=>by cases e;omega)) _) hgrow2 (fun j e hj=>?_)
          have:=(hown1.lt j e).1
          omega
        have hlen:vals.length=yay F k:=by have:=hown.1;omega
        have hO:=hown2
        obtain ⟨vi,hvi⟩:∃ vi:Value,vi = .slice none 0 0:=⟨_,rfl⟩
        obtain ⟨rr,hrr⟩:∃ rr:List Nat,rr=[]:=⟨_,rfl⟩
        have HX:Hid ((ybT F k++[[]])[yay F k]? = some rr∧(ybT F (k+1)=(ybT F k++[[]]).modify (yay F k) (· ++ [k])∧yay F (k+1)=yay F k+1)∧(IsMap (D.put (.int .i64 (k:Int)) (.lit (.int .i64 (yay F k:Int))))∧∀ r,r<k+1→root F r=r→(D.put (.int .i64 (k:Int)) (.lit (.int .i64 (yay F k:Int)))).atKey (.int .i64 (r:Int)) (.lit (.int .i64 0)) = .lit (.int .i64 (yay F r:Int)))∧(D.put (.int .i64 (k:Int)) (.lit (.int .i64 (yay F k:Int)))).atKey (.int .i64 (k:Int)) (.lit (.int .i64 0)) = .lit (.int .i64 (yay F k:Int))∧(vals++[.slice none 0 0])[yay F k]? = some vi∧yay F k<yay F k+1):=by
          rw [hvi,hrr]
          have hk1:WideAt.IsKeyLit (.int .i64 (k:Int)):=trivial
          refine ⟨?_,⟨?_,?_⟩,⟨HD.out.1.put _ _,?_⟩,?_,?_,by omega⟩
          · rw [List.getElem?_append_right (by rw [ycg];exact Nat.le_refl _),ycg];simp
          · rw [ybT,HR.out,if_pos rfl]
          · rw [yay,if_pos HR.out]
          · intro q hq hqr
            by_cases e:q=k
            · subst e;exact atKey_put_same HD.out.1 hk1 _ _
            · rw [atKey_put_other (by simp;omega)]
              exact HD.out.2 q (by omega) hqr
          · exact atKey_put_same HD.out.1 hk1 _ _
          · rw [List.getElem?_append_right (by omega),hlen];simp
        clear hgrow2 hmap1 hgrow1 hown1 hsl1 hsz1 hown hsl hmap HD hlen hown2 HR
        generalize hvv:vals++[(.slice none 0 0:Value)]=vA at *
        clear hvv
        generalize hrw:ybT F k++[[]]=rowsA at *
        clear hrw
        have hform:∃ Ai ci,vi = .slice Ai rr.length ci:=⟨none,0,by rw [hvi,hrr];rfl⟩
        have hvo':wA.ownsRow w.heap.size 3 1 vi rr.length (ydO rr):=by rw [hvi,hrr];exact World.ownsRow_nil _ _ _ _
        have hrl12:rr.length≤1000:=by rw [hrr];simp
        clear hvi hrr
        generalize hL:yay F k+1=L at *
        clear hL
        generalize hcc:yay F k=c at *
        clear hcc
        generalize hDD:D.put (.int .i64 (k:Int)) (.lit (.int .i64 (c:Int)))=DA at *
        clear hDD
        obtain ⟨Ai,ci,rfl⟩:=hform
        have hcL:c<L:=HX.out.2.2.2.2.2
        have hc0:(0:Int)≤(c:Int):=by omega
        have hc1:(c:Int)<(L:Int):=by omega
        have hcv:=HX.out.2.2.2.2.1
        obtain ⟨hq1,hq2⟩:=yh0 hO hcv
        have hr12:k<1000:=by omega
        have hLk:=ybP hM hr12 HX.out.2.2.2.1
        have hlk1:=ybP (World.ownsMap.drew hM) hr12 HX.out.2.2.2.1
        have hlk2:=ybP (World.ownsMap.drew (hM.alloc (.cells #[.int .i64 (k:Int)] 3))) hr12 HX.out.2.2.2.1
        have hGn:=yeL (by decide) hO hvo'
        have hMG:=own_ne_map' hvo' hM
        have hGw:G<wA.heap.size:=(hO.lt G rfl).2
        have HO:=Lib.hid hO
        have HS:=Lib.hid hS
        have HM:=Lib.hid hM
        have HV:=Lib.hid hvo'
        have HMG:=Lib.hid hMG
        have HGn:Hid (some G≠(Value.slice Ai rr.length ci).ownBlock):=by
          rcases hGn with e | e
          · simp [Value.ownBlock] at e
          · exact e
        clear hO hS hM hvo' hMG hGn hcv hLk
        go_region_law ((refine step_append_lies _ (by rfl) _ _ _ (by rfl) w.heap.size 3 i0 _ 1 8 underlying35 hi hz0 hz1 hz2 rfl (by omega) (.slice Ai rr.length ci) rr.length (ydO rr) (by rfl) ((HV.out.alloc _).drew) ⟨wA.heap.size,0,none⟩ 1 1 [.int .i64 (k:Int)] (by rfl) (by rfl) (World.news_of_block (cs:=#[.int .i64 (k:Int)]) (t:=3) (fr:=(0,0)) (heap_alloc_new wA _)) (by simp [Value.oneCell']) (by omega) (by unfold maxLen;omega) (by omega) (by simp;omega) (wA.heap.size+1) (by simp) ?_;intro gg cap w3 hown3 hgrow hat hlt3;have hbG:=hgrow.block G (by simp;omega) HGn.out;have hbG':=hbG.trans (Below.heap_alloc wA _ G hGw);have hq3:=(World.cell?_of_block (w:=wA) (a:=⟨G,c,none⟩) hbG').trans hq1;have hq4:=(World.frozen?_of_block (w:=wA) (a:=⟨G,c,none⟩) hbG').trans hq2;have hM3:=(World.ownsMap.drew (HM.out.alloc (.cells #[.int .i64 (k:Int)] 3))).kept hgrow HMG.out;have hlk3:=ybP hM3 hr12 HX.out.2.2.2.1;have HM3:=Lib.hid hM3;have HG3:=Lib.hid hgrow;have HO3:=Lib.hid hown3;have HA3:=Lib.hid hat;clear hbG hbG' hM3 hgrow hown3 hat))
        all_goals (
          have o3:=(HO.out.alloc (.cells #[.int .i64 (k:Int)] 3)).kept (w':=w3) (undrew HG3.out) (.inr (by simpa [Value.ownBlock] using HGn.out))
          have o4:=o3.stored c (.slice (some ⟨gg,0,none⟩) (rr.length+1) cap)
          have s3:=yeg.grow (v' := .slice (some ⟨gg,0,none⟩) (rr.length+1) cap) (x:=k) (HS.out.kept (World.grownBy_alloc wA (.cells #[.int .i64 (k:Int)] 3) none) (fun v _=>by cases v.ownBlock <;> simp)) HX.out.2.2.2.2.1 HX.out.1 (undrew HG3.out) HO3.out (by
            rcases HA3.out with e | e
            · exact .inl e.symm
            · exact .inr ⟨gg,rfl,by rw [e];simp⟩)
          have s4:=s3.kept o4.2 (fun v hv=>by obtain ⟨_,_,hq⟩:=s3.row hv;exact yeL (by decide) hq o3)
          have m4:=HM3.out.kept o4.2 (own_ne_map' o3 HM3.out)
          have p4:Pure w (w3.setCell ⟨G,c,none⟩ (.slice (some ⟨gg,0,none⟩) (rr.length+1) cap)):=by
            refine Keeps.setCell (Keeps.grown (Keeps.drew (Keeps.alloc hP _)) HG3.out (fun j e hj=>?_)) (by simp;omega) _
            have:=(HV.out.lt j e).1
            omega
          have HO4:=Lib.hid o4.1
          have HS4:=Lib.hid s4
          have HM4:=Lib.hid m4
          have HP4:=Lib.hid p4
          clear o3 o4 s3 s4 m4 p4 hq1 hq2 hq3 hq4 hlk1 hlk2 hlk3
          go_wp2
          go_roundw
          case rel=>exact ⟨k+1,vA.set c (.slice (some ⟨gg,0,none⟩) (rr.length+1) cap),DA,by omega,by go_num,by rw [HX.out.2.1.2];exact HO4.out,by rw [HX.out.2.1.1];exact HS4.out,HM4.out,HX.out.2.2.1,HP4.out⟩
          case measure=>simp [intOf];omega)
      case' neg =>
        have hb:((root F k:Int)==(k:Int))=false:=by simp;omega
        have hrk:root F k<k:=by omega
        have HR:=Lib.hid hr
        clear hr
        have hcl:yay F (root F k)<yay F k:=yin F hrk (yd6 HF.out (by omega))
        obtain ⟨G,capA,e0,hG1,hG2⟩:=hown.form (by omega)
        cases e0
        have hlen:vals.length=yay F k:=by have:=hown.1;omega
        have hv0:vals[yay F (root F k)]? = some (vals[yay F (root F k)]'(by omega)):=List.getElem?_eq_getElem _
        have hr0:(ybT F k)[yay F (root F k)]? = some ((ybT F k)[yay F (root F k)]'(by rw [ycg];omega)):=List.getElem?_eq_getElem _
        obtain ⟨vi,hvi⟩:∃ vi:Value,vi=vals[yay F (root F k)]'(by omega):=⟨_,rfl⟩
        obtain ⟨rr,hrr⟩:∃ rr:List Nat,rr=(ybT F k)[yay F (root F k)]'(by rw [ycg];omega):=⟨_,rfl⟩
        rw [←hvi] at hv0
        rw [←hrr] at hr0
        have hrl12:rr.length≤1000:=by
          have:=rows_le F k rr (by rw [hrr];exact List.getElem_mem _)
          omega
        clear hvi hrr
        go_wp2_with fail
        refine (yhQ g F k _ hFr HF.out (by omega)).mono ?_
        rintro e w' ⟨rfl,rfl⟩
        go_wp2
        obtain ⟨wA,hwA⟩:∃ wA:World,wA=wr:=⟨_,rfl⟩
        rw [←hwA] at hown hsl hmap hp hG2 ⊢
        clear hwA
        have hO:=hown
        have hS:=hsl
        have hM:=hmap.mono (Nat.le_succ k)
        have hP:=hp
        have hvo':=hsl.2.1 _ _ _ hv0 hr0
        have hform:∃ Ai ci,vi = .slice Ai rr.length ci:=yh2 hvo'
        have HX:Hid ((ybT F k)[yay F (root F k)]? = some rr∧(ybT F (k+1)=(ybT F k).modify (yay F (root F k)) (· ++ [k])∧yay F (k+1)=yay F k)∧(IsMap D∧∀ r,r<k+1→root F r=r→D.atKey (.int .i64 (r:Int)) (.lit (.int .i64 0)) = .lit (.int .i64 (yay F r:Int)))∧D.atKey (.int .i64 (root F k:Int)) (.lit (.int .i64 0)) = .lit (.int .i64 (yay F (root F k):Int))∧vals[yay F (root F k)]? = some vi∧yay F (root F k)<yay F k):=by
          refine ⟨hr0,⟨?_,?_⟩,⟨HD.out.1,?_⟩,?_,hv0,hcl⟩
          · rw [ybT,if_neg HR.out]
          · rw [yay,if_neg HR.out,Nat.add_zero]
          · intro q hq hqr
            by_cases e:q=k
            · subst e;exact absurd hqr HR.out
            · exact HD.out.2 q (by omega) hqr
          · exact HD.out.2 _ hrk (yd6 HF.out (by omega))
        clear hown hsl hmap HD hlen HR hv0 hr0 hcl
        generalize hL:yay F k=L at *
        clear hL
        generalize hcc:yay F (root F k)=c at *
        clear hcc
        generalize hrw:ybT F k=rowsA at *
        clear hrw
        generalize hq:root F k=r at *
        clear hq
        obtain ⟨Ai,ci,rfl⟩:=hform
        have hcL:c<L:=HX.out.2.2.2.2.2
        have hc0:(0:Int)≤(c:Int):=by omega
        have hc1:(c:Int)<(L:Int):=by omega
        have hcv:=HX.out.2.2.2.2.1
        obtain ⟨hq1,hq2⟩:=yh0 hO hcv
        have hr12:r<1000:=by omega
        have hLk:=ybP hM hr12 HX.out.2.2.2.1
        have hlk1:=ybP (World.ownsMap.drew hM) hr12 HX.out.2.2.2.1
        have hlk2:=ybP (World.ownsMap.drew (hM.alloc (.cells #[.int .i64 (k:Int)] 3))) hr12 HX.out.2.2.2.1
        have hGn:=yeL (by decide) hO hvo'
        have hMG:=own_ne_map' hvo' hM
        have hGw:G<wA.heap.size:=(hO.lt G rfl).2
        have HO:=Lib.hid hO
        have HS:=Lib.hid hS
        have HM:=Lib.hid hM
        have HV:=Lib.hid hvo'
        have HMG:=Lib.hid hMG
        have HGn:Hid (some G≠(Value.slice Ai rr.length ci).ownBlock):=by
          rcases hGn with e | e
          · simp [Value.ownBlock] at e
          · exact e
        clear hO hS hM hvo' hMG hGn hcv hLk
        go_region_law ((refine step_append_lies _ (by rfl) _ _ _ (by rfl) w.heap.size 3 i0 _ 1 8 underlying35 hi hz0 hz1 hz2 rfl (by omega) (.slice Ai rr.length ci) rr.length (ydO rr) (by rfl) ((HV.out.alloc _).drew) ⟨wA.heap.size,0,none⟩ 1 1 [.int .i64 (k:Int)] (by rfl) (by rfl) (World.news_of_block (cs:=#[.int .i64 (k:Int)]) (t:=3) (fr:=(0,0)) (heap_alloc_new wA _)) (by simp [Value.oneCell']) (by omega) (by unfold maxLen;omega) (by omega) (by simp;omega) (wA.heap.size+1) (by simp) ?_;intro gg cap w3 hown3 hgrow hat hlt3;have hbG:=hgrow.block G (by simp;omega) HGn.out;have hbG':=hbG.trans (Below.heap_alloc wA _ G hGw);have hq3:=(World.cell?_of_block (w:=wA) (a:=⟨G,c,none⟩) hbG').trans hq1;have hq4:=(World.frozen?_of_block (w:=wA) (a:=⟨G,c,none⟩) hbG').trans hq2;have hM3:=(World.ownsMap.drew (HM.out.alloc (.cells #[.int .i64 (k:Int)] 3))).kept hgrow HMG.out;have hlk3:=ybP hM3 hr12 HX.out.2.2.2.1;have HM3:=Lib.hid hM3;have HG3:=Lib.hid hgrow;have HO3:=Lib.hid hown3;have HA3:=Lib.hid hat;clear hbG hbG' hM3 hgrow hown3 hat))
        all_goals (
          have o3:=(HO.out.alloc (.cells #[.int .i64 (k:Int)] 3)).kept (w':=w3) (undrew HG3.out) (.inr (by simpa [Value.ownBlock] using HGn.out))
          have o4:=o3.stored c (.slice (some ⟨gg,0,none⟩) (rr.length+1) cap)
          have s3:=yeg.grow (v' := .slice (some ⟨gg,0,none⟩) (rr.length+1) cap) (x:=k) (HS.out.kept (World.grownBy_alloc wA (.cells #[.int .i64 (k:Int)] 3) none) (fun v _=>by cases v.ownBlock <;> simp)) HX.out.2.2.2.2.1 HX.out.1 (undrew HG3.out) HO3.out (by
            rcases HA3.out with e | e
            · exact .inl e.symm
            · exact .inr ⟨gg,rfl,by rw [e];simp⟩)
          have s4:=s3.kept o4.2 (fun v hv=>by obtain ⟨_,_,hq⟩:=s3.row hv;exact yeL (by decide) hq o3)
          have m4:=HM3.out.kept o4.2 (own_ne_map' o3 HM3.out)
          have p4:Pure w (w3.setCell ⟨G,c,none⟩ (.slice (some ⟨gg,0,none⟩) (rr.length+1) cap)):=by
            refine Keeps.setCell (Keeps.grown (Keeps.drew (Keeps.alloc hP _)) HG3.out (fun j e hj=>?_)) (by simp;omega) _
            have:=(HV.out.lt j e).1
            omega
          have HO4:=Lib.hid o4.1
          have HS4:=Lib.hid s4
          have HM4:=Lib.hid m4
          have HP4:=Lib.hid p4
          clear o3 o4 s3 s4 m4 p4 hq1 hq2 hq3 hq4 hlk1 hlk2 hlk3
          go_wp2
          go_roundw
          case rel=>exact ⟨k+1,vals.set c (.slice (some ⟨gg,0,none⟩) (rr.length+1) cap),D,by omega,by go_num,by rw [HX.out.2.1.2];exact HO4.out,by rw [HX.out.2.1.1];exact HS4.out,HM4.out,HX.out.2.2.1,HP4.out⟩
          case measure=>simp [intOf];omega)
    · go_wp2
      go_ret
      obtain rfl:k=n:=by omega
      exact ⟨_,vals,rfl,hown,hsl,hp⟩
end Go.Proofs.YtencmgolklfmkaaGreat

/- The walks of connect.Components and connect.Connected. -/
namespace Go.Proofs.YtencmgolklfmkaaGreat
open Go.RowKit Go.Maps Go.Proofs.Tryz
set_option maxRecDepth 100000
set_option maxHeartbeats 400000
theorem gchk_ends{n:Int}(hn:n≤12):∀ (es:List E3) (a b:Int),gchk n a b es=0→ycL es:=by
  intro es
  induction es with
  | nil=>intro a b _ x hx;cases hx
  | cons e t ih =>
    intro a b h
    rw [gchk] at h
    split at h
    · rename_i h1
      split at h
      · rename_i h2
        intro x hx
        rcases List.mem_cons.1 hx with rfl | hx
        · omega
        · exact ih _ _ h x hx
      · omega
    · omega
theorem gcheck_ends{n:Int}{es:List E3}(h:yat n es=0):ycL es∧1≤n∧n≤12:=by
  rw [yat] at h
  split at h
  · rename_i h1
    exact ⟨gchk_ends h1.2 es _ _ h,h1⟩
  · omega
def yd0(n:Int)(es:List E3):Bool:=yay (yap es) n.toNat==1
theorem own_base{w:World}{B B' e size n:Nat}{v:Value}{xs:List Value}(h:w.ownsRow B e size v n xs)(hB:B'≤B):w.ownsRow B' e size v n xs:=by
  refine ⟨h.1,?_⟩
  rcases h.2 with h0 | ⟨g,cap,cur,hv,hb,r⟩
  · exact .inl h0
  · exact .inr ⟨g,cap,cur,hv,Nat.le_trans hB hb,r⟩
theorem yeg.base{w:World}{B B':Nat}{vals:List Value}{rows:List (List Nat)}(h:yeg w B vals rows)(hB:B'≤B):yeg w B' vals rows :=
  ⟨h.1,fun i v r hv hr=>own_base (h.2.1 i v r hv hr) hB,h.2.2⟩
def CompPost(n:Int)(es:List E3)(w:World)(e:Ending)(w':World):Prop :=
  ∃ v L vals,e = .returned (.tuple #[v, .int .i64 (yat n es)])∧w'.ownsRow w.heap.size 35 1 v L vals∧(yat n es≠0→L=0) ∧
    (yat n es=0→L=yay (yap es) n.toNat∧yeg w' w.heap.size vals (ybT (yap es) n.toNat))∧Pure w w'
theorem components_any(A:Option Addr)(es:List E3)(cap:Nat)(n:Int)(w:World)(hd:yhy w A es)(hlen:es.length≤1000000000) :
    Calls Tryz.prog 116 #[.agg #[.int .i64 n, .slice A es.length cap]] w (CompPost n es w):=by
  by_cases hg:yat n es=0
  case neg =>
    have hb:=neT hg
    have HG:=Lib.hid hg
    clear hg
    go_enter func116,ntmps116
    go_wp2_with fail
    refine (gcheck_any A es cap n _ (hd.keep (by repeat (first | exact Keeps.refl _ _ | assumption | refine Keeps.drew ?_ | refine Keeps.drewN ?_ _ | refine Keeps.alloc ?_ _ | refine Keeps.setRow ?_ (by simp) _ | refine Keeps.setRow ?_ (by simp;omega) _ | refine Keeps.setCell ?_ (by simp) _ | refine Keeps.setCell ?_ (by simp;omega) _))) hlen).mono ?_
    rintro e w1 ⟨rfl,hp1⟩
    go_wp2
    go_ret2
    exact ⟨.slice none 0 0,0,[],rfl,World.ownsRow_nil _ _ _ _,fun _=>rfl,fun h=>absurd h HG.out,Pure.after (by repeat (first | exact Keeps.refl _ _ | assumption | refine Keeps.drew ?_ | refine Keeps.drewN ?_ _ | refine Keeps.alloc ?_ _ | refine Keeps.setRow ?_ (by simp) _ | refine Keeps.setRow ?_ (by simp;omega) _ | refine Keeps.setCell ?_ (by simp) _ | refine Keeps.setCell ?_ (by simp;omega) _)) hp1⟩
  have hb:=neF hg
  obtain ⟨hE,h1,h2⟩:=gcheck_ends hg
  have HG:=Lib.hid hg
  clear hg
  go_enter func116,ntmps116
  go_wp2_with fail
  refine (gcheck_any A es cap n _ (hd.keep (by repeat (first | exact Keeps.refl _ _ | assumption | refine Keeps.drew ?_ | refine Keeps.drewN ?_ _ | refine Keeps.alloc ?_ _ | refine Keeps.setRow ?_ (by simp) _ | refine Keeps.setRow ?_ (by simp;omega) _ | refine Keeps.setCell ?_ (by simp) _ | refine Keeps.setCell ?_ (by simp;omega) _))) hlen).mono ?_
  rintro e w1 ⟨rfl,hp1⟩
  have p1:Pure w w1:=Pure.after (by repeat (first | exact Keeps.refl _ _ | assumption | refine Keeps.drew ?_ | refine Keeps.drewN ?_ _ | refine Keeps.alloc ?_ _ | refine Keeps.setRow ?_ (by simp) _ | refine Keeps.setRow ?_ (by simp;omega) _ | refine Keeps.setCell ?_ (by simp) _ | refine Keeps.setCell ?_ (by simp;omega) _)) hp1
  have r0:=hp1.row (Row.new w #[.int .i64 n, .slice A es.length cap] 24) id
  have c0:=Row.cell r0 (i:=0) rfl
  have c1:=Row.cell r0 (i:=1) rfl
  have s0:=r0.lt
  go_wp2_with fail
  refine (joined_any A es cap n _ (hd.keep p1) hlen hE).mono ?_
  rintro e w2 ⟨rfl,hp2⟩
  have p2:Pure w w2:=Pure.after p1 hp2
  have r1:=hp2.row r0 id
  have d0:=Row.cell r1 (i:=0) rfl
  have d1:=Row.cell r1 (i:=1) rfl
  have s1:=r1.lt
  clear c0 c1 s0 r0
  have hF:=yaU es hE
  obtain ⟨a0,a1,a2,a3,a4,a5,a6,a7,a8,a9,a10,a11,hl⟩:=forestV_lit hF.1
  obtain ⟨m,rfl⟩:=Int.eq_ofNat_of_zero_le (show 0≤n by omega)
  have HL:=Lib.hid hl
  have hrow:NRow (w2.alloc (.cells (ydO (yap es)).toArray 105)) w2.heap.size 105 12 (yap es):=by
    have:=Row.new w2 (ydO (yap es)).toArray 105
    have hsz:(ydO (yap es)).toArray.size=12:=by rw [List.size_toArray,yeE,hF.1]
    rw [hsz] at this
    exact this
  rw [hl] at hrow
  unfold yg6
  rw [hl]
  clear hl
  have hF':ycb [a0,a1,a2,a3,a4,a5,a6,a7,a8,a9,a10,a11]:=by rw [←HL.out];exact hF
  have HF:=Lib.hid hF'
  clear hF hF'
  simp only [ydO,List.map] at hrow ⊢
  go_wp2_with fail
  refine (parts_any w2.heap.size _ m _ hrow HF.out (by omega)).mono ?_
  rintro e w3 ⟨v,vals,rfl,ho,hs,hp3⟩
  have p3:Pure w w3:=Pure.after (Keeps.alloc p2 _) hp3
  have HO:=Lib.hid ho
  clear ho
  go_wp2
  go_ret2
  have hle:w.heap.size≤(w2.alloc (.cells #[.int .i64 0] 0)).heap.size:=by have:=p2.size;simp;omega
  simp only [World.size_alloc] at hle
  refine ⟨v,_,vals,yfN (by rw [HG.out];rfl),own_base HO.out (by simpa using hle),fun h=>absurd HG.out h,fun _=>⟨by rw [HL.out];rfl,?_⟩,p3⟩
  have:=hs.base (B':=w.heap.size) (by simpa using hle)
  rw [HL.out]
  exact this
theorem connected_any(A:Option Addr)(es:List E3)(cap:Nat)(n:Int)(w:World)(hd:yhy w A es)(hlen:es.length≤1000000000) :
    Calls Tryz.prog 84 #[.agg #[.int .i64 n, .slice A es.length cap]] w fun e w' =>
      e = .returned (.tuple #[.bool (decide (yat n es=0∧yd0 n es=true)), .int .i64 (yat n es)])∧Pure w w':=by
  go_enter func84,ntmps84
  go_wp2_with fail
  refine (components_any A es cap n _ (hd.keep (by repeat (first | exact Keeps.refl _ _ | assumption | refine Keeps.drew ?_ | refine Keeps.drewN ?_ _ | refine Keeps.alloc ?_ _ | refine Keeps.setRow ?_ (by simp) _ | refine Keeps.setRow ?_ (by simp;omega) _ | refine Keeps.setCell ?_ (by simp) _ | refine Keeps.setCell ?_ (by simp;omega) _))) hlen).mono ?_
  rintro e w1 ⟨v,L,vals,rfl,ho,h1,h2,hp1⟩
  have p1:Pure w w1:=Pure.after (by repeat (first | exact Keeps.refl _ _ | assumption | refine Keeps.drew ?_ | refine Keeps.drewN ?_ _ | refine Keeps.alloc ?_ _ | refine Keeps.setRow ?_ (by simp) _ | refine Keeps.setRow ?_ (by simp;omega) _ | refine Keeps.setCell ?_ (by simp) _ | refine Keeps.setCell ?_ (by simp;omega) _)) hp1
  have hL:((L:Int)==1)=decide (yat n es=0∧yd0 n es=true):=by
    by_cases hg:yat n es=0
    · obtain ⟨rfl,_⟩:=h2 hg
      simp only [hg,true_and,yd0]
      rw [Bool.eq_iff_iff]
      simp
      omega
    · rw [h1 hg]
      simp [hg]
  obtain ⟨A1,c1,rfl⟩:=yh2 ho
  have HL:=Lib.hid hL
  clear hL ho h1 h2
  go_wp2
  go_ret2
  refine ⟨?_,p1⟩
  rw [←HL.out]
  rfl
end Go.Proofs.YtencmgolklfmkaaGreat

/- A right graph's edges; its forest of parts against ways out of sets. No program in sight. -/
namespace Go.Proofs.YtencmgolklfmkaaGreat
open Go Go.Proofs.Tryz
theorem gchk_ok{n:Int} : ∀ (es:List E3) (a b:Int),gchk n a b es=0→∀ x∈es,0≤x.1∧x.1<n∧0≤x.2.1∧x.2.1<n∧1≤x.2.2∧x.2.2≤50
  | [],_,_,_=>by simp
  | x::t,a,b,h=>by
    rw [gchk] at h
    split at h
    · rename_i c
      split at h
      · intro y hy
        rcases List.mem_cons.1 hy with rfl | hy
        · omega
        · exact gchk_ok t _ _ h y hy
      · omega
    · omega
theorem ybr{n:Nat}{es:List E3}(h:yat n es=0):EOk n es∧1≤n∧n≤12:=by
  unfold yat at h
  split at h
  · rename_i c
    exact ⟨gchk_ok es _ _ h,by omega,by omega⟩
  · omega
theorem yeZ{n:Nat}{S:Nat→Bool} : ∀ (es:List E3),ycL es→(∀ x∈es,S x.1.toNat=S x.2.1.toNat)→∀ v,v<12→S (root (yap es) v)=S v:=by
  suffices H:∀ (l:List E3) (F:List Nat),ycL l→(∀ x∈l,S x.1.toNat=S x.2.1.toNat)→ycb F→(∀ v,v<12→S (root F v)=S v)→∀ v,v<12→S (root (l.foldl (fun F x=>ycu F x.1.toNat x.2.1.toNat) F) v)=S v by
    intro es hE hS
    refine H es ycr hE hS ye9 fun v hv=>?_
    rw [ycm (by rw [yfl (by simpa [ycr] using hv)];simp [ycr])]
  intro l
  induction l with
  | nil=>exact fun F _ _ _ h=>h
  | cons x l ih =>
    intro F hE hS hF h
    have hx:=hE x (by simp)
    have hSx:=hS x (by simp)
    refine ih _ (fun y hy=>hE y (by simp [hy])) (fun y hy=>hS y (by simp [hy])) (yex hF (by omega) (by omega)) fun v hv=>?_
    rw [yga hF (by omega) (by omega) v hv]
    have ha:=h x.1.toNat (by omega)
    have hb:=h x.2.1.toNat (by omega)
    split
    · rename_i e
      rw [←h v hv,e]
      rcases Nat.le_total (root F x.1.toNat) (root F x.2.1.toNat) with q | q
      · rw [Nat.max_eq_right q,Nat.min_eq_left q,ha,hb,hSx]
      · rw [Nat.max_eq_left q,Nat.min_eq_right q,ha,hb,hSx]
    · exact h v hv
theorem ygC:∀ (es:List E3),ycL es→∀ x∈es,root (yap es) x.1.toNat=root (yap es) x.2.1.toNat:=by
  suffices H:∀ (l:List E3) (F:List Nat),ycL l→ycb F→(∀ a b,a<12→b<12→root F a=root F b→root (l.foldl (fun F x=>ycu F x.1.toNat x.2.1.toNat) F) a=root (l.foldl (fun F x=>ycu F x.1.toNat x.2.1.toNat) F) b) ∧
      ∀ x∈l,root (l.foldl (fun F x=>ycu F x.1.toNat x.2.1.toNat) F) x.1.toNat=root (l.foldl (fun F x=>ycu F x.1.toNat x.2.1.toNat) F) x.2.1.toNat from
    fun es hE=>(H es ycr hE ye9).2
  intro l
  induction l with
  | nil=>exact fun F _ _=>⟨fun a b _ _ h=>h,by simp⟩
  | cons x l ih =>
    intro F hE hF
    have hx:=hE x (by simp)
    have hJ:=yex hF (a:=x.1.toNat) (b:=x.2.1.toNat) (by omega) (by omega)
    obtain ⟨i1,i2⟩:=ih (ycu F x.1.toNat x.2.1.toNat) (fun y hy=>hE y (by simp [hy])) hJ
    have hr:=yga hF (a:=x.1.toNat) (b:=x.2.1.toNat) (by omega) (by omega)
    refine ⟨fun a b ha hb h=>i1 a b ha hb (by rw [hr a ha,hr b hb,h]),fun y hy=>?_⟩
    rcases List.mem_cons.1 hy with rfl | hy
    · refine i1 _ _ (by omega) (by omega) ?_
      rw [hr _ (by omega),hr _ (by omega)]
      rcases Nat.le_total (root F y.1.toNat) (root F y.2.1.toNat) with q | q
      · rw [Nat.max_eq_right q,Nat.min_eq_left q,if_pos rfl];split <;> omega
      · rw [Nat.max_eq_left q,Nat.min_eq_right q,if_pos rfl];split <;> omega
    · exact i2 y hy
theorem nroots_one{F:List Nat}(hF:ycb F){n:Nat}(hn:1≤n)(h12:n≤12):yay F n=1↔∀ v,v<n→root F v=root F 0:=by
  have h0:root F 0=0:=by have:=(ycj hF 0 (by omega)).1;omega
  constructor
  · intro h v hv
    have h1:=ycj hF v (by omega)
    have h2:root F (root F v)=root F v:=yd6 hF (by omega)
    rw [h0]
    apply Nat.eq_zero_of_not_pos
    intro hpos
    have h3:=yin F hpos h0
    have h4:=yin F (show root F v<n by omega) h2
    omega
  · intro h
    have H:∀ k,k+1≤n→yay F (k+1)=1:=by
      intro k
      induction k with
      | zero=>intro _;rw [yay,yay,if_pos h0]
      | succ k ih =>
        intro hk
        rw [yay,ih (by omega),if_neg]
        rw [h (k+1) (by omega),h0];omega
    obtain ⟨k,rfl⟩:∃ k,n=k+1:=⟨n-1,by omega⟩
    exact H k (Nat.le_refl _)
section
variable {n : Nat} {es : List E3} (hE : EOk n es) (hn : 1 ≤ n) (h12 : n ≤ 12)
include hE hn h12
theorem EOk.ends:ycL es:=fun x hx=>by have:=hE x hx;omega
theorem W_edge{x:E3}(hx:x∈es)(hne:x.1≠x.2.1):0<W es x.1.toNat x.2.1.toNat:=by
  have h:=hE x hx
  exact (W_adj hE).2 ⟨x.2.2,ybN.2 ⟨x,hx,hne,by omega,by omega,rfl⟩⟩
theorem yhM{q:Nat}(hq:q<n):yd0 n es=true↔Conn n es q:=by
  have hF:=yaU es (hE.ends hn h12)
  have hk:yd0 n es=true↔∀ v,v<n→root (yap es) v=root (yap es) 0:=by
    unfold yd0
    rw [beq_iff_eq,Int.toNat_natCast]
    exact nroots_one hF hn h12
  rw [hk]
  constructor
  · intro h S hS ⟨v,hv,hSv⟩
    apply Classical.byContradiction
    intro hno
    have hcl:∀ x∈es,S x.1.toNat=S x.2.1.toNat:=fun x hx=>by
      have hb:=hE x hx
      by_cases e:x.1=x.2.1
      · rw [e]
      · have hw:=W_edge hE hn h12 hx e
        cases h1:S x.1.toNat <;> cases h2:S x.2.1.toNat
        · rfl
        · exact absurd ⟨x.2.1.toNat,x.1.toNat,by omega,by omega,h2,h1,by rw [yfq];exact hw⟩ hno
        · exact absurd ⟨x.1.toNat,x.2.1.toNat,by omega,by omega,h1,h2,hw⟩ hno
        · rfl
    have hs:=yeZ (n:=n) es (hE.ends hn h12) hcl
    have h1:=hs v (by omega)
    have h2:=hs q (by omega)
    rw [h v hv] at h1
    rw [h q hq,h1,hSv,hS] at h2
    cases h2
  · intro hC v hv
    have hedge:=ygC es (hE.ends hn h12)
    suffices H:∀ v,v<n→root (yap es) v=root (yap es) q by rw [H v hv,H 0 (by omega)]
    intro v hv
    apply Classical.byContradiction
    intro hne
    obtain ⟨a,b,ha,hb,hSa,hSb,hW⟩:=hC (fun v=>decide (root (yap es) v≠root (yap es) q)) (by simp) ⟨v,hv,by simpa using hne⟩
    obtain ⟨m,hm⟩:=(W_adj hE).1 hW
    obtain ⟨x,hx,q1,q2,q3,q4⟩:=ybN.1 hm
    have h1:=hedge x hx
    have hbx:=hE x hx
    simp only [decide_eq_true_eq,decide_eq_false_iff_not,ne_eq,Decidable.not_not] at hSa hSb
    rcases q2 with q2 | q2
    · rw [show x.1.toNat=a by omega,show x.2.1.toNat=b by omega,hSb] at h1;exact hSa h1
    · rw [show x.1.toNat=b by omega,show x.2.1.toNat=a by omega,hSb] at h1;exact hSa h1.symm
end
end Go.Proofs.YtencmgolklfmkaaGreat

/- The walks of package reduced: what is checked first, debts, the beginning of a state. -/
namespace Go.Proofs.YtencmgolklfmkaaGreat
open Go.RowKit Go.Proofs.Tryz
set_option maxRecDepth 100000
set_option maxHeartbeats 8000000
end Go.Proofs.YtencmgolklfmkaaGreat

/- The package's own functions: Reduce, Lend. -/
namespace Go.Proofs.YtencmgolklfmkaaGreat
open Go Go.Proofs.Tryz
structure Leads(n:Nat)(es:List E3)(q:Nat)(d d' s':List Int):Prop where
  dl:d'.length=n
  sl:s'.length=n
  lp:∀ v,v<n→gi d' v=gi d v-Lp n es (gi s') v
  sq:gi s' q=0
  pos:∀ v,v<n→v≠q→0≤gi d' v
  bd:∀ v,v<n → -600000≤gi d' v∧gi d' v≤600000
  bs:∀ v,v<n → -600000≤gi s' v∧gi s' v≤600000
structure Lends(n:Nat)(es:List E3)(q:Nat)(d d' s':List Int):Prop extends Leads n es q d d' s' where
  same:(∀ v,v<n→v≠q→0≤gi d v)→d'=d
structure Reduces(n:Nat)(es:List E3)(q:Nat)(d d' s':List Int):Prop extends Leads n es q d d' s' where
  red:Red n es q d'
structure Small(n:Int)(es:List E3)(d:List Int):Prop where
  el:es.length≤40
  g:yat n es=0→n≤6∧(es.map (·.2.2)).sum≤9
  d:checkF d n=0→∀ v:Nat,(v:Int)<n → -200≤gi d v∧gi d v≤200
section
variable {n : Nat} {es : List E3} {q : Nat} {d0 : List Int} (hE : EOk n es) (hn : n ≤ 6) (hn1 : 1 ≤ n) (hq : q < n) (hC : Conn n es q) (hsum : (es.map (·.2.2)).sum ≤ 9) (hel : es.length ≤ 40) (hd0 : ∀ v, v < n → -200 ≤ gi d0 v ∧ gi d0 v ≤ 200) (hdl : d0.length = n)
include hE hn hn1 hq hC hsum hel hd0 hdl
end
end Go.Proofs.YtencmgolklfmkaaGreat

/- The package's own functions: IsReduced, Unburnt. -/
namespace Go.Proofs.YtencmgolklfmkaaGreat
open Go Go.RowKit Go.Proofs.Tryz
def OInts(w:World)(B:Nat)(A:Option Addr)(l c:Nat)(xs:List Int):Prop:=OwnS w B 3 1 A l c (xs.map (Value.int .i64))
theorem OInts.nil(w:World)(B:Nat):OInts w B none 0 0 []:=OwnS.nil w B _ 1
end Go.Proofs.YtencmgolklfmkaaGreat

/- The chapter's examples come out right. -/
namespace Go.Proofs.YtencmgolklfmkaaGreat
open Go Go.RowKit Go.Shelf Go.Proofs.Tryz
end Go.Proofs.YtencmgolklfmkaaGreat

/- Plain facts on graphs that the references need: checks, weights, connectedness, sets as bits. No program in sight. -/
namespace Go.Proofs.YtencmgolklfmkaaGreat
open Go Go.RowKit Go.Shelf Go.Proofs.Tryz
def yeY(n a b:Int)(x:E3):Int:=if (0≤x.1∧x.1<n)∧(0≤x.2.1∧x.2.1<n)∧1≤x.2.2∧x.2.2≤50 then (if x.1≤x.2.1∧ygK a b x.1 x.2.1<0 then 0 else 9) else 2
theorem yea(n a b:Int)(x:E3)(t:List E3):gchk n a b (x::t)=if yeY n a b x=0 then gchk n x.1 x.2.1 t else yeY n a b x:=by
  rw [gchk]
  unfold yeY
  by_cases c:(0≤x.1∧x.1<n)∧(0≤x.2.1∧x.2.1<n)∧1≤x.2.2∧x.2.2≤50
  · rw [if_pos c,if_pos c]
    by_cases c2:x.1≤x.2.1∧ygK a b x.1 x.2.1<0
    · rw [if_pos c2,if_pos c2,if_pos rfl]
    · rw [if_neg c2,if_neg c2,if_neg (by omega)]
  · rw [if_neg c,if_neg c,if_neg (by omega)]
theorem ygt(a b c d:Int):ygK a b c d<0↔a<c∨(a=c∧b<d):=by
  unfold ygK orF cmpF
  by_cases h1:a<c
  · simp [h1]
  · by_cases h2:c<a
    · simp [h1,h2];omega
    · have:a=c:=by omega
      subst this
      simp
      by_cases h3:b<d
      · simp [h3]
      · by_cases h4:d<b <;> simp [h3,h4]
def pre(es:List E3)(k:Nat):Int×Int:=if k=0 then (-1, -1) else ((ge es (k-1)).1,(ge es (k-1)).2.1)
theorem gchk_lt{n:Int} : ∀ (es:List E3) (a b:Int),gchk n a b es=0→∀ x∈es,(a<x.1∨(a=x.1∧b<x.2.1))∧x.1≤x.2.1
  | [],_,_,_=>by simp
  | x::t,a,b,h=>by
    rw [yea] at h
    by_cases h0:yeY n a b x=0
    · rw [if_pos h0] at h
      have hx:x.1≤x.2.1∧(a<x.1∨(a=x.1∧b<x.2.1)):=by
        unfold yeY at h0
        split at h0
        · split at h0
          · rename_i c;exact ⟨c.1,(ygt _ _ _ _).1 c.2⟩
          · omega
        · omega
      intro y hy
      rcases List.mem_cons.1 hy with rfl | hy
      · exact ⟨hx.2,hx.1⟩
      · have:=gchk_lt t _ _ h y hy
        omega
    · rw [if_neg h0] at h;exact absurd h h0
theorem yfO{n:Int}(u v:Nat)(huv:u≠v):∀ (es:List E3) (a b:Int),gchk n a b es=0→((es.find? fun x=>decide (x.1=mnF (u:Int) v∧x.2.1=mxF (u:Int) v)).map (·.2.2)).getD 0=W es u v
  | [],_,_,_=>rfl
  | x::t,a,b,h=>by
    have hlt:=gchk_lt (x::t) a b h
    rw [yea] at h
    by_cases h0:yeY n a b x=0
    · rw [if_pos h0] at h
      have ih:=yfO u v huv t _ _ h
      have ht:=gchk_lt t _ _ h
      have hx:=(hlt x (by simp)).2
      have hmn:mnF (u:Int) v=if (u:Int)<v then (u:Int) else v:=by unfold mnF;split <;> (try split) <;> omega
      have hmx:mxF (u:Int) v=if (u:Int)<v then (v:Int) else u:=by unfold mxF;split <;> (try split) <;> omega
      rw [List.find?_cons,ygV]
      by_cases c:x.1=mnF (u:Int) v∧x.2.1=mxF (u:Int) v
      · have hnone:t.find? (fun x=>decide (x.1=mnF (u:Int) v∧x.2.1=mxF (u:Int) v))=none:=by
          rw [List.find?_eq_none]
          intro y hy
          have:=ht y hy
          simp only [decide_eq_true_eq]
          omega
        rw [hnone] at ih
        have hw:w1 x u v=x.2.2:=by
          unfold w1
          rw [if_pos]
          rw [hmn,hmx] at c
          by_cases q:(u:Int)<v
          · rw [if_pos q,if_pos q] at c;omega
          · rw [if_neg q,if_neg q] at c;omega
        rw [decide_eq_true c,hw,←ih]
        simp
      · have hw:w1 x u v=0:=by
          unfold w1
          rw [if_neg]
          intro q
          apply c
          rw [hmn,hmx]
          by_cases q2:(u:Int)<v
          · rw [if_pos q2,if_pos q2];omega
          · rw [if_neg q2,if_neg q2];omega
        rw [decide_eq_false c,hw,←ih]
        simp
    · rw [if_neg h0] at h;exact absurd h h0
theorem ycl{n:Int}{es:List E3}(h:yat n es=0):gchk n (-1) (-1) es=0:=by
  unfold yat at h
  split at h
  · exact h
  · omega
def smallF(n:Int)(es:List E3)(a b:Int):Bool:=decide (es.length≤40∧(yat n es=0→n≤a∧(es.map (·.2.2)).sum≤b))
theorem gb_rep(n v:Nat):gb (List.replicate n false) v=false:=by
  rcases Nat.lt_or_ge v n with h | h
  · rw [yda (by simpa using h)];simp
  · exact gb_ge (by simpa using h)
theorem set_same{l:List Bool}{v:Nat}(h:gb l v=true):l.set v true=l:=by
  rcases Nat.lt_or_ge v l.length with hv | hv
  · rw [yda hv] at h
    rw [←h];exact List.set_getElem_self hv
  · rw [gb_ge hv] at h;cases h
def Cl(n:Nat)(es:List E3)(o:List Bool):Prop:=∀ a b,a<n→b<n→gb o a=true→0<W es a b→gb o b=true
theorem root_W{n:Nat}{es:List E3}(hE:EOk n es)(hn:1≤n)(h12:n≤12){a b:Nat}(h:0<W es a b):root (yap es) a=root (yap es) b:=by
  obtain ⟨m,hm⟩:=(W_adj hE).1 h
  obtain ⟨x,hx,q1,q2,q3,q4⟩:=ybN.1 hm
  have h1:=ygC es (hE.ends hn h12) x hx
  have hbx:=hE x hx
  rcases q2 with q2 | q2
  · rwa [show x.1.toNat=a by omega,show x.2.1.toNat=b by omega] at h1
  · rw [show x.1.toNat=b by omega,show x.2.1.toNat=a by omega] at h1;exact h1.symm
theorem conn_root{n:Nat}{es:List E3}(hE:EOk n es)(hn:1≤n)(h12:n≤12):yd0 n es=true↔∀ v,v<n→root (yap es) v=root (yap es) 0:=by
  have hF:=yaU es (hE.ends hn h12)
  unfold yd0
  rw [beq_iff_eq,Int.toNat_natCast]
  exact nroots_one hF hn h12
theorem cl_root{n:Nat}{es:List E3}(hE:EOk n es)(hn:1≤n)(h12:n≤12){o:List Bool}(hC:Cl n es o){v:Nat}(hv:v<n)(hvo:gb o v=true)(hs:∀ u,u<n→gb o u=true→root (yap es) u=root (yap es) v) :
    ∀ u,u<n→gb o u=decide (root (yap es) u=root (yap es) v):=by
  have hcl:∀ x∈es,gb o x.1.toNat=gb o x.2.1.toNat:=fun x hx=>by
    have hb:=hE x hx
    by_cases e:x.1=x.2.1
    · rw [e]
    · have hw:=W_edge hE hn h12 hx e
      cases h1:gb o x.1.toNat <;> cases h2:gb o x.2.1.toNat
      · rfl
      · rw [hC _ _ (by omega) (by omega) h2 (by rw [yfq];exact hw)] at h1;cases h1
      · rw [hC _ _ (by omega) (by omega) h1 hw] at h2;cases h2
      · rfl
  have hside:=yeZ (n:=n) (S:=gb o) es (hE.ends hn h12) hcl
  intro u hu
  cases h:gb o u with
  | true=>exact (decide_eq_true (hs u hu h)).symm
  | false =>
    symm
    rw [decide_eq_false_iff_not]
    intro e
    have h1:=hside u (by omega)
    have h2:=hside v (by omega)
    rw [e,h2,hvo] at h1
    rw [h] at h1;cases h1
def ybx(n:Int)(es:List E3):Int:=if yat n es=0 then (if yd0 n es=true then 0 else 13) else yat n es
theorem bit_and(m u:Nat):((((m:Int) / 2^(u:Int).toNat).toNat &&& (1:Int).toNat:Nat):Int)=if m.testBit u=true then 1 else 0:=by
  have e1:((m:Int) / 2^(u:Int).toNat).toNat=m / 2^u:=by
    have:((m:Int) / 2^(u:Int).toNat)=((m / 2^u:Nat):Int):=by rw [Int.toNat_natCast];push_cast;rfl
    rw [this,Int.toNat_natCast]
  have e2:(1:Int).toNat=1:=rfl
  rw [e1,e2,Nat.and_one_is_mod,Nat.testBit_eq_decide_div_mod_eq]
  simp only [decide_eq_true_eq]
  split <;> omega
end Go.Proofs.YtencmgolklfmkaaGreat

/- Reduce of a divisor that is reduced already: it is the form, and the script is 0. -/
namespace Go.Proofs.YtencmgolklfmkaaGreat
open Go Go.Proofs.Tryz
end Go.Proofs.YtencmgolklfmkaaGreat

/- Pure forms of functions whose walks were proved by hand: reduced's, connect.Connected, the law's awake. -/
namespace Go.Proofs.YtencmgolklfmkaaGreat
open Go Go.RowKit Go.Shelf Go.Proofs.Tryz
theorem sl_ints{A:Option Addr}{l cap:Nat}{xs:List Int}{O:Nat→Prop}{w:World}(h:(FP.sl cI A l cap xs).P O w):l=xs.length∧Ints w A xs:=by
  obtain ⟨h1,h2,h3⟩:=h
  refine ⟨h1,fun h0=>?_⟩
  obtain ⟨b,off,e,hb,ho,hc⟩:=h3 h0
  refine ⟨b,off,e,hb,fun k hk=>?_⟩
  obtain ⟨vs,hv,hu⟩:=hc k _ (yaF hk)
  have hv:vs=[.int .i64 (gi xs k)]:=hv
  subst hv
  have:=hu 0 _ rfl
  simpa [cI,Fl.cod,fI] using this
theorem sl_edges{A:Option Addr}{l cap:Nat}{es:List E3}{O:Nat→Prop}{w:World}(h:(FP.sl c3 A l cap es).P O w):l=es.length∧yhy w A es:=by
  obtain ⟨h1,h2,h3⟩:=h
  refine ⟨h1,fun h0=>?_⟩
  obtain ⟨b,off,e,hb,ho,hc⟩:=h3 h0
  refine ⟨b,off,e,hb,fun k hk=>?_⟩
  obtain ⟨vs,hv,hu⟩:=hc k _ (ydz hk)
  have hv:vs=[.int .i64 (ge es k).1, .int .i64 (ge es k).2.1, .int .i64 (ge es k).2.2]:=hv
  subst hv
  exact ⟨hu 0 _ rfl,hu 1 _ rfl,hu 2 _ rfl⟩
theorem sep_pure{w w':World}{O:Nat→Prop}(hO:∀ k,O k→k<w.heap.size)(h:Pure w w'):Sep w no O w' (rl []):=(Sep.start w hO).pur h
section
variable {O : Nat → Prop} {w : World} {n : Int} {es : List E3} {q : Int} {d : List Int} {A : Option Addr} {l c : Nat} {D : Option Addr} {ld cd : Nat}
def ydS(n:Int)(es:List E3)(R:Bool→Int→Prop):Prop:=es.length≤1000000000∧R (decide (yat n es=0∧yd0 n es=true)) (yat n es)
theorem yfV{R:Bool→Int→Prop}(h:ydS n es R)(hO:∀ k,O k→k<w.heap.size)(a0:(FP.sl c3 A l c es).P O w) :
    Calls Tryz.prog 84 #[.agg #[.int .i64 n, .slice A l c]] w fun e w'=>∃ r:Bool,∃ r2:Int,e = .returned (.tuple #[.bool r, .int .i64 r2])∧Sep w no O w' (rl [])∧R r r2:=by
  obtain ⟨h1,h3⟩:=h
  obtain ⟨rfl,he⟩:=sl_edges a0
  refine (connected_any A es c n w he h1).mono ?_
  rintro _ w' ⟨rfl,p⟩
  exact ⟨_,_,rfl,sep_pure hO p,h3⟩
end
end Go.Proofs.YtencmgolklfmkaaGreat

/- A region that defers a call; a function that ends ya8 a deferred closure. No program in sight. -/
namespace Go.Proofs.YtencmgolklfmkaaGreat
open Go Go.RowKit Go.Proofs.Tryz
def RD(F:Fence)(n:Nat)(P:Program)(N:Nat)(ops:Array Oper)(Q:Exit→Act→World→Prop)(i:Nat)(l:List Oper)(E:Env)(ds:List Deferred)(w:World):Prop :=
  ops.toList.drop i=l→∀ a,Rep N E ds a→wpOpsIn F n P ops Q (List.range' i l.length) a w
section
variable {F : Fence} {n : Nat} {P : Program} {N : Nat} {ops : Array Oper} {Q : Exit → Act → World → Prop} {i d : Nat} {l : List Oper} {E : Env} {ds : List Deferred} {w : World} {op : Op} {ty : TypeId} {ps : String} {af : Array Edge} {g : Option (Nat × Bool)} {t : List Item}
theorem rd_end(h:WT F n P N t Q E ds w):RD F n P N ops (fun e a' w'=>e = .normal∧WTa F n P t Q a' w') i [] E ds w:=fun _ a r=>⟨rfl,h a r⟩
theorem rd_q{v:Value}(hF:Wd F)(hw:Region.wanted ⟨some d,op,ty,ps,af,g⟩ (yE ops E)=true)(hq:yaN op=true)(hd:Nat.blt d N=true)(hv:(execOp (evE E) ⟨some d,op,ty,ps,af,g⟩).run P w = .ok (.value v) w)
    (h:RD F n P N ops Q (i+1) l (upd E d v) ds w):RD F n P N ops Q i (⟨some d,op,ty,ps,af,g⟩::l) E ds w:=by
  intro hl a r
  obtain ⟨h1,h2⟩:=yeW hl
  rw [List.length_cons,List.range'_succ]
  simp only [wpOpsIn,h1,r.yielded,hw,if_true]
  refine ⟨fun f _=>hF.fn f,?_⟩
  rw [Oper.semAt_eq _ _ _ (yaN.defer hq),r.eval,hv]
  exact h h2 _ (r.put (d:=some d) (fun k hk=>by cases hk;simpa using hd) v)
theorem rd_d{c:Call}{dd:Deferred}(hF:Wd F)(hro:F.round=none)(hw:Region.wanted ⟨none, .defer c,ty,ps,af,g⟩ (yE ops E)=true)(hv:(execOp (evE E) ⟨none, .defer c,ty,ps,af,g⟩).run P w = .ok (.defer dd) w)
    (h:RD F n P N ops Q (i+1) l E (dd::ds) w):RD F n P N ops Q i (⟨none, .defer c,ty,ps,af,g⟩::l) E ds w:=by
  intro hl a r
  obtain ⟨h1,h2⟩:=yeW hl
  rw [List.length_cons,List.range'_succ]
  simp only [wpOpsIn,h1,r.yielded,hw,if_true]
  refine ⟨fun f _=>hF.fn f,?_⟩
  rw [hro,Oper.semAt_none,r.eval,hv]
  exact h h2 _ ⟨r.size,r.get,by show dd::a.defers=_;rw [r.defers]⟩
theorem wl_regiond{id:Nat}(h:RD F n P N ops (fun e a' w'=>e = .normal∧WTa F n P t Q a' w') 0 ops.toList E ds w):WT F n P N (.code (.region id ops false)::t) Q E ds w:=by
  intro a r
  refine WTa.of (wpIn_region ?_)
  rw [List.range_eq_range',←Array.length_toList]
  exact h rfl a r
theorem am6{x1 x2 x3 x4 x5 x6:Operand}{v1 v2 v3 v4 v5 v6:Value}(h1:evE E x1=v1)(h2:evE E x2=v2)(h3:evE E x3=v3)(h4:evE E x4=v4)(h5:evE E x5=v5)(h6:evE E x6=v6) : #[x1,x2,x3,x4,x5,x6].map (evE E) = #[v1,v2,v3,v4,v5,v6]:=by simp [h1,h2,h3,h4,h5,h6]
theorem v_defer{f:FuncId}{us:Array Value}{fo:Operand}{ats:Array TypeId}{args:Array Operand}{vs:Array Value}{dt:Option Tmp}(hf:evE E fo = .func (.func f) #[] us)(ha:args.map (evE E)=vs) :
    (execOp (evE E) ⟨dt, .defer ⟨.value fo,args,ats⟩,ty,ps,af,g⟩).run P w = .ok (.defer { target := .fn (.func f) us,args:=vs }) w:=by
  unfold execOp
  simp only [resolve,hf,ha,Deferred.ofValue,Sem.run_bind,Sem.run_pure,Result.andThen,Array.empty_append]
end
theorem callsd_sh{P:Program}{f:FuncId}{fn:Func}{c:Code}{l:List Value}{w:World}{R:Ending→World→Prop}{N n:Nat}{u:FrameMode}(hf:P.funcs[f]? = some fn)(hb:fn.body=some c)(hN:fn.ntmps=N)(hl:l.length≤N)
    (h:WT Fence.wide n P N [.code c] (bodyPost P fn R) (lenv l) [] w):CallsDIn Fence.wide n P f l.toArray u w fun e u' w'=>u'=u∧R e w':=by
  refine callsDIn_of_wp hf hb trivial (WTa.code (h _ ⟨?_,lenv_eq l _,rfl⟩)) rfl
  simp
  omega
section
variable {P : Program} {fn : Func} {n N : Nat} {t : List Item} {R : Ending → World → Prop} {E : Env} {w : World} {f : FuncId} {us vs : Array Value} {all : List Value} {K : World → Prop}
theorem leaves_d{tmps:Array Value}(he:Enters P f)(hall:(vs++us)=all.toArray)(hc:CallsDIn Fence.wide 2 P f all.toArray .returning w fun e u' w'=>u' = .returning∧(∃ v,e = .returned v)∧K w')(hk:∀ w',K w'→∃ v,(results fn tmps).run P w' = .ok v w'∧R (.returned v) w') :
    LeavesInM Fence.wide 3 P fn tmps R [{ target := .fn (.func f) us,args:=vs }] .returning w:=by
  refine ⟨by simp, .inr ⟨fun h=>(by cases h),_,us,f,all.toArray,rfl,?_,fun _ _=>trivial,?_⟩⟩
  · rw [←hall];exact he (vs++us) w
  · refine ⟨hc.1,fun c cs hm hr=>?_⟩
    obtain ⟨e,u',w',fr,⟨rfl,⟨v,rfl⟩,hK⟩,h2⟩:=hc.2 c cs hm hr
    exact ⟨_,_,w',fr,hk w' hK,h2⟩
theorem wt_end0d(hr:fn.results = #[])(he:Enters P f)(hall:(vs++us)=all.toArray)(hc:CallsDIn Fence.wide 2 P f all.toArray .returning w fun e u' w'=>u' = .returning∧(∃ v,e = .returned v)∧K w')(hk:∀ w',K w'→R (.returned (.tuple #[])) w') :
    WT Fence.wide 3 P N [] (bodyPostM Fence.wide 3 P fn R) E [{ target := .fn (.func f) us,args:=vs }] w :=
  yhq fun a r=>by
    show LeavesInM _ _ _ _ a.tmps _ a.defers _ _
    rw [r.defers]
    exact leaves_d he hall hc fun w' h=>⟨_,results_none hr _ _ _,hk w' h⟩
theorem wt_end0z{Z:Ending→World→Prop}(all:List Value)(hr:fn.results = #[])(he:Enters P f)(hall:(vs++us)=all.toArray)(hc:CallsDIn Fence.wide 2 P f all.toArray .returning w fun e u' w'=>u' = .returning∧Z e w')(hz:∀ e w',Z e w'→(∃ v,e = .returned v)∧R (.returned (.tuple #[])) w') :
    WT Fence.wide 3 P N [] (bodyPostM Fence.wide 3 P fn R) E [{ target := .fn (.func f) us,args:=vs }] w:=by
  refine wt_end0d (K:=R (.returned (.tuple #[]))) hr he hall ⟨hc.1,fun c cs hm hr=>?_⟩ fun w' h=>h
  obtain ⟨e,u',w',fr,⟨h1,h2⟩,h3⟩:=hc.2 c cs hm hr
  exact ⟨e,u',w',fr,⟨h1,hz e w' h2⟩,h3⟩
end
theorem jump_to{P:Program}{N:Nat}{t k':List Item}{Q:Exit→Act→World→Prop}{E:Env}{ds:List Deferred}{w:World}{id:Nat}(he:exitTo id t=some k')(h:WT Fence.wide 3 P N k' Q E ds w):JumpTo P N t Q E ds w (some id):=by
  simp only [JumpTo,he];exact h
def dfrs(G:List Nat):Res := .objs G (.deferred (some []))
section
variable {w0 w w' : World} {S O : Nat → Prop} {L : Hold} {G : List Nat} {D : Nat}
theorem Sep.dfs0(h:Sep w0 S O w L)(i:Nat)(hi:L i = .gone):Sep w0 S O w (stl L i (dfrs [])) :=
  h.add i hi _ (Keeps.refl _ _) (fun k hk=>by cases hk) ⟨List.nodup_nil,fun g hg=>by cases hg⟩
theorem Sep.dfsn(h:Sep w0 S O w L)(i:Nat)(hi:L i=dfrs G):G.Nodup:=by
  have:=h.ok i;rw [hi] at this;exact this.1
theorem Sep.dfsm(h:Sep w0 S O w L)(i:Nat)(hi:L i=dfrs G):∀ r∈G,w.heap[r]? = some (Obj.deferred (some [])):=fun r hr=>by
  have:=h.ok i;rw [hi] at this;exact (this.2 r hr).2
theorem undfs(i:Nat)(hi:L i=dfrs G):∀ r∈G,∃ j∈[i],(L j).has r:=fun r hr=>⟨i,by simp,by rw [hi];exact hr⟩
theorem Sep.dfspush(h:Sep w0 S O w L)(j i:Nat)(hij:Nat.beq i j=false)(hj:L j=dfr D)(hi:L i=dfrs G):Sep w0 S O w (stl (stl L j .gone) i (dfrs (D::G))):=by
  have hij:i≠j:=fun q=>by subst q;simp at hij
  have hri:=h.ok i
  rw [hi] at hri
  have hrj:=h.ok j
  rw [hj] at hrj
  have hgG:D∉G:=fun hm=>hij (h.nd i j D (by rw [hi];exact hm) (by rw [hj];exact rfl))
  have hhas:∀ x k,(stl (stl L j .gone) i (dfrs (D::G)) x).has k→(x=i∧(k∈G∨k=D))∨(x≠i∧x≠j∧(L x).has k):=by
    intro x k hx
    by_cases e1:x=i
    · subst e1
      rw [yaH] at hx
      refine .inl ⟨rfl,?_⟩
      rcases List.mem_cons.1 (show k∈D::G from hx) with q | q
      · exact .inr q
      · exact .inl q
    · rw [yau _ _ e1] at hx
      by_cases e2:x=j
      · subst e2;rw [yaH] at hx;cases hx
      · rw [yau _ _ e2] at hx;exact .inr ⟨e1,e2,hx⟩
  refine h.step (T:=no) (Keeps.refl _ _) (fun _ _ h=>h.elim) (fun x k hk => .inl ?_) (fun x=>?_) (fun a b k ha hb=>?_)
  · rcases hhas x k hk with ⟨rfl,q | rfl⟩ | ⟨_,_,q⟩
    · exact ⟨x,by rw [hi];exact q⟩
    · exact ⟨j,by rw [hj];exact rfl⟩
    · exact ⟨x,q⟩
  · by_cases e1:x=i
    · subst e1
      rw [yaH]
      refine .inr ⟨List.nodup_cons.2 ⟨hgG,hri.1⟩,fun g hg=>?_⟩
      rcases List.mem_cons.1 hg with rfl | hg
      · exact hrj
      · exact hri.2 g hg
    · rw [yau _ _ e1]
      by_cases e2:x=j
      · subst e2;rw [yaH];exact .inr trivial
      · rw [yau _ _ e2];exact .inl ⟨x,rfl,fun _ _=>id⟩
  · rcases hhas a k ha with ⟨rfl,qa⟩ | ⟨a1,a2,qa⟩
    · rcases hhas b k hb with ⟨rfl,qb⟩ | ⟨b1,b2,qb⟩
      · rfl
      · rcases qa with qa | rfl
        · exact absurd (h.nd a b k (by rw [hi];exact qa) qb).symm b1
        · exact absurd (h.nd j b k (by rw [hj];exact rfl) qb).symm b2
    · rcases hhas b k hb with ⟨rfl,qb⟩ | ⟨b1,b2,qb⟩
      · rcases qb with qb | rfl
        · exact absurd (h.nd a b k qa (by rw [hi];exact qb)) a1
        · exact absurd (h.nd a j k qa (by rw [hj];exact rfl)) a2
      · exact h.nd a b k qa qb
end
end Go.Proofs.YtencmgolklfmkaaGreat

/- Iterators that hand over a slice of their own for a round. No program in sight. -/
namespace Go.Proofs.YtencmgolklfmkaaGreat
open Go Go.RowKit Go.Shelf Go.Proofs.Tryz
def PsOk{α:Type}(Ps:α→BS→BS→World→Prop):Prop :=
  ∀ {x:α} {T Tg G:BS} {W:World} {l d:Nat},(∀ k,Tg k↔T k∨k=l∨k=d)→Ps x Tg G W→Ps x T (fun k=>G k∨k=l∨k=d) W
structure SessH(P:Program)(l:Nat){α:Type}(enc:α→Array Value)(Ps:α→BS→BS→World→Prop)(Pr:List α→Prop)(J Jx:BS→BS→List α→World→Prop):Prop where
  gen:yeT J
  genx:yeT Jx
  two:yeR J
  twox:yeR Jx
  yld:∀ {T G:BS} {pre:List α} {x:α} {W:World},J T G pre W→Pr (pre++[x])→Ps x T G W →
    YieldAt Fence.wide 1 P l (enc x) W fun e W'=>∃ T',RK T W T' W'∧((e = .returned (.bool true)∧J T' G (pre++[x]) W')∨(e = .returned (.bool false)∧Jx T' G (pre++[x]) W'))
abbrev Hd:=Option (Nat×Array Value×TypeId)
def hdR:Hd→Res
  | none => .gone
  | some (b,cs,e) => .obj b (.cells cs e (0,0))
def Hd.at(hd:Hd)(G:BS)(W:World):Prop:=match hd with
  | none=>True
  | some (b,cs,e)=>G b∧W.heap[b]? = some (.cells cs e (0,0))
def Hd.rd(hd:Hd)(Φ:FP):Prop:=∀ O w,(hdR hd).ok 0 O w→Φ.P no w
def PsH{α:Type}(hd:α→Hd)(rd:α→FP):α→BS→BS→World→Prop:=fun x T G W=>(hd x).at G W∧(hd x).rd (rd x)
theorem PsH.ok{α:Type}(hd:α→Hd)(rd:α→FP):PsOk (PsH hd rd):=by
  rintro x T Tg G W l d hT ⟨h,h2⟩
  refine ⟨?_,h2⟩
  unfold Hd.at at *
  split
  · trivial
  · rename_i b cs e q
    rw [q] at h
    exact ⟨.inl h.1,h.2⟩
section
variable {P : Program} {l : Nat} {α : Type} {val : α → Array Value} {Ps : α → BS → BS → World → Prop} {Pr : List α → Prop} {J Jx K : BS → BS → List α → World → Prop}
end
structure SessHP(P:Program)(l:Nat){α β:Type}(enc:α→β→Array Value)(Ps:α→β→BS→BS→World→Prop)(Pr:List α→Prop)(J Jx:BS→BS→List α→World→Prop):Prop where
  gen:yeT J
  genx:yeT Jx
  two:yeR J
  twox:yeR Jx
  yld:∀ {T G:BS} {pre:List α} {x:α} {b:β} {W:World},J T G pre W→Pr (pre++[x])→Ps x b T G W →
    YieldAt Fence.wide 1 P l (enc x b) W fun e W'=>∃ T',RK T W T' W'∧((e = .returned (.bool true)∧J T' G (pre++[x]) W')∨(e = .returned (.bool false)∧Jx T' G (pre++[x]) W'))
section
variable {P : Program} {l : Nat} {α β : Type} {val : α → β → Array Value} {Ps : α → β → BS → BS → World → Prop} {Pr : List α → Prop} {J Jx : BS → BS → List α → World → Prop}
end
theorem Hd.at.mono{hd:Hd}{G G':BS}{W:World}(h:hd.at G W)(hg:∀ k,G k→G' k):hd.at G' W:=by
  unfold Hd.at at *
  split
  · trivial
  · rename_i b cs e
    exact ⟨hg _ h.1,h.2⟩
end Go.Proofs.YtencmgolklfmkaaGreat

/- Slices of structs of numbers that are made, and copied into. No program in sight. -/
namespace Go.Proofs.YtencmgolklfmkaaGreat
open Go Go.RowKit Go.Shelf Go.Proofs.Tryz
section
variable {τ : Type} {f : Fl τ}
end
section
variable {P : Program} {E : Env} {w : World} {d : Option Tmp} {ty : TypeId} {ps : String} {af : Array Edge} {g : Option (Nat × Bool)} {K : Value → World → Prop} {x y : Operand} {xt yt : TypeId}
end
end Go.Proofs.YtencmgolklfmkaaGreat

/- A slice of one's own that is made shorter; zeros laid ya8 a slice of one's own; slices whose memory is nil that are cut. No program in sight. -/
namespace Go.Proofs.YtencmgolklfmkaaGreat
open Go Go.RowKit Go.Shelf Go.Proofs.Tryz
section
variable {P : Program} {w : World}
end
section
variable {P : Program} {E : Env} {d : Option Tmp} {x y : Operand} {ty xt yt : TypeId} {ps : String} {af : Array Edge} {g : Option (Nat × Bool)} {K : Value → World → Prop} {w0 w : World} {S O : Nat → Prop} {L : Hold}
end
section
variable {P : Program} {E : Env} {w : World} {d : Option Tmp} {x : Operand} {ty xt : TypeId} {ps : String} {af : Array Edge} {g : Option (Nat × Bool)}
end
end Go.Proofs.YtencmgolklfmkaaGreat

/- Tables of structs, functions compared with nil. No program in sight. -/
namespace Go.Proofs.YtencmgolklfmkaaGreat
open Go Go.RowKit Go.Shelf Go.Proofs.Tryz
section
variable {P : Program} {E : Env} {w : World} {d : Option Tmp} {ty : TypeId} {ps : String} {af : Array Edge} {g : Option (Nat × Bool)} {x y : Operand} {xt yt : TypeId}
end
def rowT' (sz:Nat)(r:List Value):List Value:=if r.length=sz∧∀ u∈r,u.oneCell'=true then r else List.replicate sz (.bool false)
end Go.Proofs.YtencmgolklfmkaaGreat

/- Drawn regions whose operations with effects stand in several open orders: a tree of orders is walked. -/
namespace Go.Proofs.YtencmgolklfmkaaGreat
open Go Go.Proofs.Tryz
inductive OT where
  | nil:OT
  | one (i:Nat) (s:List Nat) (t:OT):OT
  | both (a b:OT):OT
namespace OT
def ids:OT→List Nat
  | nil=>[]
  | one i _ t=>i::t.ids
  | both a b=>a.ids++b.ids
def nodes:OT→List (Nat×List Nat)
  | nil=>[]
  | one i s t=>(i,s)::t.nodes
  | both a b=>a.nodes++b.nodes
def cands:OT→List Nat
  | nil=>[]
  | one i _ _=>[i]
  | both a b=>a.cands++b.cands
def len:OT→Nat
  | nil=>0
  | one _ _ t=>t.len+1
  | both a b=>max a.len b.len
def same(a b:OT):Bool:=(a.ids.all fun i=>b.ids.contains i)&&(b.ids.all fun i=>a.ids.contains i)
end OT
def seqT(P:Program)(ops:Array Oper)(Q:Act→World→Prop):OT→List (Nat×Sem Next×Value)→Act→World→Prop
  | .nil,_,a,w=>Q a w
  | .one i s t,pend,a,w=>match ops[i]? with
    | none=>seqT P ops Q t pend a w
    | some o=>if Region.wanted o (yielded ops a.tmps)=true then
        (if yaN o.op=true then ∃ v,(execOp a.eval o).run P w = .ok (.value v) w∧seqT P ops Q t ((i,execOp a.eval o,v)::pend) (a.put o.dst v) w
         else ybw o.op=true∧ybz P o a.eval w fun v w'=>(∀ p∈pend,p.1∈s→p.2.1.run P w' = .ok (.value p.2.2) w')∧seqT P ops Q t pend (a.put o.dst v) w')
      else seqT P ops Q t pend (a.put o.dst undef) w
  | .both x y,pend,a,w=>seqT P ops Q x pend a w∧seqT P ops Q y pend a w
def okN(ops:Array Oper)(j:Nat)(x:Nat×List Nat):Bool :=
  match ops[j]?,ops[x.1]? with
  | some oj,some oi=>!(x.1==j)&&(oj.after.all fun e=>!Region.binds .any e || !(e.on==x.1))&&((yaN oj.op&&oj.apart ops oi&&(yaN oi.op || (ybw oi.op&&x.2.contains j))) || dep ops ops.size j x.1)
  | _,_=>false
def OT.ok(ops:Array Oper):Option (List Nat)→OT→Bool
  | none, .nil=>true
  | some _, .nil=>false
  | none, .one j s t=>OT.ok ops none t&&t.nodes.all (okN ops j)
  | some c, .one p s t=>OT.ok ops none t&&(match ops[p]? with | some o=>ybw o.op && !yaN o.op&&t.nodes.all fun x=>!(x.1==p)&&(o.after.all fun e=>!Region.binds .any e || !(e.on==x.1))&&(c.contains x.1 || c.any fun q=>dep ops ops.size q x.1) | none=>false)
  | c, .both a b=>let c':=c.getD (a.cands++b.cands);OT.ok ops (some c') a&&OT.ok ops (some c') b&&OT.same a b
section
variable {P : Program} {ops : Array Oper} {Q : Act → World → Prop} {i j : Nat}
theorem okN.not{x:Nat×List Nat}(h:okN ops j x=true){oj:Oper}(hj:ops[j]? = some oj){e:Edge}(he:e∈oj.after)(hb:Region.binds .any e=true):e.on≠x.1:=by
  unfold okN at h
  rw [hj] at h
  cases hi:ops[x.1]? with
  | none=>rw [hi] at h;cases h
  | some oi =>
    rw [hi] at h
    simp only [Bool.and_eq_true] at h
    have h2:=h.1.2
    rw [Array.all_eq_true] at h2
    obtain ⟨k,hk,rfl⟩:=Array.getElem_of_mem he
    have:=h2 k hk
    simpa [hb] using this
theorem okN.ne{x:Nat×List Nat}(h:okN ops j x=true):x.1≠j:=by
  unfold okN at h
  split at h
  · simp only [Bool.and_eq_true,Bool.not_eq_true',beq_eq_false_iff_ne,ne_eq] at h
    exact h.1.1
  · cases h
structure Pulled(P:Program)(ops:Array Oper)(Q:Act→World→Prop)(i:Nat)(T:OT)(s:List Nat)(T':OT):Prop where
  ok:T'.ok ops none=true
  ids:∀ x,x∈T.ids↔x=i∨x∈T'.ids
  no:i∉T'.ids
  len:T'.len+1≤T.len
  nodes:∀ x∈T'.nodes,x∈T.nodes
  node:(i,s)∈T.nodes
  run:∀ pend a w,seqT P ops Q T pend a w→seqT P ops Q (.one i s T') pend a w
end
section
variable {F : Fence} {n : Nat} {P : Program} {N : Nat} {Q : Exit → Act → World → Prop} {E : Env} {ds : List Deferred} {w : World} {t : List Item}
end
section
variable {P : Program} {N : Nat} {ops : Array Oper} {Qa : Act → World → Prop} {pend : List (Nat × Sem Next × Value)} {E : Env} {ds : List Deferred} {w : World} {i : Nat} {s : List Nat} {T T1 T2 : OT}
variable {d : Nat} {op : Op} {ty : TypeId} {ps : String} {af : Array Edge} {g : Option (Nat × Bool)}
end
end Go.Proofs.YtencmgolklfmkaaGreat

/- Equality of structs and of arrays of ints. No program in sight. -/
namespace Go.Proofs.YtencmgolklfmkaaGreat
open Go Go.RowKit Go.Shelf Go.Proofs.Tryz
def intsA(xs:List Int):Array Value:=(xs.map (Value.int .i64)).toArray
structure EqI(P:Program)(t:TypeId)(n:Nat):Prop where
  guard:P.eqGuardType P.depth t=false
  eq:∀ (xs ys:List Int) (w:World),xs.length=n→ys.length=n→(Op.equalIn 10000 t (.agg (intsA xs)) (.agg (intsA ys))).run P w = .ok (decide (xs=ys)) w
section
variable {P : Program}
end
section
variable {P : Program} {E : Env} {w : World} {d : Option Tmp} {x y : Operand} {ty xt yt : TypeId} {ps : String} {af : Array Edge} {g : Option (Nat × Bool)} {n : Nat}
end
end Go.Proofs.YtencmgolklfmkaaGreat

/- Lists in lexicographic order, plainly (part of what XSys holds, for seats without it). No program in sight. -/
namespace Go.Proofs.YtencmgolklfmkaaGreat
open Go Go.Proofs.Tryz
def lexC:List Int→List Int→Int
  | [],[]=>0
  | [],_::_ => -1
  | _::_,[]=>1
  | a::s,b::t=>if a<b then -1 else if b<a then 1 else lexC s t
theorem yfy:∀ a,lexC a a=0
  | []=>rfl
  | a::s=>by rw [lexC,if_neg (by omega),if_neg (by omega)];exact yfy s
theorem yc1:∀ a b,lexC b a = -lexC a b
  | [],[]=>rfl
  | [],_::_=>rfl
  | _::_,[]=>rfl
  | a::s,b::t=>by
    unfold lexC
    by_cases h1:a<b
    · rw [if_pos h1,if_neg (show ¬b<a by omega),if_pos h1];rfl
    · by_cases h2:b<a
      · rw [if_neg h1,if_pos h2,if_pos h2,if_neg h1]
      · rw [if_neg h1,if_neg h2,if_neg h2,if_neg h1];exact yc1 s t
theorem yiK:∀ a b,lexC a b=0→a=b
  | [],[],_=>rfl
  | [],_::_,h=>by cases h
  | _::_,[],h=>by cases h
  | a::s,b::t,h=>by
    unfold lexC at h
    by_cases h1:a<b
    · rw [if_pos h1] at h;cases h
    · by_cases h2:b<a
      · rw [if_neg h1,if_pos h2] at h;cases h
      · rw [if_neg h1,if_neg h2] at h
        rw [yiK s t h,show a=b by omega]
theorem yg9:∀ a b c,lexC a b<0→lexC b c<0→lexC a c<0
  | [],[],_,h,_=>by simp [lexC] at h
  | _::_,[],_,h,_=>by simp [lexC] at h
  | [],_::_,[],_,h=>by simp [lexC] at h
  | [],_::_,_::_,_,_=>by simp [lexC]
  | _::_,_::_,[],_,h=>by simp [lexC] at h
  | a::s,b::t,c::u,h,k=>by
    unfold lexC at h k ⊢
    by_cases h1:a<b
    · by_cases h2:b<c
      · rw [if_pos (by omega)];omega
      · rw [if_neg h2] at k
        by_cases h3:c<b
        · rw [if_pos h3] at k;omega
        · rw [if_pos (by omega)];omega
    · rw [if_neg h1] at h
      by_cases h2:b<a
      · rw [if_pos h2] at h;omega
      · rw [if_neg h2] at h
        by_cases h3:b<c
        · rw [if_pos (by omega)];omega
        · rw [if_neg h3] at k
          by_cases h4:c<b
          · rw [if_pos h4] at k;omega
          · rw [if_neg h4] at k
            rw [if_neg (by omega),if_neg (by omega)]
            exact yg9 s t u h k
theorem yg0{a b c:List Int}(h:lexC a b≤0)(k:lexC b c≤0):lexC a c≤0:=by
  rcases Int.lt_or_eq_of_le h with h | h
  · rcases Int.lt_or_eq_of_le k with k | k
    · exact Int.le_of_lt (yg9 _ _ _ h k)
    · rw [←yiK _ _ k];omega
  · rw [yiK _ _ h];exact k
def Asc(l:List (List Int)):Prop:=l.Pairwise fun a b=>lexC a b<0
theorem Asc.nodup{l:List (List Int)}(h:Asc l):l.Nodup:=h.imp fun q e=>by subst e;rw [yfy] at q;omega
theorem Asc.filter{l:List (List Int)}(h:Asc l)(p:List Int→Bool):Asc (l.filter p):=List.Pairwise.filter p h
theorem Asc.eq:∀ {a b:List (List Int)},Asc a→Asc b→(∀ x,x∈a↔x∈b)→a=b
  | [],[],_,_,_=>rfl
  | [],y::b,_,_,h=>by have:=(h y).2 (by simp);simp at this
  | x::a,[],_,_,h=>by have:=(h x).1 (by simp);simp at this
  | x::a,y::b,h1,h2,h=>by
    have k1:=List.pairwise_cons.1 h1
    have k2:=List.pairwise_cons.1 h2
    have e:x=y:=by
      rcases List.mem_cons.1 ((h x).1 (by simp)) with q | q
      · exact q
      · rcases List.mem_cons.1 ((h y).2 (by simp)) with r | r
        · exact r.symm
        · have q1:=k2.1 x q
          have q2:=k1.1 y r
          rw [yc1] at q1
          omega
    subst e
    rw [Asc.eq k1.2 k2.2 fun z=>?_]
    constructor
    · intro hz
      rcases List.mem_cons.1 ((h z).1 (by simp [hz])) with q | q
      · have:=k1.1 z hz;rw [q,yfy] at this;omega
      · exact q
    · intro hz
      rcases List.mem_cons.1 ((h z).2 (by simp [hz])) with q | q
      · have:=k2.1 z hz;rw [q,yfy] at this;omega
      · exact q
end Go.Proofs.YtencmgolklfmkaaGreat

/- The pure form of forest.parts, out of the walk that was proved by hand. -/
namespace Go.Proofs.YtencmgolklfmkaaGreat
open Go Go.RowKit Go.Shelf Go.Proofs.Tryz
set_option maxRecDepth 100000
theorem sl_row{τ:Type}{c:Cod τ}{O:Nat→Prop}{w:World}{B:Nat}{e:TypeId}{v:Value}{n:Nat}{vals:List Value}{xs:List τ}(h:w.ownsRow B e 1 v n vals)(hc:c.sz=1)(hO:∀ k,O k→k<B)(hl:xs.length=n)
    (hx:∀ (k:Nat) x,xs[k]? = some x→∃ u,vals[k]? = some u∧c.R O w [u] x):∃ A cap,v = .slice A n cap∧(FP.sl c A n cap xs).P O w:=by
  have h':=h
  rcases h.2 with ⟨rfl,rfl⟩ | ⟨g,cap,cur,rfl,hb,hg,hcap,_⟩
  · exact ⟨none,0,rfl,hl.symm,Nat.le_refl _,fun hp=>by omega⟩
  · refine ⟨_,cap,rfl,hl.symm,hcap,fun _=>⟨g,0,rfl,(Array.getElem?_eq_some_iff.1 hg).1,fun ho=>?_,fun k x hk=>?_⟩⟩
    · have:=hO g ho;omega
    · obtain ⟨u,hu,hr⟩:=hx k x hk
      refine ⟨[u],hr,fun j u' hj=>?_⟩
      have hj0:j=0:=by
        rcases Nat.eq_zero_or_pos j with q | q
        · exact q
        · rw [List.getElem?_eq_none (by simp;omega)] at hj;cases hj
      subst hj0
      cases hj
      have:=(yh0 h' hu).1
      rw [hc];simpa using this
def i_ (l:List Nat):List Int:=l.map fun (x:Nat)=>(x:Int)
def ydo(f:List Int)(n:Int)(R:List (List Int)→Prop):Prop:=∃ F:List Nat,f=i_ F∧ycb F∧0≤n∧n≤12∧R ((ybT F n.toNat).map i_)
theorem yeS{S O:Nat→Prop}{w:World}{f:List Int}{n:Int}{gc:Nat}{R:List (List Int)→Prop}(h:ydo f n R)(hS:Sep w S O w (rl [Res.own cI 105 (some ⟨gc,0,none⟩) 12 12 f])) :
    Calls Tryz.prog 90 #[.pointer (some ⟨gc,0,none⟩), .int .i64 n] w fun e w'=>∃ (r:List (List Int)) (A:Option Addr) (l c:Nat),e = .returned (.slice A l c)∧Sep w S O w' (rl [Res.own cI 105 (some ⟨gc,0,none⟩) 12 12 f,Res.ro (FP.sl (cL cI) A l c r)])∧R r:=by
  obtain ⟨F,rfl,hF,hn0,hn1,h⟩:=h
  obtain ⟨hl,cells,ho,hc⟩:=hS.own 0 rfl
  rcases ho.2 with ⟨q,_⟩ | ⟨g,o,cur,e,hb,hg,hlc,hcm,hsz,hcur⟩
  · cases q
  · cases e
    have hcl:cells.length=12:=ho.1
    have hFl:F.length=12:=by simpa [i_] using hl.symm
    have hrow:NRow w gc 105 cur.size F:=by
      refine ⟨cur,hg,rfl,?_⟩
      rw [List.length_map,hFl]
      have e1:cells=F.map fun (n:Nat)=>Value.int .i64 (Int.ofNat n):=by
        apply List.ext_getElem?
        intro k
        rw [List.getElem?_map]
        cases hk:F[k]? with
        | none=>rw [List.getElem?_eq_none (by rw [hcl,←hFl];exact List.getElem?_eq_none_iff.1 hk)];rfl
        | some x =>
          obtain ⟨vs,hR,hv⟩:=hc k (x:Int) (by simp [i_,hk])
          cases hR
          have:=hv 0 _ rfl
          simpa [cI,Fl.cod,fI] using this
      rw [←e1,←hcur]
      simp [cI,Fl.cod,fI]
    obtain ⟨m,rfl⟩:=Int.eq_ofNat_of_zero_le hn0
    refine (parts_any gc F m w hrow hF (by omega)).mono ?_
    rintro _ w' ⟨v,vals,rfl,hv,hsl,hp⟩
    have hS':=hS.pur hp
    have hO:∀ k,Bl O (rl [Res.own cI 105 (some ⟨gc,0,none⟩) 12 12 (i_ F)]) k→k<w.heap.size:=hS.blt
    obtain ⟨A,cap,rfl,hfp⟩:=sl_row (c:=cL cI) (xs:=(ybT F m).map i_) hv rfl hO (by rw [List.length_map,ycg]) fun k x hk=>by
      rw [List.getElem?_map] at hk
      cases hr:(ybT F m)[k]? with
      | none=>rw [hr] at hk;cases hk
      | some r =>
        rw [hr] at hk
        cases hk
        have hvl:k<vals.length:=by rw [hsl.1];exact (List.getElem?_eq_some_iff.1 hr).1
        have hu:vals[k]? = some vals[k]:=List.getElem?_eq_getElem hvl
        refine ⟨_,hu,?_⟩
        obtain ⟨A2,c2,e2,f1,f2,f3⟩:=sl_row (c:=cI) (xs:=i_ r) (hsl.2.1 k _ r hu hr) rfl hO (by simp [i_]) fun j x hj=>by
          refine ⟨.int .i64 x,?_,rfl⟩
          unfold ydO
          simp only [i_,List.getElem?_map] at hj ⊢
          cases hq:r[j]? with
          | none=>rw [hq] at hj;cases hj
          | some y=>rw [hq] at hj;cases hj;rfl
        rw [e2]
        exact ⟨A2,_,c2,rfl,f1,f2,f3⟩
    exact ⟨_,A,_,cap,rfl,(hS'.addro 1 rfl _ hfp).sel [0,1] (by decide),h⟩
end Go.Proofs.YtencmgolklfmkaaGreat

/- A table whose rows are slices of one's own: the outer slice holds their addresses, the rows are one thing. No program in sight. -/
namespace Go.Proofs.YtencmgolklfmkaaGreat
open Go Go.RowKit Go.Shelf Go.Proofs.Tryz
section
variable {w0 w w' : World} {S O : Nat → Prop} {L : Hold} {e e2 : TypeId} {G : List Nat} {T : List (List Int)}
end
end Go.Proofs.YtencmgolklfmkaaGreat

/- Sums and products that may be too large. -/
namespace Go.Proofs.YtencmgolklfmkaaGreat
open Go Go.RowKit Go.Proofs.Tryz
section
variable {P : Program} {E : Env} {w : World} {d : Option Tmp} {x y z : Operand} {ty xt yt : TypeId} {ps : String} {af : Array Edge} {g : Option (Nat × Bool)}
theorem v_addw{a b:Int}(hx:evE E x = .int .i64 a)(hy:evE E y = .int .i64 b):(execOp (evE E) ⟨d, .binOp .add xt x y yt,ty,ps,af,g⟩).run P w = .ok (.value (.int .i64 (IntKind.i64.wrap (a+b)))) w:=by
  simp [execOp,hx,hy,eqGuard,binOp,Op.intArith,go_sem]
theorem v_mulw{a b:Int}(hx:evE E x = .int .i64 a)(hy:evE E y = .int .i64 b):(execOp (evE E) ⟨d, .binOp .mul xt x y yt,ty,ps,af,g⟩).run P w = .ok (.value (.int .i64 (IntKind.i64.wrap (a*b)))) w:=by
  simp [execOp,hx,hy,eqGuard,binOp,Op.intArith,go_sem]
end
end Go.Proofs.YtencmgolklfmkaaGreat

/- Words for proofs from pure forms: loops that count up, lists that are filled from the left. No program in sight. -/
namespace Go.Proofs.YtencmgolklfmkaaGreat
open Go Go.Proofs.Tryz
def Cnt(N:Nat)(P:Nat→Prop)(m:Nat)(v:Int):Prop:=∃ k:Nat,m=N-k∧v=(k:Int)∧k≤N∧P k
theorem Cnt.start{N:Nat}{P:Nat→Prop}(h:P 0):∃ m0,Cnt N P m0 0:=⟨N,0,rfl,rfl,Nat.zero_le _,h⟩
theorem Cnt.next{N:Nat}{P:Nat→Prop}{k:Nat}(hk:k<N)(hN:N≤1000000000000)(h:P (k+1)):In64 ((k:Int)+1)∧∃ m',m'<N-k∧Cnt N P m' ((k:Int)+1) :=
  ⟨⟨by omega,by omega⟩,N-(k+1),by omega,k+1,rfl,by omega,by omega,h⟩
theorem Cnt.next' {N:Nat}{P:Nat→Prop}{k:Nat}(hk:k<N)(h:P (k+1)):∃ m',m'<N-k∧Cnt N P m' ((k:Int)+1) :=
  ⟨N-(k+1),by omega,k+1,rfl,by omega,by omega,h⟩
theorem i64{a:Int}(h : -9000000000000000000≤a∧a≤9000000000000000000):In64 a:=⟨by omega,by omega⟩
def tab(f:Nat→Int)(n:Nat):List Int:=(List.range n).map f
theorem yaI(f:Nat→Int)(n:Nat):(tab f n).length=n:=by simp [tab]
theorem ycc(f:Nat→Int){n i:Nat}(hi:i<n):gi (tab f n) i=f i:=by rw [ybe (by rw [yaI];exact hi)];simp [tab]
theorem ygB{f g:Nat→Int}{n:Nat}(h:∀ i,i<n→f i=g i):tab f n=tab g n:=by
  refine ygj (by simp [yaI]) fun i hi=>?_
  rw [yaI] at hi
  rw [ycc _ hi,ycc _ hi,h i hi]
theorem tab_self{l:List Int} : tab (gi l) l.length=l:=by
  refine ygj (by simp [yaI]) fun i hi=>?_
  rw [yaI] at hi
  rw [ycc _ hi]
theorem yjN{l:List Int}{n:Nat}(hl:l.length=n)(f:Nat→Int)(h:∀ i,i<n→gi l i=f i):l=tab f n:=by
  subst hl
  refine ygj (by simp [yaI]) fun i hi=>?_
  rw [h i hi,ycc _ hi]
end Go.Proofs.YtencmgolklfmkaaGreat

/- What the arguments of the laws read as: numbers, lists, graphs; and what is handed back. -/
namespace Go.Proofs.YtencmgolklfmkaaGreat
open Go Go.ChangeShapes Go.WideShapes Go.ChangeAt Go.RowKit Go.Joins Go.Deep Go.Proofs.Tryz
theorem own:ownKnob Tryz.prog.godebug=none:=by kernel_rfl
theorem laidOut:laidOutB Tryz.prog=true:=by kernel_rfl
theorem cells_int:Tryz.prog.cellsOf 3=1:=by kernel_rfl
theorem cells_graph:Tryz.prog.cellsOf 24=2:=by kernel_rfl
theorem cells_edge:Tryz.prog.cellsOf 93=3:=by kernel_rfl
theorem cells3{w:World}{base:Nat}{a:Addr}{cs:List Value}(h:w.cells? base a 3=some cs):∃ x y z,cs=[x,y,z]∧w.cell? a=some x∧w.cell? (a.add 1)=some y∧w.cell? (a.add 2)=some z:=by
  unfold World.cells? at h
  split at h
  · have e:List.range 3=[0,1,2]:=rfl
    rw [e] at h
    cases h0:w.cell? (a.add 0) with
    | none=>simp [h0] at h
    | some x =>
      cases h1:w.cell? (a.add 1) with
      | none=>simp [h0,h1] at h
      | some y =>
        cases h2:w.cell? (a.add 2) with
        | none=>simp [h0,h1,h2] at h
        | some z =>
          simp [h0,h1,h2] at h
          exact ⟨x,y,z,h.symm,h0,rfl,rfl⟩
  · cases h
theorem edges_sl{W:World}{A:Option Addr}{xs:List E3}{c:Nat}(hc:xs.length≤c)(h:yhy W A xs):(FP.sl c3 A xs.length c xs).P no W:=by
  refine ⟨rfl,hc,fun h0=>?_⟩
  obtain ⟨b,off,e,hb,hcell⟩:=h h0
  refine ⟨b,off,e,hb,id,fun k x hx=>⟨_,rfl,fun j u hj=>?_⟩⟩
  have hk:k<xs.length:=(List.getElem?_eq_some_iff.1 hx).1
  rw [ydz hk] at hx
  cases hx
  obtain ⟨q0,q1,q2⟩:=hcell k hk
  match j,hj with
  | 0,hj =>
    have:(some (Value.int .i64 (ge xs k).1))=some u:=hj
    cases this;exact q0
  | 1,hj =>
    have:(some (Value.int .i64 (ge xs k).2.1))=some u:=hj
    cases this;exact q1
  | 2,hj =>
    have:(some (Value.int .i64 (ge xs k).2.2))=some u:=hj
    cases this;exact q2
  | j+3,hj=>cases hj
set_option maxRecDepth 100000
variable {H : Type} {enc : TypeId × Value → H} {W : World} {r : Reach} {b0 : Nat}
theorem open_edge{fuel base:Nat}{spare:Nat→Bool}{held:Bool}{x y z:Value}{o:DataW H×List MemPlace}(h:DataW.trod enc Tryz.prog W base spare held fuel 93 [x,y,z]=some o):∃ a b c:Int,x = .int .i64 a∧y = .int .i64 b∧z = .int .i64 c:=by
  obtain ⟨xs,n,_,rfl,hl,hlen,hf⟩:=DataW.trod_struct underlying93 h
  obtain ⟨x0,x1,x2,rfl⟩:∃ x0 x1 x2,xs=[x0,x1,x2]:=by
    match xs,hlen with
    | [x0,x1,x2],_=>exact ⟨_,_,_,rfl⟩
  have f0:=hf 0 _ rfl
  have f1:=hf 1 _ rfl
  have f2:=hf 2 _ rfl
  simp [cells_int] at f0 f1 f2
  obtain ⟨a,e0, -, -⟩:=DataW.trod_int underlying3 f0
  obtain ⟨b,e1, -, -⟩:=DataW.trod_int underlying3 f1
  obtain ⟨c,e2, -, -⟩:=DataW.trod_int underlying3 f2
  simp at e0 e1 e2
  exact ⟨a,b,c,e0,e1,e2⟩
theorem open_graph{v:Value}{d:DataW H}{p:List MemPlace}(hv:Value.okWide Tryz.prog W r b0 24 v)(h:DataW.Trod enc Tryz.prog W 0 (fun _=>true) true 24 v d p) :
    ∃ (n:Int) (A:Option Addr) (es:List E3) (c:Nat),v = .agg #[.int .i64 n, .slice A es.length c]∧(FP.sl c3 A es.length c es).P no W:=by
  suffices h:∃ (n:Int) (A:Option Addr) (es:List E3) (c:Nat),v = .agg #[.int .i64 n, .slice A es.length c]∧es.length≤c∧yhy W A es by
    obtain ⟨n,A,l,c,e,hlc,hi⟩:=h
    exact ⟨n,A,l,c,e,edges_sl hlc hi⟩
  obtain ⟨c0,c1,y0,y1,m,rfl,rfl,rfl,hy0,hy1⟩:=open_agg2 underlying24 (by kernel_rfl) cells_graph hv h
  obtain ⟨n,e0, -, -⟩:=DataW.trod_int underlying3 hy0
  simp at e0
  subst e0
  rcases open_slice underlying22 hy1 with ⟨hcs, -⟩ | ⟨a,len,cap,mm,nn,D,Pl,hcs, -,hl,hm,hmm, -,hel⟩
  · simp at hcs
    subst hcs
    exact ⟨n,none,[],0,rfl,Nat.le_refl _,fun h=>absurd h (by simp)⟩
  · simp at hcs
    subst hcs
    simp only [if_true] at hmm
    have hex:∀ i,i<len→∃ e:E3,W.cell? (a.add (i*3))=some (.int .i64 e.1)∧W.cell? ((a.add (i*3)).add 1)=some (.int .i64 e.2.1)∧W.cell? ((a.add (i*3)).add 2)=some (.int .i64 e.2.2):=fun i hi=>by
      obtain ⟨cs',hc,ht⟩:=hel i (by omega)
      rw [cells_edge] at hc
      obtain ⟨x,y,z,rfl,k0,k1,k2⟩:=cells3 hc
      obtain ⟨xa,xb,xc,rfl,rfl,rfl⟩:=open_edge ht
      exact ⟨(xa,xb,xc),k0,k1,k2⟩
    let f:Nat→E3:=fun i=>if h:i<len then Classical.choose (hex i h) else (0,0,0)
    have hf:∀ i,i<len→W.cell? (a.add (i*3))=some (.int .i64 (f i).1)∧W.cell? ((a.add (i*3)).add 1)=some (.int .i64 (f i).2.1)∧W.cell? ((a.add (i*3)).add 2)=some (.int .i64 (f i).2.2):=fun i hi=>by
      show _∧_∧_
      have e:f i=Classical.choose (hex i hi):=dif_pos hi
      rw [e]
      exact Classical.choose_spec (hex i hi)
    have hlen:((List.range len).map f).length=len:=by simp
    refine ⟨n,some a,(List.range len).map f,cap,by rw [hlen],by rw [hlen];omega,fun hp=>?_⟩
    rw [hlen] at hp ⊢
    obtain ⟨b,off,spot⟩:=a
    have hspot:spot=none:=by simpa [Addr.add] using World.cell?_spot (hf 0 hp).1
    subst hspot
    refine ⟨b,off,rfl,?_,fun k hk=>?_⟩
    · have:=(hf 0 hp).1
      apply Nat.lt_of_not_le
      intro hle
      unfold World.cell? at this
      rw [Array.getElem?_eq_none (by simpa [Addr.add] using hle)] at this
      simp at this
    · have hg:ge ((List.range len).map f) k=f k:=by rw [ydg (by rw [hlen];exact hk)];simp
      rw [hg]
      have:=hf k hk
      simpa [Addr.add_mid] using this
end Go.Proofs.YtencmgolklfmkaaGreat

/- What arguments read as: lists of lists, pairs of lists. -/
namespace Go.Proofs.YtencmgolklfmkaaGreat
open Go Go.ChangeShapes Go.WideShapes Go.ChangeAt Go.RowKit Go.Joins Go.Deep Go.Proofs.Tryz
set_option maxRecDepth 100000
variable {H : Type} {enc : TypeId × Value → H} {W : World} {r : Reach} {b0 : Nat}
end Go.Proofs.YtencmgolklfmkaaGreat
