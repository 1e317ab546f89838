/- Texts laid together: Wr, ItH, Alt, Dr, Ot, Tab, Cnt, Next, Lst, Opn, Opn2. -/
import Derived.Test.YtadpnlimiblniaaGreatRows
import Derived.ProofKit
import Derived.Lib.SmallJoins
import Derived.Deep.Slices
import Derived.Below
import Derived.OpenShut
import Derived.Test.YtadpnlimiblniaaGreatK3
set_option linter.unusedVariables false
set_option linter.unusedSimpArgs false
set_option linter.unusedSectionVars false
namespace Go.Proofs.YtadpnlimiblniaaGreat
open Go Go.RowKit Go.Shelf Go.Proofs.Tryz
theorem sl_ints{A:Option Addr}{l cap:Nat}{xs:List Int}{O:Nat→Prop}{w:World}(h:(FP.sl cI A l cap xs).P O w):l=xs.length∧Ints w A xs:=by
  obtain ⟨h1,h2,h3⟩:=h
  refine ⟨h1,fun h0=>?_⟩
  obtain ⟨b,off,e,hb,ho,hc⟩:=h3 h0
  refine ⟨b,off,e,hb,fun k hk=>?_⟩
  obtain ⟨vs,hv,hu⟩:=hc k _ (yaY hk)
  have hv:vs=[.int .i64 (gi xs k)]:=hv
  subst hv
  have:=hu 0 _ rfl
  simpa [cI,Fl.cod,fI] using this
theorem sl_edges{A:Option Addr}{l cap:Nat}{es:List E3}{O:Nat→Prop}{w:World}(h:(FP.sl c3 A l cap es).P O w):l=es.length∧ydB w A es:=by
  obtain ⟨h1,h2,h3⟩:=h
  refine ⟨h1,fun h0=>?_⟩
  obtain ⟨b,off,e,hb,ho,hc⟩:=h3 h0
  refine ⟨b,off,e,hb,fun k hk=>?_⟩
  obtain ⟨vs,hv,hu⟩:=hc k _ (ydu hk)
  have hv:vs=[.int .i64 (ge es k).1, .int .i64 (ge es k).2.1, .int .i64 (ge es k).2.2]:=hv
  subst hv
  exact ⟨hu 0 _ rfl,hu 1 _ rfl,hu 2 _ rfl⟩
theorem sep_pure{w w':World}{O:Nat→Prop}(hO:∀ k,O k→k<w.heap.size)(h:Pure w w'):Sep w no O w' (rl []):=(Sep.start w hO).pur h
theorem ownC_ints{B:Nat}{O:Nat→Prop}{w:World}{e:TypeId}{A:Option Addr}{l cap:Nat}{xs:List Int}(h:OwnS w B e 1 A l cap (xs.map (Value.int .i64))):OwnC cI 0 O w e A l cap xs:=by
  have hl:=h.1
  simp at hl
  refine ⟨hl.symm,_,h.base (Nat.zero_le _),fun k x hx=>⟨_,rfl,fun j u hj=>?_⟩⟩
  have hj0:j=0:=by
    have:=(List.getElem?_eq_some_iff.1 hj).1
    simp [fI] at this;exact this
  subst hj0
  have hu:u = .int .i64 x:=by
    have:(some (Value.int .i64 x))=some u:=hj
    simpa using this.symm
  rw [hu]
  show (xs.map (Value.int .i64))[k*1+0]? = _
  rw [Nat.mul_one,Nat.add_zero,List.getElem?_map,hx];rfl
theorem row_ownS{w:World}{g:Nat}{e:TypeId}{cap:Nat}{xs:List Int}(h:IRow w g e cap xs)(hc:cap≤maxLen){B:Nat}(hB:B≤g):OwnS w B e 1 (some ⟨g,0,none⟩) xs.length cap (xs.map (Value.int .i64)):=by
  have hle:=IRow.le h
  obtain ⟨cur,h1,h2,h3⟩:=h
  refine ⟨by simp, .inr ⟨g,0,cur,rfl,hB,h1,hle,hc,by omega,?_⟩⟩
  rw [List.drop_zero,Nat.mul_one]
  simpa using h3
theorem sep_two{w w':World}{O:Nat→Prop}(hO:∀ k,O k→k<w.heap.size)(p:Pure w w'){e:TypeId}{A1 A2:Option Addr}{l1 c1 l2 c2:Nat}{xs ys:List Int}(o1:OwnS w' w.heap.size e 1 A1 l1 c1 (xs.map (Value.int .i64)))(o2:OwnS w' w.heap.size e 1 A2 l2 c2 (ys.map (Value.int .i64)))
    (hne:∀ k,A1.map (·.block)=some k→A2.map (·.block)=some k→False):Sep w no O w' (rl [.own cI e A1 l1 c1 xs, .own cI e A2 l2 c2 ys]):=by
  have hb:∀ i k,(rl [.own cI e A1 l1 c1 xs, .own cI e A2 l2 c2 ys] i).has k→(i=0∧A1.map (·.block)=some k)∨(i=1∧A2.map (·.block)=some k):=fun i k hk=>by
    match i with
    | 0=>exact .inl ⟨rfl,hk⟩
    | 1=>exact .inr ⟨rfl,hk⟩
    | i+2=>cases hk
  refine ⟨p,fun k hk=>⟨hO k hk,id⟩,fun i=>?_,fun i k hk=>?_,fun i j k hi hj=>?_⟩
  · match i with
    | 0=>exact ownC_ints o1
    | 1=>exact ownC_ints o2
    | i+2=>trivial
  · rcases hb i k hk with ⟨_,q⟩ | ⟨_,q⟩
    · exact .inl (o1.at_ q).1
    · exact .inl (o2.at_ q).1
  · rcases hb i k hi with ⟨e1,q1⟩ | ⟨e1,q1⟩ <;> rcases hb j k hj with ⟨e2,q2⟩ | ⟨e2,q2⟩
    · omega
    · exact (hne k q1 q2).elim
    · exact (hne k q2 q1).elim
    · omega
section
variable {O : Nat → Prop} {w : World} {n : Int} {es : List E3} {q : Int} {d : List Int} {A : Option Addr} {l c : Nat} {D : Option Addr} {ld cd : Nat}
def ydf(n:Int)(es:List E3)(R:Bool→Int→Prop):Prop:=es.length≤1000000000∧R (decide (yav n es=0∧ydD n es=true)) (yav n es)
theorem yem{R:Bool→Int→Prop}(h:ydf n es R)(hO:∀ k,O k→k<w.heap.size)(a0:(FP.sl c3 A l c es).P O w) :
    Calls Tryz.prog 112 #[.agg #[.int .i64 n, .slice A l c]] w fun e w'=>∃ r:Bool,∃ r2:Int,e = .returned (.tuple #[.bool r, .int .i64 r2])∧Sep w no O w' (rl [])∧R r r2:=by
  obtain ⟨h1,h3⟩:=h
  obtain ⟨rfl,he⟩:=sl_edges a0
  refine (ydO A es c n w he h1).mono ?_
  rintro _ w' ⟨rfl,p⟩
  exact ⟨_,_,rfl,sep_pure hO p,h3⟩
def outPf0(P:Nat→Nat→List Int→List Int→Prop)(n:Int)(es:List E3)(q:Int)(d:List Int)(R:List Int→List Int→Int→Prop):Prop :=
  d.length≤1000000000∧(ybo n es q d≠0→R [] [] (ybo n es q d))∧(ybo n es q d=0→∀ d' s',P n.toNat q.toNat d' s'→d'.length=n.toNat→s'.length=n.toNat→R d' s' 0)
def RedIn(n:Int)(es:List E3)(q:Int)(d:List Int):Prop:=es.length≤40∧(ybo n es q d=0→Red n.toNat es q.toNat d∧∀ v:Nat,(v:Int)<n → -600000≤gi d v∧gi d v≤600000)
theorem outPf_ok{P:Nat→Nat→List Int→List Int→Prop}{R:List Int→List Int→Int→Prop}(h:outPf0 P n es q d R)(hO:∀ k,O k→k<w.heap.size){w':World}{A1:Option Addr}{l1 c1:Nat}{A2:Option Addr}{l2 c2:Nat}{er:Int}(ho:yjK P n es q d w A1 l1 c1 A2 l2 c2 er w')(hlen:∀ d' s',P n.toNat q.toNat d' s'→d'.length=n.toNat∧s'.length=n.toNat) :
    ∃ r r2:List Int,∃ r3:Int,∃ Ar:Option Addr,∃ lr cr:Nat,∃ As:Option Addr,∃ ls cs:Nat,Ending.returned (.tuple #[.slice A1 l1 c1, .slice A2 l2 c2, .int .i64 er]) = .returned (.tuple #[.slice Ar lr cr, .slice As ls cs, .int .i64 r3])∧Sep w no O w' (rl [.own cI 3 Ar lr cr r, .own cI 3 As ls cs r2])∧R r r2 r3:=by
  obtain ⟨-,h3,h4⟩:=h
  obtain ⟨p,rfl,k1,k2⟩:=ho
  by_cases h0:ybo n es q d=0
  · obtain ⟨gd,gs,cd',cs',d',s',hP,hr,b1,b2,b3,m1,m2⟩:=k2 h0
    obtain ⟨q1,q2⟩:=hlen d' s' hP
    obtain ⟨rfl,rfl,rfl,rfl,rfl,rfl,r1,r2⟩:=hr
    have o1:=row_ownS r1 m1 b1
    have o2:=row_ownS r2 m2 b2
    rw [q1] at o1
    rw [q2] at o2
    exact ⟨d',s',_,_,_,_,_,_,_,rfl,sep_two hO p o1 o2 (fun k h1 h2=>by simp at h1 h2;omega),by rw [h0];exact h4 h0 d' s' hP q1 q2⟩
  · obtain ⟨rfl,rfl,rfl,rfl,rfl,rfl⟩:=k1 h0
    exact ⟨[],[],_,none,0,0,none,0,0,rfl,((((Sep.start w hO).pur p).nil 0 rfl cI 3).nil 1 rfl cI 3).sel [0,1] (by decide),h3 h0⟩
def yfP(n:Int)(es:List E3)(q:Int)(d:List Int)(R:List Int→List Int→Int→Prop):Prop:=(Small n es d∨RedIn n es q d)∧outPf0 (fun n q d' s'=>Reduces n es q d d' s') n es q d R
theorem yhE{R:List Int→List Int→Int→Prop}(h:yfP n es q d R)(hO:∀ k,O k→k<w.heap.size)(a0:(FP.sl c3 A l c es).P O w)(a1:(FP.sl cI D ld cd d).P O w) :
    Calls Tryz.prog 153 #[.agg #[.int .i64 n, .slice A l c], .int .i64 q, .slice D ld cd] w fun e w'=>∃ r r2:List Int,∃ r3:Int,∃ Ar:Option Addr,∃ lr cr:Nat,∃ As:Option Addr,∃ ls cs:Nat,e = .returned (.tuple #[.slice Ar lr cr, .slice As ls cs, .int .i64 r3])∧Sep w no O w' (rl [.own cI 3 Ar lr cr r, .own cI 3 As ls cs r2])∧R r r2 r3:=by
  obtain ⟨rfl,he⟩:=sl_edges a0
  obtain ⟨rfl,hd⟩:=sl_ints a1
  rcases h.1 with h1 | h1
  · refine (reduce_any A D es d c cd n q w he hd h.2.1 h1).mono ?_
    rintro _ w' ⟨A1,l1,c1,A2,l2,c2,er,rfl,ho⟩
    exact outPf_ok h.2 hO ho fun d' s' hP=>⟨hP.dl,hP.sl⟩
  · refine (reduce_red_any A D es d c cd n q w he hd h.2.1 h1.1 h1.2).mono ?_
    rintro _ w' ⟨A1,l1,c1,A2,l2,c2,er,rfl,ho⟩
    exact outPf_ok h.2 hO ho fun d' s' hP=>⟨hP.dl,hP.sl⟩
end
end Go.Proofs.YtadpnlimiblniaaGreat

namespace Go.Proofs.YtadpnlimiblniaaGreat
open Go Go.RowKit Go.Shelf Go.Proofs.Tryz
def PsOk{α:Type}(Ps:α→BS→BS→World→Prop):Prop :=
  ∀ {x:α} {T Tg G:BS} {W:World} {l d:Nat},(∀ k,Tg k↔T k∨k=l∨k=d)→Ps x Tg G W→Ps x T (fun k=>G k∨k=l∨k=d) W
structure SessH(P:Program)(l:Nat){α:Type}(enc:α→Array Value)(Ps:α→BS→BS→World→Prop)(Pr:List α→Prop)(J Jx:BS→BS→List α→World→Prop):Prop where
  gen:ydS J
  genx:ydS Jx
  two:ydT J
  twox:ydT Jx
  yld:∀ {T G:BS} {pre:List α} {x:α} {W:World},J T G pre W→Pr (pre++[x])→Ps x T G W →
    YieldAt Fence.wide 1 P l (enc x) W fun e W'=>∃ T',RK T W T' W'∧((e = .returned (.bool true)∧J T' G (pre++[x]) W')∨(e = .returned (.bool false)∧Jx T' G (pre++[x]) W'))
def yiK(P:Program)(gf:FuncId)(lb:Array Value){α:Type}(enc:α→Array Value)(Ps:α→BS→BS→World→Prop)(Pr R:List α→Prop)(T0 G0:BS)(w:World):Prop :=
  ∀ (l:Nat) (J Jx:BS→BS→List α→World→Prop) (T1:BS) (w1:World),SessH P l enc Ps Pr J Jx→J T1 G0 [] w1→Pure w w1→(∀ k,T1 k→T0 k∨w.heap.size≤k) →
    CallsIn Fence.wide 2 P gf (#[.func (.yield l) #[] #[]]++lb) w1 fun e w'=>(∃ v,e = .returned v)∧((∃ xs T G,R xs∧J T G xs w')∨∃ pre T G,Jx T G pre w')
theorem wpIn_iterH{P:Program}{N:Nat}{Q:Exit→Act→World→Prop}{E:Env}{ds:List Deferred}{w:World}{t:List Item}{fo:Operand}{ps:Array Tmp}{assign body:Code}{gf:FuncId}{lb:Array Value}{a:Act}
    (hr:a.eval fo = .func (.func gf) #[] lb) (he:Enters P gf) {α:Type} {enc:α→Array Value} {Ps:α→BS→BS→World→Prop} {Pr R:List α→Prop} (hps:∀ x,(enc x).size=ps.size) (hPs:PsOk Ps)
    (T0 G0:BS) (I:BS→BS→List α→World→Prop) (Ix:Option Nat→BS→BS→List α→World→Prop) (hI:ydS I) (hI2:ydT I) (hIx:∀ c,ydS (Ix c)) (hIx2:∀ c,ydT (Ix c)) (h0:I T0 G0 [] w)
    (hgen:yiK P gf lb enc Ps Pr R T0 G0 w)
    (hround:∀ (l:Nat) (T G:BS) (pre:List α) (x:α) (W:World) (rdy busy:Obj),I T G pre W→Pr (pre++[x])→Ps x T G W→G l→W.heap[l]? = some rdy→(∀ cs e,rdy ≠ .cells cs e (0,0)) →
      assign.wpIn (Fence.wide.inRound l) 1 P (Exit.then (fun a1 W1=>W1.heap[l]? = some rdy∧∀ W2,W2=W1.putObj l busy→body.wpIn (Fence.wide.inRound l) 1 P (yjm l busy I Ix T G (pre++[x]) W) a1 W2) (fun _ _ _=>False))
        { tmps:=(ps.zip (enc x)).foldl (fun t (p,v)=>t.setIfInBounds p v) a.tmps,defers:=[] } W)
    (hdone:∀ (D:Nat) (T G:BS) (xs:List α) (W:World),w.heap.size≤D→¬T D→G D→R xs→I T G xs W→W.heap[D]? = some (.deferred (some []))→Q .normal { a with defers:={ target := .collected D,args:=#[] }::a.defers } W)
    (hstop:∀ (D:Nat) (T G:BS) (c:Option Nat) (xs:List α) (W:World),w.heap.size≤D→¬T D→G D→Ix c T G xs W→W.heap[D]? = some (.deferred (some []))→(yis c).wpIn Fence.wide 3 P Q { a with defers:={ target := .collected D,args:=#[] }::a.defers } W) :
    (Code.rangeFunc fo ps assign body).wpIn Fence.wide 3 P Q a w:=by
  refine wpIn_rangeFunc ?_
  intro fn hfn
  obtain ⟨D,hD⟩:∃ D,D=w.heap.size:=⟨_,rfl⟩
  obtain ⟨L,hL⟩:∃ L,L=w.heap.size+1:=⟨_,rfl⟩
  obtain ⟨rec,hrec⟩:∃ rec:LoopState→Option Code→Loop,rec=fun st pe=>{ state:=st,pending:=pe,fn,tmps:=a.tmps,params:=ps,assign,body,defers:=w.heap.size }:=⟨_,rfl⟩
  obtain ⟨W1,hW1⟩:∃ W1,(w.alloc (.deferred (some []))).alloc (.loop (rec .ready none))=W1:=⟨_,rfl⟩
  have hL1:W1.heap[L]? = some (.loop (rec .ready none)):=by
    rw [←hW1,hL];have:=World.alloc_heap_new (w.alloc (.deferred (some []))) (.loop (rec .ready none));rwa [World.size_alloc] at this
  have hK1:W1.heap[D]? = some (.deferred (some [])):=by
    rw [←hW1,hD];exact (Below.heap_alloc _ _ _ (by simp)).trans (World.alloc_heap_new w _)
  have hP1:Pure w W1:=by rw [←hW1];exact ((Keeps.refl _ _).alloc _).alloc _
  have hs1:W1.heap.size=w.heap.size+2:=by rw [←hW1];simp
  have two0:=hI2 h0
  refine ⟨L,[{ target := .collected D,args:=#[] }],W1,{ target := .fn (.func gf) lb,args:=#[.func (.yield L) #[] #[]] },W1,gf,#[.func (.yield L) #[] #[]]++lb,W1,?_,?_,fun _ _=>trivial,?_,fun h=>(by cases h),?_⟩
  · rw [←hW1,hrec,hL,hD];exact run_enterLoop_outer _ _ _ _ _
  · simp only [resolve,hr]
    simp [go_sem]
  · simp [invoke,go_sem,he _ _]
  · have key:=hgen L
      (fun Tg G pre W=>∃ T,(∀ k,Tg k↔T k∨k=L∨k=D)∧I T (fun k=>G k∨k=L∨k=D) pre W∧W.heap[L]? = some (.loop (rec .ready none))∧W.heap[D]? = some (.deferred (some []))∧¬G L∧¬G D∧¬T D)
      (fun Tg G pre W=>∃ T c,(∀ k,Tg k↔T k∨k=L∨k=D)∧Ix c T (fun k=>G k∨k=L∨k=D) pre W∧W.heap[L]? = some (.loop (rec .done (some (yis c))))∧W.heap[D]? = some (.deferred (some []))∧¬G L∧¬G D∧¬T D)
      (fun k=>T0 k∨k=L∨k=D) W1 ⟨?_,?_,?_,?_,?_⟩ ⟨T0,fun _=>Iff.rfl,?_,hL1,hK1,?_,?_,?_⟩ hP1 (fun k hk=>?_)
    · refine (show CallsIn Fence.wide (3-1) P gf _ W1 _ from key).mono ?_
      rintro e W2 ⟨⟨v,rfl⟩,(⟨xs,Tg,G,hR,T,hT,hi,hl,hd,g1,g2,g3⟩ | ⟨pre,Tg,G,T,c,hT,hi,hl,hd,g1,g2,g3⟩)⟩
      · refine ⟨none,W2.putObj L (.loop { rec .ready none with state := .exhausted }),by have:=run_endLoop (P:=P) hl (by rw [hrec];simp);rw [hrec] at this ⊢;exact this,?_⟩
        have hLl:L<W2.heap.size:=(Array.getElem?_eq_some_iff.1 hl).1
        have hlt:=(hI2 hi).2
        exact hdone D T _ xs _ (by omega) g3 (.inr (.inr rfl)) hR (hI hi ((ycq _ _ _).mono fun k _ e => .inr (.inl e)) (fun k h => .inl h) (fun k h=>by rw [ybF];exact hlt k h)) ((World.putObj_heap_other (by omega)).trans hd)
      · refine ⟨some (yis c),W2.putObj L (.loop { rec .done (some (yis c)) with state := .exhausted }),by have:=run_endLoop (P:=P) hl (by rw [hrec];simp);rw [hrec] at this ⊢;exact this,?_⟩
        have hlt:=(hIx2 c hi).2
        exact hstop D T _ c pre _ (by omega) g3 (.inr (.inr rfl)) (hIx c hi ((ycq _ _ _).mono fun k _ e => .inr (.inl e)) (fun k h => .inl h) (fun k h=>by rw [ybF];exact hlt k h)) ((World.putObj_heap_other (by omega)).trans hd)
    · -- the generator's steps
      rintro Tg G G' pre W W' ⟨T,hT,hi,hl,hd,g1,g2,g3⟩ hK hG hGl
      have lL:=(Array.getElem?_eq_some_iff.1 hl).1
      have lD:=(Array.getElem?_eq_some_iff.1 hd).1
      refine ⟨T,hT,hI hi (hK.mono fun k _ h => .inl h) (fun k h=>?_) (fun k h=>?_),(hK.block L lL g1).trans hl,(hK.block D lD g2).trans hd,fun h=>?_,fun h=>?_,g3⟩
      · rcases h with h | h
        · rcases hG k h with q | q
          · exact .inl (.inl q)
          · exact .inr q
        · exact .inl (.inr h)
      · rcases h with h | h | h
        · exact hGl k h
        · rw [h];exact Nat.lt_of_lt_of_le lL hK.size
        · rw [h];exact Nat.lt_of_lt_of_le lD hK.size
      · rcases hG L h with q | q
        · exact g1 q
        · omega
      · rcases hG D h with q | q
        · exact g2 q
        · omega
    · rintro Tg G G' pre W W' ⟨T,c,hT,hi,hl,hd,g1,g2,g3⟩ hK hG hGl
      have lL:=(Array.getElem?_eq_some_iff.1 hl).1
      have lD:=(Array.getElem?_eq_some_iff.1 hd).1
      refine ⟨T,c,hT,hIx c hi (hK.mono fun k _ h => .inl h) (fun k h=>?_) (fun k h=>?_),(hK.block L lL g1).trans hl,(hK.block D lD g2).trans hd,fun h=>?_,fun h=>?_,g3⟩
      · rcases h with h | h
        · rcases hG k h with q | q
          · exact .inl (.inl q)
          · exact .inr q
        · exact .inl (.inr h)
      · rcases h with h | h | h
        · exact hGl k h
        · rw [h];exact Nat.lt_of_lt_of_le lL hK.size
        · rw [h];exact Nat.lt_of_lt_of_le lD hK.size
      · rcases hG L h with q | q
        · exact g1 q
        · omega
      · rcases hG D h with q | q
        · exact g2 q
        · omega
    · rintro Tg G pre W ⟨T,hT,hi,hl,hd,g1,g2,g3⟩
      have lL:=(Array.getElem?_eq_some_iff.1 hl).1
      refine ⟨fun k hk=>?_,fun k hk=>(hI2 hi).2 k (.inl hk)⟩
      rcases (hT k).1 hk with q | q
      · exact ⟨fun hg=>((hI2 hi).1 k q).1 (.inl hg),((hI2 hi).1 k q).2⟩
      · rcases q with q | q
        · rw [q];exact ⟨g1,lL⟩
        · rw [q];exact ⟨g2,(Array.getElem?_eq_some_iff.1 hd).1⟩
    · rintro Tg G pre W ⟨T,c,hT,hi,hl,hd,g1,g2,g3⟩
      have lL:=(Array.getElem?_eq_some_iff.1 hl).1
      refine ⟨fun k hk=>?_,fun k hk=>(hIx2 c hi).2 k (.inl hk)⟩
      rcases (hT k).1 hk with q | q
      · exact ⟨fun hg=>((hIx2 c hi).1 k q).1 (.inl hg),((hIx2 c hi).1 k q).2⟩
      · rcases q with q | q
        · rw [q];exact ⟨g1,lL⟩
        · rw [q];exact ⟨g2,(Array.getElem?_eq_some_iff.1 hd).1⟩
    · -- one round
      rintro Tg G pre x W ⟨T,hT,hi,hl,hd,g1,g2,g3⟩ hPr hpass
      have lL:=(Array.getElem?_eq_some_iff.1 hl).1
      have lD:=(Array.getElem?_eq_some_iff.1 hd).1
      have hy:=run_yield (P:=P) (args:=enc x) hl (by rw [hrec];exact hps x)
      rw [hrec] at hy
      have hp2:Ps x T (fun k=>G k∨k=L∨k=D) W:=hPs hT hpass
      refine ⟨fn,_,assign,body,hy,roundIn_of_wpIn hfn (wpIn_mono (hround L T _ pre x W _ (.loop { rec .ready none with state := .busy }) hi hPr hp2 (.inr (.inl rfl)) hl (fun _ _ q=>by rw [hrec] at q;cases q)) ?_)⟩
      rintro e1 a1 V1 hq
      cases e1 with
      | exit id=>exact hq.elim
      | ret=>exact hq.elim
      | goto l=>exact hq.elim
      | panic c=>exact hq.elim
      | outgrown=>exact hq.elim
      | normal =>
      obtain ⟨hl1,hb1⟩:=hq
      refine ⟨_,run_beginRound hl1 (by rw [hrec]),wpIn_mono (hb1 _ rfl) ?_⟩
      have fin:∀ (T':BS) (jump:Option Code) (W3:World),RL1 L (.loop { rec .ready none with state := .busy }) T W T' W3 →
          (Instr.endRound L jump).run P W3 = .ok (.bool jump.isNone) (W3.putObj L (.loop (rec (if jump.isNone then .ready else .done) jump))) ∧
          (W3.putObj L (.loop (rec (if jump.isNone then .ready else .done) jump))).heap[L]? = some (.loop (rec (if jump.isNone then .ready else .done) jump)) ∧
          (W3.putObj L (.loop (rec (if jump.isNone then .ready else .done) jump))).heap[D]? = some (.deferred (some [])) ∧
          RK Tg W (fun k=>T' k∨k=L∨k=D) (W3.putObj L (.loop (rec (if jump.isNone then .ready else .done) jump)))∧Keeps (fun k=>k=L) W3 (W3.putObj L (.loop (rec (if jump.isNone then .ready else .done) jump)))∧L<W3.heap.size∧¬T' D:=fun T' jump W3 hk3=>by
        have hl3:W3.heap[L]? = some (.loop { rec .ready none with state := .busy }):=hk3.at_
        have hd3:W3.heap[D]? = some (.deferred (some [])):=(hk3.keeps.block D (by omega) (fun h=>h.elim g3 (fun e=>by omega))).trans hd
        have lL3:=(Array.getElem?_eq_some_iff.1 hl3).1
        have hrun:=run_endRound (P:=P) jump hl3
        rw [hrec] at hrun ⊢
        have hkk:=ycq W3 L (.loop ((fun st pe=>({ state:=st,pending:=pe,fn,tmps:=a.tmps,params:=ps,assign,body,defers:=w.heap.size } : Loop)) (if jump.isNone then .ready else .done) jump))
        refine ⟨hrun,World.putObj_heap_same lL3,(World.putObj_heap_other (by omega)).trans hd3,⟨(Keeps.refl (fun _=>False) W).trans' hk3.keeps hkk (T:=Tg) (fun k e=>e.elim) (fun k e=>e.elim (fun e=>(hT k).2 (.inl e)) (fun e=>(hT k).2 (.inr (.inl e)))) (fun k e=>(hT k).2 (.inr (.inl e))),fun k h=>?_,fun k h=>?_⟩,hkk,lL3,fun h=>?_⟩
        · rcases h with h | h
          · rcases hk3.sub k h with q | q
            · exact .inl ((hT k).2 (.inl q))
            · exact .inr (by omega)
          · exact .inl ((hT k).2 (.inr h))
        · rw [ybF]
          rcases h with h | h
          · exact hk3.lt k h
          · rcases h with h | h
            · rw [h];exact lL3
            · rw [h];exact (Array.getElem?_eq_some_iff.1 hd3).1
        · rcases hk3.sub D h with q | q
          · exact g3 q
          · omega
      rintro e a3 W3 hp
      cases e with
      | normal =>
        obtain ⟨T',hk3,hi3⟩:=hp
        obtain ⟨hr3,hl4,hd4,hrk,hkk,lL3,hTD⟩:=fin T' none W3 hk3
        exact ⟨_,_,hr3,_,hrk, .inl ⟨rfl,T',fun _=>Iff.rfl,hI hi3 (hkk.mono fun k _ e => .inr (.inl e)) (fun k h => .inl h) (fun k h=>by rw [ybF];exact (hI2 hi3).2 k h),hl4,hd4,g1,g2,hTD⟩⟩
      | ret =>
        obtain ⟨T',hk3,hi3⟩:=hp
        obtain ⟨hr3,hl4,hd4,hrk,hkk,lL3,hTD⟩:=fin T' (some .ret) W3 hk3
        exact ⟨_,_,hr3,_,hrk, .inr ⟨rfl,T',none,fun _=>Iff.rfl,hIx none hi3 (hkk.mono fun k _ e => .inr (.inl e)) (fun k h => .inl h) (fun k h=>by rw [ybF];exact (hIx2 none hi3).2 k h),hl4,hd4,g1,g2,hTD⟩⟩
      | exit id =>
        obtain ⟨T',hk3,hi3⟩:=hp
        obtain ⟨hr3,hl4,hd4,hrk,hkk,lL3,hTD⟩:=fin T' (some (.exit id)) W3 hk3
        exact ⟨_,_,hr3,_,hrk, .inr ⟨rfl,T',some id,fun _=>Iff.rfl,hIx (some id) hi3 (hkk.mono fun k _ e => .inr (.inl e)) (fun k h => .inl h) (fun k h=>by rw [ybF];exact (hIx2 (some id) hi3).2 k h),hl4,hd4,g1,g2,hTD⟩⟩
      | goto t=>exact hp.elim
      | panic ch=>exact hp.elim
      | outgrown=>exact hp.elim
    · have hsz:∀ k,G0 k→k<w.heap.size:=two0.2
      exact hI h0 (G:=G0) (hP1.mono fun k _ h=>h.elim) (fun k h=>h.elim .inl (fun e => .inr (by omega))) (fun k h=>h.elim (fun h=>by have:=hsz k h;omega) (fun e=>by omega))
    · intro h;have:=two0.2 L h;omega
    · intro h;have:=two0.2 D h;omega
    · intro h;have:=(two0.1 D h).2;omega
    · rcases hk with h | h
      · exact .inl h
      · exact .inr (by omega)
theorem wt_iterH{P:Program}{N:Nat}{Q:Exit→Act→World→Prop}{E:Env}{ds:List Deferred}{w:World}{t:List Item}{fo:Operand}{ps:Array Tmp}{assign body:Code}{gf:FuncId}{lb:Array Value}
    (hr:evE E fo = .func (.func gf) #[] lb) (he:Enters P gf) {α:Type} {val:α→Array Value} {Ps:α→BS→BS→World→Prop} {Pr R:List α→Prop} (hps:∀ x,(val x).size=ps.size) (hPs:PsOk Ps) (hpN:ps.toList.all (fun p=>Nat.blt p N)=true)
    (T0 G0:BS) (I:BS→BS→List α→World→Prop) (Ix:Option Nat→BS→BS→List α→World→Prop) (hI:ydS I) (hI2:ydT I) (hIx:∀ c,ydS (Ix c)) (hIx2:∀ c,ydT (Ix c)) (h0:I T0 G0 [] w)
    (hgen:yiK P gf lb val Ps Pr R T0 G0 w)
    (hround:∀ (l:Nat) (T G:BS) (pre:List α) (x:α) (W:World) (rdy busy:Obj),I T G pre W→Pr (pre++[x])→Ps x T G W→G l→W.heap[l]? = some rdy→(∀ cs e,rdy ≠ .cells cs e (0,0)) →
      WT (Fence.wide.inRound l) 1 P N [.code assign] (fun e a1 W1=>e = .normal∧∃ E1,Rep N E1 [] a1∧W1.heap[l]? = some rdy∧∀ W2,W2=W1.putObj l busy→WT (Fence.wide.inRound l) 1 P N [.code body] (yjm l busy I Ix T G (pre++[x]) W) E1 [] W2) (setE E (ps.toList.zip (val x).toList)) [] W)
    (hdone:∀ (D:Nat) (T G:BS) (xs:List α) (W:World),w.heap.size≤D→¬T D→G D→R xs→I T G xs W→W.heap[D]? = some (.deferred (some []))→WT Fence.wide 3 P N t Q E ({ target := .collected D,args:=#[] }::ds) W)
    (hstop:∀ (D:Nat) (T G:BS) (c:Option Nat) (xs:List α) (W:World),w.heap.size≤D→¬T D→G D→Ix c T G xs W→W.heap[D]? = some (.deferred (some []))→yiv P N t Q E ({ target := .collected D,args:=#[] }::ds) W c) :
    WT Fence.wide 3 P N (.code (.rangeFunc fo ps assign body)::t) Q E ds w:=by
  intro a ra
  let mk:Env→Act:=fun E'=>{ tmps:=Array.ofFn (n:=N) fun i=>E' i,defers:=[] }
  have hmk:∀ E':Env,(∀ t,N≤t→E' t=undef)→Rep N E' [] (mk E'):=by
    intro E' h
    refine ⟨by simp [mk],fun t=>?_,rfl⟩
    simp only [mk,Array.getD_eq_getD_getElem?]
    rcases Nat.lt_or_ge t N with ht | ht
    · simp [ht]
    · simp [ht,h t ht]
  have hun:∀ {E':Env} {ds':List Deferred} {a':Act},Rep N E' ds' a'→∀ t,N≤t→E' t=undef:=by
    intro E' ds' a' h t ht
    rw [←h.get t]
    simp [Array.getD_eq_getD_getElem?,h.size,ht]
  have hpr:∀ x,Rep N (setE E (ps.toList.zip (val x).toList)) [] { tmps:=(ps.zip (val x)).foldl (fun t (p,v)=>t.setIfInBounds p v) a.tmps,defers:=[] }:=by
    intro x
    have h1:Rep N E [] { tmps:=a.tmps,defers:=[] }:=⟨ra.size,ra.get,rfl⟩
    have h2:=yiL (ps.toList.zip (val x).toList) E [] _ h1 (fun p hp=>by
      have:=List.all_eq_true.1 hpN p.1 (List.of_mem_zip hp).1
      simpa using this)
    have h3:(ps.zip (val x)).foldl (fun t (p,v)=>t.setIfInBounds p v) a.tmps=(ps.toList.zip (val x).toList).foldl (fun t p=>t.setIfInBounds p.1 p.2) a.tmps:=by
      rw [←Array.foldl_toList,Array.toList_zip]
    rw [h3];exact h2
  refine WTa.ofx (wpIn_iterH (N:=N) (E:=E) (ds:=ds) (t:=t) (a:=a) (by rw [ra.eval,hr]) he hps hPs T0 G0 I Ix hI hI2 hIx hIx2 h0 hgen ?_ ?_ ?_)
  · intro l T G pre x W rdy busy hi hp hq hg hl hnc
    refine wpIn_mono (WTa.code (hround l T G pre x W rdy busy hi hp hq hg hl hnc _ (hpr x))) ?_
    rintro e a1 W1 ⟨rfl,E1,r1,h1,h2⟩
    exact ⟨h1,fun W2 hW=>WTa.code (h2 W2 hW _ r1)⟩
  · intro D T G xs W hD hT hG hR hi hd
    exact hdone D T G xs W hD hT hG hR hi hd _ ⟨ra.size,ra.get,by rw [ra.defers]⟩
  · intro D T G c xs W hD hT hG hi hd
    have hj:=hstop D T G c xs W hD hT hG hi hd
    have ra2:Rep N E ({ target := .collected D,args:=#[] }::ds) { a with defers:={ target := .collected D,args:=#[] }::a.defers }:=⟨ra.size,ra.get,by rw [ra.defers]⟩
    cases c with
    | none=>exact WTa.code (WTa.ret (hj _ ra2))
    | some id =>
      refine WTa.code (WTa.leave rfl ?_)
      unfold yiv at hj
      cases hq:exitTo id t with
      | none=>simp only [hq] at hj ⊢;exact hj _ ra2
      | some k'=>simp only [hq] at hj ⊢;exact hj _ ra2
abbrev Hd:=Option (Nat×Array Value×TypeId)
def hdR:Hd→Res
  | none => .gone
  | some (b,cs,e) => .obj b (.cells cs e (0,0))
def Hd.at(hd:Hd)(G:BS)(W:World):Prop:=match hd with
  | none=>True
  | some (b,cs,e)=>G b∧W.heap[b]? = some (.cells cs e (0,0))
def Hd.rd(hd:Hd)(Φ:FP):Prop:=∀ O w,(hdR hd).ok 0 O w→Φ.P no w
def PsH{α:Type}(hd:α→Hd)(rd:α→FP):α→BS→BS→World→Prop:=fun x T G W=>(hd x).at G W∧(hd x).rd (rd x)
theorem PsH.ok{α:Type}(hd:α→Hd)(rd:α→FP):PsOk (PsH hd rd):=by
  rintro x T Tg G W l d hT ⟨h,h2⟩
  refine ⟨?_,h2⟩
  unfold Hd.at at *
  split
  · trivial
  · rename_i b cs e q
    rw [q] at h
    exact ⟨.inl h.1,h.2⟩
theorem Sep.rdh{w0 w:World}{S O:BS}{L:Hold}(h:Sep w0 S O w L)(i:Nat){hd:Hd}(hi:L i=hdR hd){Φ:FP}(hr:hd.rd Φ):Φ.P no w:=hr _ _ (by have:=h.ok i;rw [hi] at this;exact this)
theorem rl_gone(LL:List Res):rl (LL++[.gone])=rl LL:=by
  funext i
  rw [yex]
  by_cases e:i=LL.length
  · rw [e,yaJ,ycw]
  · rw [yaC _ _ e]
theorem yeU{LL:List Res}{b:Nat}{o:Obj}{i k:Nat}(h:(rl (LL++[.obj b o]) i).has k):(rl LL i).has k∨(i=LL.length∧k=b):=by
  rw [yex] at h
  by_cases e:i=LL.length
  · rw [e,yaJ] at h;cases h;exact .inr ⟨e,rfl⟩
  · rw [yaC _ _ e] at h;exact .inl h
theorem rl_has_ne{LL:List Res}{i k:Nat}(h:(rl LL i).has k):i≠LL.length:=fun e=>by rw [e,ycw] at h;cases h
theorem yf3{LL:List Res}{r:Res}{i:Nat}(h:i≠LL.length):rl (LL++[r]) i=rl LL i:=by rw [yex,yaC _ _ h]
theorem Sep.hand{W:World}{S O:BS}{LL:List Res}(h:Sep W S O W (rl LL)){b:Nat}{o:Obj}(hb:O b)(ho:W.heap[b]? = some o):Sep W (fun k=>S k∨k=b) (fun k=>O k∧k≠b) W (rl (LL++[.obj b o])):=by
  have hnb:∀ i,¬(rl LL i).has b:=fun i q=>by
    have:=h.lt b hb
    rcases h.bd i b q with r | r
    · omega
    · exact this.2 r
  refine ⟨Keeps.refl _ _,fun k hk=>⟨(h.lt k hk.1).1,fun q=>q.elim (h.lt k hk.1).2 hk.2⟩,fun i=>?_,fun i k hk=>?_,fun i j k hi hj=>?_⟩
  · have key:∀ k,Bl (fun k=>O k∧k≠b) (rl (LL++[.obj b o])) k→Bl O (rl LL) k:=by
      rintro k (q | ⟨i,q⟩)
      · exact .inl q.1
      · rcases yeU q with q | ⟨_,q⟩
        · exact .inr ⟨i,q⟩
        · rw [q];exact .inl hb
    by_cases e:i=LL.length
    · rw [e,yex,yaJ];exact ⟨Nat.zero_le _,ho⟩
    · rw [yf3 e];exact (h.ok i).sub fun k _ hk=>key k hk
  · rcases yeU hk with q | ⟨_,q⟩
    · exact (h.bd i k q).elim .inl (fun r => .inr (.inl r))
    · exact .inr (.inr q)
  · rcases yeU hi with q | ⟨q,q2⟩
    · rcases yeU hj with r | ⟨r,r2⟩
      · exact h.nd i j k q r
      · rw [r2] at q;exact absurd q (hnb i)
    · rcases yeU hj with r | ⟨r,r2⟩
      · rw [q2] at r;exact absurd r (hnb j)
      · omega
theorem Sep.unhand{W W':World}{S O:BS}{LL:List Res}{b:Nat}{o:Obj}(h:Sep W (fun k=>S k∨k=b) (fun k=>O k∧k≠b) W' (rl (LL++[.obj b o])))(hO:∀ k,O k→k<W.heap.size∧¬S k)(ho:W.heap[b]? = some o):Sep W S O W' (rl LL):=by
  have hb':W'.heap[b]? = some o:=by have:=h.ok LL.length;rw [yex,yaJ] at this;exact this.2
  have hnb:∀ i,¬(rl LL i).has b:=fun i q=>by
    have e:=rl_has_ne q
    exact e (h.nd i LL.length b (by rw [yf3 e];exact q) (by rw [yex,yaJ]))
  have up:∀ i k,(rl LL i).has k→(rl (LL++[.obj b o]) i).has k:=fun i k q=>by rw [yf3 (rl_has_ne q)];exact q
  refine ⟨?_,hO,fun i=>?_,fun i k hk=>?_,fun i j k hi hj=>h.nd i j k (up i k hi) (up j k hj)⟩
  · obtain ⟨p1,p2,p3,p4,p5⟩:=h.pure
    refine ⟨p1,p2,p3,p4,fun k hk hn=>?_⟩
    by_cases e:k=b
    · rw [e,hb',ho]
    · exact p5 k hk fun q=>q.elim hn e
  · by_cases e:i=LL.length
    · rw [e,ycw];trivial
    · have:=h.ok i
      rw [yf3 e] at this
      refine this.sub fun k _ hk=>?_
      rcases hk with q | ⟨j,q⟩
      · by_cases e:k=b
        · exact .inr ⟨LL.length,by rw [yex,yaJ,e]⟩
        · exact .inl ⟨q,e⟩
      · exact .inr ⟨j,up j k q⟩
  · rcases h.bd i k (up i k hk) with q | q | q
    · exact .inl q
    · exact .inr q
    · rw [q] at hk;exact absurd hk (hnb i)
def rndSH{α:Type}(l:Nat)(busy:Obj)(hr:Res)(W:World)(S O:BS)(V:List α→List Res→Prop)(Vx:Option Nat→List α→List Res→Prop)(xs:List α):Exit→Act→World→Prop
  | .normal,_,W'=>∃ LL,V xs LL∧Sep W S O W' (rl (LL++[.obj l busy]++[hr]))
  | .ret,_,W'=>∃ LL,Vx none xs LL∧Sep W S O W' (rl (LL++[.obj l busy]++[hr]))
  | .exit id,_,W'=>∃ LL,Vx (some id) xs LL∧Sep W S O W' (rl (LL++[.obj l busy]++[hr]))
  | _,_,_=>False
theorem rndSH_of{α:Type}{l:Nat}{busy:Obj}{hr:Res}{W:World}{S O S2 O2:BS}{V:List α→List Res→Prop}{Vx:Option Nat→List α→List Res→Prop}{xs:List α}{e:Exit}{a:Act}{W':World}
    (hc:∀ LL,Sep W S O W' (rl (LL++[.obj l busy]++[hr]))→Sep W S2 O2 W' (rl (LL++[.obj l busy]))) (h:rndSH l busy hr W S O V Vx xs e a W'):rndS l busy W S2 O2 V Vx xs e a W':=by
  cases e with
  | normal=>obtain ⟨L,v,s⟩:=h;exact ⟨L,v,hc L s⟩
  | ret=>obtain ⟨L,v,s⟩:=h;exact ⟨L,v,hc L s⟩
  | exit id=>obtain ⟨L,v,s⟩:=h;exact ⟨L,v,hc L s⟩
  | goto t=>exact h.elim
  | panic ch=>exact h.elim
  | outgrown=>exact h.elim
theorem wt_iterSH{P:Program}{N:Nat}{Q:Exit→Act→World→Prop}{E:Env}{ds:List Deferred}{w0 w:World}{S O:BS}{L:Hold}{t:List Item}{fo:Operand}{ps:Array Tmp}{assign body:Code}{gf:FuncId}{lb:Array Value}
    (hS:Sep w0 S O w L) (js gs:List Nat) (hj:js.Nodup) (hg:gs.Nodup) (hf:allJ (fun j=>(j∉js)∨(L j).free) gs)
    (hr:evE E fo = .func (.func gf) #[] lb) (he:Enters P gf) {α:Type} {val:α→Array Value} {hd:α→Hd} {rd:α→FP} {Pr R:List α→Prop} (hps:∀ x,(val x).size=ps.size) (hpN:ps.toList.all (fun p=>Nat.blt p N)=true)
    (V:List α→List Res→Prop) (Vx:Option Nat→List α→List Res→Prop) (h0:V [] (js.map L))
    (hgen:∀ T G,Sep w G T w (rl (gs.map L))→yiK P gf lb val (PsH hd rd) Pr R T G w)
    (hround:∀ (l:Nat) (rdy busy:Obj) (S1 O1:BS) (pre:List α) (x:α) (W:World) (LL:List Res),V pre LL→Pr (pre++[x])→(hd x).rd (rd x)→Sep W S1 O1 W (rl (LL++[.obj l rdy]++[hdR (hd x)])) →
      WT (Fence.wide.inRound l) 1 P N [.code assign] (fun e a1 W1=>e = .normal∧∃ E1 L1,Rep N E1 [] a1∧Sep W S1 O1 W1 L1∧(∃ i,L1 i = .obj l rdy)∧∀ W2,W2=W1.putObj l busy→WT (Fence.wide.inRound l) 1 P N [.code body] (rndSH l busy (hdR (hd x)) W S1 O1 V Vx (pre++[x])) E1 [] W2) (setE E (ps.toList.zip (val x).toList)) [] W)
    (hdone:∀ (D:Nat) (xs:List α) (W:World) (LL:List Res),R xs→V xs LL→Sep w0 S O W (rl (LL++[dfr D]))→WT Fence.wide 3 P N t Q E (mark D::ds) W)
    (hstop:∀ (D:Nat) (c:Option Nat) (xs:List α) (W:World) (LL:List Res),Vx c xs LL→Sep w0 S O W (rl (LL++[dfr D]))→yiv P N t Q E (mark D::ds) W c) :
    WT Fence.wide 3 P N (.code (.rangeFunc fo ps assign body)::t) Q E ds w:=by
  obtain ⟨hT,hG⟩:=hS.give js gs hj hg hf
  refine wt_iterH hr he hps (PsH.ok hd rd) hpN (Bl O (rl (js.map L))) (OwnB (rl (gs.map L))) (IV w0 S O V) (fun c=>IV w0 S O (Vx c)) (IV.gen _ _ _ _) (IV.two _ _ _ _) (fun c=>IV.gen _ _ _ _) (fun c=>IV.two _ _ _ _) ⟨_,rfl,hT,h0⟩ (hgen _ _ hG) ?_ ?_ ?_
  · rintro l T G pre x W rdy busy ⟨LL,rfl,h,hV⟩ hPr hp hGl hl hnc
    have ho:=h.open_ hGl hl
    have fin:∀ {S1 O1:BS} ,Sep W S1 O1 W (rl (LL++[.obj l rdy]++[hdR (hd x)]))→(∀ W' LL',Sep W S1 O1 W' (rl (LL'++[.obj l busy]++[hdR (hd x)]))→Sep W (fun k=>OwnB (rl LL) k∨k=l) (fun k=>O k∨(G k∧k≠l)) W' (rl (LL'++[.obj l busy]))) →
        WT (Fence.wide.inRound l) 1 P N [.code assign] (fun e a1 W1=>e = .normal∧∃ E1,Rep N E1 [] a1∧W1.heap[l]? = some rdy∧∀ W2,W2=W1.putObj l busy→WT (Fence.wide.inRound l) 1 P N [.code body] (yjm l busy (IV w0 S O V) (fun c=>IV w0 S O (Vx c)) (Bl O (rl LL)) G (pre++[x]) W) E1 [] W2) (setE E (ps.toList.zip (val x).toList)) [] W:=by
      intro S1 O1 hs1 hcl
      have hb:=hround l rdy busy S1 O1 pre x W LL hV hPr hp.2 hs1
      intro a ra b k cs h1 h2 h3
      obtain ⟨e,a',w',⟨rfl,E1,L1,r1,s1,⟨i,hi⟩,hq⟩,harr⟩:=hb a ra b k cs h1 h2 h3
      refine ⟨.normal,a',w',⟨rfl,E1,r1,by have:=s1.ok i;rw [hi] at this;exact this.2,fun W2 hW2=>?_⟩,harr⟩
      intro a2 ra2 b2 k2 cs2 g1 g2 g3
      obtain ⟨e,a3,w3,hq,harr3⟩:=hq W2 hW2 a2 ra2 b2 k2 cs2 g1 g2 g3
      refine ⟨e,a3,w3,?_,harr3⟩
      have hq:=rndSH_of (hcl w3) hq
      cases e with
      | normal=>obtain ⟨L2,v2,s2⟩:=hq;obtain ⟨t2,r2⟩:=h.close hGl s2;exact ⟨_,r2,L2,rfl,t2,v2⟩
      | ret=>obtain ⟨L2,v2,s2⟩:=hq;obtain ⟨t2,r2⟩:=h.close hGl s2;exact ⟨_,r2,L2,rfl,t2,v2⟩
      | exit id=>obtain ⟨L2,v2,s2⟩:=hq;obtain ⟨t2,r2⟩:=h.close hGl s2;exact ⟨_,r2,L2,rfl,t2,v2⟩
      | goto t=>exact hq.elim
      | panic ch=>exact hq.elim
      | outgrown=>exact hq.elim
    replace hp:=hp.1
    unfold Hd.at at hp
    cases hh:hd x with
    | none =>
      refine fin (S1:=fun k=>OwnB (rl LL) k∨k=l) (O1:=fun k=>O k∨(G k∧k≠l)) ?_ fun W' LL' s=>?_
      · rw [hh];show Sep _ _ _ _ (rl (_++[.gone]));rw [rl_gone];exact ho
      · rw [hh] at s
        have s:Sep _ _ _ _ (rl (LL'++[.obj l busy]++[.gone])):=s
        rw [rl_gone] at s;exact s
    | some q =>
      obtain ⟨b,cs,e⟩:=q
      rw [hh] at hp
      have hp:G b∧W.heap[b]? = some (.cells cs e (0,0)):=hp
      have hbl:b≠l:=fun q=>by
        rw [q,hl] at hp
        exact hnc cs e (Option.some.inj hp.2)
      refine fin (ho.hand (b:=b) (o := .cells cs e (0,0)) (.inr ⟨hp.1,hbl⟩) hp.2 |> fun s=>by rw [hh];exact s) fun W' LL' s=>?_
      rw [hh] at s
      exact Sep.unhand s ho.lt hp.2
  · rintro D T G xs W hD hTD hGD hR ⟨L',rfl,h,hV⟩ hd
    exact hdone D xs W L' hR hV (h.mark hGD hd)
  · rintro D T G c xs W hD hTD hGD ⟨L',rfl,h,hV⟩ hd
    exact hstop D c xs W L' hV (h.mark hGD hd)
section
variable {P : Program} {l : Nat} {α : Type} {val : α → Array Value} {Ps : α → BS → BS → World → Prop} {Pr : List α → Prop} {J Jx K : BS → BS → List α → World → Prop}
end
structure SessHP(P:Program)(l:Nat){α β:Type}(enc:α→β→Array Value)(Ps:α→β→BS→BS→World→Prop)(Pr:List α→Prop)(J Jx:BS→BS→List α→World→Prop):Prop where
  gen:ydS J
  genx:ydS Jx
  two:ydT J
  twox:ydT Jx
  yld:∀ {T G:BS} {pre:List α} {x:α} {b:β} {W:World},J T G pre W→Pr (pre++[x])→Ps x b T G W →
    YieldAt Fence.wide 1 P l (enc x b) W fun e W'=>∃ T',RK T W T' W'∧((e = .returned (.bool true)∧J T' G (pre++[x]) W')∨(e = .returned (.bool false)∧Jx T' G (pre++[x]) W'))
theorem SessH.proj{P:Program}{l:Nat}{α β:Type}{enc:α→β→Array Value}{Ps:α→β→BS→BS→World→Prop}{Pr:List α→Prop}{J Jx:BS→BS→List (α×β)→World→Prop}
    (h:SessH P l (fun y:α×β=>enc y.1 y.2) (fun y=>Ps y.1 y.2) (fun q=>Pr (q.map Prod.fst)) J Jx):SessHP P l enc Ps Pr (JP J) (JP Jx):=by
  have g1:ydS J:=h.gen
  have g2:ydS Jx:=h.genx
  have g3:ydT J:=h.two
  have g4:ydT Jx:=h.twox
  refine ⟨ydS.jp (J:=J) g1,ydS.jp (J:=Jx) g2,ydT.jp (J:=J) g3,ydT.jp (J:=Jx) g4,?_⟩
  rintro T G pre x b W ⟨q,rfl,hj⟩ hPr hp
  refine (show YieldAt Fence.wide 1 P l (enc x b) W _ from h.yld (x:=(x,b)) hj (by simpa using hPr) hp) |> fun ⟨fn,tmps,assign,body,hy,hR⟩=>⟨fn,tmps,assign,body,hy,hR.mono ?_⟩
  rintro e W' ⟨T',hr,(⟨rfl,hj⟩ | ⟨rfl,hj⟩)⟩
  · exact ⟨T',hr, .inl ⟨rfl,_,by simp,hj⟩⟩
  · exact ⟨T',hr, .inr ⟨rfl,_,by simp,hj⟩⟩
def yhG(P:Program)(gf:FuncId)(lb:Array Value){α β:Type}(enc:α→β→Array Value)(Ps:α→β→BS→BS→World→Prop)(Pr R:List α→Prop)(T0 G0:BS)(w:World):Prop :=
  ∀ (l:Nat) (J Jx:BS→BS→List α→World→Prop) (T1:BS) (w1:World),SessHP P l enc Ps Pr J Jx→J T1 G0 [] w1→Pure w w1→(∀ k,T1 k→T0 k∨w.heap.size≤k) →
    CallsIn Fence.wide 2 P gf (#[.func (.yield l) #[] #[]]++lb) w1 fun e w'=>(∃ v,e = .returned v)∧((∃ xs T G,R xs∧J T G xs w')∨∃ pre T G,Jx T G pre w')
theorem yhG.to{P:Program}{gf:FuncId}{lb:Array Value}{α β:Type}{enc:α→β→Array Value}{Ps:α→β→BS→BS→World→Prop}{Pr R:List α→Prop}{T0 G0:BS}{w:World}(h:yhG P gf lb enc Ps Pr R T0 G0 w) :
    yiK P gf lb (fun y:α×β=>enc y.1 y.2) (fun y=>Ps y.1 y.2) (fun q=>Pr (q.map Prod.fst)) (fun q=>R (q.map Prod.fst)) T0 G0 w:=by
  intro l J Jx T1 w1 hs hJ hp hT
  refine (h l (JP J) (JP Jx) T1 w1 hs.proj ⟨[],rfl,hJ⟩ hp hT).mono ?_
  rintro e w' ⟨hv,(⟨xs,T,G,hR,q,hl,hj⟩ | ⟨pre,T,G,q,hl,hj⟩)⟩
  · exact ⟨hv, .inl ⟨q,T,G,by subst hl;exact hR,hj⟩⟩
  · exact ⟨hv, .inr ⟨q,T,G,hj⟩⟩
section
variable {P : Program} {l : Nat} {α β : Type} {val : α → β → Array Value} {Ps : α → β → BS → BS → World → Prop} {Pr : List α → Prop} {J Jx : BS → BS → List α → World → Prop}
theorem gen_yieldHP(hs:SessHP P l val Ps Pr J Jx){T G:BS}{pre:List α}{x:α}{b:β}{wb w:World}{L:Hold}(hJ:J T G pre wb)(hS:Sep wb G T w L)(hPr:Pr (pre++[x]))(hp:Ps x b T (OwnB L) w)
    {Rr:Ending→World→Prop} (h1:∀ T' W',J T' (OwnB L) (pre++[x]) W'→Sep W' (OwnB L) T' W' L→Rr (.returned (.bool true)) W') (h2:∀ T' W',Jx T' (OwnB L) (pre++[x]) W'→Sep W' (OwnB L) T' W' L→Rr (.returned (.bool false)) W') :
    YieldAt Fence.wide 1 P l (val x b) w Rr:=by
  have hJ2:J T (OwnB L) pre w:=hs.gen hJ hS.pure (fun k ⟨i,hi⟩=>(hS.bd i k hi).elim (fun q => .inr (by have:=hS.pure.size;omega)) .inl) (fun k ⟨i,hi⟩=>((hS.ok i).lt hi).2)
  obtain ⟨fn,tmps,assign,body,hy,hR⟩:=hs.yld hJ2 hPr hp
  refine ⟨fn,tmps,assign,body,hy,hR.mono ?_⟩
  rintro e W' ⟨T',hr,(⟨rfl,hj⟩ | ⟨rfl,hj⟩)⟩
  · exact h1 T' W' hj (hS.yielded hr)
  · exact h2 T' W' hj (hS.yielded hr)
theorem gen_endHP(hs:SessHP P l val Ps Pr J Jx){T G:BS}{pre:List α}{wb w:World}{L:Hold}{R:List α→Prop}(hJ:J T G pre wb)(hS:Sep wb G T w L)(hR:R pre) :
    (∃ xs T G,R xs∧J T G xs w)∨∃ pre T G,Jx T G pre w :=
  .inl ⟨pre,T,OwnB L,hR,hs.gen hJ hS.pure (fun k ⟨i,hi⟩=>(hS.bd i k hi).elim (fun q => .inr (by have:=hS.pure.size;omega)) .inl) (fun k ⟨i,hi⟩=>((hS.ok i).lt hi).2)⟩
theorem gen_endxHP(hs:SessHP P l val Ps Pr J Jx){T G:BS}{pre:List α}{wb w:World}{L:Hold}{R:List α→Prop}(hJ:Jx T G pre wb)(hS:Sep wb G T w L) :
    (∃ xs T G,R xs∧J T G xs w)∨∃ pre T G,Jx T G pre w :=
  .inr ⟨pre,T,OwnB L,hs.genx hJ hS.pure (fun k ⟨i,hi⟩=>(hS.bd i k hi).elim (fun q => .inr (by have:=hS.pure.size;omega)) .inl) (fun k ⟨i,hi⟩=>((hS.ok i).lt hi).2)⟩
theorem gen_startHP{T T1 G:BS}{w w1:World}{L:Hold}
    (h:Sep w G T w L) (hs:SessHP P l val Ps Pr J Jx) (hJ:J T1 G [] w1) (hp:Pure w w1) (hT:∀ k,T1 k→T k∨w.heap.size≤k):∃ G1,J T1 G1 [] w1∧Sep w1 G1 T1 w1 L:=by
  have hS:=h.yielded (T':=T1) ⟨hp.mono fun k _ q=>q.elim,hT,fun k hk=>((hs.two hJ).1 k hk).2⟩
  refine ⟨OwnB L,hs.gen hJ (Keeps.refl _ _) (fun k ⟨i,hi⟩=>?_) (fun k ⟨i,hi⟩=>((hS.ok i).lt hi).2),hS⟩
  rcases h.bd i k hi with q | q
  · have:=((h.ok i).lt hi).2;omega
  · exact .inl q
end
theorem rndSH_fst{α β:Type}{l:Nat}{busy:Obj}{hr:Res}{W:World}{S O:BS}{V:List α→List Res→Prop}{Vx:Option Nat→List α→List Res→Prop}{xs:List (α×β)}{ys:List α}(h:xs.map Prod.fst=ys){e:Exit}{a:Act}{w:World}
    (hq:rndSH l busy hr W S O V Vx ys e a w):rndSH l busy hr W S O (fun (p:List (α×β)) LL=>V (p.map Prod.fst) LL) (fun c (p:List (α×β)) LL=>Vx c (p.map Prod.fst) LL) xs e a w:=by
  subst h
  cases e <;> exact hq
theorem wt_iterSHP{P:Program}{N:Nat}{Q:Exit→Act→World→Prop}{E:Env}{ds:List Deferred}{w0 w:World}{S O:BS}{L:Hold}{t:List Item}{fo:Operand}{ps:Array Tmp}{assign body:Code}{gf:FuncId}{lb:Array Value}
    (hS:Sep w0 S O w L) (js gs:List Nat) (hj:js.Nodup) (hg:gs.Nodup) (hf:allJ (fun j=>(j∉js)∨(L j).free) gs)
    (hr:evE E fo = .func (.func gf) #[] lb) (he:Enters P gf) {α β:Type} {val:α→β→Array Value} {hd:α→β→Hd} {rd:α→β→FP} {Pr R:List α→Prop} (hps:∀ x b,(val x b).size=ps.size) (hpN:ps.toList.all (fun p=>Nat.blt p N)=true)
    (V:List α→List Res→Prop) (Vx:Option Nat→List α→List Res→Prop) (h0:V [] (js.map L))
    (hgen:∀ T G,Sep w G T w (rl (gs.map L))→yhG P gf lb val (fun x b=>PsH (fun y:α×β=>hd y.1 y.2) (fun y=>rd y.1 y.2) (x,b)) Pr R T G w)
    (hround:∀ (l:Nat) (rdy busy:Obj) (S1 O1:BS) (pre:List α) (x:α) (b:β) (W:World) (LL:List Res),V pre LL→Pr (pre++[x])→(hd x b).rd (rd x b)→Sep W S1 O1 W (rl (LL++[.obj l rdy]++[hdR (hd x b)])) →
      WT (Fence.wide.inRound l) 1 P N [.code assign] (fun e a1 W1=>e = .normal∧∃ E1 L1,Rep N E1 [] a1∧Sep W S1 O1 W1 L1∧(∃ i,L1 i = .obj l rdy)∧∀ W2,W2=W1.putObj l busy→WT (Fence.wide.inRound l) 1 P N [.code body] (rndSH l busy (hdR (hd x b)) W S1 O1 V Vx (pre++[x])) E1 [] W2) (setE E (ps.toList.zip (val x b).toList)) [] W)
    (hdone:∀ (D:Nat) (xs:List α) (W:World) (LL:List Res),R xs→V xs LL→Sep w0 S O W (rl (LL++[dfr D]))→WT Fence.wide 3 P N t Q E (mark D::ds) W)
    (hstop:∀ (D:Nat) (c:Option Nat) (xs:List α) (W:World) (LL:List Res),Vx c xs LL→Sep w0 S O W (rl (LL++[dfr D]))→yiv P N t Q E (mark D::ds) W c) :
    WT Fence.wide 3 P N (.code (.rangeFunc fo ps assign body)::t) Q E ds w:=by
  refine wt_iterSH hS js gs hj hg hf hr he (val:=fun y:α×β=>val y.1 y.2) (hd:=fun y=>hd y.1 y.2) (rd:=fun y=>rd y.1 y.2) (Pr:=fun q=>Pr (q.map Prod.fst)) (R:=fun q=>R (q.map Prod.fst)) (fun y=>hps y.1 y.2) hpN (fun p LL=>V (p.map Prod.fst) LL) (fun c p LL=>Vx c (p.map Prod.fst) LL) h0 (fun T G hG=>(hgen T G hG).to) ?_ (fun D xs W LL hR hV hs=>hdone D _ W LL hR hV hs) (fun D c xs W LL hV hs=>hstop D c _ W LL hV hs)
  rintro l rdy busy S1 O1 pre ⟨x,b⟩ W LL hV hPr hrd hs1
  have hb:=hround l rdy busy S1 O1 (pre.map Prod.fst) x b W LL hV (by simpa using hPr) hrd hs1
  intro a ra bb k cs h1 h2 h3
  obtain ⟨e,a',w',⟨rfl,E1,L1,r1,s1,hi,hq⟩,harr⟩:=hb a ra bb k cs h1 h2 h3
  refine ⟨.normal,a',w',⟨rfl,E1,L1,r1,s1,hi,fun W2 hW2=>?_⟩,harr⟩
  intro a2 ra2 b2 k2 cs2 g1 g2 g3
  obtain ⟨e,a3,w3,hq,harr3⟩:=hq W2 hW2 a2 ra2 b2 k2 cs2 g1 g2 g3
  exact ⟨e,a3,w3,rndSH_fst (by simp) hq,harr3⟩
def PsI{τ:Type}(c:Cod τ):List τ→(Option Addr×Nat×Nat×Hd)→BS→BS→World→Prop:=fun x b=>PsH (fun y:List τ×(Option Addr×Nat×Nat×Hd)=>y.2.2.2.2) (fun y=>FP.sl c y.2.1 y.2.2.1 y.2.2.2.1 y.1) (x,b)
theorem OwnC.hand{τ:Type}{f:Fl τ}{B:Nat}{O:BS}{w:World}{e:TypeId}{A:Option Addr}{l cap:Nat}{xs:List τ}(h:OwnC f.cod B O w e A l cap xs) :
    ∃ hd:Hd,hd.at (fun k=>A.map (·.block)=some k) w∧hd.rd (FP.sl f.cod A l cap xs):=by
  obtain ⟨h1,cells,⟨h2,h3⟩,h4⟩:=h
  rcases h3 with ⟨rfl,rfl,rfl⟩ | ⟨g,o,cur,rfl,hb,hg,h5,h6,h7,h8⟩
  · refine ⟨none,trivial,fun O' w' _=>?_⟩
    have:xs=[]:=List.eq_nil_of_length_eq_zero h1.symm
    subst this
    exact ⟨rfl,Nat.le_refl _,Sl.nil _ _ _ _⟩
  · refine ⟨some (g,cur,e),⟨rfl,hg⟩,fun O' w' hk=>?_⟩
    have hg':w'.heap[g]? = some (.cells cur e (0,0)):=hk.2
    have h':OwnC f.cod 0 O' w' e (some ⟨g,o,none⟩) l cap xs:=⟨h1,cells,⟨h2, .inr ⟨g,o,cur,rfl,Nat.zero_le _,hg',h5,h6,h7,h8⟩⟩,h4⟩
    exact h'.rd (fun _ _ h=>h.elim) fun _ _=>id
theorem Hd.at.mono{hd:Hd}{G G':BS}{W:World}(h:hd.at G W)(hg:∀ k,G k→G' k):hd.at G' W:=by
  unfold Hd.at at *
  split
  · trivial
  · rename_i b cs e
    exact ⟨hg _ h.1,h.2⟩
theorem Sep.handed{τ:Type}{w0 w:World}{S O:BS}{L:Hold}(h:Sep w0 S O w L)(i:Nat){f:Fl τ}{e:TypeId}{A:Option Addr}{l cap:Nat}{xs:List τ}(hi:L i = .own f.cod e A l cap xs) :
    ∃ hd:Hd,hd.at (OwnB L) w∧hd.rd (FP.sl f.cod A l cap xs):=by
  have ho:=h.ok i
  rw [hi] at ho
  obtain ⟨hd,h1,h2⟩:=OwnC.hand ho
  exact ⟨hd,h1.mono fun k hk=>⟨i,by rw [hi];exact hk⟩,h2⟩
end Go.Proofs.YtadpnlimiblniaaGreat

namespace Go.Proofs.YtadpnlimiblniaaGreat
open Go Go.RowKit Go.Shelf Go.Proofs.Tryz
section
variable {P : Program} {E : Env} {w : World} {d : Option Tmp} {ty : TypeId} {ps : String} {af : Array Edge} {g : Option (Nat × Bool)} {x y : Operand} {xt yt : TypeId}
end
def rowT' (sz:Nat)(r:List Value):List Value:=if r.length=sz∧∀ u∈r,u.oneCell'=true then r else List.replicate sz (.bool false)
end Go.Proofs.YtadpnlimiblniaaGreat

namespace Go.Proofs.YtadpnlimiblniaaGreat
open Go Go.Proofs.Tryz
section
variable {P : Program} {ops : Array Oper} {Q : Act → World → Prop} {F : Fence} {n : Nat} {Q' : Exit → Act → World → Prop}
end
section
variable {F : Fence} {n : Nat} {P : Program} {N : Nat} {Q : Exit → Act → World → Prop} {E : Env} {ds : List Deferred} {w : World} {t : List Item}
end
section
variable {P : Program} {ops : Array Oper} {Q : Act → World → Prop} {F : Fence} {n : Nat} {Q' : Exit → Act → World → Prop}
end
section
variable {F : Fence} {n : Nat} {P : Program} {N : Nat} {Q : Exit → Act → World → Prop} {E : Env} {ds : List Deferred} {w : World} {t : List Item}
end
inductive OT where
  | nil:OT
  | one (i:Nat) (s:List Nat) (t:OT):OT
  | both (a b:OT):OT
namespace OT
def ids:OT→List Nat
  | nil=>[]
  | one i _ t=>i::t.ids
  | both a b=>a.ids++b.ids
def nodes:OT→List (Nat×List Nat)
  | nil=>[]
  | one i s t=>(i,s)::t.nodes
  | both a b=>a.nodes++b.nodes
def cands:OT→List Nat
  | nil=>[]
  | one i _ _=>[i]
  | both a b=>a.cands++b.cands
def len:OT→Nat
  | nil=>0
  | one _ _ t=>t.len+1
  | both a b=>max a.len b.len
def same(a b:OT):Bool:=(a.ids.all fun i=>b.ids.contains i)&&(b.ids.all fun i=>a.ids.contains i)
end OT
def okN(ops:Array Oper)(j:Nat)(x:Nat×List Nat):Bool :=
  match ops[j]?,ops[x.1]? with
  | some oj,some oi=>!(x.1==j)&&(oj.after.all fun e=>!Region.binds .any e || !(e.on==x.1))&&((ya9 oj.op&&oj.apart ops oi&&(ya9 oi.op || (ybQ oi.op&&x.2.contains j))) || dep ops ops.size j x.1)
  | _,_=>false
def OT.ok(ops:Array Oper):Option (List Nat)→OT→Bool
  | none, .nil=>true
  | some _, .nil=>false
  | none, .one j s t=>OT.ok ops none t&&t.nodes.all (okN ops j)
  | some c, .one p s t=>OT.ok ops none t&&(match ops[p]? with | some o=>ybQ o.op && !ya9 o.op&&t.nodes.all fun x=>!(x.1==p)&&(o.after.all fun e=>!Region.binds .any e || !(e.on==x.1))&&(c.contains x.1 || c.any fun q=>dep ops ops.size q x.1) | none=>false)
  | c, .both a b=>let c':=c.getD (a.cands++b.cands);OT.ok ops (some c') a&&OT.ok ops (some c') b&&OT.same a b
section
variable {P : Program} {ops : Array Oper} {Q : Act → World → Prop} {i j : Nat}
end
section
variable {F : Fence} {n : Nat} {P : Program} {N : Nat} {Q : Exit → Act → World → Prop} {E : Env} {ds : List Deferred} {w : World} {t : List Item}
end
section
variable {P : Program} {N : Nat} {ops : Array Oper} {Qa : Act → World → Prop} {pend : List (Nat × Sem Next × Value)} {E : Env} {ds : List Deferred} {w : World} {i : Nat} {s : List Nat} {T T1 T2 : OT}
variable {d : Nat} {op : Op} {ty : TypeId} {ps : String} {af : Array Edge} {g : Option (Nat × Bool)}
end
end Go.Proofs.YtadpnlimiblniaaGreat

namespace Go.Proofs.YtadpnlimiblniaaGreat
open Go Go.RowKit Go.Shelf Go.Proofs.Tryz
theorem tn_lt{a:Int}{n:Nat}(h:0≤a∧a<(n:Int)):a.toNat<n:=by omega
def fA:Fl (Option Addr×Nat×Nat):=⟨1,fun x=>[.slice x.1 x.2.1 x.2.2],fun _=>rfl,fun x u hu=>by rw [List.mem_singleton] at hu;subst hu;rfl⟩
def cA:Cod (Option Addr×Nat×Nat):=fA.cod
def rowH(g:Nat)(xs:List Int):Option Addr×Nat×Nat:=(some ⟨g,0,none⟩,xs.length,xs.length)
def ows(G:List Nat)(T:List (List Int)):List (Option Addr×Nat×Nat):=List.zipWith rowH G T
def rowA(G:List Nat)(a:Int):Option Addr:=some ⟨G.getD a.toNat 0,0,none⟩
theorem ows_len{G:List Nat}{T:List (List Int)}(h:G.length=T.length):(ows G T).length=T.length:=by simp [ows,h]
theorem ows_get{G:List Nat}{T:List (List Int)}{k g:Nat}{xs:List Int}(hg:G[k]? = some g)(hx:T[k]? = some xs):(ows G T)[k]? = some (rowH g xs):=by
  simp [ows,List.getElem?_zipWith,hg,hx]
theorem ows_snoc{G:List Nat}{T:List (List Int)}(h:G.length=T.length)(g:Nat)(xs:List Int):ows (G++[g]) (T++[xs])=ows G T++[rowH g xs]:=by
  unfold ows
  rw [List.zipWith_append h];rfl
theorem ows_set{G:List Nat}{T:List (List Int)}{a:Nat}{xs ys:List Int}(hx:T[a]? = some xs)(hl:ys.length=xs.length):ows G (T.set a ys)=ows G T:=by
  apply List.ext_getElem?
  intro k
  simp only [ows,List.getElem?_zipWith,List.getElem?_set]
  by_cases hk:a=k
  · subst hk
    have:a<T.length:=(List.getElem?_eq_some_iff.1 hx).1
    rw [hx]
    cases G[a]? <;> simp [this,rowH,hl]
  · simp [hk]
section
variable {w0 w w' : World} {S O : Nat → Prop} {L : Hold} {e e2 : TypeId} {G : List Nat} {T : List (List Int)}
theorem Sep.rowsl(h:Sep w0 S O w L)(i:Nat)(hi:L i = .rows e G T):G.length=T.length:=by
  have:=h.ok i;rw [hi] at this;exact this.2.1
theorem Sep.rowsnil(h:Sep w0 S O w L)(i:Nat)(hi:L i = .gone)(e:TypeId):Sep w0 S O w (stl L i (.rows e [] [])) :=
  h.add i hi _ (Keeps.refl _ _) (fun k hk=>by cases hk) ⟨List.nodup_nil,rfl,fun k g xs hg=>by simp at hg⟩
theorem Sep.rowadd(h:Sep w0 S O w L)(i j:Nat)(hij:Nat.beq i j=false)(hi:L i = .rows e G T){g l:Nat}{xs:List Int}(hj:L j = .own cI e (some ⟨g,0,none⟩) l l xs):Sep w0 S O w (stl (stl L j .gone) i (.rows e (G++[g]) (T++[xs]))):=by
  have hij:i≠j:=fun q=>by subst q;simp at hij
  have hri:=h.ok i
  rw [hi] at hri
  have hrj:=h.own j hj
  have hgG:g∉G:=fun hm=>hij (h.nd i j g (by rw [hi];exact hm) (by rw [hj];exact rfl))
  have hl:l=xs.length:=hrj.1
  have hsub:∀ k,Bl O (stl (stl L j .gone) i (.rows e (G++[g]) (T++[xs]))) k→Bl O L k:=by
    rintro k (q | ⟨x,hx⟩)
    · exact .inl q
    · by_cases e1:x=i
      · subst e1
        rw [yaJ] at hx
        rcases List.mem_append.1 hx with q | q
        · exact .inr ⟨x,by rw [hi];exact q⟩
        · rw [List.mem_singleton] at q;subst q;exact .inr ⟨j,by rw [hj];exact rfl⟩
      · rw [yaC _ _ e1] at hx
        by_cases e2:x=j
        · subst e2;rw [yaJ] at hx;cases hx
        · rw [yaC _ _ e2] at hx;exact .inr ⟨x,hx⟩
  have hhas:∀ x k,(stl (stl L j .gone) i (.rows e (G++[g]) (T++[xs])) x).has k→(x=i∧(k∈G∨k=g))∨(x≠i∧x≠j∧(L x).has k):=by
    intro x k hx
    by_cases e1:x=i
    · subst e1
      rw [yaJ] at hx
      refine .inl ⟨rfl,?_⟩
      rcases List.mem_append.1 hx with q | q
      · exact .inl q
      · exact .inr (List.mem_singleton.1 q)
    · rw [yaC _ _ e1] at hx
      by_cases e2:x=j
      · subst e2;rw [yaJ] at hx;cases hx
      · rw [yaC _ _ e2] at hx;exact .inr ⟨e1,e2,hx⟩
  refine h.step (T:=no) (Keeps.refl _ _) (fun _ _ h=>h.elim) (fun x k hk => .inl ?_) (fun x=>?_) (fun a b k ha hb=>?_)
  · rcases hhas x k hk with ⟨rfl,q | rfl⟩ | ⟨_,_,q⟩
    · exact ⟨x,by rw [hi];exact q⟩
    · exact ⟨j,by rw [hj];exact rfl⟩
    · exact ⟨x,q⟩
  · by_cases e1:x=i
    · subst e1
      rw [yaJ]
      refine .inr ⟨?_,by simp [hri.2.1],fun k g' xs' hg' hx'=>?_⟩
      · rw [List.nodup_append]
        refine ⟨hri.1,by simp,fun a ha b hb=>?_⟩
        rw [List.mem_singleton] at hb;subst hb
        exact fun q=>hgG (q▸ha)
      · have hfl:∀ {O1 O2:Nat→Prop} {A:Option Addr} {l c:Nat} {xs:List Int},OwnC cI 0 O1 w e A l c xs→OwnC cI 0 O2 w e A l c xs:=fun ⟨a,cells,b,c⟩=>⟨a,cells,b,c⟩
        rcases Nat.lt_or_ge k G.length with q | q
        · rw [List.getElem?_append_left q] at hg'
          rw [List.getElem?_append_left (by rw [←hri.2.1];exact q)] at hx'
          exact hfl (hri.2.2 k g' xs' hg' hx')
        · rw [List.getElem?_append_right q] at hg'
          rw [List.getElem?_append_right (by rw [←hri.2.1];exact q)] at hx'
          have hk0:k-G.length=0:=by
            have:=(List.getElem?_eq_some_iff.1 hg').1
            simp at this;omega
          have hk1:k-T.length=0:=by rw [←hri.2.1];exact hk0
          rw [hk0] at hg';rw [hk1] at hx'
          simp at hg' hx'
          subst hg';subst hx'
          have:=hfl (O2:=Bl O (stl (stl L j .gone) x (.rows e (G++[g]) (T++[xs])))) hrj
          rw [hl] at this
          exact this
    · rw [yaC _ _ e1]
      by_cases e2:x=j
      · subst e2;rw [yaJ];exact .inr trivial
      · rw [yaC _ _ e2];exact .inl ⟨x,rfl,fun _ _=>id⟩
  · rcases hhas a k ha with ⟨rfl,qa⟩ | ⟨a1,a2,qa⟩
    · rcases hhas b k hb with ⟨rfl,qb⟩ | ⟨b1,b2,qb⟩
      · rfl
      · rcases qa with qa | rfl
        · exact absurd (h.nd a b k (by rw [hi];exact qa) qb).symm b1
        · exact absurd (h.nd j b k (by rw [hj];exact rfl) qb).symm b2
    · rcases hhas b k hb with ⟨rfl,qb⟩ | ⟨b1,b2,qb⟩
      · rcases qb with qb | rfl
        · exact absurd (h.nd a b k qa (by rw [hi];exact qb)) a1
        · exact absurd (h.nd a j k qa (by rw [hj];exact rfl)) a2
      · exact h.nd a b k qa qb
theorem Sep.rowown(h:Sep w0 S O w L)(i:Nat)(hi:L i = .rows e G T){a:Int}(ha:0≤a∧a<(T.length:Int)):OwnC cI 0 (Bl O L) w e (rowA G a) (gx T a.toNat).length (gx T a.toNat).length (gx T a.toNat):=by
  have hri:=h.ok i
  rw [hi] at hri
  have h1:a.toNat<T.length:=by omega
  have h2:a.toNat<G.length:=by rw [hri.2.1];exact h1
  have:=hri.2.2 a.toNat G[a.toNat] (gx T a.toNat) (List.getElem?_eq_getElem h2) (yfY h1)
  have e:rowA G a=some ⟨G[a.toNat],0,none⟩:=by simp [rowA,h2]
  rw [e];exact this
theorem Sep.rowfp(h:Sep w0 S O w L)(i:Nat)(hi:L i = .rows e G T){a:Int}(ha:0≤a∧a<(T.length:Int)):(FP.sl cI (rowA G a) (gx T a.toNat).length (gx T a.toNat).length (gx T a.toNat)).P no w :=
  (h.rowown i hi ha).rd (fun _ _ h=>h.elim) fun _ _=>id
theorem Sep.rowcell(h:Sep w0 S O w L)(i j:Nat)(hi:L i = .rows e G T){A:Option Addr}{l cap:Nat}(hj:L j = .own cA e2 A l cap (ows G T)){a:Int}(ha:0≤a∧a<(T.length:Int)):w.cell? (ixA A a 1)=some (.slice (rowA G a) (gx T a.toNat).length (gx T a.toNat).length):=by
  have hl:=h.rowsl i hi
  have h1:a.toNat<T.length:=by omega
  have h2:a.toNat<G.length:=by omega
  have:=rd_1 (f:=fA) (h.rdo j hj) (i:=a) (by rw [ows_len hl];exact ha) (x:=rowH G[a.toNat] (gx T a.toNat)) (fun _=>ows_get (List.getElem?_eq_getElem h2) (yfY h1)) (u := .slice (rowA G a) (gx T a.toNat).length (gx T a.toNat).length) (by simp [fA,rowH,rowA,h2])
  exact this
theorem Sep.rowix(h:Sep w0 S O w L)(i j:Nat)(hi:L i = .rows e G T){A:Option Addr}{l cap:Nat}(hj:L j = .own cA e2 A l cap (ows G T)){a:Int}(ha:0≤a∧a<(T.length:Int)):Ix A l a :=
  yaP (h.rdo j hj) (by rw [ows_len (h.rowsl i hi)];exact ha)
theorem Sep.rowwr(h:Sep w0 S O w L)(i:Nat)(hi:L i = .rows e G T){a:Int}(ha:0≤a∧a<(T.length:Int)){b:Int}(hb:0≤b∧b<((gx T a.toNat).length:Int)):Wr w (ixA (rowA G a) b 1):=by
  obtain ⟨hl,cells,ho,hE⟩:=h.rowown i hi ha
  obtain ⟨vs,hR,hu⟩:=hE b.toNat (gx T a.toNat)[b.toNat] (List.getElem?_eq_getElem (by omega))
  have hv:=cI.len hR
  obtain ⟨v,rfl⟩:=List.length_eq_one_iff.1 hv
  obtain ⟨g,o,hA,_,h1,h2⟩:=ho.cellAt (hu 0 v rfl)
  have ho0:o=0∧G.getD a.toNat 0=g:=by unfold rowA at hA;injection hA with hA;injection hA with q1 q2;exact ⟨q2.symm,q1⟩
  unfold rowA
  rw [ygX,ho0.2]
  rw [ho0.1] at h1 h2
  have hsz:cI.sz=1:=rfl
  rw [hsz,Nat.add_zero] at h1 h2
  exact ⟨by rw [h1];rfl,h2⟩
theorem Sep.rowst(h:Sep w0 S O w L)(i:Nat)(hi:L i = .rows e G T){a:Int}(ha:0≤a∧a<(T.length:Int)){b:Int}(hb:0≤b∧b<((gx T a.toNat).length:Int))(v:Int)(e1:w'=w.setCell (ixA (rowA G a) b 1) (.int .i64 v)):Sep w0 S O w' (stl L i (.rows e G (T.set a.toNat ((gx T a.toNat).set b.toNat v)))):=by
  have hri:=h.ok i
  rw [hi] at hri
  have h1:a.toNat<T.length:=by omega
  have h2:a.toNat<G.length:=by rw [hri.2.1];exact h1
  have hA:rowA G a=some ⟨G[a.toNat],0,none⟩:=by simp [rowA,h2]
  rw [hA,ygX,Nat.mul_one,Nat.zero_add] at e1
  have hK:Keeps (fun j=>j=G[a.toNat]) w w':=by rw [e1];exact (Keeps.refl (fun j=>j=G[a.toNat]) w).setCell (p:=⟨G[a.toNat],b.toNat,none⟩) (fun _=>rfl) _
  refine h.upd i _ hK (fun j _ hj=>by rw [hi,hj];exact List.getElem_mem h2) (fun j hj => .inl (by rw [hi];exact hj)) ⟨hri.1,by rw [List.length_set];exact hri.2.1,fun k g xs hg hx=>?_⟩
  by_cases q:a.toNat=k
  · subst q
    rw [List.getElem?_set,if_pos rfl,if_pos h1] at hx
    rw [List.getElem?_eq_getElem h2] at hg
    cases hg;cases hx
    obtain ⟨hl,cells,ho,hE⟩:=hri.2.2 a.toNat G[a.toNat] (gx T a.toNat) (List.getElem?_eq_getElem h2) (yfY h1)
    have hbl:b.toNat<(gx T a.toNat).length:=by omega
    have hcl:cells.length=(gx T a.toNat).length:=by rw [ho.1];exact Nat.mul_one _
    have ho2:=ho.set1 (i:=b.toNat) (by omega) (.int .i64 v) rfl
    refine ⟨rfl,cells.set b.toNat (.int .i64 v),?_,fun t y hy=>?_⟩
    · rw [e1,List.length_set]
      simpa using ho2
    · rw [List.getElem?_set] at hy
      by_cases q2:b.toNat=t
      · subst q2
        rw [if_pos rfl,if_pos hbl] at hy
        cases hy
        refine ⟨[.int .i64 v],rfl,fun s u hs=>?_⟩
        have hs0:s=0:=by
          have:=(List.getElem?_eq_some_iff.1 hs).1
          simp at this;exact this
        subst hs0
        simp at hs
        subst hs
        show (cells.set b.toNat _)[b.toNat*1+0]? = _
        rw [Nat.mul_one,Nat.add_zero,List.getElem?_set,if_pos rfl,if_pos (by omega)]
      · rw [if_neg q2] at hy
        obtain ⟨vs,hR,hu⟩:=hE t y hy
        refine ⟨vs,hR,fun s u hs=>?_⟩
        have hs0:s=0:=by
          have:=(List.getElem?_eq_some_iff.1 hs).1
          have hv:vs.length=1:=cI.len hR
          omega
        have:=hu s u hs
        rw [List.getElem?_set,if_neg (by show ¬b.toNat=t*1+s;omega)]
        exact this
  · rw [List.getElem?_set,if_neg q] at hx
    obtain ⟨hl,cells,ho,hE⟩:=hri.2.2 k g xs hg hx
    have hne:g≠G[a.toNat]:=fun e=>q (by
      obtain ⟨hk,e2⟩:=List.getElem?_eq_some_iff.1 hg
      exact ((List.getElem_inj hri.1).1 (e2.trans e)).symm)
    exact ⟨hl,cells,ho.keep_ fun k' hk=>by cases hk;exact hK.block g (ho.at_ rfl).2 hne,fun t y hy=>hE t y hy⟩
theorem Sep.rowre(h:Sep w0 S O w L)(j:Nat){A:Option Addr}{l cap:Nat}(hj:L j = .own cA e2 A l cap (ows G T)){T':List (List Int)}(e:ows G T'=ows G T):Sep w0 S O w (stl L j (.own cA e2 A l cap (ows G T'))):=by
  have:stl L j (.own cA e2 A l cap (ows G T'))=L:=by
    funext k
    by_cases q:k=j
    · subst q;rw [yaJ,e,hj]
    · rw [yaC _ _ q]
  rw [this];exact h
theorem Sep.rowfrz(h:Sep w0 S O w L)(i j:Nat)(hij:Nat.beq i j=false)(hi:L i = .rows e G T){A:Option Addr}{l cap:Nat}(hj:L j = .own cA e2 A l cap (ows G T)):Sep w0 S O w (stl (stl L i .gone) j (.own (cL cI) e2 A l cap T)):=by
  have hij:i≠j:=fun q=>by subst q;simp at hij
  have hri:=h.ok i
  rw [hi] at hri
  obtain ⟨hl,cells,ho,hE⟩:=h.own j hj
  have hlen:=ows_len hri.2.1
  have hhas:∀ x k,(stl (stl L i .gone) j (.own (cL cI) e2 A l cap T) x).has k→x≠i∧(L x).has k:=by
    intro x k hx
    by_cases e1:x=j
    · subst e1;rw [yaJ] at hx;exact ⟨hij.symm,by rw [hj];exact hx⟩
    · rw [yaC _ _ e1] at hx
      by_cases e2:x=i
      · subst e2;rw [yaJ] at hx;cases hx
      · rw [yaC _ _ e2] at hx;exact ⟨e2,hx⟩
  have hnb:∀ g,g∈G→¬Bl O (stl (stl L i .gone) j (.own (cL cI) e2 A l cap T)) g:=by
    rintro g hg (q | ⟨x,hx⟩)
    · have h1:=h.lt g q
      rcases h.bd i g (by rw [hi];exact hg) with h2 | h2
      · omega
      · exact h1.2 h2
    · obtain ⟨h1,h2⟩:=hhas x g hx
      exact h1 (h.nd x i g h2 (by rw [hi];exact hg))
  refine h.step (T:=no) (Keeps.refl _ _) (fun _ _ h=>h.elim) (fun x k hk => .inl ⟨x,(hhas x k hk).2⟩) (fun x=>?_) (fun a b k ha hb=>h.nd a b k (hhas a k ha).2 (hhas b k hb).2)
  by_cases e1:x=j
  · subst e1
    rw [yaJ]
    refine .inr ⟨by rw [hl,hlen],cells,ho,fun k xs hx=>?_⟩
    have hkT:k<T.length:=(List.getElem?_eq_some_iff.1 hx).1
    have hkG:k<G.length:=by rw [hri.2.1];exact hkT
    obtain ⟨vs,hR,hu⟩:=hE k _ (ows_get (List.getElem?_eq_getElem hkG) hx)
    have hvs:vs=[.slice (some ⟨G[k],0,none⟩) xs.length xs.length]:=hR
    refine ⟨vs,⟨_,_,_,hvs,rfl,Nat.le_refl _,?_⟩,hu⟩
    have:=(hri.2.2 k G[k] xs (List.getElem?_eq_getElem hkG) hx).rd (O':=Bl O (stl (stl L i .gone) x (.own (cL cI) e2 A l cap T))) (fun k _ hk=>by
      rcases hk with q | ⟨y,hy⟩
      · exact .inl q
      · exact .inr ⟨y,(hhas y k hy).2⟩) (fun k' hk'=>by cases hk';exact hnb _ (List.getElem_mem hkG))
    exact this.2.2
  · rw [yaC _ _ e1]
    by_cases e2:x=i
    · subst e2;rw [yaJ];exact .inr trivial
    · rw [yaC _ _ e2];exact .inl ⟨x,rfl,fun _ _=>id⟩
theorem Sep.tabnil(h:Sep w0 S O w L)(i j:Nat)(hi:L i = .gone)(hj:L j = .gone)(d:Nat.beq j i=false)(e2 e:TypeId):Sep w0 S O w (stl (stl L i (.own cA e2 none 0 0 (ows [] []))) j (.rows e [] [])) :=
  Sep.rowsnil (h.nil i hi cA e2) j (by rw [yaC _ _ (fun q=>by subst q;simp at d)];exact hj) e
theorem Sep.rowpush(h:Sep w0 S O w L)(i j k:Nat)(d1:Nat.beq j i=false)(d2:Nat.beq j k=false)(d3:Nat.beq i k=false)(hi:L i = .rows e G T){A:Option Addr}{l cap g m:Nat}{xs:List Int}(hj:L j = .own cA e2 A l cap (ows G T++[(some ⟨g,0,none⟩,m,m)]))(hk:L k = .own cI e (some ⟨g,0,none⟩) m m xs) :
    Sep w0 S O w (stl (stl (stl L k .gone) i (.rows e (G++[g]) (T++[xs]))) j (.own cA e2 A l cap (ows (G++[g]) (T++[xs])))):=by
  have hm:m=xs.length:=(h.own k hk).1
  have hl:=h.rowsl i hi
  have h2:=h.rowadd i k d3 hi hk
  have e1:ows (G++[g]) (T++[xs])=ows G T++[(some ⟨g,0,none⟩,m,m)]:=by rw [ows_snoc hl,hm];rfl
  have n1:j≠i:=fun q=>by subst q;simp at d1
  have n2:j≠k:=fun q=>by subst q;simp at d2
  have:stl (stl (stl L k .gone) i (.rows e (G++[g]) (T++[xs]))) j (.own cA e2 A l cap (ows (G++[g]) (T++[xs])))=stl (stl L k .gone) i (.rows e (G++[g]) (T++[xs])):=by
    funext x
    by_cases q:x=j
    · subst q;rw [yaJ,yaC _ _ n1,yaC _ _ n2,hj,e1]
    · rw [yaC _ _ q]
  rw [this];exact h2
end
end Go.Proofs.YtadpnlimiblniaaGreat

namespace Go.Proofs.YtadpnlimiblniaaGreat
open Go Go.Proofs.Tryz
def Cnt(N:Nat)(P:Nat→Prop)(m:Nat)(v:Int):Prop:=∃ k:Nat,m=N-k∧v=(k:Int)∧k≤N∧P k
theorem Cnt.start{N:Nat}{P:Nat→Prop}(h:P 0):∃ m0,Cnt N P m0 0:=⟨N,0,rfl,rfl,Nat.zero_le _,h⟩
theorem Cnt.next{N:Nat}{P:Nat→Prop}{k:Nat}(hk:k<N)(hN:N≤1000000000000)(h:P (k+1)):In64 ((k:Int)+1)∧∃ m',m'<N-k∧Cnt N P m' ((k:Int)+1) :=
  ⟨⟨by omega,by omega⟩,N-(k+1),by omega,k+1,rfl,by omega,by omega,h⟩
theorem i64{a:Int}(h : -9000000000000000000≤a∧a≤9000000000000000000):In64 a:=⟨by omega,by omega⟩
def upto(f:Nat→Int)(k n:Nat):List Int:=(List.range n).map fun i=>if i<k then f i else 0
theorem ydv(f:Nat→Int)(k n:Nat):(upto f k n).length=n:=by simp [upto]
theorem gi_upto(f:Nat→Int)(k n i:Nat)(hi:i<n):gi (upto f k n) i=if i<k then f i else 0:=by
  rw [yaN (by rw [ydv];exact hi)];simp [upto]
theorem upto_zero(f:Nat→Int)(n:Nat):upto f 0 n=List.replicate n 0:=by
  refine List.ext_getElem (by simp [ydv]) fun i h1 h2=>?_
  simp [upto]
theorem upto_set(f:Nat→Int){k n:Nat}(hk:k<n):(upto f k n).set k (f k)=upto f (k+1) n:=by
  refine ygi (by simp [ydv]) fun i hi=>?_
  rw [List.length_set,ydv] at hi
  rw [ycQ (by rw [ydv];exact hk),gi_upto _ _ _ _ hi,gi_upto _ _ _ _ hi]
  by_cases e:i=k
  · subst e;simp
  · rw [if_neg e]
    by_cases h:i<k
    · rw [if_pos h,if_pos (by omega)]
    · rw [if_neg h,if_neg (by omega)]
def tab(f:Nat→Int)(n:Nat):List Int:=(List.range n).map f
theorem yc6(f:Nat→Int)(n:Nat):(tab f n).length=n:=by simp [tab]
theorem ygt(f:Nat→Int){n i:Nat}(hi:i<n):gi (tab f n) i=f i:=by rw [yaN (by rw [yc6];exact hi)];simp [tab]
theorem upto_all(f:Nat→Int)(n:Nat):upto f n n=tab f n:=by
  refine ygi (by simp [ydv,yc6]) fun i hi=>?_
  rw [ydv] at hi
  rw [gi_upto _ _ _ _ hi,if_pos hi,ygt _ hi]
theorem tab_congr{f g:Nat→Int}{n:Nat}(h:∀ i,i<n→f i=g i):tab f n=tab g n:=by
  refine ygi (by simp [yc6]) fun i hi=>?_
  rw [yc6] at hi
  rw [ygt _ hi,ygt _ hi,h i hi]
theorem yiV{f:Nat→Int}{B:Int}(hB:0≤B):∀ {n:Nat},(∀ i,i<n → -B≤f i∧f i≤B) → -(n*B)≤sm n f∧sm n f≤n*B
  | 0,_=>by simp [sm]
  | n+1,h=>by
    have ih:=yiV hB (n:=n) fun i hi=>h i (by omega)
    have:=h n (by omega)
    rw [sm,show ((n+1:Nat):Int)*B=n*B+B by rw [Int.natCast_add,Int.add_mul];simp]
    omega
def dg(d:List Int):Int:=sm d.length (gi d)
end Go.Proofs.YtadpnlimiblniaaGreat

namespace Go.Proofs.YtadpnlimiblniaaGreat
open Go Go.Proofs.Tryz
def ydX(n:Nat)(k:Int):List Int:=List.replicate (n-1) 0++[k]
def ygQ:List Int→Option (List Int)
  | []=>none
  | k::t=>match ygQ t with
    | some t'=>some (k::t')
    | none=>if t.sum=0 then none else some ((k+1)::ydX t.length (t.sum-1))
theorem ygN{k:Int}{t t':List Int}(h:ygQ t=some t'):ygQ (k::t)=some (k::t'):=by simp [ygQ,h]
theorem yeS{k:Int}{t:List Int}(h:ygQ t=none):ygQ (k::t)=if t.sum=0 then none else some ((k+1)::ydX t.length (t.sum-1)):=by simp [ygQ,h]
theorem yii:∀ (d:List Int),(∀ v,v+2≤d.length→(d.drop (v+1)).sum=0)→ygQ d=none
  | [],_=>rfl
  | k::t,h=>by
    have h1:ygQ t=none:=yii t fun v hv=>by
      have:=h (v+1) (by simp;omega)
      simpa using this
    rw [yeS h1]
    cases t with
    | nil=>rfl
    | cons a u =>
      have:=h 0 (by simp)
      simp only [Nat.zero_add,List.drop_one,List.tail_cons] at this
      rw [if_pos this]
theorem nextF_some:∀ (d:List Int) (v:Nat),v+2≤d.length→(d.drop (v+1)).sum≠0→(∀ w,v<w→w+2≤d.length→(d.drop (w+1)).sum=0) →
    ygQ d=some (d.take v++(gi d v+1)::ydX (d.length-v-1) ((d.drop (v+1)).sum-1))
  | [],_,h,_,_=>absurd h (by simp)
  | k::t,0,h,h1,h2=>by
    have h3:ygQ t=none:=yii t fun w hw=>by
      have:=h2 (w+1) (by omega) (by simp;omega)
      simpa using this
    rw [yeS h3]
    simp only [Nat.zero_add,List.drop_one,List.tail_cons] at h1 ⊢
    rw [if_neg h1]
    simp [gi]
  | k::t,v+1,h,h1,h2=>by
    have ih:=nextF_some t v (by simp at h;omega) (by simpa using h1) fun w hw hw2=>by
      have:=h2 (w+1) (by omega) (by simp;omega)
      simpa using this
    rw [ygN ih]
    simp [gi]
theorem yhO{m:Nat}(hm:1≤m)(z:Int):(ydX m z).length=m:=by unfold ydX;simp;omega
theorem gi_firstF(m:Nat)(z:Int)(i:Nat):gi (ydX m z) i=if i=m-1 then z else 0:=by
  unfold ydX gi
  simp only [List.getD_eq_getElem?_getD,List.getElem?_append,List.length_replicate,List.getElem?_replicate]
  by_cases h:i<m-1
  · rw [if_pos h,if_pos h,if_neg (by omega)];rfl
  · rw [if_neg h]
    by_cases e:i=m-1
    · rw [if_pos e,e,Nat.sub_self];rfl
    · rw [if_neg e,List.getElem?_eq_none (by simp;omega)];rfl
theorem gi_next{d:List Int}{v:Nat}(hv:v+2≤d.length)(x z:Int){i:Nat}(hi:i<d.length):gi (d.take v++x::ydX (d.length-v-1) z) i=if i<v then gi d i else if i=v then x else if i+1=d.length then z else 0:=by
  have hg:∀ (l:List Int) k,gi l k=(l[k]?).getD 0:=fun l k=>by unfold gi;simp
  rw [hg,List.getElem?_append,List.length_take,Nat.min_eq_left (by omega)]
  by_cases h:i<v
  · rw [if_pos h,if_pos h,List.getElem?_take,if_pos h,←hg]
  · rw [if_neg h,if_neg h]
    by_cases e:i=v
    · rw [if_pos e,e,Nat.sub_self];rfl
    · rw [if_neg e,show i-v=(i-v-1)+1 by omega,List.getElem?_cons_succ,←hg,gi_firstF]
      by_cases e2:i+1=d.length
      · rw [if_pos e2,if_pos (by omega)]
      · rw [if_neg e2,if_neg (by omega)]
theorem next_length{d:List Int}{v:Nat}(hv:v+2≤d.length)(x z:Int):(d.take v++x::ydX (d.length-v-1) z).length=d.length:=by
  rw [List.length_append,List.length_take,List.length_cons,yhO (by omega)];omega
def ygn:List (List Int)→Option (List Int)→Prop
  | [],_=>False
  | [x],o=>ygQ x=o
  | x::y::t,o=>ygQ x=some y∧ygn (y::t) o
theorem ygn.append:∀ {A:List (List Int)} {b:List Int} {B:List (List Int)} {o:Option (List Int)},ygn A (some b)→ygn (b::B) o→ygn (A++b::B) o
  | [],_,_,_,h,_=>h.elim
  | [x],b,B,o,h,h2=>⟨h,h2⟩
  | x::y::t,b,B,o,h,h2=>⟨h.1,ygn.append (A:=y::t) h.2 h2⟩
theorem ygn.at_:∀ {A:List (List Int)} {d:List Int} {B:List (List Int)} {o:Option (List Int)},ygn (A++d::B) o→ygQ d=(B.head?.or o)
  | [],d,[],o,h=>h
  | [],d,b::B,o,h=>h.1
  | [x],d,B,o,h=>ygn.at_ (A:=[]) h.2
  | x::y::t,d,B,o,h=>ygn.at_ (A:=y::t) h.2
theorem ygn.map{s:Int}{m:Nat}(k:Int):∀ {L:List (List Int)},ygn L none→(∀ t∈L,t.sum=s∧t.length=m)→ygn (L.map (k :: ·)) (if s=0 then none else some ((k+1)::ydX m (s-1)))
  | [],h,_=>h.elim
  | [x],h,hs=>by
    have hx:=hs x (by simp)
    show ygQ (k::x)=_
    rw [yeS h,hx.1,hx.2]
  | x::y::t,h,hs=>⟨ygN h.1,ygn.map (L:=y::t) k h.2 fun u hu=>hs u (by simp [hu])⟩
def ycp:Nat→Nat→List (List Int)
  | 0,_=>[]
  | 1,k=>[[(k:Int)]]
  | n+2,k=>(List.range (k+1)).flatMap fun i=>(ycp (n+1) (k-i)).map ((i:Int) :: ·)
theorem yed:∀ (n k:Nat) (x:List Int),x∈ycp (n+1) k↔x.length=n+1∧(∀ a∈x,0≤a)∧x.sum=k
  | 0,k,x=>by
    show x∈[[(k:Int)]]↔_
    rw [List.mem_singleton]
    constructor
    · rintro rfl;simp
    · rintro ⟨h1,h2,h3⟩
      obtain ⟨a,rfl⟩:=List.length_eq_one_iff.1 h1
      simpa using h3
  | n+1,k,x=>by
    show x∈(List.range (k+1)).flatMap (fun i=>(ycp (n+1) (k-i)).map ((i:Int) :: ·))↔_
    rw [List.mem_flatMap]
    constructor
    · rintro ⟨i,hi,hx⟩
      rw [List.mem_range] at hi
      obtain ⟨t,ht,rfl⟩:=List.mem_map.1 hx
      obtain ⟨h1,h2,h3⟩:=(yed n (k-i) t).1 ht
      refine ⟨by simp [h1],fun a ha=>?_,?_⟩
      · rcases List.mem_cons.1 ha with rfl | ha
        · omega
        · exact h2 a ha
      · rw [List.sum_cons,h3];omega
    · rintro ⟨h1,h2,h3⟩
      cases x with
      | nil=>simp at h1
      | cons a t =>
        have ha:=h2 a (by simp)
        have hts:0≤t.sum:=by
          have:∀ l:List Int,(∀ a∈l,0≤a)→0≤l.sum:=fun l=>by
            induction l with
            | nil=>simp
            | cons b l ih=>intro h;rw [List.sum_cons];have:=h b (by simp);have:=ih fun c hc=>h c (by simp [hc]);omega
          exact this t fun b hb=>h2 b (by simp [hb])
        rw [List.sum_cons] at h3
        refine ⟨a.toNat,by rw [List.mem_range];omega,List.mem_map.2 ⟨t,(yed n (k-a.toNat) t).2 ⟨by simpa using h1,fun b hb=>h2 b (by simp [hb]),by omega⟩,?_⟩⟩
        rw [Int.toNat_of_nonneg ha]
theorem firstF_succ(n:Nat)(k:Int):ydX (n+2) k=0::ydX (n+1) k:=by
  unfold ydX
  rw [show n+2-1=n+1 by omega,show n+1-1=n by omega,List.replicate_succ];rfl
theorem yhl:∀ (n k:Nat),(∃ B,ycp (n+1) k=ydX (n+1) k::B)∧ygn (ycp (n+1) k) none
  | 0,k=>⟨⟨[],rfl⟩,rfl⟩
  | n+1,k=>by
    have blocks:∀ (j i:Nat),i+j=k→(∃ B,(List.range' i (j+1)).flatMap (fun i=>(ycp (n+1) (k-i)).map ((i:Int) :: ·))=((i:Int)::ydX (n+1) ((k-i:Nat):Int))::B)∧ygn ((List.range' i (j+1)).flatMap fun i=>(ycp (n+1) (k-i)).map ((i:Int) :: ·)) none:=by
      intro j
      induction j with
      | zero =>
        intro i hi
        have e:k-i=0:=by omega
        obtain ⟨⟨B,hB⟩,hs⟩:=yhl n (k-i)
        have e0:List.range' i (0+1)=[i]:=rfl
        rw [e0,List.flatMap_cons,List.flatMap_nil,List.append_nil]
        refine ⟨⟨B.map ((i:Int) :: ·),by rw [hB];rfl⟩,?_⟩
        have:=hs.map (s:=((k-i:Nat):Int)) (m:=n+1) (i:Int) fun t ht=>by
          obtain ⟨h1,h2,h3⟩:=(yed n (k-i) t).1 ht
          exact ⟨h3,h1⟩
        rwa [if_pos (by rw [e];rfl)] at this
      | succ j ih =>
        intro i hi
        obtain ⟨⟨B,hB⟩,hs⟩:=yhl n (k-i)
        obtain ⟨⟨B2,hB2⟩,hs2⟩:=ih (i+1) (by omega)
        rw [List.range'_succ,List.flatMap_cons]
        refine ⟨⟨B.map ((i:Int) :: ·)++_,by rw [hB];rfl⟩,?_⟩
        have:=hs.map (s:=((k-i:Nat):Int)) (m:=n+1) (i:Int) fun t ht=>by
          obtain ⟨h1,h2,h3⟩:=(yed n (k-i) t).1 ht
          exact ⟨h3,h1⟩
        rw [if_neg (by omega)] at this
        rw [hB2] at hs2 ⊢
        have e1:((k-i:Nat):Int)-1=((k-(i+1):Nat):Int):=by omega
        rw [e1] at this
        exact this.append hs2
    obtain ⟨⟨B,hB⟩,hs⟩:=blocks k 0 (by omega)
    have e:ycp (n+1+1) k=(List.range' 0 (k+1)).flatMap fun i=>(ycp (n+1) (k-i)).map ((i:Int) :: ·):=by
      rw [←List.range_eq_range'];rfl
    rw [e]
    refine ⟨⟨B,?_⟩,hs⟩
    rw [hB,firstF_succ];rfl
def subG(n:Nat):Nat→List Int→List (List Int)
  | 0,_=>[]
  | k+1,s=>((s++[((n-(k+1):Nat):Int)])::subG n k (s++[((n-(k+1):Nat):Int)]))++subG n k s
def yeV(n:Nat):List (List Int):=[]::subG n n []
def lstF(val:List Int→Int×Bool):List (List Int)→Int×List Int→Int×List Int
  | [],b=>b
  | y::t,b=>lstF val t (if (val y).2=true∧(b.1<0∨(val y).1<b.1) then ((val y).1,y) else b)
theorem yhX(val:List Int→Int×Bool):∀ (l:List (List Int)) (y:List Int) (b:Int×List Int),lstF val (l++[y]) b=if (val y).2=true∧((lstF val l b).1<0∨(val y).1<(lstF val l b).1) then ((val y).1,y) else lstF val l b
  | [],y,b=>rfl
  | x::t,y,b=>by rw [List.cons_append,lstF,lstF,yhX val t]
def ykF(n:Nat)(U:Nat→Bool):List Int:=((List.range n).filter U).map fun v:Nat=>(v:Int)
theorem ykO{n:Nat}{U:Nat→Bool}{x:Int} : x∈ykF n U↔∃ v:Nat,v<n∧U v=true∧x=v:=by
  simp only [ykF,List.mem_map,List.mem_filter,List.mem_range]
  constructor
  · rintro ⟨v,⟨h1,h2⟩,rfl⟩;exact ⟨v,h1,h2,rfl⟩
  · rintro ⟨v,h1,h2,rfl⟩;exact ⟨v,⟨h1,h2⟩,rfl⟩
theorem mem_vsetL' {n:Nat}{U:Nat→Bool}{v:Nat} : (v:Int)∈ykF n U↔v<n∧U v=true:=by
  rw [ykO]
  constructor
  · rintro ⟨w,h1,h2,h3⟩;have:v=w:=by omega
    subst this;exact ⟨h1,h2⟩
  · rintro ⟨h1,h2⟩;exact ⟨v,h1,h2,rfl⟩
theorem subG_is{n:Nat} : ∀ (k:Nat) (s:List Int),k≤n→∀ y∈s::subG n k s,∃ U:Nat→Bool,y=s++((List.range' (n-k) k).filter U).map fun v:Nat=>(v:Int)
  | 0,s,_,y,hy=>by
    simp only [subG,List.mem_singleton] at hy
    exact ⟨fun _=>true,by rw [hy];simp⟩
  | k+1,s,h,y,hy=>by
    have e:List.range' (n-(k+1)) (k+1)=(n-(k+1))::List.range' (n-k) k:=by
      rw [List.range'_succ,show n-(k+1)+1=n-k by omega]
    rw [subG] at hy
    have key:∀ (b:Bool) (U:Nat→Bool),((List.range' (n-k) k).filter fun v=>if v=n-(k+1) then b else U v)=(List.range' (n-k) k).filter U:=fun b U=>by
      refine List.filter_congr fun v hv=>?_
      rw [List.mem_range'_1] at hv
      rw [if_neg (by omega)]
    rcases List.mem_cons.1 hy with rfl | hy
    · refine ⟨fun _=>false,?_⟩
      rw [List.filter_eq_nil_iff.2 (by simp)];simp
    rcases List.mem_append.1 hy with hy | hy
    · obtain ⟨U,hU⟩:=subG_is k _ (by omega) y hy
      refine ⟨fun v=>if v=n-(k+1) then true else U v,?_⟩
      rw [e,List.filter_cons,if_pos (by simp),key,List.map_cons,hU,List.append_assoc,List.singleton_append]
    · obtain ⟨U,hU⟩:=subG_is k s (by omega) y (List.mem_cons_of_mem _ hy)
      refine ⟨fun v=>if v=n-(k+1) then false else U v,?_⟩
      rw [e,List.filter_cons,if_neg (by simp),key,hU]
theorem sets_is{n:Nat}{y:List Int}(h:y∈yeV n):∃ U:Nat→Bool,y=ykF n U:=by
  obtain ⟨U,hU⟩:=subG_is n [] (Nat.le_refl _) y h
  refine ⟨U,?_⟩
  rw [hU,List.nil_append,Nat.sub_self,←List.range_eq_range'];rfl
theorem vsetL_sorted(n:Nat)(U:Nat→Bool):(ykF n U).Pairwise (· < ·):=by
  unfold ykF
  rw [List.pairwise_map]
  refine List.Pairwise.imp (fun h=>?_) (List.Pairwise.filter U List.pairwise_lt_range)
  exact Int.ofNat_lt.2 h
def befF:List Int→List Int→Bool
  | [],[]=>false
  | [],_::_=>true
  | _::_,[]=>false
  | x::a,y::b=>if x=y then befF a b else decide (x<y)
theorem befF_irr:∀ a:List Int,befF a a=false
  | []=>rfl
  | x::a=>by rw [befF,if_pos rfl,befF_irr a]
theorem sets_order:∀ n,n<7→(yeV n).Pairwise (fun a b=>befF a b=true∧befF b a=false):=by decide +kernel
def yfm:Nat→Nat→Nat→List Int
  | 0,_,_=>[]
  | k+1,i,d=>(if d % 2=1 then [(i:Int)] else [])++yfm k (i+1) (d / 2)
def yeM(n:Nat):List (List Int):=(List.range (2^n)).map (yfm n 0)
theorem subs_sets:∀ n,n<7→∀ y∈yeM n,y∈yeV n:=by decide +kernel
theorem sets_subs:∀ n,n<7→∀ y∈yeV n,y∈yeM n:=by decide +kernel
theorem yio{A:List (List Int)}(hp:A.Pairwise (fun a b=>befF a b=true∧befF b a=false)){i j:Nat}(hi:i<A.length)(hj:j<A.length):befF A[i] A[j]=true↔i<j:=by
  rw [List.pairwise_iff_getElem] at hp
  rcases Nat.lt_trichotomy i j with h | h | h
  · exact ⟨fun _=>h,fun _=>(hp i j hi hj h).1⟩
  · subst h;rw [befF_irr];simp
  · rw [(hp j i hj hi h).2];simp;omega
structure IsLst(val:List Int→Int)(M:List Int→Prop)(m:List Int):Prop where
  mem:M m
  lst:∀ y,M y→val m<val y∨val m=val y∧(y=m∨befF m y=true)
theorem IsLst.eq{A:List (List Int)}(hp:A.Pairwise (fun a b=>befF a b=true∧befF b a=false)){val:List Int→Int}{M:List Int→Prop}(hM:∀ y,M y→y∈A){m m':List Int}(h:IsLst val M m)(h':IsLst val M m'):m=m':=by
  have h1:=h.lst m' h'.mem;have h2:=h'.lst m h.mem
  rcases h1 with h1 | ⟨h1,h3⟩
  · rcases h2 with h2 | ⟨h2,_⟩ <;> omega
  rcases h2 with h2 | ⟨h2,h4⟩
  · omega
  rcases h3 with h3 | h3
  · exact h3.symm
  rcases h4 with h4 | h4
  · exact h4
  obtain ⟨i,hi,ei⟩:=List.mem_iff_getElem.1 (hM m h.mem)
  obtain ⟨j,hj,ej⟩:=List.mem_iff_getElem.1 (hM m' h'.mem)
  rw [←ei,←ej] at h3 h4
  have:=(yio hp hi hj).1 h3;have:=(yio hp hj hi).1 h4;omega
theorem snocI{α:Type}{P:List α→Prop}(nil:P [])(snoc:∀ l x,P l→P (l++[x]))(l:List α):P l:=by
  have:∀ m:List α,P m.reverse:=fun m=>by
    induction m with
    | nil=>exact nil
    | cons a t ih=>rw [List.reverse_cons];exact snoc _ _ ih
  simpa using this l.reverse
theorem lstF_is{A:List (List Int)}(hp:A.Pairwise (fun a b=>befF a b=true∧befF b a=false))(val:List Int→Int)(P:List Int→Bool)(h0:∀ y,0≤val y):∀ l,l <+: A →
    ((∀ y∈l,P y=false)∧lstF (fun y=>(val y,P y)) l (-1,[])=(-1,[]))∨∃ m,IsLst val (fun y=>y∈l∧P y=true) m∧lstF (fun y=>(val y,P y)) l (-1,[])=(val m,m):=by
  intro l
  induction l using snocI with
  | nil=>intro _;exact .inl ⟨by simp,rfl⟩
  | snoc l y ih =>
    intro hl
    have hlA:l <+: A:=List.IsPrefix.trans ⟨[y],rfl⟩ hl
    have hord:∀ z∈l,befF z y=true:=fun z hz=>by
      have:=hp.sublist hl.sublist
      exact ((List.pairwise_append.1 this).2.2 z hz y (by simp)).1
    rw [yhX]
    rcases ih hlA with ⟨hn,he⟩ | ⟨m,hm,he⟩
    · rw [he]
      by_cases c:P y=true
      · right
        refine ⟨y,⟨⟨by simp,c⟩,fun z hz=>?_⟩,by rw [if_pos ⟨c, .inl (by show (-1:Int)<0;omega)⟩]⟩
        rcases List.mem_append.1 hz.1 with q | q
        · rw [hn z q] at hz;exact absurd hz.2 (by simp)
        · simp at q;subst q;exact .inr ⟨rfl, .inl rfl⟩
      · left
        refine ⟨fun z hz=>?_,by rw [if_neg (fun q=>c q.1)]⟩
        rcases List.mem_append.1 hz with q | q
        · exact hn z q
        · simp at q;subst q;simpa using c
    · right
      rw [he]
      by_cases c:P y=true∧((val m,m).1<0∨val y<(val m,m).1)
      · have hlt:val y<val m:=by
          rcases c.2 with q | q
          · have:=h0 m;have q:val m<0:=q;omega
          · exact q
        refine ⟨y,⟨⟨by simp,c.1⟩,fun z hz=>?_⟩,by rw [if_pos c]⟩
        rcases List.mem_append.1 hz.1 with q | q
        · have:=hm.lst z ⟨q,hz.2⟩;left;omega
        · simp at q;subst q;exact .inr ⟨rfl, .inl rfl⟩
      · refine ⟨m,⟨⟨List.mem_append_left _ hm.mem.1,hm.mem.2⟩,fun z hz=>?_⟩,by rw [if_neg c]⟩
        rcases List.mem_append.1 hz.1 with q | q
        · exact hm.lst z ⟨q,hz.2⟩
        · simp at q;subst q
          have:¬val z<val m:=fun lt=>c ⟨hz.2, .inr lt⟩
          by_cases e:val m=val z
          · exact .inr ⟨e, .inr (hord m hm.mem.1)⟩
          · exact .inl (by omega)
def lstR(val:List Int→Int):List (List Int)→Int×List Int→Int×List Int
  | [],b=>b
  | y::t,b=>lstR val t (if b.1<0∨val y<b.1∨val y=b.1∧befF y b.2=true then (val y,y) else b)
theorem lstR_is{A:List (List Int)}(hp:A.Pairwise (fun a b=>befF a b=true∧befF b a=false))(val:List Int→Int)(h0:∀ y,0≤val y):∀ (l:List (List Int)) (M:List Int→Prop) (m:List Int),(∀ y∈l,y∈A)→(∀ y,M y→y∈A)→IsLst val M m →
    ∃ m',IsLst val (fun y=>M y∨y∈l) m'∧lstR val l (val m,m)=(val m',m')
  | [],M,m,_,_,h=>⟨m,⟨.inl h.mem,fun y hy=>h.lst y (hy.elim id (by simp))⟩,rfl⟩
  | y::t,M,m,hl,hM,h=>by
    have hnew:∃ m2,IsLst val (fun z=>M z∨z=y) m2∧(if (val m,m).1<0∨val y<(val m,m).1∨val y=(val m,m).1∧befF y (val m,m).2=true then (val y,y) else (val m,m))=(val m2,m2):=by
      obtain ⟨i,hi,ei⟩:=List.mem_iff_getElem.1 (hM m h.mem)
      obtain ⟨j,hj,ej⟩:=List.mem_iff_getElem.1 (hl y (by simp))
      by_cases c:(val m,m).1<0∨val y<(val m,m).1∨val y=(val m,m).1∧befF y (val m,m).2=true
      · refine ⟨y,⟨.inr rfl,fun z hz=>?_⟩,by rw [if_pos c]⟩
        have c:val m<0∨val y<val m∨val y=val m∧befF y m=true:=c
        rcases hz with hz | rfl
        · have h1:=h.lst z hz
          have:=h0 m
          rcases c with c | c | ⟨c,c2⟩
          · omega
          · left;omega
          · rcases h1 with h1 | ⟨h1,h3⟩
            · left;omega
            · refine .inr ⟨by omega, .inr ?_⟩
              obtain ⟨k,hk,ek⟩:=List.mem_iff_getElem.1 (hM z hz)
              rw [←ej,←ei] at c2
              have l1:=(yio hp hj hi).1 c2
              rw [←ej,←ek]
              refine (yio hp hj hk).2 ?_
              rcases h3 with h3 | h3
              · have:A[k]=A[i]:=by rw [ek,ei,h3]
                by_cases q:j<k
                · exact q
                · exfalso
                  have:befF A[j] A[k]=true:=by rw [this];exact c2
                  exact q ((yio hp hj hk).1 this)
              · rw [←ei,←ek] at h3
                have:=(yio hp hi hk).1 h3;omega
        · exact .inr ⟨rfl, .inl rfl⟩
      · refine ⟨m,⟨.inl h.mem,fun z hz=>?_⟩,by rw [if_neg c]⟩
        have c:¬(val m<0∨val y<val m∨val y=val m∧befF y m=true):=c
        rcases hz with hz | rfl
        · exact h.lst z hz
        · by_cases e:val m=val z
          · refine .inr ⟨e,?_⟩
            rcases Nat.lt_trichotomy i j with q | q | q
            · right;rw [←ei,←ej];exact (yio hp hi hj).2 q
            · left;subst q;rw [←ei,←ej]
            · exact absurd (.inr (.inr ⟨e.symm,by rw [←ei,←ej];exact (yio hp hj hi).2 q⟩)) c
          · left
            have:¬val z<val m:=fun q=>c (.inr (.inl q))
            omega
    obtain ⟨m2,h2,e2⟩:=hnew
    rw [lstR,e2]
    obtain ⟨m',h3,h4⟩:=lstR_is hp val h0 t (fun z=>M z∨z=y) m2 (fun z hz=>hl z (by simp [hz])) (fun z hz=>hz.elim (hM z) fun q=>by rw [q];exact hl y (by simp)) h2
    exact ⟨m',⟨by rcases h3.mem with (q | q) | q;exact .inl q;exact .inr (by simp [q]);exact .inr (by simp [q]),fun z hz=>h3.lst z (by
      rcases hz with q | q
      · exact .inl (.inl q)
      · rcases List.mem_cons.1 q with q | q
        · exact .inl (.inr q)
        · exact .inr q)⟩,h4⟩
theorem lst_eq{n:Nat}(hn:n≤6)(val:List Int→Int)(P:List Int→Bool)(h0:∀ y,0≤val y):lstF (fun y=>(val y,P y)) (yeV n) (-1,[])=lstR val ((yeM n).filter P) (-1,[]):=by
  have hp:=sets_order n (by omega)
  have hmem:∀ y,y∈(yeM n).filter P↔y∈yeV n∧P y=true:=fun y=>by
    rw [List.mem_filter]
    exact ⟨fun h=>⟨subs_sets n (by omega) y h.1,h.2⟩,fun h=>⟨sets_subs n (by omega) y h.1,h.2⟩⟩
  rcases lstF_is hp val P h0 (yeV n) (List.prefix_refl _) with ⟨h1,h2⟩ | ⟨m,h1,h2⟩
  · rw [h2]
    have:(yeM n).filter P=[]:=by
      rw [List.eq_nil_iff_forall_not_mem]
      intro y hy
      have:=(hmem y).1 hy
      rw [h1 y this.1] at this;simp at this
    rw [this];rfl
  · rw [h2]
    cases hL:(yeM n).filter P with
    | nil =>
      have:=(hmem m).2 h1.mem
      rw [hL] at this;simp at this
    | cons a t =>
      rw [lstR,if_pos (.inl (by show (-1:Int)<0;omega))]
      have hA:∀ y,y=a∨y∈t↔y∈yeV n∧P y=true:=fun y=>by rw [←hmem y,hL,List.mem_cons]
      obtain ⟨m',h3,h4⟩:=lstR_is hp val h0 t (fun y=>y=a) a (fun y hy=>((hA y).1 (.inr hy)).1) (fun y hy=>((hA y).1 (.inl hy)).1) ⟨rfl,fun y hy => .inr ⟨by rw [hy], .inl hy⟩⟩
      rw [h4]
      have h3:IsLst val (fun y=>y∈yeV n∧P y=true) m':=⟨(hA m').1 h3.mem,fun y hy=>h3.lst y ((hA y).2 hy)⟩
      rw [h1.eq hp (fun y hy=>hy.1) h3]
theorem lst_is{n:Nat}(hn:n≤6)(val:List Int→Int)(P:List Int→Bool)(h0:∀ y,0≤val y):((∀ y∈yeV n,P y=false)∧lstF (fun y=>(val y,P y)) (yeV n) (-1,[])=(-1,[])) ∨
    ∃ m,m∈yeV n∧P m=true∧(∀ y∈yeV n,P y=true→val m≤val y)∧lstF (fun y=>(val y,P y)) (yeV n) (-1,[])=(val m,m):=by
  rcases lstF_is (sets_order n (by omega)) val P h0 (yeV n) (List.prefix_refl _) with h | ⟨m,h1,h2⟩
  · exact .inl h
  · refine .inr ⟨m,h1.mem.1,h1.mem.2,fun y hy hP=>?_,h2⟩
    rcases h1.lst y ⟨hy,hP⟩ with q | q <;> omega
end Go.Proofs.YtadpnlimiblniaaGreat

namespace Go.Proofs.YtadpnlimiblniaaGreat
open Go Go.ChangeShapes Go.WideShapes Go.ChangeAt Go.RowKit Go.Joins Go.Deep Go.Proofs.Tryz
theorem own:ownKnob Tryz.prog.godebug=none:=by kernel_rfl
theorem laidOut:laidOutB Tryz.prog=true:=by kernel_rfl
theorem ykP:Tryz.prog.cellsOf 3=1:=by kernel_rfl
theorem cells_graph:Tryz.prog.cellsOf 24=2:=by kernel_rfl
theorem cells_edge:Tryz.prog.cellsOf 79=3:=by kernel_rfl
theorem cells3{w:World}{base:Nat}{a:Addr}{cs:List Value}(h:w.cells? base a 3=some cs):∃ x y z,cs=[x,y,z]∧w.cell? a=some x∧w.cell? (a.add 1)=some y∧w.cell? (a.add 2)=some z:=by
  unfold World.cells? at h
  split at h
  · have e:List.range 3=[0,1,2]:=rfl
    rw [e] at h
    cases h0:w.cell? (a.add 0) with
    | none=>simp [h0] at h
    | some x =>
      cases h1:w.cell? (a.add 1) with
      | none=>simp [h0,h1] at h
      | some y =>
        cases h2:w.cell? (a.add 2) with
        | none=>simp [h0,h1,h2] at h
        | some z =>
          simp [h0,h1,h2] at h
          exact ⟨x,y,z,h.symm,h0,rfl,rfl⟩
  · cases h
theorem ints_sl{W:World}{A:Option Addr}{xs:List Int}{c:Nat}(hc:xs.length≤c)(h:Ints W A xs):(FP.sl cI A xs.length c xs).P no W:=by
  refine ⟨rfl,hc,fun h0=>?_⟩
  obtain ⟨b,off,e,hb,hcell⟩:=h h0
  refine ⟨b,off,e,hb,id,fun k x hx=>⟨_,rfl,fun j u hj=>?_⟩⟩
  have hk:k<xs.length:=(List.getElem?_eq_some_iff.1 hx).1
  have hj0:j=0:=by
    have:=(List.getElem?_eq_some_iff.1 hj).1
    simp [fI] at this;exact this
  subst hj0
  have hu:u = .int .i64 x:=by
    have:(some (Value.int .i64 x))=some u:=hj
    simpa using this.symm
  rw [yaY hk] at hx
  cases hx
  rw [hu]
  have:=hcell k hk
  simpa [cI,Fl.cod,fI] using this
theorem edges_sl{W:World}{A:Option Addr}{xs:List E3}{c:Nat}(hc:xs.length≤c)(h:ydB W A xs):(FP.sl c3 A xs.length c xs).P no W:=by
  refine ⟨rfl,hc,fun h0=>?_⟩
  obtain ⟨b,off,e,hb,hcell⟩:=h h0
  refine ⟨b,off,e,hb,id,fun k x hx=>⟨_,rfl,fun j u hj=>?_⟩⟩
  have hk:k<xs.length:=(List.getElem?_eq_some_iff.1 hx).1
  rw [ydu hk] at hx
  cases hx
  obtain ⟨q0,q1,q2⟩:=hcell k hk
  match j,hj with
  | 0,hj =>
    have:(some (Value.int .i64 (ge xs k).1))=some u:=hj
    cases this;exact q0
  | 1,hj =>
    have:(some (Value.int .i64 (ge xs k).2.1))=some u:=hj
    cases this;exact q1
  | 2,hj =>
    have:(some (Value.int .i64 (ge xs k).2.2))=some u:=hj
    cases this;exact q2
  | j+3,hj=>cases hj
set_option maxRecDepth 100000
variable {H : Type} {enc : TypeId × Value → H} {W : World} {r : Reach} {b0 : Nat}
theorem open_ints_f{t:TypeId}(ht:Tryz.prog.underlying t=some (.slice 3)){fuel:Nat}{v:Value}{x:DataW H×List MemPlace}(hf:DataW.trod enc Tryz.prog W 0 (fun _=>true) true fuel t [v]=some x) :
    ∃ (A:Option Addr) (l:List Int) (c:Nat),v = .slice A l.length c∧(FP.sl cI A l.length c l).P no W:=by
  suffices h:∃ (A:Option Addr) (l:List Int) (c:Nat),v = .slice A l.length c∧l.length≤c∧Ints W A l by
    obtain ⟨A,l,c,e,hlc,hi⟩:=h
    exact ⟨A,l,c,e,ints_sl hlc hi⟩
  rcases open_ints ht underlying3 ykP hf with ⟨hcs,hx⟩ | ⟨a,len',cap',zs,hcs,_,hl,hm,hz,hx,hcell,hwz⟩
  · simp at hcs
    subst hcs
    exact ⟨none,[],0,rfl,Nat.le_refl _,Ints.nil _ _⟩
  · simp at hcs
    subst hcs
    simp only [if_true] at hz
    refine ⟨some a,zs.take len',cap',by rw [List.length_take,Nat.min_eq_left (by omega)],by rw [List.length_take];omega,fun hp=>?_⟩
    rw [List.length_take,Nat.min_eq_left (by omega)] at hp ⊢
    obtain ⟨b,off,rfl,hc⟩:=ints_at hcell (by omega)
    refine ⟨b,off,rfl,?_,fun k hk=>?_⟩
    · have:=hc 0 (by omega)
      apply Nat.lt_of_not_le
      intro hle
      unfold World.cell? at this
      rw [Array.getElem?_eq_none hle] at this
      simp at this
    · rw [hc k (by omega),yaN (by rw [List.length_take];omega),List.getElem_take,List.getD_eq_getElem?_getD,List.getElem?_eq_getElem (by omega)]
      rfl
theorem open_edge{fuel base:Nat}{spare:Nat→Bool}{held:Bool}{x y z:Value}{o:DataW H×List MemPlace}(h:DataW.trod enc Tryz.prog W base spare held fuel 79 [x,y,z]=some o):∃ a b c:Int,x = .int .i64 a∧y = .int .i64 b∧z = .int .i64 c:=by
  obtain ⟨xs,n,_,rfl,hl,hlen,hf⟩:=DataW.trod_struct underlying79 h
  obtain ⟨x0,x1,x2,rfl⟩:∃ x0 x1 x2,xs=[x0,x1,x2]:=by
    match xs,hlen with
    | [x0,x1,x2],_=>exact ⟨_,_,_,rfl⟩
  have f0:=hf 0 _ rfl
  have f1:=hf 1 _ rfl
  have f2:=hf 2 _ rfl
  simp [ykP] at f0 f1 f2
  obtain ⟨a,e0, -, -⟩:=DataW.trod_int underlying3 f0
  obtain ⟨b,e1, -, -⟩:=DataW.trod_int underlying3 f1
  obtain ⟨c,e2, -, -⟩:=DataW.trod_int underlying3 f2
  simp at e0 e1 e2
  exact ⟨a,b,c,e0,e1,e2⟩
theorem open_graph{v:Value}{d:DataW H}{p:List MemPlace}(hv:Value.okWide Tryz.prog W r b0 24 v)(h:DataW.Trod enc Tryz.prog W 0 (fun _=>true) true 24 v d p) :
    ∃ (n:Int) (A:Option Addr) (es:List E3) (c:Nat),v = .agg #[.int .i64 n, .slice A es.length c]∧(FP.sl c3 A es.length c es).P no W:=by
  suffices h:∃ (n:Int) (A:Option Addr) (es:List E3) (c:Nat),v = .agg #[.int .i64 n, .slice A es.length c]∧es.length≤c∧ydB W A es by
    obtain ⟨n,A,l,c,e,hlc,hi⟩:=h
    exact ⟨n,A,l,c,e,edges_sl hlc hi⟩
  obtain ⟨c0,c1,y0,y1,m,rfl,rfl,rfl,hy0,hy1⟩:=open_agg2 underlying24 (by kernel_rfl) cells_graph hv h
  obtain ⟨n,e0, -, -⟩:=DataW.trod_int underlying3 hy0
  simp at e0
  subst e0
  rcases open_slice underlying22 hy1 with ⟨hcs, -⟩ | ⟨a,len,cap,mm,nn,D,Pl,hcs, -,hl,hm,hmm, -,hel⟩
  · simp at hcs
    subst hcs
    exact ⟨n,none,[],0,rfl,Nat.le_refl _,fun h=>absurd h (by simp)⟩
  · simp at hcs
    subst hcs
    simp only [if_true] at hmm
    have hex:∀ i,i<len→∃ e:E3,W.cell? (a.add (i*3))=some (.int .i64 e.1)∧W.cell? ((a.add (i*3)).add 1)=some (.int .i64 e.2.1)∧W.cell? ((a.add (i*3)).add 2)=some (.int .i64 e.2.2):=fun i hi=>by
      obtain ⟨cs',hc,ht⟩:=hel i (by omega)
      rw [cells_edge] at hc
      obtain ⟨x,y,z,rfl,k0,k1,k2⟩:=cells3 hc
      obtain ⟨xa,xb,xc,rfl,rfl,rfl⟩:=open_edge ht
      exact ⟨(xa,xb,xc),k0,k1,k2⟩
    let f:Nat→E3:=fun i=>if h:i<len then Classical.choose (hex i h) else (0,0,0)
    have hf:∀ i,i<len→W.cell? (a.add (i*3))=some (.int .i64 (f i).1)∧W.cell? ((a.add (i*3)).add 1)=some (.int .i64 (f i).2.1)∧W.cell? ((a.add (i*3)).add 2)=some (.int .i64 (f i).2.2):=fun i hi=>by
      show _∧_∧_
      have e:f i=Classical.choose (hex i hi):=dif_pos hi
      rw [e]
      exact Classical.choose_spec (hex i hi)
    have hlen:((List.range len).map f).length=len:=by simp
    refine ⟨n,some a,(List.range len).map f,cap,by rw [hlen],by rw [hlen];omega,fun hp=>?_⟩
    rw [hlen] at hp ⊢
    obtain ⟨b,off,spot⟩:=a
    have hspot:spot=none:=by simpa [Addr.add] using World.cell?_spot (hf 0 hp).1
    subst hspot
    refine ⟨b,off,rfl,?_,fun k hk=>?_⟩
    · have:=(hf 0 hp).1
      apply Nat.lt_of_not_le
      intro hle
      unfold World.cell? at this
      rw [Array.getElem?_eq_none (by simpa [Addr.add] using hle)] at this
      simp at this
    · have hg:ge ((List.range len).map f) k=f k:=by rw [yc4 (by rw [hlen];exact hk)];simp
      rw [hg]
      have:=hf k hk
      simpa [Addr.add_mid] using this
end Go.Proofs.YtadpnlimiblniaaGreat

namespace Go.Proofs.YtadpnlimiblniaaGreat
open Go Go.ChangeShapes Go.WideShapes Go.ChangeAt Go.RowKit Go.Joins Go.Deep Go.Proofs.Tryz
set_option maxRecDepth 100000
variable {H : Type} {enc : TypeId × Value → H} {W : World} {r : Reach} {b0 : Nat}
theorem open_sl1{τ:Type}{c:Cod τ}(hsz:c.sz=1){t e:TypeId}(ht:Tryz.prog.underlying t=some (.slice e))(hc:Tryz.prog.cellsOf e=1)
    (hel:∀ (n:Nat) (v:Value) (x:DataW H×List MemPlace),DataW.trod enc Tryz.prog W 0 (fun _=>true) true n e [v]=some x→∃ y:τ,c.R no W [v] y) {fuel:Nat} {v:Value} {x:DataW H×List MemPlace} (hf:DataW.trod enc Tryz.prog W 0 (fun _=>true) true fuel t [v]=some x) :
    ∃ (A:Option Addr) (l:List τ) (cap:Nat),v = .slice A l.length cap∧(FP.sl c A l.length cap l).P no W:=by
  rcases open_slice1 ht hc hf with ⟨hcs,hx⟩ | ⟨a,len,cap,m,n,V,D,Pl,hcs,_,hl,hm,hmm,hx,hV⟩
  · simp at hcs
    subst hcs
    exact ⟨none,[],0,rfl,rfl,Nat.le_refl _,Sl.nil _ _ _ _⟩
  · simp at hcs
    subst hcs
    simp only [if_true] at hmm
    obtain ⟨Y,hY⟩:∃ Y:Nat→Option τ,∀ i,i<len→∃ y,Y i=some y∧c.R no W [V i] y:=by
      have:∀ i,∃ o:Option τ,i<len→∃ y,o=some y∧c.R no W [V i] y:=fun i=>by
        by_cases h:i<len
        · obtain ⟨y,hy⟩:=hel n (V i) _ (hV i (by omega)).2
          exact ⟨some y,fun _=>⟨y,rfl,hy⟩⟩
        · exact ⟨none,fun q=>absurd q h⟩
      exact Classical.skolem.1 this
    have hlist:∃ l:List τ,l.length=len∧∀ i y,l[i]? = some y→c.R no W [V i] y:=by
      have:∀ k,k≤len→∃ l:List τ,l.length=k∧∀ i y,l[i]? = some y→c.R no W [V i] y:=fun k=>by
        induction k with
        | zero=>intro _;exact ⟨[],rfl,fun i y h=>by simp at h⟩
        | succ k ih =>
          intro hk
          obtain ⟨l,h1,h2⟩:=ih (by omega)
          obtain ⟨y, -,hy⟩:=hY k (by omega)
          refine ⟨l++[y],by simp [h1],fun i z hz=>?_⟩
          by_cases q:i<l.length
          · rw [List.getElem?_append_left q] at hz;exact h2 i z hz
          · have hi:=(List.getElem?_eq_some_iff.1 hz).1
            have e:i=k:=by simp at hi;omega
            subst e
            rw [List.getElem?_append_right (by omega),h1] at hz
            simp at hz
            rw [←hz];exact hy
      exact this len (Nat.le_refl _)
    obtain ⟨l,hll,hlR⟩:=hlist
    refine ⟨some a,l,cap,by rw [hll],rfl,by omega,fun hp=>?_⟩
    obtain ⟨b,off,spot⟩:=a
    have h0:=(hV 0 (by omega)).1
    have hspot:spot=none:=by simpa [Addr.add] using World.cell?_spot h0
    subst hspot
    refine ⟨b,off,rfl,?_,id,fun k y hy=>⟨_,hlR k y hy,fun j u hj=>?_⟩⟩
    · apply Nat.lt_of_not_le
      intro hle
      unfold World.cell? at h0
      rw [Array.getElem?_eq_none (by simpa [Addr.add] using hle)] at h0
      simp at h0
    · have hk:=(List.getElem?_eq_some_iff.1 hy).1
      have hj0:j=0:=by
        have:=(List.getElem?_eq_some_iff.1 hj).1
        simp at this;exact this
      subst hj0
      have hu:V k=u:=by simpa using hj
      have h1:=(hV k (by omega)).1
      rw [hsz,←hu]
      simpa [Addr.add_mid] using h1
theorem open_lists_f{t e:TypeId}(ht:Tryz.prog.underlying t=some (.slice e))(he:Tryz.prog.underlying e=some (.slice 3))(hc:Tryz.prog.cellsOf e=1){fuel:Nat}{v:Value}{x:DataW H×List MemPlace}(hf:DataW.trod enc Tryz.prog W 0 (fun _=>true) true fuel t [v]=some x) :
    ∃ (A:Option Addr) (l:List (List Int)) (c:Nat),v = .slice A l.length c∧(FP.sl (cL cI) A l.length c l).P no W :=
  open_sl1 (c:=cL cI) rfl ht hc (fun n v x hx=>by
    obtain ⟨A,l,cap,rfl,h1,h2,h3⟩:=open_ints_f he hx
    exact ⟨l,A,_,cap,rfl,rfl,h2,h3⟩) hf
end Go.Proofs.YtadpnlimiblniaaGreat
