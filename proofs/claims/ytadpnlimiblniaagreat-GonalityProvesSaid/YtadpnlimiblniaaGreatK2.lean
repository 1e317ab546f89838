/- Texts laid together: It, ItP, Map, Ret, Arr, Col, Mpr, Cpk, Cut, Men, Kt, Chips, Graph, Slices, Forest, Links, Joins, Begin, Burn, Use, Sb. -/
import Derived.Maps.Keyed
import Derived.DeepKeys4
import Derived.Maps.RangeRun
import Derived.Test.YtadpnlimiblniaaGreatProg
import Derived.ChangeAlike
import Derived.Handy
import Derived.Deep.QuietTactic
import Derived.BigQuiet
import Derived.Deep.RegionHeld3
import Derived.Laws.OwnMore
import Derived.Deep.Draws
import Derived.RangeFuncNested
import Derived.RangeFuncBound
import Derived.RangeFuncCalls
import Derived.RangeFuncLeaves
import Derived.RangeFuncFrom
import Derived.Shelf.Abstract
import Derived.Shelf.RegionOpen
import Derived.OwnWalkIn
import Derived.TacticsInMore
import Derived.LoopNIn
import Derived.LoopIn
import Derived.Deep.RegionWith
import Derived.Deep.LoopGhost
import Derived.Test.YtadpnlimiblniaaGreatK1
set_option linter.unusedVariables false
set_option linter.unusedSimpArgs false
set_option linter.unusedSectionVars false
namespace Go.Proofs.YtadpnlimiblniaaGreat
open Go Go.RowKit Go.Shelf Go.Proofs.Tryz
theorem n_yield{P:Program}{E:Env}{w:World}{d:Option Tmp}{ty:TypeId}{ps:String}{af:Array Edge}{g:Option (Nat×Bool)}{K:Value→World→Prop}{l m:Nat}{args:Array Operand}{ats:Array TypeId}{vs:Array Value}{fo:Operand}
    (hf:evE E fo = .func (.yield l) #[] #[]) (ha:args.map (evE E)=vs) (h:YieldAt Fence.wide m P l vs w fun e w''=>∃ v,e = .returned v∧K v w''):ybi P ⟨d, .call ⟨.value fo,args,ats⟩,ty,ps,af,g⟩ (evE E) w K:=by
  obtain ⟨fn,tmps,assign,body,hy,hR⟩:=h
  unfold ybi execOp
  simp only [resolve,hf,ha,Deferred.ofValue,Sem.run_bind,Sem.run_pure,Result.andThen,invoke,Array.empty_append,Array.append_empty,hy]
  exact ⟨trivial,fun c cs _=>hR.2 c cs (room_wide _)⟩
theorem WTa.ofx{F:Fence}{n:Nat}{P:Program}{Q:Exit→Act→World→Prop}{a:Act}{w:World}{t:List Item}{c:Code}
    (h:c.wpIn F n P (fun e a' w'=>match e with
      | .normal=>WTa F n P t Q a' w'
      | .ret=>Q .ret a' w'
      | .exit id=>(match exitTo id t with | some k'=>WTa F n P k' Q a' w' | none=>Q (.exit id) a' w')
      | _=>False) a w):WTa F n P (.code c::t) Q a w:=by
  intro b k cs hro hb hr
  obtain ⟨e,a',w',hw,harr⟩:=h b (t++k) cs hro hb hr
  cases e with
  | normal =>
    obtain ⟨e2,a2,w2,hq,harr2⟩:=hw b k cs hro hb hr
    exact ⟨e2,a2,w2,hq, .of_steps harr harr2⟩
  | ret=>exact ⟨.ret,a',w',hw,harr⟩
  | exit id =>
    cases he:exitTo id t with
    | some k' =>
      simp only [he] at hw
      obtain ⟨e2,a2,w2,hq,harr2⟩:=hw b k cs hro hb hr
      exact ⟨e2,a2,w2,hq, .of_steps (harr.1 _ (yeE k he)) harr2⟩
    | none =>
      simp only [he] at hw
      refine ⟨.exit id,a',w',hw,?_⟩
      have h1:=harr.1
      have h2:=harr.2
      rw [ye1 k he] at h1 h2
      exact ⟨h1,h2⟩
  | goto l=>exact hw.elim
  | panic ch=>exact hw.elim
  | outgrown=>exact hw.elim
theorem Keeps.trans' {A B T S:Nat→Prop}{a b c d:World}(h:Keeps A a b)(k:Keeps B b c)(l:Keeps S c d)(h1:∀ k,A k→T k)(h2:∀ k,B k→T k)(h3:∀ k,S k→T k):Keeps T a d :=
  ((h.mono fun k _ e=>h1 k e).trans (k.mono fun k _ e=>h2 k e)).trans (l.mono fun k _ e=>h3 k e)
abbrev BS:=Nat→Prop
structure RK(T:BS)(W:World)(T':BS)(W':World):Prop where
  keeps:Keeps T W W'
  sub:∀ k,T' k→T k∨W.heap.size≤k
  lt:∀ k,T' k→k<W'.heap.size
def ydS{α:Type}(J:BS→BS→List α→World→Prop):Prop :=
  ∀ {T G G':BS} {pre:List α} {W W':World},J T G pre W→Keeps G W W'→(∀ k,G' k→G k∨W.heap.size≤k)→(∀ k,G' k→k<W'.heap.size)→J T G' pre W'
def ydT{α:Type}(J:BS→BS→List α→World→Prop):Prop :=
  ∀ {T G:BS} {pre:List α} {W:World},J T G pre W→(∀ k,T k→¬G k∧k<W.heap.size)∧∀ k,G k→k<W.heap.size
structure Sess(P:Program)(l:Nat){α:Type}(enc:α→Array Value)(pass:α→FP)(Pr:List α→Prop)(J Jx:BS→BS→List α→World→Prop):Prop where
  gen:ydS J
  genx:ydS Jx
  two:ydT J
  twox:ydT Jx
  yld:∀ {T G:BS} {pre:List α} {x:α} {W:World},J T G pre W→Pr (pre++[x])→(pass x).P (fun k=>T k∨G k) W →
    YieldAt Fence.wide 1 P l (enc x) W fun e W'=>∃ T',RK T W T' W'∧((e = .returned (.bool true)∧J T' G (pre++[x]) W')∨(e = .returned (.bool false)∧Jx T' G (pre++[x]) W'))
def yjd(P:Program)(gf:FuncId)(lb:Array Value){α:Type}(enc:α→Array Value)(pass:α→FP)(Pr R:List α→Prop)(T0 G0:BS)(w:World):Prop :=
  ∀ (l:Nat) (J Jx:BS→BS→List α→World→Prop) (T1:BS) (w1:World),Sess P l enc pass Pr J Jx→J T1 G0 [] w1→Pure w w1→(∀ k,T1 k→T0 k∨w.heap.size≤k) →
    CallsIn Fence.wide 2 P gf (#[.func (.yield l) #[] #[]]++lb) w1 fun e w'=>(∃ v,e = .returned v)∧((∃ xs T G,R xs∧J T G xs w')∨∃ pre T G,Jx T G pre w')
structure RL1(l:Nat)(busy:Obj)(T:BS)(W:World)(T':BS)(W':World):Prop where
  keeps:Keeps (fun k=>T k∨k=l) W W'
  sub:∀ k,T' k→T k∨W.heap.size≤k
  lt:∀ k,T' k→k<W'.heap.size
  at_:W'.heap[l]? = some busy
def yjm(l:Nat)(busy:Obj){α:Type}(I:BS→BS→List α→World→Prop)(Ix:Option Nat→BS→BS→List α→World→Prop)(T G:BS)(xs:List α)(W:World):Exit→Act→World→Prop
  | .normal,_,W'=>∃ T',RL1 l busy T W T' W'∧I T' G xs W'
  | .ret,_,W'=>∃ T',RL1 l busy T W T' W'∧Ix none T' G xs W'
  | .exit id,_,W'=>∃ T',RL1 l busy T W T' W'∧Ix (some id) T' G xs W'
  | _,_,_=>False
def yis:Option Nat→Code
  | none => .ret
  | some id => .exit id
theorem ybF(W:World)(l:Nat)(o:Obj):(W.putObj l o).heap.size=W.heap.size:=by simp
theorem ycq(W:World)(l:Nat)(o:Obj):Keeps (fun k=>k=l) W (W.putObj l o) :=
  ⟨rfl,rfl,rfl,by simp,fun k hk hn=>World.putObj_heap_other hn⟩
def yiv(P:Program)(N:Nat)(t:List Item)(Q:Exit→Act→World→Prop)(E:Env)(ds:List Deferred)(w:World):Option Nat→Prop
  | none=>∀ a,Rep N E ds a→Q .ret a w
  | some id=>match exitTo id t with
    | some k'=>WT Fence.wide 3 P N k' Q E ds w
    | none=>∀ a,Rep N E ds a→Q (.exit id) a w
theorem wpIn_iter{P:Program}{N:Nat}{Q:Exit→Act→World→Prop}{E:Env}{ds:List Deferred}{w:World}{t:List Item}{fo:Operand}{ps:Array Tmp}{assign body:Code}{gf:FuncId}{lb:Array Value}{a:Act}
    (hr:a.eval fo = .func (.func gf) #[] lb) (he:Enters P gf) {α:Type} {enc:α→Array Value} {pass:α→FP} {Pr R:List α→Prop} (hps:∀ x,(enc x).size=ps.size)
    (T0 G0:BS) (I:BS→BS→List α→World→Prop) (Ix:Option Nat→BS→BS→List α→World→Prop) (hI:ydS I) (hI2:ydT I) (hIx:∀ c,ydS (Ix c)) (hIx2:∀ c,ydT (Ix c)) (h0:I T0 G0 [] w)
    (hgen:yjd P gf lb enc pass Pr R T0 G0 w)
    (hround:∀ (l:Nat) (T G:BS) (pre:List α) (x:α) (W:World) (rdy busy:Obj),I T G pre W→Pr (pre++[x])→(pass x).P (fun k=>T k∨G k) W→G l→W.heap[l]? = some rdy →
      assign.wpIn (Fence.wide.inRound l) 1 P (Exit.then (fun a1 W1=>W1.heap[l]? = some rdy∧∀ W2,W2=W1.putObj l busy→body.wpIn (Fence.wide.inRound l) 1 P (yjm l busy I Ix T G (pre++[x]) W) a1 W2) (fun _ _ _=>False))
        { tmps:=(ps.zip (enc x)).foldl (fun t (p,v)=>t.setIfInBounds p v) a.tmps,defers:=[] } W)
    (hdone:∀ (D:Nat) (T G:BS) (xs:List α) (W:World),w.heap.size≤D→¬T D→G D→R xs→I T G xs W→W.heap[D]? = some (.deferred (some []))→Q .normal { a with defers:={ target := .collected D,args:=#[] }::a.defers } W)
    (hstop:∀ (D:Nat) (T G:BS) (c:Option Nat) (xs:List α) (W:World),w.heap.size≤D→¬T D→G D→Ix c T G xs W→W.heap[D]? = some (.deferred (some []))→(yis c).wpIn Fence.wide 3 P Q { a with defers:={ target := .collected D,args:=#[] }::a.defers } W) :
    (Code.rangeFunc fo ps assign body).wpIn Fence.wide 3 P Q a w:=by
  refine wpIn_rangeFunc ?_
  intro fn hfn
  obtain ⟨D,hD⟩:∃ D,D=w.heap.size:=⟨_,rfl⟩
  obtain ⟨L,hL⟩:∃ L,L=w.heap.size+1:=⟨_,rfl⟩
  obtain ⟨rec,hrec⟩:∃ rec:LoopState→Option Code→Loop,rec=fun st pe=>{ state:=st,pending:=pe,fn,tmps:=a.tmps,params:=ps,assign,body,defers:=w.heap.size }:=⟨_,rfl⟩
  obtain ⟨W1,hW1⟩:∃ W1,(w.alloc (.deferred (some []))).alloc (.loop (rec .ready none))=W1:=⟨_,rfl⟩
  have hL1:W1.heap[L]? = some (.loop (rec .ready none)):=by
    rw [←hW1,hL];have:=World.alloc_heap_new (w.alloc (.deferred (some []))) (.loop (rec .ready none));rwa [World.size_alloc] at this
  have hK1:W1.heap[D]? = some (.deferred (some [])):=by
    rw [←hW1,hD];exact (Below.heap_alloc _ _ _ (by simp)).trans (World.alloc_heap_new w _)
  have hP1:Pure w W1:=by rw [←hW1];exact ((Keeps.refl _ _).alloc _).alloc _
  have hs1:W1.heap.size=w.heap.size+2:=by rw [←hW1];simp
  have two0:=hI2 h0
  refine ⟨L,[{ target := .collected D,args:=#[] }],W1,{ target := .fn (.func gf) lb,args:=#[.func (.yield L) #[] #[]] },W1,gf,#[.func (.yield L) #[] #[]]++lb,W1,?_,?_,fun _ _=>trivial,?_,fun h=>(by cases h),?_⟩
  · rw [←hW1,hrec,hL,hD];exact run_enterLoop_outer _ _ _ _ _
  · simp only [resolve,hr]
    simp [go_sem]
  · simp [invoke,go_sem,he _ _]
  · have key:=hgen L
      (fun Tg G pre W=>∃ T,(∀ k,Tg k↔T k∨k=L∨k=D)∧I T (fun k=>G k∨k=L∨k=D) pre W∧W.heap[L]? = some (.loop (rec .ready none))∧W.heap[D]? = some (.deferred (some []))∧¬G L∧¬G D∧¬T D)
      (fun Tg G pre W=>∃ T c,(∀ k,Tg k↔T k∨k=L∨k=D)∧Ix c T (fun k=>G k∨k=L∨k=D) pre W∧W.heap[L]? = some (.loop (rec .done (some (yis c))))∧W.heap[D]? = some (.deferred (some []))∧¬G L∧¬G D∧¬T D)
      (fun k=>T0 k∨k=L∨k=D) W1 ⟨?_,?_,?_,?_,?_⟩ ⟨T0,fun _=>Iff.rfl,?_,hL1,hK1,?_,?_,?_⟩ hP1 (fun k hk=>?_)
    · refine (show CallsIn Fence.wide (3-1) P gf _ W1 _ from key).mono ?_
      rintro e W2 ⟨⟨v,rfl⟩,(⟨xs,Tg,G,hR,T,hT,hi,hl,hd,g1,g2,g3⟩ | ⟨pre,Tg,G,T,c,hT,hi,hl,hd,g1,g2,g3⟩)⟩
      · refine ⟨none,W2.putObj L (.loop { rec .ready none with state := .exhausted }),by have:=run_endLoop (P:=P) hl (by rw [hrec];simp);rw [hrec] at this ⊢;exact this,?_⟩
        have hLl:L<W2.heap.size:=(Array.getElem?_eq_some_iff.1 hl).1
        have hlt:=(hI2 hi).2
        exact hdone D T _ xs _ (by omega) g3 (.inr (.inr rfl)) hR (hI hi ((ycq _ _ _).mono fun k _ e => .inr (.inl e)) (fun k h => .inl h) (fun k h=>by rw [ybF];exact hlt k h)) ((World.putObj_heap_other (by omega)).trans hd)
      · refine ⟨some (yis c),W2.putObj L (.loop { rec .done (some (yis c)) with state := .exhausted }),by have:=run_endLoop (P:=P) hl (by rw [hrec];simp);rw [hrec] at this ⊢;exact this,?_⟩
        have hlt:=(hIx2 c hi).2
        exact hstop D T _ c pre _ (by omega) g3 (.inr (.inr rfl)) (hIx c hi ((ycq _ _ _).mono fun k _ e => .inr (.inl e)) (fun k h => .inl h) (fun k h=>by rw [ybF];exact hlt k h)) ((World.putObj_heap_other (by omega)).trans hd)
    · -- the generator's steps
      rintro Tg G G' pre W W' ⟨T,hT,hi,hl,hd,g1,g2,g3⟩ hK hG hGl
      have lL:=(Array.getElem?_eq_some_iff.1 hl).1
      have lD:=(Array.getElem?_eq_some_iff.1 hd).1
      refine ⟨T,hT,hI hi (hK.mono fun k _ h => .inl h) (fun k h=>?_) (fun k h=>?_),(hK.block L lL g1).trans hl,(hK.block D lD g2).trans hd,fun h=>?_,fun h=>?_,g3⟩
      · rcases h with h | h
        · rcases hG k h with q | q
          · exact .inl (.inl q)
          · exact .inr q
        · exact .inl (.inr h)
      · rcases h with h | h | h
        · exact hGl k h
        · rw [h];exact Nat.lt_of_lt_of_le lL hK.size
        · rw [h];exact Nat.lt_of_lt_of_le lD hK.size
      · rcases hG L h with q | q
        · exact g1 q
        · omega
      · rcases hG D h with q | q
        · exact g2 q
        · omega
    · rintro Tg G G' pre W W' ⟨T,c,hT,hi,hl,hd,g1,g2,g3⟩ hK hG hGl
      have lL:=(Array.getElem?_eq_some_iff.1 hl).1
      have lD:=(Array.getElem?_eq_some_iff.1 hd).1
      refine ⟨T,c,hT,hIx c hi (hK.mono fun k _ h => .inl h) (fun k h=>?_) (fun k h=>?_),(hK.block L lL g1).trans hl,(hK.block D lD g2).trans hd,fun h=>?_,fun h=>?_,g3⟩
      · rcases h with h | h
        · rcases hG k h with q | q
          · exact .inl (.inl q)
          · exact .inr q
        · exact .inl (.inr h)
      · rcases h with h | h | h
        · exact hGl k h
        · rw [h];exact Nat.lt_of_lt_of_le lL hK.size
        · rw [h];exact Nat.lt_of_lt_of_le lD hK.size
      · rcases hG L h with q | q
        · exact g1 q
        · omega
      · rcases hG D h with q | q
        · exact g2 q
        · omega
    · rintro Tg G pre W ⟨T,hT,hi,hl,hd,g1,g2,g3⟩
      have lL:=(Array.getElem?_eq_some_iff.1 hl).1
      refine ⟨fun k hk=>?_,fun k hk=>(hI2 hi).2 k (.inl hk)⟩
      rcases (hT k).1 hk with q | q
      · exact ⟨fun hg=>((hI2 hi).1 k q).1 (.inl hg),((hI2 hi).1 k q).2⟩
      · rcases q with q | q
        · rw [q];exact ⟨g1,lL⟩
        · rw [q];exact ⟨g2,(Array.getElem?_eq_some_iff.1 hd).1⟩
    · rintro Tg G pre W ⟨T,c,hT,hi,hl,hd,g1,g2,g3⟩
      have lL:=(Array.getElem?_eq_some_iff.1 hl).1
      refine ⟨fun k hk=>?_,fun k hk=>(hIx2 c hi).2 k (.inl hk)⟩
      rcases (hT k).1 hk with q | q
      · exact ⟨fun hg=>((hIx2 c hi).1 k q).1 (.inl hg),((hIx2 c hi).1 k q).2⟩
      · rcases q with q | q
        · rw [q];exact ⟨g1,lL⟩
        · rw [q];exact ⟨g2,(Array.getElem?_eq_some_iff.1 hd).1⟩
    · -- one round
      rintro Tg G pre x W ⟨T,hT,hi,hl,hd,g1,g2,g3⟩ hPr hpass
      have lL:=(Array.getElem?_eq_some_iff.1 hl).1
      have lD:=(Array.getElem?_eq_some_iff.1 hd).1
      have hy:=run_yield (P:=P) (args:=enc x) hl (by rw [hrec];exact hps x)
      rw [hrec] at hy
      have hp2:(pass x).P (fun k=>T k∨(G k∨k=L∨k=D)) W:=(pass x).sub hpass (fun k _ h=>by
        rcases h with h | h | h
        · exact .inl ((hT k).2 (.inl h))
        · exact .inr h
        · exact .inl ((hT k).2 (.inr h)))
      refine ⟨fn,_,assign,body,hy,roundIn_of_wpIn hfn (wpIn_mono (hround L T _ pre x W _ (.loop { rec .ready none with state := .busy }) hi hPr hp2 (.inr (.inl rfl)) hl) ?_)⟩
      rintro e1 a1 V1 hq
      cases e1 with
      | exit id=>exact hq.elim
      | ret=>exact hq.elim
      | goto l=>exact hq.elim
      | panic c=>exact hq.elim
      | outgrown=>exact hq.elim
      | normal =>
      obtain ⟨hl1,hb1⟩:=hq
      refine ⟨_,run_beginRound hl1 (by rw [hrec]),wpIn_mono (hb1 _ rfl) ?_⟩
      have fin:∀ (T':BS) (jump:Option Code) (W3:World),RL1 L (.loop { rec .ready none with state := .busy }) T W T' W3 →
          (Instr.endRound L jump).run P W3 = .ok (.bool jump.isNone) (W3.putObj L (.loop (rec (if jump.isNone then .ready else .done) jump))) ∧
          (W3.putObj L (.loop (rec (if jump.isNone then .ready else .done) jump))).heap[L]? = some (.loop (rec (if jump.isNone then .ready else .done) jump)) ∧
          (W3.putObj L (.loop (rec (if jump.isNone then .ready else .done) jump))).heap[D]? = some (.deferred (some [])) ∧
          RK Tg W (fun k=>T' k∨k=L∨k=D) (W3.putObj L (.loop (rec (if jump.isNone then .ready else .done) jump)))∧Keeps (fun k=>k=L) W3 (W3.putObj L (.loop (rec (if jump.isNone then .ready else .done) jump)))∧L<W3.heap.size∧¬T' D:=fun T' jump W3 hk3=>by
        have hl3:W3.heap[L]? = some (.loop { rec .ready none with state := .busy }):=hk3.at_
        have hd3:W3.heap[D]? = some (.deferred (some [])):=(hk3.keeps.block D (by omega) (fun h=>h.elim g3 (fun e=>by omega))).trans hd
        have lL3:=(Array.getElem?_eq_some_iff.1 hl3).1
        have hrun:=run_endRound (P:=P) jump hl3
        rw [hrec] at hrun ⊢
        have hkk:=ycq W3 L (.loop ((fun st pe=>({ state:=st,pending:=pe,fn,tmps:=a.tmps,params:=ps,assign,body,defers:=w.heap.size } : Loop)) (if jump.isNone then .ready else .done) jump))
        refine ⟨hrun,World.putObj_heap_same lL3,(World.putObj_heap_other (by omega)).trans hd3,⟨(Keeps.refl (fun _=>False) W).trans' hk3.keeps hkk (T:=Tg) (fun k e=>e.elim) (fun k e=>e.elim (fun e=>(hT k).2 (.inl e)) (fun e=>(hT k).2 (.inr (.inl e)))) (fun k e=>(hT k).2 (.inr (.inl e))),fun k h=>?_,fun k h=>?_⟩,hkk,lL3,fun h=>?_⟩
        · rcases h with h | h
          · rcases hk3.sub k h with q | q
            · exact .inl ((hT k).2 (.inl q))
            · exact .inr (by omega)
          · exact .inl ((hT k).2 (.inr h))
        · rw [ybF]
          rcases h with h | h
          · exact hk3.lt k h
          · rcases h with h | h
            · rw [h];exact lL3
            · rw [h];exact (Array.getElem?_eq_some_iff.1 hd3).1
        · rcases hk3.sub D h with q | q
          · exact g3 q
          · omega
      rintro e a3 W3 hp
      cases e with
      | normal =>
        obtain ⟨T',hk3,hi3⟩:=hp
        obtain ⟨hr3,hl4,hd4,hrk,hkk,lL3,hTD⟩:=fin T' none W3 hk3
        exact ⟨_,_,hr3,_,hrk, .inl ⟨rfl,T',fun _=>Iff.rfl,hI hi3 (hkk.mono fun k _ e => .inr (.inl e)) (fun k h => .inl h) (fun k h=>by rw [ybF];exact (hI2 hi3).2 k h),hl4,hd4,g1,g2,hTD⟩⟩
      | ret =>
        obtain ⟨T',hk3,hi3⟩:=hp
        obtain ⟨hr3,hl4,hd4,hrk,hkk,lL3,hTD⟩:=fin T' (some .ret) W3 hk3
        exact ⟨_,_,hr3,_,hrk, .inr ⟨rfl,T',none,fun _=>Iff.rfl,hIx none hi3 (hkk.mono fun k _ e => .inr (.inl e)) (fun k h => .inl h) (fun k h=>by rw [ybF];exact (hIx2 none hi3).2 k h),hl4,hd4,g1,g2,hTD⟩⟩
      | exit id =>
        obtain ⟨T',hk3,hi3⟩:=hp
        obtain ⟨hr3,hl4,hd4,hrk,hkk,lL3,hTD⟩:=fin T' (some (.exit id)) W3 hk3
        exact ⟨_,_,hr3,_,hrk, .inr ⟨rfl,T',some id,fun _=>Iff.rfl,hIx (some id) hi3 (hkk.mono fun k _ e => .inr (.inl e)) (fun k h => .inl h) (fun k h=>by rw [ybF];exact (hIx2 (some id) hi3).2 k h),hl4,hd4,g1,g2,hTD⟩⟩
      | goto t=>exact hp.elim
      | panic ch=>exact hp.elim
      | outgrown=>exact hp.elim
    · have hsz:∀ k,G0 k→k<w.heap.size:=two0.2
      exact hI h0 (G:=G0) (hP1.mono fun k _ h=>h.elim) (fun k h=>h.elim .inl (fun e => .inr (by omega))) (fun k h=>h.elim (fun h=>by have:=hsz k h;omega) (fun e=>by omega))
    · intro h;have:=two0.2 L h;omega
    · intro h;have:=two0.2 D h;omega
    · intro h;have:=(two0.1 D h).2;omega
    · rcases hk with h | h
      · exact .inl h
      · exact .inr (by omega)
theorem wt_iter{P:Program}{N:Nat}{Q:Exit→Act→World→Prop}{E:Env}{ds:List Deferred}{w:World}{t:List Item}{fo:Operand}{ps:Array Tmp}{assign body:Code}{gf:FuncId}{lb:Array Value}
    (hr:evE E fo = .func (.func gf) #[] lb) (he:Enters P gf) {α:Type} {val:α→Array Value} {pass:α→FP} {Pr R:List α→Prop} (hps:∀ x,(val x).size=ps.size) (hpN:ps.toList.all (fun p=>Nat.blt p N)=true)
    (T0 G0:BS) (I:BS→BS→List α→World→Prop) (Ix:Option Nat→BS→BS→List α→World→Prop) (hI:ydS I) (hI2:ydT I) (hIx:∀ c,ydS (Ix c)) (hIx2:∀ c,ydT (Ix c)) (h0:I T0 G0 [] w)
    (hgen:yjd P gf lb val pass Pr R T0 G0 w)
    (hround:∀ (l:Nat) (T G:BS) (pre:List α) (x:α) (W:World) (rdy busy:Obj),I T G pre W→Pr (pre++[x])→(pass x).P (fun k=>T k∨G k) W→G l→W.heap[l]? = some rdy →
      WT (Fence.wide.inRound l) 1 P N [.code assign] (fun e a1 W1=>e = .normal∧∃ E1,Rep N E1 [] a1∧W1.heap[l]? = some rdy∧∀ W2,W2=W1.putObj l busy→WT (Fence.wide.inRound l) 1 P N [.code body] (yjm l busy I Ix T G (pre++[x]) W) E1 [] W2) (setE E (ps.toList.zip (val x).toList)) [] W)
    (hdone:∀ (D:Nat) (T G:BS) (xs:List α) (W:World),w.heap.size≤D→¬T D→G D→R xs→I T G xs W→W.heap[D]? = some (.deferred (some []))→WT Fence.wide 3 P N t Q E ({ target := .collected D,args:=#[] }::ds) W)
    (hstop:∀ (D:Nat) (T G:BS) (c:Option Nat) (xs:List α) (W:World),w.heap.size≤D→¬T D→G D→Ix c T G xs W→W.heap[D]? = some (.deferred (some []))→yiv P N t Q E ({ target := .collected D,args:=#[] }::ds) W c) :
    WT Fence.wide 3 P N (.code (.rangeFunc fo ps assign body)::t) Q E ds w:=by
  intro a ra
  let mk:Env→Act:=fun E'=>{ tmps:=Array.ofFn (n:=N) fun i=>E' i,defers:=[] }
  have hmk:∀ E':Env,(∀ t,N≤t→E' t=undef)→Rep N E' [] (mk E'):=by
    intro E' h
    refine ⟨by simp [mk],fun t=>?_,rfl⟩
    simp only [mk,Array.getD_eq_getD_getElem?]
    rcases Nat.lt_or_ge t N with ht | ht
    · simp [ht]
    · simp [ht,h t ht]
  have hun:∀ {E':Env} {ds':List Deferred} {a':Act},Rep N E' ds' a'→∀ t,N≤t→E' t=undef:=by
    intro E' ds' a' h t ht
    rw [←h.get t]
    simp [Array.getD_eq_getD_getElem?,h.size,ht]
  have hpr:∀ x,Rep N (setE E (ps.toList.zip (val x).toList)) [] { tmps:=(ps.zip (val x)).foldl (fun t (p,v)=>t.setIfInBounds p v) a.tmps,defers:=[] }:=by
    intro x
    have h1:Rep N E [] { tmps:=a.tmps,defers:=[] }:=⟨ra.size,ra.get,rfl⟩
    have h2:=yiL (ps.toList.zip (val x).toList) E [] _ h1 (fun p hp=>by
      have:=List.all_eq_true.1 hpN p.1 (List.of_mem_zip hp).1
      simpa using this)
    have h3:(ps.zip (val x)).foldl (fun t (p,v)=>t.setIfInBounds p v) a.tmps=(ps.toList.zip (val x).toList).foldl (fun t p=>t.setIfInBounds p.1 p.2) a.tmps:=by
      rw [←Array.foldl_toList,Array.toList_zip]
    rw [h3];exact h2
  refine WTa.ofx (wpIn_iter (N:=N) (E:=E) (ds:=ds) (t:=t) (a:=a) (by rw [ra.eval,hr]) he hps T0 G0 I Ix hI hI2 hIx hIx2 h0 hgen ?_ ?_ ?_)
  · intro l T G pre x W rdy busy hi hp hq hg hl
    refine wpIn_mono (WTa.code (hround l T G pre x W rdy busy hi hp hq hg hl _ (hpr x))) ?_
    rintro e a1 W1 ⟨rfl,E1,r1,h1,h2⟩
    exact ⟨h1,fun W2 hW=>WTa.code (h2 W2 hW _ r1)⟩
  · intro D T G xs W hD hT hG hR hi hd
    exact hdone D T G xs W hD hT hG hR hi hd _ ⟨ra.size,ra.get,by rw [ra.defers]⟩
  · intro D T G c xs W hD hT hG hi hd
    have hj:=hstop D T G c xs W hD hT hG hi hd
    have ra2:Rep N E ({ target := .collected D,args:=#[] }::ds) { a with defers:={ target := .collected D,args:=#[] }::a.defers }:=⟨ra.size,ra.get,by rw [ra.defers]⟩
    cases c with
    | none=>exact WTa.code (WTa.ret (hj _ ra2))
    | some id =>
      refine WTa.code (WTa.leave rfl ?_)
      unfold yiv at hj
      cases hq:exitTo id t with
      | none=>simp only [hq] at hj ⊢;exact hj _ ra2
      | some k'=>simp only [hq] at hj ⊢;exact hj _ ra2
def OwnB(L:Hold):BS:=fun k=>∃ i,(L i).has k
structure Two(w0:World)(S O G:BS)(W:World)(L:Hold):Prop where
  pure:Keeps S w0 W
  lt:∀ k,O k→k<w0.heap.size∧¬S k
  g:∀ k,G k→k<W.heap.size∧(w0.heap.size≤k∨S k)∧∀ i,¬(L i).has k
  ok:∀ i,(L i).ok 0 (Bl (fun k=>O k∨G k) L) W
  bd:∀ i k,(L i).has k→w0.heap.size≤k∨S k
  nd:∀ i j k,(L i).has k→(L j).has k→i=j
section
variable {w0 w w' W W' : World} {S O G G' T : BS} {L L' : Hold}
theorem yjv{js:List Nat}{i k:Nat}(h:(rl (js.map L) i).has k):∃ j,js[i]? = some j∧(L j).has k:=by
  rw [rl_map] at h
  cases hq:js[i]? with
  | none=>rw [hq] at h;cases h
  | some j=>rw [hq] at h;exact ⟨j,rfl,h⟩
theorem Sep.give(h:Sep w0 S O w L)(js gs:List Nat)(hj:js.Nodup)(hg:gs.Nodup)(hf:allJ (fun j=>(j∉js)∨(L j).free) gs) :
    Two w0 S O (OwnB (rl (gs.map L))) w (rl (js.map L))∧Sep w (OwnB (rl (gs.map L))) (Bl O (rl (js.map L))) w (rl (gs.map L)):=by
  have hdis:∀ a b k,(rl (js.map L) a).has k→(rl (gs.map L) b).has k→False:=fun a b k ha hb=>by
    obtain ⟨j1,e1,b1⟩:=yjv ha
    obtain ⟨j2,e2,b2⟩:=yjv hb
    have:=h.nd j1 j2 k b1 b2
    subst this
    rcases hf.out j1 (List.mem_of_getElem? e2) with q | q
    · exact q (List.mem_of_getElem? e1)
    · exact absurd b1 (q.out _)
  have hO:∀ k,(OwnB L) k→¬O k:=fun k ⟨i,hi⟩ hk=>by
    have:=h.lt k hk
    rcases h.bd i k hi with q | q
    · omega
    · exact this.2 q
  have hsz:∀ i k,(L i).has k→k<w.heap.size:=fun i k hk=>((h.ok i).lt hk).2
  have ndl:∀ (l:List Nat),l.Nodup→∀ a b k,(rl (l.map L) a).has k→(rl (l.map L) b).has k→a=b:=fun l hl a b k ha hb=>by
    obtain ⟨j1,e1,b1⟩:=yjv ha
    obtain ⟨j2,e2,b2⟩:=yjv hb
    have:=h.nd j1 j2 k b1 b2
    subst this
    obtain ⟨l1,q1⟩:=List.getElem?_eq_some_iff.1 e1
    obtain ⟨l2,q2⟩:=List.getElem?_eq_some_iff.1 e2
    exact (List.getElem_inj hl).1 (q1.trans q2.symm)
  have okl:∀ (l:List Nat) (O':BS),(∀ k,O' k→Bl O L k)→∀ i,(rl (l.map L) i).ok 0 O' w:=fun l O' ho i=>by
    rw [rl_map]
    cases hq:l[i]? with
    | none=>trivial
    | some j=>exact (h.ok j).sub fun k _ hk=>ho k hk
  have inl:∀ (l:List Nat) k,OwnB (rl (l.map L)) k→OwnB L k:=fun l k ⟨i,hi⟩=>by
    obtain ⟨j,_,hb⟩:=yjv hi
    exact ⟨j,hb⟩
  refine ⟨⟨h.pure,h.lt,fun k hk=>?_,?_,fun i k hk=>?_,ndl js hj⟩,⟨Keeps.refl _ _,fun k hk=>?_,?_,fun i k hk => .inr ⟨i,hk⟩,ndl gs hg⟩⟩
  · obtain ⟨j,hb⟩:=inl gs k hk
    obtain ⟨i,hi⟩:=hk
    exact ⟨hsz j k hb,h.bd j k hb,fun a ha=>hdis a i k ha hi⟩
  · refine okl js _ fun k hk=>?_
    rcases hk with (q | q) | q
    · exact .inl q
    · exact .inr (inl gs k q)
    · exact .inr (inl js k q)
  · obtain ⟨j,_,hb⟩:=yjv hk
    exact h.bd j k hb
  · rcases hk with q | ⟨i,q⟩
    · exact ⟨Nat.lt_of_lt_of_le (h.lt k q).1 h.pure.size,fun hg=>hO k (inl gs k hg) q⟩
    · obtain ⟨j,_,hb⟩:=yjv q
      exact ⟨hsz j k hb,fun ⟨b,hb2⟩=>hdis i b k q hb2⟩
  · refine okl gs _ fun k hk=>?_
    rcases hk with (q | q) | q
    · exact .inl q
    · exact .inr (inl js k q)
    · exact .inr (inl gs k q)
theorem Two.gen(h:Two w0 S O G W L)(hK:Keeps G W W')(hG:∀ k,G' k→G k∨W.heap.size≤k)(hl:∀ k,G' k→k<W'.heap.size):Two w0 S O G' W' L:=by
  have hlt:∀ i k,(L i).has k→k<W.heap.size:=fun i k hk=>((h.ok i).lt hk).2
  refine ⟨h.pure.then hK (fun k hk q=>(h.g k q).2.1.elim (fun r=>by omega) id),h.lt,fun k hk=>⟨hl k hk,?_,fun i hi=>?_⟩,fun i=>?_,h.bd,h.nd⟩
  · rcases hG k hk with q | q
    · exact (h.g k q).2.1
    · exact .inl (Nat.le_trans h.pure.size q)
  · rcases hG k hk with q | q
    · exact (h.g k q).2.2 i hi
    · have:=hlt i k hi;omega
  · refine (h.ok i).keep hK (fun k hk hg=>(h.g k hg).2.2 i hk) (fun k _ hg => .inl (.inr hg)) fun k hk hO=>?_
    rcases hO with (q | q) | q
    · exact .inl (.inl q)
    · rcases hG k q with r | r
      · exact .inl (.inr r)
      · omega
    · exact .inr q
theorem Two.round(h:Two w0 S O G W L):Sep W (OwnB L) (fun k=>O k∨G k) W L:=by
  refine ⟨Keeps.refl _ _,fun k hk=>?_,h.ok,fun i k hk => .inr ⟨i,hk⟩,h.nd⟩
  rcases hk with q | q
  · refine ⟨Nat.lt_of_lt_of_le (h.lt k q).1 h.pure.size,fun ⟨i,hi⟩=>?_⟩
    rcases h.bd i k hi with r | r
    · have:=(h.lt k q).1;omega
    · exact (h.lt k q).2 r
  · exact ⟨(h.g k q).1,fun ⟨i,hi⟩=>(h.g k q).2.2 i hi⟩
end
def IV{α:Type}(w0:World)(S O:BS)(V:List α→List Res→Prop):BS→BS→List α→World→Prop:=fun T G pre W=>∃ LL,T=Bl O (rl LL)∧Two w0 S O G W (rl LL)∧V pre LL
theorem IV.gen{α:Type}(w0:World)(S O:BS)(V:List α→List Res→Prop):ydS (IV w0 S O V):=by
  rintro T G G' pre W W' ⟨L,rfl,h,hV⟩ hK hG hl
  exact ⟨L,rfl,h.gen hK hG hl,hV⟩
theorem IV.two{α:Type}(w0:World)(S O:BS)(V:List α→List Res→Prop):ydT (IV w0 S O V):=by
  rintro T G pre W ⟨L,rfl,h,hV⟩
  refine ⟨fun k hk=>?_,fun k hk=>(h.g k hk).1⟩
  rcases hk with q | ⟨i,q⟩
  · refine ⟨fun hg=>?_,Nat.lt_of_lt_of_le (h.lt k q).1 h.pure.size⟩
    rcases (h.g k hg).2.1 with r | r
    · have:=(h.lt k q).1;omega
    · exact (h.lt k q).2 r
  · exact ⟨fun hg=>(h.g k hg).2.2 i q,((h.ok i).lt q).2⟩
def dfr(D:Nat):Res := .obj D (.deferred (some []))
theorem yex:∀ (LL:List Res) (r:Res),rl (LL++[r])=stl (rl LL) LL.length r
  | [],r=>by funext i;cases i <;> rfl
  | x::t,r=>by
    funext i
    cases i with
    | zero=>rfl
    | succ i =>
      show rl (t++[r]) i=_
      rw [yex t r]
      by_cases e:i=t.length
      · subst e;rw [yaJ,List.length_cons,yaJ]
      · rw [yaC _ _ e,List.length_cons,yaC _ _ (by omega)];rfl
theorem ycw:∀ (LL:List Res),rl LL LL.length = .gone
  | []=>rfl
  | _::t=>ycw t
theorem Two.take{w0 W:World}{S O G:BS}{L:Hold}(h:Two w0 S O G W L){D i:Nat}{o:Obj}(hi:L i = .gone)(hD:G D)(hd:W.heap[D]? = some o) :
    (∀ j,(stl L i (.obj D o) j).ok 0 (Bl (fun k=>O k∨G k) L) W)∧(∀ k,Bl (fun k=>O k∨(G k∧k≠D)) (stl L i (.obj D o)) k→Bl (fun k=>O k∨G k) L k)∧(∀ a b k,(stl L i (.obj D o) a).has k→(stl L i (.obj D o) b).has k→a=b)∧∀ j k,(stl L i (.obj D o) j).has k→OwnB L k∨k=D:=by
  refine ⟨fun j=>?_,?_,fun a b k ha hb'=>?_,fun j k hk=>?_⟩
  · by_cases e:j=i
    · subst e;rw [yaJ];exact ⟨Nat.zero_le _,hd⟩
    · rw [yaC _ _ e];exact h.ok j
  · rintro k ((q | q) | ⟨j,q⟩)
    · exact .inl (.inl q)
    · exact .inl (.inr q.1)
    · by_cases e:j=i
      · subst e;rw [yaJ] at q;cases q;exact .inl (.inr hD)
      · rw [yaC _ _ e] at q;exact .inr ⟨j,q⟩
  · have key:∀ a b,a≠i→b=i→(stl L i (.obj D o) a).has k→(stl L i (.obj D o) b).has k→False:=fun a b h1 h2 ha hb'=>by
      subst h2
      rw [yaC _ _ h1] at ha
      rw [yaJ] at hb'
      cases hb'
      exact (h.g D hD).2.2 a ha
    by_cases e1:a=i
    · by_cases e2:b=i
      · omega
      · exact (key b a e2 e1 hb' ha).elim
    · by_cases e2:b=i
      · exact (key a b e1 e2 ha hb').elim
      · rw [yaC _ _ e1] at ha;rw [yaC _ _ e2] at hb';exact h.nd _ _ k ha hb'
  · by_cases e:j=i
    · subst e;rw [yaJ] at hk;cases hk;exact .inr rfl
    · rw [yaC _ _ e] at hk;exact .inl ⟨j,hk⟩
theorem Two.mark{w0 W:World}{S O G:BS}{LL:List Res}(h:Two w0 S O G W (rl LL)){D:Nat}(hD:G D)(hd:W.heap[D]? = some (.deferred (some []))):Sep w0 S O W (rl (LL++[dfr D])):=by
  obtain ⟨h1,h2,h3,h4⟩:=h.take (ycw LL) hD hd
  rw [yex]
  refine ⟨h.pure,h.lt,fun j=>(h1 j).sub fun k _ hk=>h2 k (hk.elim (fun q => .inl (.inl q)) .inr),fun j k hk=>?_,h3⟩
  rcases h4 j k hk with ⟨i,q⟩ | q
  · exact h.bd i k q
  · rw [q];exact (h.g D hD).2.1
theorem Two.open_ {w0 W:World}{S O G:BS}{LL:List Res}(h:Two w0 S O G W (rl LL)){l:Nat}{o:Obj}(hG:G l)(hl:W.heap[l]? = some o):Sep W (fun k=>OwnB (rl LL) k∨k=l) (fun k=>O k∨(G k∧k≠l)) W (rl (LL++[.obj l o])):=by
  obtain ⟨h1,h2,h3,h4⟩:=h.take (ycw LL) hG hl
  rw [yex]
  have hr:=h.round
  refine ⟨Keeps.refl _ _,fun k hk=>?_,fun j=>(h1 j).sub fun k _ hk=>h2 k hk,fun j k hk => .inr (h4 j k hk),h3⟩
  rcases hk with q | q
  · have:=hr.lt k (.inl q)
    refine ⟨this.1,fun h5=>h5.elim this.2 fun e=>?_⟩
    subst e
    rcases (h.g k hG).2.1 with r | r
    · have:=(h.lt k q).1;omega
    · exact (h.lt k q).2 r
  · have:=hr.lt k (.inr q.1)
    exact ⟨this.1,fun h5=>h5.elim this.2 q.2⟩
theorem Sep.flip{w0 w w':World}{S O:BS}{L:Hold}(h:Sep w0 S O w L)(i:Nat){l:Nat}{o:Obj}(hi:L i = .obj l o)(o':Obj)(hw:w'=w.putObj l o'):Sep w0 S O w' (stl L i (.obj l o')):=by
  have hl:w.heap[l]? = some o:=by have:=h.ok i;rw [hi] at this;exact this.2
  subst hw
  exact h.upd i _ (T:=fun k=>k=l) (ycq _ _ _) (fun k _ e=>by rw [hi,e]) (fun k hk=>by cases hk;rw [hi];exact .inl rfl) ⟨Nat.zero_le _,World.putObj_heap_same (Array.getElem?_eq_some_iff.1 hl).1⟩
theorem Two.close{w0 W W':World}{S O G:BS}{LL LL':List Res}(h:Two w0 S O G W (rl LL)){l:Nat}{busy:Obj}(hG:G l)
    (hS:Sep W (fun k=>OwnB (rl LL) k∨k=l) (fun k=>O k∨(G k∧k≠l)) W' (rl (LL'++[.obj l busy]))):Two w0 S O G W' (rl LL')∧RL1 l busy (Bl O (rl LL)) W (Bl O (rl LL')) W':=by
  rw [yex] at hS
  have ho:∀ i,i≠LL'.length→stl (rl LL') LL'.length (.obj l busy) i=rl LL' i:=fun i hi=>yaC _ _ hi
  have hne:∀ i k,(rl LL' i).has k→i≠LL'.length:=fun i k hk e=>by rw [e,ycw] at hk;cases hk
  have hbl:∀ k,Bl (fun k=>O k∨G k) (rl LL') k→Bl (fun k=>O k∨(G k∧k≠l)) (stl (rl LL') LL'.length (.obj l busy)) k:=by
    rintro k ((q | q) | ⟨j,q⟩)
    · exact .inl (.inl q)
    · by_cases e:k=l
      · exact .inr ⟨LL'.length,by rw [yaJ,e]⟩
      · exact .inl (.inr ⟨q,e⟩)
    · exact .inr ⟨j,by rw [ho j (hne j k q)];exact q⟩
  have hnl:∀ i k,(rl LL' i).has k→k≠l:=fun i k hk e=>by
    subst e
    have:=hS.nd i LL'.length k (by rw [ho i (hne i k hk)];exact hk) (by rw [yaJ])
    exact hne i k hk this
  have hbd:∀ i k,(rl LL' i).has k→OwnB (rl LL) k∨W.heap.size≤k:=fun i k hk=>by
    rcases hS.bd i k (by rw [ho i (hne i k hk)];exact hk) with q | q | q
    · exact .inr q
    · exact .inl q
    · exact absurd q (hnl i k hk)
  have hok:∀ i,(rl LL' i).ok 0 (Bl (fun k=>O k∨G k) (rl LL')) W':=fun i=>by
    by_cases e:i=LL'.length
    · rw [e,ycw];trivial
    · have:=hS.ok i
      rw [ho i e] at this
      exact this.sub fun k _ hk=>hbl k hk
  have hat:W'.heap[l]? = some busy:=by have:=hS.ok LL'.length;rw [yaJ] at this;exact this.2
  refine ⟨⟨h.pure.then hS.pure (fun k hk q=>?_),h.lt,fun k hk=>⟨Nat.lt_of_lt_of_le (h.g k hk).1 hS.pure.size,(h.g k hk).2.1,fun i hi=>?_⟩,hok,fun i k hk=>?_,fun i j k hi hj=>hS.nd i j k (by rw [ho i (hne i k hi)];exact hi) (by rw [ho j (hne j k hj)];exact hj)⟩,⟨hS.pure.mono fun k _ q=>q.elim (fun q => .inl (.inr q)) .inr,fun k hk=>?_,fun k hk=>?_,hat⟩⟩
  · rcases q with ⟨i,q⟩ | q
    · exact (h.bd i k q).elim (fun r=>by omega) id
    · rw [q] at hk ⊢;exact (h.g l hG).2.1.elim (fun r=>by omega) id
  · rcases hbd i k hi with ⟨j,q⟩ | q
    · exact (h.g k hk).2.2 j q
    · have:=(h.g k hk).1;omega
  · rcases hbd i k hk with ⟨j,q⟩ | q
    · exact h.bd j k q
    · exact .inl (Nat.le_trans h.pure.size q)
  · rcases hk with q | ⟨i,q⟩
    · exact .inl (.inl q)
    · rcases hbd i k q with r | r
      · exact .inl (.inr r)
      · exact .inr r
  · rcases hk with q | ⟨i,q⟩
    · exact Nat.lt_of_lt_of_le (h.lt k q).1 (Nat.le_trans h.pure.size hS.pure.size)
    · exact ((hok i).lt q).2
def rndS{α:Type}(l:Nat)(busy:Obj)(W:World)(S O:BS)(V:List α→List Res→Prop)(Vx:Option Nat→List α→List Res→Prop)(xs:List α):Exit→Act→World→Prop
  | .normal,_,W'=>∃ LL,V xs LL∧Sep W S O W' (rl (LL++[.obj l busy]))
  | .ret,_,W'=>∃ LL,Vx none xs LL∧Sep W S O W' (rl (LL++[.obj l busy]))
  | .exit id,_,W'=>∃ LL,Vx (some id) xs LL∧Sep W S O W' (rl (LL++[.obj l busy]))
  | _,_,_=>False
theorem yiN{P:Program}{N:Nat}{Q:Exit→Act→World→Prop}{E:Env}{ds:List Deferred}{w0 w:World}{S O:BS}{L:Hold}{t:List Item}{fo:Operand}{ps:Array Tmp}{assign body:Code}{gf:FuncId}{lb:Array Value}
    (hS:Sep w0 S O w L) (js gs:List Nat) (hj:js.Nodup) (hg:gs.Nodup) (hf:allJ (fun j=>(j∉js)∨(L j).free) gs)
    (hr:evE E fo = .func (.func gf) #[] lb) (he:Enters P gf) {α:Type} {val:α→Array Value} {pass:α→FP} {Pr R:List α→Prop} (hps:∀ x,(val x).size=ps.size) (hpN:ps.toList.all (fun p=>Nat.blt p N)=true)
    (V:List α→List Res→Prop) (Vx:Option Nat→List α→List Res→Prop) (h0:V [] (js.map L))
    (hgen:∀ T G,Sep w G T w (rl (gs.map L))→yjd P gf lb val pass Pr R T G w)
    (hround:∀ (l:Nat) (rdy busy:Obj) (S1 O1:BS) (pre:List α) (x:α) (W:World) (LL:List Res),V pre LL→Pr (pre++[x])→(pass x).P (Bl O1 (rl (LL++[.obj l rdy]))) W→Sep W S1 O1 W (rl (LL++[.obj l rdy])) →
      WT (Fence.wide.inRound l) 1 P N [.code assign] (fun e a1 W1=>e = .normal∧∃ E1 L1,Rep N E1 [] a1∧Sep W S1 O1 W1 L1∧(∃ i,L1 i = .obj l rdy)∧∀ W2,W2=W1.putObj l busy→WT (Fence.wide.inRound l) 1 P N [.code body] (rndS l busy W S1 O1 V Vx (pre++[x])) E1 [] W2) (setE E (ps.toList.zip (val x).toList)) [] W)
    (hdone:∀ (D:Nat) (xs:List α) (W:World) (LL:List Res),R xs→V xs LL→Sep w0 S O W (rl (LL++[dfr D]))→WT Fence.wide 3 P N t Q E (mark D::ds) W)
    (hstop:∀ (D:Nat) (c:Option Nat) (xs:List α) (W:World) (LL:List Res),Vx c xs LL→Sep w0 S O W (rl (LL++[dfr D]))→yiv P N t Q E (mark D::ds) W c) :
    WT Fence.wide 3 P N (.code (.rangeFunc fo ps assign body)::t) Q E ds w:=by
  obtain ⟨hT,hG⟩:=hS.give js gs hj hg hf
  refine wt_iter hr he hps hpN (Bl O (rl (js.map L))) (OwnB (rl (gs.map L))) (IV w0 S O V) (fun c=>IV w0 S O (Vx c)) (IV.gen _ _ _ _) (IV.two _ _ _ _) (fun c=>IV.gen _ _ _ _) (fun c=>IV.two _ _ _ _) ⟨_,rfl,hT,h0⟩ (hgen _ _ hG) ?_ ?_ ?_
  · rintro l T G pre x W rdy busy ⟨LL,rfl,h,hV⟩ hPr hp hGl hl
    have hb:=hround l rdy busy (fun k=>OwnB (rl LL) k∨k=l) (fun k=>O k∨(G k∧k≠l)) pre x W LL hV hPr ((pass x).sub hp fun k _ hk=>by
      rw [yex] at hk
      rcases (h.take (ycw LL) hGl hl).2.1 k hk with (q | q) | q
      · exact .inl (.inl q)
      · exact .inr q
      · exact .inl (.inr q)) (h.open_ hGl hl)
    intro a ra b k cs h1 h2 h3
    obtain ⟨e,a',w',⟨rfl,E1,L1,r1,s1,⟨i,hi⟩,hq⟩,harr⟩:=hb a ra b k cs h1 h2 h3
    refine ⟨.normal,a',w',⟨rfl,E1,r1,by have:=s1.ok i;rw [hi] at this;exact this.2,fun W2 hW2=>?_⟩,harr⟩
    intro a2 ra2 b2 k2 cs2 g1 g2 g3
    obtain ⟨e,a3,w3,hq,harr3⟩:=hq W2 hW2 a2 ra2 b2 k2 cs2 g1 g2 g3
    refine ⟨e,a3,w3,?_,harr3⟩
    cases e with
    | normal=>obtain ⟨L2,v2,s2⟩:=hq;obtain ⟨t2,r2⟩:=h.close hGl s2;exact ⟨_,r2,L2,rfl,t2,v2⟩
    | ret=>obtain ⟨L2,v2,s2⟩:=hq;obtain ⟨t2,r2⟩:=h.close hGl s2;exact ⟨_,r2,L2,rfl,t2,v2⟩
    | exit id=>obtain ⟨L2,v2,s2⟩:=hq;obtain ⟨t2,r2⟩:=h.close hGl s2;exact ⟨_,r2,L2,rfl,t2,v2⟩
    | goto t=>exact hq.elim
    | panic ch=>exact hq.elim
    | outgrown=>exact hq.elim
  · rintro D T G xs W hD hTD hGD hR ⟨L',rfl,h,hV⟩ hd
    exact hdone D xs W L' hR hV (h.mark hGD hd)
  · rintro D T G c xs W hD hTD hGD ⟨L',rfl,h,hV⟩ hd
    exact hstop D c xs W L' hV (h.mark hGD hd)
section
variable {P : Program} {l : Nat} {α : Type} {val : α → Array Value} {pass : α → FP} {Pr : List α → Prop} {J Jx K : BS → BS → List α → World → Prop}
theorem Sep.yielded{wb w W':World}{G T T':BS}{L:Hold}(h:Sep wb G T w L)(hr:RK T w T' W'):Sep W' (OwnB L) T' W' L:=by
  have hlt:∀ i k,(L i).has k→k<w.heap.size:=fun i k hk=>((h.ok i).lt hk).2
  have hnT:∀ i k,(L i).has k→¬T k:=fun i k hk hT=>by
    rcases h.bd i k hk with r | r
    · have:=(h.lt k hT).1;omega
    · exact (h.lt k hT).2 r
  refine ⟨Keeps.refl _ _,fun k hk=>⟨hr.lt k hk,fun ⟨i,hi⟩=>?_⟩,fun i=>?_,fun i k hk => .inr ⟨i,hk⟩,h.nd⟩
  · rcases hr.sub k hk with q | q
    · exact hnT i k hi q
    · have:=hlt i k hi;omega
  · refine (h.ok i).keep hr.keeps (fun k hk=>hnT i k hk) (fun k _ hk => .inl hk) fun k hk hO=>?_
    rcases hO with q | q
    · rcases hr.sub k q with r | r
      · exact .inl r
      · omega
    · exact .inr q
theorem gen_yield(hs:Sess P l val pass Pr J Jx){T G:BS}{pre:List α}{x:α}{wb w:World}{L:Hold}(hJ:J T G pre wb)(hS:Sep wb G T w L)(hPr:Pr (pre++[x]))(hp:(pass x).P (Bl T L) w)
    {Rr:Ending→World→Prop} (h1:∀ T' W',J T' (OwnB L) (pre++[x]) W'→Sep W' (OwnB L) T' W' L→Rr (.returned (.bool true)) W') (h2:∀ T' W',Jx T' (OwnB L) (pre++[x]) W'→Sep W' (OwnB L) T' W' L→Rr (.returned (.bool false)) W') :
    YieldAt Fence.wide 1 P l (val x) w Rr:=by
  have hJ2:J T (OwnB L) pre w:=hs.gen hJ hS.pure (fun k ⟨i,hi⟩=>(hS.bd i k hi).elim (fun q => .inr (by have:=hS.pure.size;omega)) .inl) (fun k ⟨i,hi⟩=>((hS.ok i).lt hi).2)
  obtain ⟨fn,tmps,assign,body,hy,hR⟩:=hs.yld hJ2 hPr hp
  refine ⟨fn,tmps,assign,body,hy,hR.mono ?_⟩
  rintro e W' ⟨T',hr,(⟨rfl,hj⟩ | ⟨rfl,hj⟩)⟩
  · exact h1 T' W' hj (hS.yielded hr)
  · exact h2 T' W' hj (hS.yielded hr)
theorem gen_end(hs:Sess P l val pass Pr J Jx){T G:BS}{pre:List α}{wb w:World}{L:Hold}{R:List α→Prop}(hJ:J T G pre wb)(hS:Sep wb G T w L)(hR:R pre) :
    (∃ xs T G,R xs∧J T G xs w)∨∃ pre T G,Jx T G pre w :=
  .inl ⟨pre,T,OwnB L,hR,hs.gen hJ hS.pure (fun k ⟨i,hi⟩=>(hS.bd i k hi).elim (fun q => .inr (by have:=hS.pure.size;omega)) .inl) (fun k ⟨i,hi⟩=>((hS.ok i).lt hi).2)⟩
theorem gen_endx(hs:Sess P l val pass Pr J Jx){T G:BS}{pre:List α}{wb w:World}{L:Hold}{R:List α→Prop}(hJ:Jx T G pre wb)(hS:Sep wb G T w L) :
    (∃ xs T G,R xs∧J T G xs w)∨∃ pre T G,Jx T G pre w :=
  .inr ⟨pre,T,OwnB L,hs.genx hJ hS.pure (fun k ⟨i,hi⟩=>(hS.bd i k hi).elim (fun q => .inr (by have:=hS.pure.size;omega)) .inl) (fun k ⟨i,hi⟩=>((hS.ok i).lt hi).2)⟩
end
theorem gen_start{P:Program}{l:Nat}{α:Type}{val:α→Array Value}{pass:α→FP}{Pr:List α→Prop}{J Jx:BS→BS→List α→World→Prop}{T T1 G:BS}{w w1:World}{L:Hold}
    (h:Sep w G T w L) (hs:Sess P l val pass Pr J Jx) (hJ:J T1 G [] w1) (hp:Pure w w1) (hT:∀ k,T1 k→T k∨w.heap.size≤k):∃ G1,J T1 G1 [] w1∧Sep w1 G1 T1 w1 L:=by
  have hS:=h.yielded (T':=T1) ⟨hp.mono fun k _ q=>q.elim,hT,fun k hk=>((hs.two hJ).1 k hk).2⟩
  refine ⟨OwnB L,hs.gen hJ (Keeps.refl _ _) (fun k ⟨i,hi⟩=>?_) (fun k ⟨i,hi⟩=>((hS.ok i).lt hi).2),hS⟩
  rcases h.bd i k hi with q | q
  · have:=((h.ok i).lt hi).2;omega
  · exact .inl q
theorem yhi{P:Program}{f:FuncId}{fn:Func}{c:Code}{args:Array Value}{l:List Value}{w:World}{R:Ending→World→Prop}{N:Nat}(hf:P.funcs[f]? = some fn)(hb:fn.body=some c)(hN:fn.ntmps=N)(hl:l.length≤N)(ha:args=l.toArray)
    (h:WT Fence.wide 2 P N [.code c] (bodyPost P fn R) (lenv l) [] w):CallsIn Fence.wide 2 P f args w R:=by
  subst ha
  refine callsIn_of_wp hf hb trivial (WTa.code (h _ ⟨?_,lenv_eq l _,rfl⟩)) rfl
  simp
  omega
def FP.tt:FP:=⟨fun _ _=>True,fun h _=>h,fun h _=>h⟩
theorem leaves_marks2{F:Fence}{n:Nat}{P:Program}{fn:Func}{tmps:Array Value}{R:Ending→World→Prop} : ∀ (rs:List Nat) (W:World),rs.Nodup→(∀ r∈rs,W.heap[r]? = some (Obj.deferred (some []))) →
    (∀ W':World,Keeps (fun k=>k∈rs) W W'→LeavesIn F n P fn tmps R [] .returning W')→LeavesInM F n P fn tmps R (rs.map mark) .returning W:=by
  intro rs
  induction rs with
  | nil=>intro W _ _ h;exact h W (Keeps.refl _ _)
  | cons r rs ih =>
    intro W hn hd h
    have hr:=hd r (by simp)
    have hnr:=List.nodup_cons.1 hn
    refine ⟨by simp, .inl ⟨r,_,rfl,run_takeDeferred hr,?_⟩⟩
    refine ih (W.putObj r (.deferred none)) hnr.2 (fun q hq=>?_) fun W' hK=>?_
    · rw [World.putObj_heap_other (by rintro rfl;exact hnr.1 hq)];exact hd q (by simp [hq])
    · exact h W' (((ycq W r _).mono fun k _ e=>by subst e;simp).trans (hK.mono fun k _ e=>by simp [e]))
theorem Sep.unmark{w0 w w':World}{S O:BS}{L:Hold}(h:Sep w0 S O w L){rs:List Nat}(is js:List Nat)(hj:js.Nodup)(hd:∀ i∈is,i∉js)(hm:∀ r∈rs,∃ i∈is,(L i).has r)(hK:Keeps (fun k=>k∈rs) w w'):Sep w0 S O w' (rl (js.map L)):=by
  have h2:=h.step (w':=w') (L':=fun j=>if j∈is then .gone else L j) (T:=fun k=>k∈rs) hK (fun k _ hk=>by obtain ⟨i,_,hi⟩:=hm k hk;exact ⟨i,hi⟩)
    (fun j k hk=>by
      by_cases e:j∈is
      · simp only [if_pos e] at hk;cases hk
      · simp only [if_neg e] at hk;exact .inl ⟨j,hk⟩)
    (fun j=>by
      by_cases e:j∈is
      · simp only [if_pos e];exact .inr trivial
      · refine .inl ⟨j,by simp only [if_neg e],fun k hk hr=>?_⟩
        obtain ⟨i,hi,hb⟩:=hm k hr
        have:=h.nd i j k hb hk
        subst this
        exact e hi)
    (fun a b k ha hb=>by
      by_cases e1:a∈is
      · simp only [if_pos e1] at ha;cases ha
      · by_cases e2:b∈is
        · simp only [if_pos e2] at hb;cases hb
        · simp only [if_neg e1] at ha;simp only [if_neg e2] at hb;exact h.nd a b k ha hb)
  have h3:=h2.sel js hj
  have e:js.map (fun j=>if j∈is then Res.gone else L j)=js.map L:=List.map_congr_left fun j hjj=>by
    rw [if_neg fun q=>hd j q hjj]
  rw [e] at h3
  exact h3
section
variable {P : Program} {fn : Func} {N : Nat} {t : List Item} {R : Ending → World → Prop} {E : Env} {w : World} {rs : List Nat} {a : Act}
theorem wt_retn(hn:rs.Nodup)(hd:∀ r∈rs,w.heap[r]? = some (Obj.deferred (some [])))(h:∀ a,Rep N E (rs.map mark) a→∀ W',Keeps (fun k=>k∈rs) w W'→LeavesIn Fence.wide 3 P fn a.tmps R [] .returning W'):WT Fence.wide 3 P N (.code .ret::t) (bodyPostM Fence.wide 3 P fn R) E (rs.map mark) w :=
  yhF fun a r=>by
    have hd':=r.defers
    show LeavesInM _ _ _ _ _ _ a.defers _ _
    rw [hd']
    exact leaves_marks2 rs w hn hd fun W' hk=>h a r W' hk
theorem wt_retk1{t1:Tmp}{v1:Value}(hn:rs.Nodup)(hd:∀ r∈rs,w.heap[r]? = some (Obj.deferred (some [])))(hr:fn.results = #[.tmp t1])(h1:E t1=v1)(h:∀ w',Keeps (fun k=>k∈rs) w w'→R (.returned v1) w'):WT Fence.wide 3 P N (.code .ret::t) (bodyPostM Fence.wide 3 P fn R) E (rs.map mark) w :=
  wt_retn hn hd fun a r W' hk=>⟨_,results_tmp hr _ _ _,by rw [r.get,h1];exact h W' hk⟩
theorem yfd{t1 t2:Tmp}{v1 v2:Value}(hn:rs.Nodup)(hd:∀ r∈rs,w.heap[r]? = some (Obj.deferred (some [])))(hr:fn.results = #[.tmp t1, .tmp t2])(h1:E t1=v1)(h2:E t2=v2)(h:∀ w',Keeps (fun k=>k∈rs) w w'→R (.returned (.tuple #[v1,v2])) w'):WT Fence.wide 3 P N (.code .ret::t) (bodyPostM Fence.wide 3 P fn R) E (rs.map mark) w :=
  wt_retn hn hd fun a r W' hk=>⟨_,results_tmp2 hr _ _ _,by rw [r.get,r.get,h1,h2];exact h W' hk⟩
end
theorem Sep.marked{w0 w:World}{S O:BS}{L:Hold}(h:Sep w0 S O w L)(i:Nat){D:Nat}(hi:L i=dfr D):∀ r∈[D],w.heap[r]? = some (Obj.deferred (some [])):=fun r hr=>by
  rw [List.mem_singleton] at hr
  subst hr
  have:=h.ok i
  rw [hi] at this
  exact this.2
theorem yh8{L:Hold}(i:Nat){D:Nat}(hi:L i=dfr D):∀ r∈[D],∃ j∈[i],(L j).has r:=fun r hr=>by
  rw [List.mem_singleton] at hr
  subst hr
  exact ⟨i,by simp,by rw [hi];rfl⟩
section
variable {P : Program} {fn : Func} {N : Nat} {t : List Item} {R : Ending → World → Prop} {E : Env} {w : World} {rs : List Nat}
end
def FP.and(a b:FP):FP :=
  ⟨fun O w=>a.P O w∧b.P O w,fun ⟨h1,h2⟩ hk=>⟨a.keep h1 hk,b.keep h2 hk⟩,fun ⟨h1,h2⟩ hs=>⟨a.sub h1 hs,b.sub h2 hs⟩⟩
def JP{α β:Type}(J:BS→BS→List (α×β)→World→Prop):BS→BS→List α→World→Prop:=fun T G ps W=>∃ l,l.map Prod.fst=ps∧J T G l W
structure SessP(P:Program)(l:Nat){α β:Type}(enc:α→β→Array Value)(pass:α→β→FP)(Pr:List α→Prop)(J Jx:BS→BS→List α→World→Prop):Prop where
  gen:ydS J
  genx:ydS Jx
  two:ydT J
  twox:ydT Jx
  yld:∀ {T G:BS} {pre:List α} {x:α} {b:β} {W:World},J T G pre W→Pr (pre++[x])→(pass x b).P (fun k=>T k∨G k) W →
    YieldAt Fence.wide 1 P l (enc x b) W fun e W'=>∃ T',RK T W T' W'∧((e = .returned (.bool true)∧J T' G (pre++[x]) W')∨(e = .returned (.bool false)∧Jx T' G (pre++[x]) W'))
theorem ydS.jp{α β:Type}{J:BS→BS→List (α×β)→World→Prop}(h:ydS J):ydS (JP J):=fun ⟨l,hl,hj⟩ a b c=>⟨l,hl,h hj a b c⟩
theorem ydT.jp{α β:Type}{J:BS→BS→List (α×β)→World→Prop}(h:ydT J):ydT (JP J):=fun ⟨l,hl,hj⟩=>h hj
theorem Sess.proj{P:Program}{l:Nat}{α β:Type}{enc:α→β→Array Value}{pass:α→β→FP}{Pr:List α→Prop}{J Jx:BS→BS→List (α×β)→World→Prop}
    (h:Sess P l (fun y:α×β=>enc y.1 y.2) (fun y=>pass y.1 y.2) (fun q=>Pr (q.map Prod.fst)) J Jx):SessP P l enc pass Pr (JP J) (JP Jx):=by
  have g1:ydS J:=h.gen
  have g2:ydS Jx:=h.genx
  have g3:ydT J:=h.two
  have g4:ydT Jx:=h.twox
  refine ⟨ydS.jp (J:=J) g1,ydS.jp (J:=Jx) g2,ydT.jp (J:=J) g3,ydT.jp (J:=Jx) g4,?_⟩
  rintro T G pre x b W ⟨q,rfl,hj⟩ hPr hp
  refine (show YieldAt Fence.wide 1 P l (enc x b) W _ from h.yld (x:=(x,b)) hj (by simpa using hPr) hp) |> fun ⟨fn,tmps,assign,body,hy,hR⟩=>⟨fn,tmps,assign,body,hy,hR.mono ?_⟩
  rintro e W' ⟨T',hr,(⟨rfl,hj⟩ | ⟨rfl,hj⟩)⟩
  · exact ⟨T',hr, .inl ⟨rfl,_,by simp,hj⟩⟩
  · exact ⟨T',hr, .inr ⟨rfl,_,by simp,hj⟩⟩
def yiP(P:Program)(gf:FuncId)(lb:Array Value){α β:Type}(enc:α→β→Array Value)(pass:α→β→FP)(Pr R:List α→Prop)(T0 G0:BS)(w:World):Prop :=
  ∀ (l:Nat) (J Jx:BS→BS→List α→World→Prop) (T1:BS) (w1:World),SessP P l enc pass Pr J Jx→J T1 G0 [] w1→Pure w w1→(∀ k,T1 k→T0 k∨w.heap.size≤k) →
    CallsIn Fence.wide 2 P gf (#[.func (.yield l) #[] #[]]++lb) w1 fun e w'=>(∃ v,e = .returned v)∧((∃ xs T G,R xs∧J T G xs w')∨∃ pre T G,Jx T G pre w')
theorem yiP.to{P:Program}{gf:FuncId}{lb:Array Value}{α β:Type}{enc:α→β→Array Value}{pass:α→β→FP}{Pr R:List α→Prop}{T0 G0:BS}{w:World}(h:yiP P gf lb enc pass Pr R T0 G0 w) :
    yjd P gf lb (fun y:α×β=>enc y.1 y.2) (fun y=>pass y.1 y.2) (fun q=>Pr (q.map Prod.fst)) (fun q=>R (q.map Prod.fst)) T0 G0 w:=by
  intro l J Jx T1 w1 hs hJ hp hT
  refine (h l (JP J) (JP Jx) T1 w1 hs.proj ⟨[],rfl,hJ⟩ hp hT).mono ?_
  rintro e w' ⟨hv,(⟨xs,T,G,hR,q,hl,hj⟩ | ⟨pre,T,G,q,hl,hj⟩)⟩
  · exact ⟨hv, .inl ⟨q,T,G,by subst hl;exact hR,hj⟩⟩
  · exact ⟨hv, .inr ⟨q,T,G,hj⟩⟩
section
variable {P : Program} {l : Nat} {α β : Type} {val : α → β → Array Value} {pass : α → β → FP} {Pr : List α → Prop} {J Jx : BS → BS → List α → World → Prop}
theorem gen_yieldP(hs:SessP P l val pass Pr J Jx){T G:BS}{pre:List α}{x:α}{b:β}{wb w:World}{L:Hold}(hJ:J T G pre wb)(hS:Sep wb G T w L)(hPr:Pr (pre++[x]))(hp:(pass x b).P (Bl T L) w)
    {Rr:Ending→World→Prop} (h1:∀ T' W',J T' (OwnB L) (pre++[x]) W'→Sep W' (OwnB L) T' W' L→Rr (.returned (.bool true)) W') (h2:∀ T' W',Jx T' (OwnB L) (pre++[x]) W'→Sep W' (OwnB L) T' W' L→Rr (.returned (.bool false)) W') :
    YieldAt Fence.wide 1 P l (val x b) w Rr:=by
  have hJ2:J T (OwnB L) pre w:=hs.gen hJ hS.pure (fun k ⟨i,hi⟩=>(hS.bd i k hi).elim (fun q => .inr (by have:=hS.pure.size;omega)) .inl) (fun k ⟨i,hi⟩=>((hS.ok i).lt hi).2)
  obtain ⟨fn,tmps,assign,body,hy,hR⟩:=hs.yld hJ2 hPr hp
  refine ⟨fn,tmps,assign,body,hy,hR.mono ?_⟩
  rintro e W' ⟨T',hr,(⟨rfl,hj⟩ | ⟨rfl,hj⟩)⟩
  · exact h1 T' W' hj (hS.yielded hr)
  · exact h2 T' W' hj (hS.yielded hr)
theorem gen_endP(hs:SessP P l val pass Pr J Jx){T G:BS}{pre:List α}{wb w:World}{L:Hold}{R:List α→Prop}(hJ:J T G pre wb)(hS:Sep wb G T w L)(hR:R pre) :
    (∃ xs T G,R xs∧J T G xs w)∨∃ pre T G,Jx T G pre w :=
  .inl ⟨pre,T,OwnB L,hR,hs.gen hJ hS.pure (fun k ⟨i,hi⟩=>(hS.bd i k hi).elim (fun q => .inr (by have:=hS.pure.size;omega)) .inl) (fun k ⟨i,hi⟩=>((hS.ok i).lt hi).2)⟩
theorem gen_endxP(hs:SessP P l val pass Pr J Jx){T G:BS}{pre:List α}{wb w:World}{L:Hold}{R:List α→Prop}(hJ:Jx T G pre wb)(hS:Sep wb G T w L) :
    (∃ xs T G,R xs∧J T G xs w)∨∃ pre T G,Jx T G pre w :=
  .inr ⟨pre,T,OwnB L,hs.genx hJ hS.pure (fun k ⟨i,hi⟩=>(hS.bd i k hi).elim (fun q => .inr (by have:=hS.pure.size;omega)) .inl) (fun k ⟨i,hi⟩=>((hS.ok i).lt hi).2)⟩
theorem gen_startP{T T1 G:BS}{w w1:World}{L:Hold}
    (h:Sep w G T w L) (hs:SessP P l val pass Pr J Jx) (hJ:J T1 G [] w1) (hp:Pure w w1) (hT:∀ k,T1 k→T k∨w.heap.size≤k):∃ G1,J T1 G1 [] w1∧Sep w1 G1 T1 w1 L:=by
  have hS:=h.yielded (T':=T1) ⟨hp.mono fun k _ q=>q.elim,hT,fun k hk=>((hs.two hJ).1 k hk).2⟩
  refine ⟨OwnB L,hs.gen hJ (Keeps.refl _ _) (fun k ⟨i,hi⟩=>?_) (fun k ⟨i,hi⟩=>((hS.ok i).lt hi).2),hS⟩
  rcases h.bd i k hi with q | q
  · have:=((h.ok i).lt hi).2;omega
  · exact .inl q
end
theorem rndS_fst{α β:Type}{l:Nat}{busy:Obj}{W:World}{S O:BS}{V:List α→List Res→Prop}{Vx:Option Nat→List α→List Res→Prop}{xs:List (α×β)}{ys:List α}(h:xs.map Prod.fst=ys){e:Exit}{a:Act}{w:World}
    (hq:rndS l busy W S O V Vx ys e a w):rndS l busy W S O (fun (p:List (α×β)) LL=>V (p.map Prod.fst) LL) (fun c (p:List (α×β)) LL=>Vx c (p.map Prod.fst) LL) xs e a w:=by
  subst h
  cases e <;> exact hq
theorem wt_iterSP{P:Program}{N:Nat}{Q:Exit→Act→World→Prop}{E:Env}{ds:List Deferred}{w0 w:World}{S O:BS}{L:Hold}{t:List Item}{fo:Operand}{ps:Array Tmp}{assign body:Code}{gf:FuncId}{lb:Array Value}
    (hS:Sep w0 S O w L) (js gs:List Nat) (hj:js.Nodup) (hg:gs.Nodup) (hf:allJ (fun j=>(j∉js)∨(L j).free) gs)
    (hr:evE E fo = .func (.func gf) #[] lb) (he:Enters P gf) {α β:Type} {val:α→β→Array Value} {pass:α→β→FP} {Pr R:List α→Prop} (hps:∀ x b,(val x b).size=ps.size) (hpN:ps.toList.all (fun p=>Nat.blt p N)=true)
    (V:List α→List Res→Prop) (Vx:Option Nat→List α→List Res→Prop) (h0:V [] (js.map L))
    (hgen:∀ T G,Sep w G T w (rl (gs.map L))→yiP P gf lb val pass Pr R T G w)
    (hround:∀ (l:Nat) (rdy busy:Obj) (S1 O1:BS) (pre:List α) (x:α) (b:β) (W:World) (LL:List Res),V pre LL→Pr (pre++[x])→(pass x b).P (Bl O1 (rl (LL++[.obj l rdy]))) W→Sep W S1 O1 W (rl (LL++[.obj l rdy])) →
      WT (Fence.wide.inRound l) 1 P N [.code assign] (fun e a1 W1=>e = .normal∧∃ E1 L1,Rep N E1 [] a1∧Sep W S1 O1 W1 L1∧(∃ i,L1 i = .obj l rdy)∧∀ W2,W2=W1.putObj l busy→WT (Fence.wide.inRound l) 1 P N [.code body] (rndS l busy W S1 O1 V Vx (pre++[x])) E1 [] W2) (setE E (ps.toList.zip (val x b).toList)) [] W)
    (hdone:∀ (D:Nat) (xs:List α) (W:World) (LL:List Res),R xs→V xs LL→Sep w0 S O W (rl (LL++[dfr D]))→WT Fence.wide 3 P N t Q E (mark D::ds) W)
    (hstop:∀ (D:Nat) (c:Option Nat) (xs:List α) (W:World) (LL:List Res),Vx c xs LL→Sep w0 S O W (rl (LL++[dfr D]))→yiv P N t Q E (mark D::ds) W c) :
    WT Fence.wide 3 P N (.code (.rangeFunc fo ps assign body)::t) Q E ds w:=by
  refine yiN hS js gs hj hg hf hr he (val:=fun y:α×β=>val y.1 y.2) (pass:=fun y=>pass y.1 y.2) (Pr:=fun q=>Pr (q.map Prod.fst)) (R:=fun q=>R (q.map Prod.fst)) (fun y=>hps y.1 y.2) hpN (fun p LL=>V (p.map Prod.fst) LL) (fun c p LL=>Vx c (p.map Prod.fst) LL) h0 (fun T G hG=>(hgen T G hG).to) ?_ (fun D xs W LL hR hV hs=>hdone D _ W LL hR hV hs) (fun D c xs W LL hV hs=>hstop D c _ W LL hV hs)
  rintro l rdy busy S1 O1 pre ⟨x,b⟩ W LL hV hPr hp hs1
  have hb:=hround l rdy busy S1 O1 (pre.map Prod.fst) x b W LL hV (by simpa using hPr) hp hs1
  intro a ra bb k cs h1 h2 h3
  obtain ⟨e,a',w',⟨rfl,E1,L1,r1,s1,hi,hq⟩,harr⟩:=hb a ra bb k cs h1 h2 h3
  refine ⟨.normal,a',w',⟨rfl,E1,L1,r1,s1,hi,fun W2 hW2=>?_⟩,harr⟩
  intro a2 ra2 b2 k2 cs2 g1 g2 g3
  obtain ⟨e,a3,w3,hq,harr3⟩:=hq W2 hW2 a2 ra2 b2 k2 cs2 g1 g2 g3
  exact ⟨e,a3,w3,rndS_fst (by simp) hq,harr3⟩
end Go.Proofs.YtadpnlimiblniaaGreat

namespace Go.Proofs.YtadpnlimiblniaaGreat
open Go Go.RowKit Go.Shelf Go.Proofs.Tryz
def kE(l:List Int):Value := .agg (l.map (Value.int .i64)).toArray
theorem kE_inj{a b:List Int}(h:kE a=kE b):a=b:=by
  unfold kE at h
  simp only [Value.agg.injEq] at h
  have h2:a.map (Value.int .i64)=b.map (Value.int .i64):=by simpa using congrArg Array.toList h
  exact (List.map_inj_right (fun x y hxy=>by simpa using hxy)).1 h2
section
variable {τ : Type}
def mEs(vE:τ→Value):Nat→List (List Int×τ)→List MapEntry
  | _,[]=>[]
  | i,p::t=>⟨kE p.1,vE p.2,i⟩::mEs vE (i+1) t
def mapO(vE:τ→Value)(m:List (List Int×τ)):Obj := .map (mEs vE 0 m).toArray m.length
def mget:List (List Int×τ)→List Int→Option τ
  | [],_=>none
  | p::t,k=>if p.1=k then some p.2 else mget t k
def mput:List (List Int×τ)→List Int→τ→List (List Int×τ)
  | [],k,v=>[(k,v)]
  | p::t,k,v=>if p.1=k then (k,v)::t else p::mput t k v
def yia(n:Nat)(k:List Int):Prop:=k.length=n∧∀ x∈k,In64 x
def KOk(n:Nat)(m:List (List Int×τ)):Prop:=m.Pairwise (fun p q=>p.1≠q.1)∧∀ p∈m,yia n p.1
theorem KOk.nil(n:Nat):KOk n ([]:List (List Int×τ)):=⟨.nil,fun p h=>by simp at h⟩
theorem mput_mem{m:List (List Int×τ)}{k:List Int}{v:τ}{p:List Int×τ}(h:p∈mput m k v):p.1=k∨p∈m:=by
  induction m with
  | nil=>simp [mput] at h;left;rw [h]
  | cons a t ih =>
    unfold mput at h
    split at h
    · rcases List.mem_cons.1 h with h | h
      · left;rw [h]
      · right;exact List.mem_cons_of_mem _ h
    · rcases List.mem_cons.1 h with h | h
      · right;rw [h];exact List.mem_cons_self
      · rcases ih h with h | h
        · exact .inl h
        · exact .inr (List.mem_cons_of_mem _ h)
theorem KOk.put{n:Nat}{m:List (List Int×τ)}(h:KOk n m){k:List Int}(hk:yia n k)(v:τ):KOk n (mput m k v):=by
  refine ⟨?_,fun p hp=>?_⟩
  · obtain ⟨h1, -⟩:=h
    induction m with
    | nil=>exact .cons (fun _ h=>by simp at h) .nil
    | cons a t ih =>
      unfold mput
      rw [List.pairwise_cons] at h1
      split
      · rename_i e
        rw [List.pairwise_cons]
        exact ⟨fun q hq=>by have:=h1.1 q hq;rw [e] at this;exact this,h1.2⟩
      · rename_i e
        rw [List.pairwise_cons]
        refine ⟨fun q hq=>?_,ih h1.2⟩
        rcases mput_mem hq with h | h
        · rw [h];exact e
        · exact h1.1 q h
  · rcases mput_mem hp with h1 | h1
    · rw [h1];exact hk
    · exact h.2 p h1
theorem yh0{m:List (List Int×τ)}{k k':List Int}{v:τ} : mget (mput m k v) k'=if k=k' then some v else mget m k':=by
  induction m with
  | nil=>rfl
  | cons a t ih =>
    unfold mput
    by_cases e:a.1=k
    · rw [if_pos e]
      show (if k=k' then some v else mget t k')=_
      by_cases e2:k=k'
      · rw [if_pos e2,if_pos e2]
      · rw [if_neg e2,if_neg e2]
        show _=if a.1=k' then some a.2 else mget t k'
        rw [if_neg (by rw [e];exact e2)]
    · rw [if_neg e]
      show (if a.1=k' then some a.2 else mget (mput t k v) k')=_
      rw [ih]
      by_cases e2:k=k'
      · subst e2;simp [e]
      · rw [if_neg e2,if_neg e2];rfl
theorem yjB{m:List (List Int×τ)}{k:List Int}{v:τ} : (mput m k v).length=if (mget m k).isSome then m.length else m.length+1:=by
  induction m with
  | nil=>rfl
  | cons a t ih =>
    unfold mput mget
    by_cases e:a.1=k
    · rw [if_pos e,if_pos e];rfl
    · rw [if_neg e,if_neg e,List.length_cons,ih]
      split <;> rfl
theorem yiR{m:List (List Int×τ)}{k:List Int}{v:τ}(h:mget m k=some v):(k,v)∈m:=by
  induction m with
  | nil=>cases h
  | cons a t ih =>
    unfold mget at h
    split at h
    · rename_i e
      cases h
      rw [←e];exact List.mem_cons_self
    · exact List.mem_cons_of_mem _ (ih h)
theorem mEs_len(vE:τ→Value):∀ (m:List (List Int×τ)) (i:Nat),(mEs vE i m).length=m.length
  | [],_=>rfl
  | p::t,i=>by rw [mEs,List.length_cons,List.length_cons,mEs_len vE t]
theorem yfs(vE:τ→Value):∀ (m:List (List Int×τ)) (i j:Nat),(mEs vE i m)[j]? = m[j]?.map fun p=>⟨kE p.1,vE p.2,i+j⟩
  | [],_,_=>by simp [mEs]
  | p::t,i,0=>by simp [mEs]
  | p::t,i,j+1=>by
    rw [mEs,List.getElem?_cons_succ,List.getElem?_cons_succ,yfs vE t (i+1) j]
    congr 1
    funext p
    rw [Nat.add_assoc,Nat.add_comm 1 j]
theorem mget_none{m:List (List Int×τ)}{k:List Int}(h:∀ p∈m,p.1≠k):mget m k=none:=by
  induction m with
  | nil=>rfl
  | cons a t ih =>
    unfold mget
    rw [if_neg (h a List.mem_cons_self)]
    exact ih fun p hp=>h p (List.mem_cons_of_mem _ hp)
theorem mget_at{m:List (List Int×τ)}(hd:m.Pairwise (fun p q=>p.1≠q.1)){k:List Int}{v:τ}{j:Nat}(h:m[j]? = some (k,v)):mget m k=some v:=by
  induction m generalizing j with
  | nil=>simp at h
  | cons a t ih =>
    rw [List.pairwise_cons] at hd
    unfold mget
    cases j with
    | zero=>simp at h;subst h;rw [if_pos rfl]
    | succ j =>
      rw [List.getElem?_cons_succ] at h
      rw [if_neg (hd.1 _ (List.mem_of_getElem? h))]
      exact ih hd.2 h
theorem mput_at{m:List (List Int×τ)}(hd:m.Pairwise (fun p q=>p.1≠q.1)){k:List Int}{v v':τ}{j:Nat}(h:m[j]? = some (k,v)):mput m k v'=m.set j (k,v'):=by
  induction m generalizing j with
  | nil=>simp at h
  | cons a t ih =>
    rw [List.pairwise_cons] at hd
    unfold mput
    cases j with
    | zero=>simp at h;subst h;rw [if_pos rfl];rfl
    | succ j =>
      rw [List.getElem?_cons_succ] at h
      rw [if_neg (hd.1 _ (List.mem_of_getElem? h)),List.set_cons_succ,ih hd.2 h]
theorem mput_none{m:List (List Int×τ)}{k:List Int}{v:τ}(h:∀ p∈m,p.1≠k):mput m k v=m++[(k,v)]:=by
  induction m with
  | nil=>rfl
  | cons a t ih =>
    unfold mput
    rw [if_neg (h a List.mem_cons_self),ih fun p hp=>h p (List.mem_cons_of_mem _ hp)]
    rfl
end
section
variable {τ : Type} {P : Program} {w : World} {k e mt : TypeId} {n : Nat} {vE : τ → Value} {m : List (List Int × τ)} {b : Nat} {key : List Int}
structure KeyT(P:Program)(k:TypeId)(n:Nat):Prop where
  law:Maps.Keyed P k
  of:∀ l,yia n l→∃ t,keyOf P k (kE l)=some t
theorem find_m(T:KeyT P k n)(hm:KOk n m)(hk:yia n key) :
    ((Instr.findKey k (kE key) (mEs vE 0 m)).run P w = .ok none w∧∀ p∈m,p.1≠key)∨∃ j v,(Instr.findKey k (kE key) (mEs vE 0 m)).run P w = .ok (some (j,vE v)) w∧m[j]? = some (key,v):=by
  obtain ⟨t,ht⟩:=T.of key hk
  have hes:∀ x∈mEs vE 0 m,∃ p∈m,x.key=kE p.1:=fun x hx=>by
    obtain ⟨j,hj⟩:=List.getElem?_of_mem hx
    rw [yfs] at hj
    cases hq:m[j]? with
    | none=>rw [hq] at hj;cases hj
    | some p=>rw [hq] at hj;cases hj;exact ⟨p,List.mem_of_getElem? hq,rfl⟩
  rcases T.law.find w ht (mEs vE 0 m) (fun x hx=>by obtain ⟨p,hp,e⟩:=hes x hx;rw [e];exact T.of _ (hm.2 p hp)) with ⟨h1,h2⟩ | ⟨j,x,h1,h2,h3⟩
  · refine .inl ⟨h1,fun p hp e=>?_⟩
    obtain ⟨j,hj⟩:=List.getElem?_of_mem hp
    have:(mEs vE 0 m)[j]? = some ⟨kE p.1,vE p.2,0+j⟩:=by rw [yfs,hj];rfl
    exact h2 _ (List.mem_of_getElem? this) (by rw [e])
  · rw [yfs] at h2
    cases hq:m[j]? with
    | none=>rw [hq] at h2;cases h2
    | some p =>
      rw [hq] at h2
      cases h2
      have e:=kE_inj h3
      refine .inr ⟨j,p.2,h1,?_⟩
      rw [←e];exact hq
theorem run_mget(T:KeyT P k n)(hm:KOk n m)(hk:yia n key)(hu:P.underlying mt=some (.map k e)){x0:τ}{by_:Nat}(hz:(P.info? e).map (fun i=>(i.zero,i.size,i.bytes))=some (some (vE x0),1,by_))(hb:w.heap[b]? = some (mapO vE m)) :
    (Instr.lookup mt (.map (some b)) (kE key) true).run P w = .ok (.tuple #[vE ((mget m key).getD x0), .bool (mget m key).isSome]) w:=by
  obtain ⟨t,ht⟩:=T.of key hk
  rcases find_m (vE:=vE) (w:=w) T hm hk with ⟨h1,h2⟩ | ⟨j,v,h1,h2⟩
  · rw [mget_none h2]
    simp [Instr.lookup,run_underlying hu,MapKept.run_getObj_map hb,T.law.check w _ ht,h1,ydG hz,Result.andThen]
  · rw [mget_at hm.1 h2]
    simp [Instr.lookup,run_underlying hu,MapKept.run_getObj_map hb,T.law.check w _ ht,h1,Result.andThen]
theorem mEs_set(vE:τ→Value){m:List (List Int×τ)}{j:Nat}{v v':τ}(h:m[j]? = some (key,v)):(mEs vE 0 m).toArray.modify j (fun x=>{ x with key:=kE key,val:=vE v' })=(mEs vE 0 (m.set j (key,v'))).toArray:=by
  apply Array.ext_getElem?
  intro i
  rw [Array.getElem?_modify]
  simp only [List.getElem?_toArray,yfs,List.getElem?_set]
  by_cases e:j=i
  · subst e
    rw [if_pos rfl,if_pos rfl,h,if_pos (List.getElem?_eq_some_iff.1 h).1]
    rfl
  · rw [if_neg e,if_neg e]
theorem mEs_push(vE:τ→Value)(m:List (List Int×τ))(v:τ):(mEs vE 0 m).toArray.push ⟨kE key,vE v,m.length⟩=(mEs vE 0 (m++[(key,v)])).toArray:=by
  have H:∀ (m:List (List Int×τ)) (i:Nat),mEs vE i (m++[(key,v)])=mEs vE i m++[⟨kE key,vE v,i+m.length⟩]:=by
    intro m
    induction m with
    | nil=>intro i;rfl
    | cons a t ih=>intro i;simp only [List.cons_append,mEs,ih,List.length_cons];rw [Nat.add_assoc,Nat.add_comm 1]
  rw [H];simp
theorem run_mput(T:KeyT P k n)(hm:KOk n m)(hk:yia n key)(hu:P.underlying mt=some (.map k e))(hb:w.heap[b]? = some (mapO vE m))(v:τ) :
    ∃ w',(Instr.mapUpdate mt (.map (some b)) (kE key) (vE v)).run P w = .ok () w'∧w'.heap[b]? = some (mapO vE (mput m key v))∧Keeps (fun j=>j=b) w w':=by
  obtain ⟨t,ht⟩:=T.of key hk
  have hKp:∀ o:Obj,Keeps (fun j=>j=b) w { w with heap:=w.heap.setIfInBounds b o }:=fun o=>⟨rfl,rfl,rfl,by simp,fun j _ hj=>(MapKept.heap_set hb).2 j hj⟩
  have hb':w.heap[b]? = some (.map (mEs vE 0 m).toArray m.length):=hb
  rcases find_m (vE:=vE) (w:=w) T hm hk with ⟨h1,h2⟩ | ⟨j,v0,h1,h2⟩
  · refine ⟨{ w with heap:=w.heap.setIfInBounds b (.map ((mEs vE 0 m).toArray.push ⟨kE key,vE v,m.length⟩) (m.length+1)) },?_,?_,hKp _⟩
    · simp [Instr.mapUpdate,run_underlying hu,MapKept.run_getObj_map hb',T.law.check w _ ht,h1,MapKept.run_setObj_map _ hb',Result.andThen]
    · rw [(MapKept.heap_set hb').1,mput_none h2,mEs_push]
      simp [mapO]
  · have hj:(mEs vE 0 m)[j]? = some ⟨kE key,vE v0,0+j⟩:=by rw [yfs,h2];rfl
    refine ⟨{ w with heap:=w.heap.setIfInBounds b (.map ((mEs vE 0 m).toArray.modify j (fun x=>{ x with key:=kE key,val:=vE v })) m.length) },?_,?_,hKp _⟩
    · simp [Instr.mapUpdate,run_underlying hu,MapKept.run_getObj_map hb',T.law.check w _ ht,h1,hj,T.law.stays w ht,MapKept.run_setObj_map _ hb',Result.andThen]
    · rw [(MapKept.heap_set hb').1,mput_at hm.1 h2,mEs_set vE h2]
      simp [mapO]
end
theorem n_val{P:Program}{o:Oper}{ρ:Operand→Value}{w:World}{K:Value→World→Prop}{v:Value}(h:(execOp ρ o).run P w = .ok (.value v) w)(hk:K v w):ybi P o ρ w K:=by
  unfold ybi;rw [h];exact hk
section
variable {τ : Type} {P : Program} {E : Env} {w : World} {d : Option Tmp} {x y z : Operand} {ty xt k e : TypeId} {ps : String} {af : Array Edge} {g : Option (Nat × Bool)} {K : Value → World → Prop} {n b : Nat} {vE : τ → Value} {m : List (List Int × τ)} {key : List Int}
theorem n_mkmap{o:Option Operand}(hx:o=none)(h:∀ g' w',g'=w.heap.size→w'=w.alloc (mapO vE ([]:List (List Int×τ)))→K (.map (some g')) w'):ybi P ⟨d, .makeMap xt o,ty,ps,af,g⟩ (evE E) w K:=by
  subst hx
  unfold ybi execOp
  simp only [Instr.makeMap,newObj,Option.map_none,Sem.run_bind,Sem.run_pure,Result.andThen,Sem.run]
  exact h _ _ rfl rfl
theorem v_mget(T:KeyT P k n)(hm:KOk n m)(hk:yia n key)(hx:evE E x = .map (some b))(hy:evE E y=kE key)(hu:P.underlying xt=some (.map k e)){x0:τ}{by_:Nat}(hz:(P.info? e).map (fun i=>(i.zero,i.size,i.bytes))=some (some (vE x0),1,by_))(hb:w.heap[b]? = some (mapO vE m)) :
    (execOp (evE E) ⟨d, .lookup xt x y true,ty,ps,af,g⟩).run P w = .ok (.value (.tuple #[vE ((mget m key).getD x0), .bool (mget m key).isSome])) w:=by
  have:=run_mget (w:=w) T hm hk hu hz hb
  unfold execOp
  simp only [hx,hy,this,Sem.run_bind,Sem.run_pure,Result.andThen]
theorem v_mlen(hx:evE E x = .map (some b))(hu:P.underlying xt=some (.map k e))(hb:w.heap[b]? = some (mapO vE m)):(execOp (evE E) ⟨d, .call ⟨.builtin .len,#[x],#[xt]⟩,ty,ps,af,g⟩).run P w = .ok (.value (.int .i64 ((m.length:Nat):Int))) w:=by
  have hb':w.heap[b]? = some (.map (mEs vE 0 m).toArray m.length):=hb
  simp [execOp,hx,resolve,invoke,builtin,Builtin.len_,go_sem,underlying,hu,goInt,MapKept.run_getObj_map hb',mEs_len]
theorem n_mput(T:KeyT P k n)(hm:KOk n m)(hk:yia n key){v:τ}(hx:evE E x = .map (some b))(hy:evE E y=kE key)(hz:evE E z=vE v)(hu:P.underlying xt=some (.map k e))(hb:w.heap[b]? = some (mapO vE m))
    (h:∀ w',w'.heap[b]? = some (mapO vE (mput m key v))→Keeps (fun j=>j=b) w w'→K undef w'):ybi P ⟨d, .mapUpdate xt x y z,ty,ps,af,g⟩ (evE E) w K:=by
  obtain ⟨w',h1,h2,h3⟩:=run_mput T hm hk hu hb v
  unfold ybi execOp
  simp only [hx,hy,hz,h1,Sem.run_bind,Sem.run_pure,Result.andThen]
  exact h w' h2 h3
end
section
variable {τ : Type} {w0 w w' : World} {S O : Nat → Prop} {L : Hold} {vE : τ → Value} {m : List (List Int × τ)} {b : Nat}
theorem Sep.newm(h:Sep w0 S O w L)(i:Nat)(hi:L i = .gone){g:Nat}{o:Obj}(h1:g=w.heap.size)(h2:w'=w.alloc o):Sep w0 S O w' (stl L i (.obj g o)):=by
  subst h1
  refine h.add i hi _ (w':=w') (by rw [h2];exact (Keeps.refl _ _).alloc _) (fun k hk=>by cases hk;exact Nat.le_refl _) ⟨Nat.zero_le _,?_⟩
  rw [h2];exact heap_alloc_new w _
theorem Sep.mp(h:Sep w0 S O w L)(i:Nat){g:Nat}{o:Obj}(hi:L i = .obj g o):w.heap[g]? = some o:=by
  have:=h.ok i;rw [hi] at this;exact this.2
theorem Sep.mst(h:Sep w0 S O w L)(i:Nat){g:Nat}{o o':Obj}(hi:L i = .obj g o)(h1:w'.heap[g]? = some o')(h2:Keeps (fun j=>j=g) w w'):Sep w0 S O w' (stl L i (.obj g o')) :=
  h.upd i _ h2 (fun k _ e=>by rw [hi,e]) (fun k hk=>by cases hk;rw [hi];exact .inl rfl) ⟨Nat.zero_le _,h1⟩
end
section
variable {τ : Type} {c : Cod τ} {O : Nat → Prop} {w : World} {A : Option Addr} {l cap : Nat} {xs : List τ}
theorem arr_ix(h:(FP.sl c A l cap xs).P O w){i:Int}(hx:0≤i∧i<(l:Int)):0≤i∧i<((xs.length:Nat):Int):=⟨hx.1,by rw [←yaE h];exact hx.2⟩
theorem yiO{P:Program}{xt:TypeId}{zo:Option Value}{b:Nat}{xs:List Int}(hi:(P.info? xt).map (fun i=>(i.zero,i.size,i.bytes))=some (zo,l,b))(h:(FP.sl cI A l cap xs).P O w) :
    (P.info? xt).map (fun i=>(i.zero,i.size,i.bytes))=some (zo,(xs.map (Value.int .i64)).length,b):=by rw [hi,List.length_map,yaE h]
theorem yhB{g:Nat}{xs:List Int}(h:(FP.sl cI (some ⟨g,0,none⟩) l cap xs).P O w):Cells w ⟨g,0,none⟩ 0 (xs.map (Value.int .i64)):=by
  have H:∀ (ys:List Int) (k:Nat),(∀ j,j<ys.length→xs[k+j]? = ys[j]?)→Cells w ⟨g,0,none⟩ k (ys.map (Value.int .i64)):=by
    intro ys
    induction ys with
    | nil=>intro k _;trivial
    | cons y t ih =>
      intro k hk
      have h0:=hk 0 (by simp)
      simp only [Nat.add_zero,List.getElem?_cons_zero] at h0
      have hlt:=(List.getElem?_eq_some_iff.1 h0).1
      have hc:=rd_1 (f:=fI .i64) h (i:=(k:Int)) (x:=y) ⟨by omega,by omega⟩ (fun _=>by simpa using h0) (u := .int .i64 y) rfl
      refine ⟨?_,ih (k+1) fun j hj=>?_⟩
      · have e:ixA (some (⟨g,0,none⟩:Addr)) (k:Int) (fI .i64).sz=(⟨g,0,none⟩:Addr).add k:=by
          show (⟨g,0,none⟩:Addr).add ((k:Int).toNat*1)=_
          rw [Int.toNat_natCast,Nat.mul_one]
        rwa [e] at hc
      · have:=hk (j+1) (by simpa using hj)
        rw [List.getElem?_cons_succ] at this
        rw [←this];congr 1;omega
  exact H xs 0 fun j _=>by rw [Nat.zero_add]
end
section
variable {P : Program} {E : Env} {w : World} {d : Option Tmp} {x y z : Operand} {ty xt yt : TypeId} {ps : String} {af : Array Edge} {g : Option (Nat × Bool)} {K : Value → World → Prop}
theorem yi6{p:Addr}{l:Nat}{e:TypeId}{k:IntKind}{i:Int}{zo:Option Value}{n b:Nat}(hx:evE E x = .pointer (some p))(hy:evE E y = .int k i)(hu:P.underlying xt=some (.array l e))
    (hi:(P.info? e).map (fun i=>(i.zero,i.size,i.bytes))=some (zo,n,b)) (h:0≤i∧i<(l:Int)):(execOp (evE E) ⟨d, .indexAddr xt x y,ty,ps,af,g⟩).run P w = .ok (.value (.pointer (some (ixA (some p) i n)))) w :=
  yi4 hx hy hu hi h
theorem v_slice_a{gb:Nat}{l:Nat}{e:TypeId}{zo:Option Value}{n b:Nat}(hx:evE E x = .pointer (some ⟨gb,0,none⟩))(hu:P.underlying xt=some (.array l e))
    (hi:(P.info? e).map (fun i=>(i.zero,i.size,i.bytes))=some (zo,n,b)):(execOp (evE E) ⟨d, .slice xt x none none none,ty,ps,af,g⟩).run P w = .ok (.value (.slice (some ⟨gb,0,none⟩) l l)) w:=by
  have e1:(⟨gb,0,none⟩:Addr).add (0*n)=⟨gb,0,none⟩:=by rw [Addr.add_mid];simp
  unfold execOp
  simp only [hx,Instr.sliceAt,Instr.sureAddr,Instr.sliceBounds,Option.map_none,Sem.run_bind,Sem.run_pure,Result.andThen,run_underlying hu,ybB hi,e1,ite_self,Nat.sub_zero]
def cpy(xs ys:List Int):List Int:=ys.take xs.length++xs.drop ys.length
theorem cpy_length(xs ys:List Int):(cpy xs ys).length=xs.length:=by unfold cpy;simp;omega
theorem gi_cpy{xs ys:List Int}{i:Nat}(hi:i<xs.length):gi (cpy xs ys) i=if i<ys.length then gi ys i else gi xs i:=by
  have hg:∀ (l:List Int) k,gi l k=(l[k]?).getD 0:=fun l k=>by unfold gi;simp
  rw [hg,hg,hg]
  unfold cpy
  rw [List.getElem?_append,List.length_take,List.getElem?_take,List.getElem?_drop]
  by_cases h:i<ys.length
  · rw [if_pos (by omega),if_pos hi,if_pos h]
  · rw [if_neg (by omega),if_neg h]
    congr 2;omega
theorem OwnS.setN{B:Nat}{e:TypeId}{l c g:Nat} : ∀ (vs:List Value) (k:Nat) {w:World} {xs:List Value},OwnS w B e 1 (some ⟨g,0,none⟩) l c xs→k+vs.length≤xs.length→OwnS (w.setCells g k vs) B e 1 (some ⟨g,0,none⟩) l c (xs.take k++vs++xs.drop (k+vs.length))
  | [],k,w,xs,h,hk=>by
    have e:w.setCells g k []=w:=rfl
    rw [e];simpa using h
  | v::t,k,w,xs,h,hk=>by
    simp only [List.length_cons] at hk
    have h1:=h.set1 (i:=k) (by omega) v rfl
    rw [Nat.zero_add] at h1
    have h2:=OwnS.setN t (k+1) h1 (by rw [List.length_set];omega)
    have e1:(xs.set k v).take (k+1)=xs.take k++[v]:=by
      rw [List.take_add_one,List.take_set_of_le (Nat.le_refl k),List.getElem?_set_self (by omega)];rfl
    have e2:(xs.set k v).drop (k+1+t.length)=xs.drop (k+(t.length+1)):=by
      rw [List.drop_set_of_lt (by omega),show k+1+t.length=k+(t.length+1) by omega]
    rw [e1,e2,List.append_assoc (xs.take k)] at h2
    exact h2
theorem Sep.copied{w0 w':World}{S O:Nat→Prop}{L:Hold}(h:Sep w0 S O w L)(i:Nat){t:TypeId}{gb l cp:Nat}{xs ys:List Int}(hi:L i = .own cI t (some ⟨gb,0,none⟩) l cp xs)(hw:w'=w.setCells gb 0 ((ys.take l).map (Value.int .i64))) :
    Sep w0 S O w' (stl L i (.own cI t (some ⟨gb,0,none⟩) l cp (cpy xs ys))):=by
  obtain ⟨hl,cells,ho,hE⟩:=h.own i hi
  have hcl:cells=xs.map (Value.int .i64):=by
    refine List.ext_getElem? fun j=>?_
    rw [List.getElem?_map]
    cases hq:xs[j]? with
    | none =>
      have:=List.getElem?_eq_none_iff.1 hq
      rw [List.getElem?_eq_none (by rw [ho.1];show l*1≤j;omega)];rfl
    | some q =>
      obtain ⟨vs,hv,hc⟩:=hE j q hq
      have hv:vs=[.int .i64 q]:=hv
      subst hv
      have:=hc 0 _ rfl
      have e3:j*cI.sz+0=j:=by show j*1+0=j;omega
      rw [e3] at this
      exact this
  subst hcl
  have hn:=OwnS.setN ((ys.take l).map (Value.int .i64)) 0 ho (by simp;omega)
  have ecp:(xs.map (Value.int .i64)).take 0++(ys.take l).map (Value.int .i64)++(xs.map (Value.int .i64)).drop (0+((ys.take l).map (Value.int .i64)).length)=(cpy xs ys).map (Value.int .i64):=by
    have e4:((ys.take l).map (Value.int .i64)).length=min l ys.length:=by simp
    unfold cpy
    rw [List.take_zero,List.nil_append,Nat.zero_add,e4,List.map_append,hl,←List.map_drop]
    congr 2
    by_cases c:ys.length≤xs.length
    · rw [Nat.min_eq_right c]
    · rw [List.drop_eq_nil_of_le (by omega),List.drop_eq_nil_of_le (by omega)]
  rw [ecp] at hn
  have hblk:(L i).has gb:=by rw [hi];rfl
  have hK:∀ (vs:List Value) (o:Nat) {a w:World},Keeps (fun k=>k=gb) a w→Keeps (fun k=>k=gb) a (w.setCells gb o vs):=by
    intro vs
    induction vs with
    | nil=>intro o a w h;exact h
    | cons v t ih=>intro o a w h;exact ih (o+1) (h.setCell (p:=⟨gb,o,none⟩) (fun _=>rfl) v)
  refine h.upd i _ (T:=fun k=>k=gb) (by rw [hw];exact hK _ _ (Keeps.refl _ _)) (fun k _ e=>by rw [e];exact hblk) (fun k hk => .inl (by rw [hi];exact hk)) ⟨by rw [cpy_length];exact hl,_,by rw [hw];exact hn,fun j q hj=>⟨[.int .i64 q],rfl,fun u v hu=>?_⟩⟩
  have hu0:u=0:=by
    have:=(List.getElem?_eq_some_iff.1 hu).1
    simp at this;exact this
  subst hu0
  simp at hu
  subst hu
  have e3:j*cI.sz+0=j:=by show j*1+0=j;omega
  rw [e3,List.getElem?_map,hj];rfl
theorem n_cpy{w0:World}{S O:Nat→Prop}{L:Hold}{e t:TypeId}{zo:Option Value}{b gb l cp m c':Nat}{C:Option Addr}{xs ys:List Int}(hx:evE E x = .slice (some ⟨gb,0,none⟩) l cp)(hy:evE E y = .slice C m c')(hu:P.underlying xt=some (.slice e))(hi:(P.info? e).map (fun i=>(i.zero,i.size,i.bytes))=some (zo,1,b))
    (hS:Sep w0 S O w L) (i:Nat) (hi':L i = .own cI t (some ⟨gb,0,none⟩) l cp xs) (hr:(FP.sl cI C m c' ys).P no w) (h0:0<ys.length)
    (h:∀ w',Sep w0 S O w' (stl L i (.own cI t (some ⟨gb,0,none⟩) l cp (cpy xs ys)))→K (.int .i64 ((min ys.length l:Nat):Int)) w'):ybi P ⟨d, .call ⟨.builtin .copy,#[x,y],#[xt,yt]⟩,ty,ps,af,g⟩ (evE E) w K:=by
  have hlx:=yaE (hS.rdo i hi')
  obtain ⟨hly,hmc,hsl⟩:=hr
  obtain ⟨yb,yo,rfl, -, -,hyc⟩:=hsl h0
  refine n_copy hx hy hu hi ⟨gb,0,⟨yb,yo,none⟩,(ys.take l).map (Value.int .i64),rfl,rfl,by simp;omega,fun j u hj=>?_,fun u hu=>?_,?_,fun w' hw'=>?_⟩
  · rw [List.getElem?_map,List.getElem?_take] at hj
    split at hj
    · cases hq:ys[j]? with
      | none=>rw [hq] at hj;cases hj
      | some q =>
        rw [hq] at hj
        cases hj
        obtain ⟨vs,hv,hc⟩:=hyc j q hq
        have hv:vs=[.int .i64 q]:=hv
        subst hv
        have:=hc 0 _ rfl
        rw [Addr.add_mid]
        simpa [cI,Fl.cod,fI] using this
    · cases hj
  · obtain ⟨q,_,rfl⟩:=List.mem_map.1 hu;rfl
  · obtain ⟨hl,cells,ho,hE⟩:=hS.own i hi'
    intro j hj
    rw [List.length_map,List.length_take] at hj
    obtain ⟨vs,hv,hc⟩:=hE j xs[j] (List.getElem?_eq_getElem (by omega))
    have hv:vs=[.int .i64 xs[j]]:=hv
    subst hv
    obtain ⟨g',o',e',_,h1,h2⟩:=ho.cellAt (hc 0 _ rfl)
    cases e'
    have e3:j*cI.sz+0=j:=by show j*1+0=j;omega
    rw [e3] at h1 h2
    exact ⟨by rw [h1];rfl,h2⟩
  · have hK:=h w' (hS.copied i hi' hw')
    rw [←hly] at hK
    exact hK
end
theorem mapM_opt{α β:Type}{f:α→Option β} : ∀ {L:List α},(∀ a∈L,∃ b,f a=some b)→∃ bs,L.mapM f=some bs
  | [],_=>⟨[],rfl⟩
  | a::t,h=>by
    obtain ⟨b,hb⟩:=h a (by simp)
    obtain ⟨bs,hbs⟩:=mapM_opt (L:=t) fun c hc=>h c (by simp [hc])
    exact ⟨b::bs,by simp [List.mapM_cons,hb,hbs]⟩
theorem keyT_arr{P:Program}{k e:TypeId}{n m:Nat}(hl:laidOutB P=true)(hm:m+1≤10000)(hrow:k<P.types.size)(hkt:P.keyTypeAt m k=true)(hkt2:P.keyType k=true)(hu:P.underlying k=some (.array n e))(he:P.underlying e=some (.int .i64))(hce:P.cellsOf e=1)(hck:P.cellsOf k=n)(h2:2≤P.types.size):KeyT P k n where
  law:=Maps.Keyed.of_law (deep_law_laid hl hm hrow hkt (by rw [hu]))
  of:=fun l ⟨hll,hin⟩=>by
    obtain ⟨d,hd⟩:∃ d,P.types.size+1=d+1+1+1:=⟨P.types.size-2,by omega⟩
    have hcells:(kE l).cells.toList=l.map (Value.int .i64):=by simp [kE,Value.cells]
    have hform:(kE l).formed P k=true:=by
      unfold kE Value.formed
      simp [hu,hck,hll]
    have helt:∀ i∈List.range n,∃ b,P.keyLits (d+1+1) e (((l.map (Value.int .i64)).drop (i*P.cellsOf e)).take (P.cellsOf e))=some b:=fun i hi=>by
      rw [List.mem_range] at hi
      have hi2:i<l.length:=by omega
      have hx:=hin l[i] (List.getElem_mem hi2)
      have e1:((l.map (Value.int .i64)).drop (i*P.cellsOf e)).take (P.cellsOf e)=[.int .i64 l[i]]:=by
        rw [hce,Nat.mul_one,List.drop_eq_getElem_cons (by simpa using hi2)]
        simp
      rw [e1]
      refine ⟨[.int .i64 l[i]],?_⟩
      have hw:(Lit.int .i64 l[i]).wf=true:=by
        simp only [Lit.wf,Bool.and_eq_true,decide_eq_true_eq]
        exact ⟨hx.1,by have:=hx.2;show l[i]≤9223372036854775807;omega⟩
      simp [Program.keyLits,he,hw]
    obtain ⟨bs,hbs⟩:=mapM_opt helt
    unfold keyOf
    simp only [hu,hkt2,hform,Bool.and_self,if_true,hcells,hd]
    unfold Program.keyLits
    simp only [hu]
    rw [if_pos (by simp [hck,hll]),hbs]
    exact ⟨_,rfl⟩
def RvE(P:Program)(E:Env)(w:World):ResultVar→Value→Prop
  | .tmp t,v=>E t=v
  | .cell t y,v=>∃ a,E t = .pointer (some a)∧(loadVar y a).run P w = .ok v w
section
variable {P : Program} {E : Env} {w : World} {t : Tmp} {y : TypeId}
theorem rv_t{v:Value}(h:E t=v):RvE P E w (.tmp t) v:=h
theorem rv_n{p:Addr}{u:TypeDesc}{vs:List Value}{zo:Option Value}{b:Nat}(h:E t = .pointer (some p))(hu:P.underlying y=some u)(hn:aggD u=true)(hi:(P.info? y).map (fun i=>(i.zero,i.size,i.bytes))=some (zo,vs.length,b))(hc:Cells w p 0 vs):RvE P E w (.cell t y) (.agg vs.toArray):=by
  refine ⟨p,h,?_⟩
  have:=yfX (P:=P) vs 0 #[] hc
  simp only [loadVar,Sem.run_bind,Result.andThen,yf6 hu hn,ybB hi,if_true]
  simp only [loadCells,this,Sem.run_bind,Result.andThen,Sem.run_pure]
  simp
def rv1(tmps:Array Value):ResultVar→Sem Value
  | .tmp t=>pure (tmps.getD t undef)
  | .cell a t=>do loadVar t (←asAddr (tmps.getD a undef))
theorem rv1_run{rv:ResultVar}{v:Value}{N:Nat}{ds:List Deferred}{a:Act}(r:Rep N E ds a)(h:RvE P E w rv v):(rv1 a.tmps rv).run P w = .ok v w:=by
  cases rv with
  | tmp t =>
    show (Sem.run P (pure (a.tmps.getD t undef)) w)=_
    rw [r.get]
    rw [show E t=v from h];rfl
  | cell t y =>
    obtain ⟨p,h1,h2⟩:=h
    show Sem.run P (do loadVar y (←asAddr (a.tmps.getD t undef))) w=_
    rw [r.get,h1]
    simp only [asAddr,Sem.run_bind,Sem.run_pure,Result.andThen,h2]
end
section
variable {P : Program} {fn : Func} {F : Fence} {n : Nat} {N : Nat} {t : List Item} {R : Ending → World → Prop} {E : Env} {w : World} {q1 q2 q3 : ResultVar} {v1 v2 v3 : Value}
theorem results_eq(fn:Func)(tmps:Array Value):results fn tmps=(do let vs ←fn.results.mapM (rv1 tmps);pure (if h:vs.size=1 then vs[0] else .tuple vs)):=rfl
theorem yg1(hr:fn.results = #[q1])(h1:RvE P E w q1 v1)(h:R (.returned v1) w):WT F n P N (.code .ret::t) (bodyPost P fn R) E [] w :=
  yhF fun a r=>⟨r.defers,_,by
    rw [results_eq,hr]
    simp [Sem.run_bind,Result.andThen,rv1_run r h1],h⟩
theorem yg3(hr:fn.results = #[q1,q2])(h1:RvE P E w q1 v1)(h2:RvE P E w q2 v2)(h:R (.returned (.tuple #[v1,v2])) w):WT F n P N (.code .ret::t) (bodyPost P fn R) E [] w :=
  yhF fun a r=>⟨r.defers,_,by
    rw [results_eq,hr]
    simp [Sem.run_bind,Result.andThen,rv1_run r h1,rv1_run r h2],h⟩
end
end Go.Proofs.YtadpnlimiblniaaGreat

namespace Go.Proofs.YtadpnlimiblniaaGreat
open Go Go.RowKit Go.Shelf Go.Proofs.Tryz
end Go.Proofs.YtadpnlimiblniaaGreat

namespace Go.Proofs.YtadpnlimiblniaaGreat
open Go Go.RowKit Go.Proofs.Tryz
theorem flat_box(e:TypeId)(g:Nat)(cells:List Value):(Res.box e g cells).Flat:=fun _ _ _ _ h=>h
end Go.Proofs.YtadpnlimiblniaaGreat

namespace Go.Proofs.YtadpnlimiblniaaGreat
open Go Go.RowKit Go.Shelf Go.Proofs.Tryz
def mitO(b n:Nat)(seen:List Nat):Obj := .mapIter (some b) n seen.toArray n
section
variable {τ : Type} {P : Program} {E : Env} {w : World} {d : Option Tmp} {x y z : Operand} {ty xt k e : TypeId} {ps : String} {af : Array Edge} {g : Option (Nat × Bool)} {K : Value → World → Prop} {n b r : Nat} {vE : τ → Value} {m : List (List Int × τ)} {key : List Int}
theorem n_range(hx:evE E x = .map (some b))(hu:P.underlying xt=some (.map k e))(hb:w.heap[b]? = some (mapO vE m))(h:∀ g' w',g'=w.heap.size→w'=w.alloc (mitO b m.length [])→K (.pointer (some ⟨g',0,none⟩)) w'):ybi P ⟨d, .range xt x,ty,ps,af,g⟩ (evE E) w K:=by
  unfold ybi execOp
  simp only [hx,run_range_map w xt k e b _ _ hu hb,Sem.run_bind,Sem.run_pure,Result.andThen]
  exact h _ _ rfl rfl
theorem mEs_born(vE:τ→Value)(m:List (List Int×τ)):∀ u∈(mEs vE 0 m).toArray.toList,u.born<m.length:=fun u hu=>by
  rw [List.toList_toArray] at hu
  obtain ⟨j,hj⟩:=List.getElem?_of_mem hu
  have hl:=(List.getElem?_eq_some_iff.1 hj).1
  rw [mEs_len] at hl
  rw [yfs,List.getElem?_eq_getElem hl] at hj
  cases hj
  show 0+j<m.length
  omega
theorem n_next{seen:List Nat}(hx:evE E x = .pointer (some ⟨r,0,none⟩))(hr:w.heap[r]? = some (mitO b m.length seen))(hb:w.heap[b]? = some (mapO vE m))
    (h0:(∀ j,j<m.length→j∈seen)→K (.tuple #[.bool false]) w)
    (h1:∀ j p w',m[j]? = some p→j∉seen→w'.heap[r]? = some (mitO b m.length (seen++[j]))→Keeps (fun q=>q=r) w w'→K (.tuple #[.bool true,kE p.1,vE p.2]) w'):ybi P ⟨d, .next x false,ty,ps,af,g⟩ (evE E) w K:=by
  unfold ybi execOp
  have hrt:r<w.heap.size:=(Array.getElem?_eq_some_iff.1 hr).1
  rcases run_next_at (P:=P) w ty r b m.length m.length seen.toArray _ _ hr hb (mEs_born vE m) (Nat.le_refl _) with ⟨hl,hrun⟩ | ⟨u,hu,w1,hw1,hrun⟩
  · simp only [hx,hrun,Sem.run_bind,Sem.run_pure,Result.andThen]
    refine h0 fun j hj=>Classical.not_not.1 fun hn=>?_
    have hm:(mEs vE 0 m)[j]? = some ⟨kE (m[j]).1,vE (m[j]).2,0+j⟩:=by rw [yfs,List.getElem?_eq_getElem hj];rfl
    have:(⟨kE (m[j]).1,vE (m[j]).2,0+j⟩:MapEntry)∈leftOf (mEs vE 0 m).toArray seen.toArray:=by
      unfold leftOf
      rw [Array.mem_filter]
      refine ⟨by simpa using List.mem_of_getElem? hm,?_⟩
      simp only [Nat.zero_add,Bool.not_eq_true',List.contains_toArray]
      simpa using hn
    have hz:0<(leftOf (mEs vE 0 m).toArray seen.toArray).size:=by
      rw [Array.size_pos_iff]
      intro e
      rw [e] at this
      simp at this
    omega
  · simp only [hx,hrun,Sem.run_bind,Sem.run_pure,Result.andThen]
    unfold leftOf at hu
    rw [Array.mem_toList_iff,Array.mem_filter] at hu
    obtain ⟨hu1,hu2⟩:=hu
    obtain ⟨j,hj⟩:=List.getElem?_of_mem (show u∈mEs vE 0 m by simpa using hu1)
    have hl:=(List.getElem?_eq_some_iff.1 hj).1
    rw [mEs_len] at hl
    rw [yfs,List.getElem?_eq_getElem hl] at hj
    cases hj
    refine h1 j m[j] _ (List.getElem?_eq_getElem hl) ?_ ?_ ?_
    · simp only [Nat.zero_add,Bool.not_eq_true',List.contains_toArray] at hu2
      simpa using hu2
    · have hrt1:r<w1.heap.size:=by rcases hw1 with rfl | rfl <;> exact hrt
      have:(ChangeMaps.setBlock w1 r (.mapIter (some b) m.length (seen.toArray.push (0+j)) m.length)).heap[r]? = some (.mapIter (some b) m.length (seen.toArray.push (0+j)) m.length):=by simp [ChangeMaps.setBlock,hrt1]
      rw [this]
      simp [mitO]
    · have hK:Keeps (fun q=>q=r) w w1:=by
        rcases hw1 with rfl | rfl
        · exact Keeps.refl _ _
        · exact (Keeps.refl _ _).drew
      refine hK.trans ⟨rfl,rfl,rfl,by simp [ChangeMaps.setBlock],fun q hq hqr=>?_⟩
      simp [ChangeMaps.setBlock,Ne.symm hqr]
theorem n_next2{m:List (List Int×τ)}{seen:List Nat}(hm:KOk 2 m)(hx:evE E x = .pointer (some ⟨r,0,none⟩))(hr:w.heap[r]? = some (mitO b m.length seen))(hb:w.heap[b]? = some (mapO vE m))
    (h0:(∀ j,j<m.length→j∈seen)→K (.tuple #[.bool false]) w)
    (h1:∀ (j:Nat) (p q:Int) (v:τ) w',m[j]? = some ([p,q],v)→j∉seen→w'.heap[r]? = some (mitO b m.length (seen++[j]))→Keeps (fun q=>q=r) w w'→K (.tuple #[.bool true, .agg #[.int .i64 p, .int .i64 q],vE v]) w'):ybi P ⟨d, .next x false,ty,ps,af,g⟩ (evE E) w K :=
  n_next hx hr hb h0 fun j u w' hj hs e1 e2=>by
    have hl:=(hm.2 u (List.mem_of_getElem? hj)).1
    obtain ⟨l,v⟩:=u
    match l,hl with
    | [p,q],_=>exact h1 j p q v w' hj hs e1 e2
theorem mEs_nodup(vE:τ→Value):∀ (m:List (List Int×τ)) (i:Nat),((mEs vE i m).map (·.born)).Nodup∧∀ u∈mEs vE i m,i≤u.born
  | [],i=>⟨List.Pairwise.nil,fun u hu=>by cases hu⟩
  | a::t,i=>by
    obtain ⟨h1,h2⟩:=mEs_nodup vE t (i+1)
    refine ⟨?_,fun u hu=>?_⟩
    · show (i::(mEs vE (i+1) t).map (·.born)).Nodup
      rw [List.nodup_cons]
      refine ⟨fun q=>?_,h1⟩
      obtain ⟨u,hu,e⟩:=List.mem_map.1 q
      have:=h2 u hu
      omega
    · rcases List.mem_cons.1 (show u∈⟨kE a.1,vE a.2,i⟩::mEs vE (i+1) t from hu) with q | q
      · rw [q];exact Nat.le_refl _
      · have:=h2 u q;omega
theorem v_entry{m:List (List Int×τ)}{seen:List Nat}{j:Nat}{p q:Int}{v:τ}(hj:m[j]? = some ([p,q],v))(hx:evE E x = .pointer (some ⟨r,0,none⟩))(hr:w.heap[r]? = some (mitO b m.length (seen++[j])))(hb:w.heap[b]? = some (mapO vE m)) :
    (execOp (evE E) ⟨d, .entry x,ty,ps,af,g⟩).run P w = .ok (.value (.tuple #[.agg #[.int .i64 p, .int .i64 q],vE v])) w:=by
  have hm:(mEs vE 0 m)[j]? = some ⟨kE [p,q],vE v,0+j⟩:=by rw [yfs,hj];rfl
  have hr':w.heap[r]? = some (.mapIter (some b) m.length (seen.toArray.push (⟨kE [p,q],vE v,0+j⟩:MapEntry).born) m.length):=by
    rw [hr];simp [mitO]
  have:=run_entry_at (P:=P) w r b m.length seen.toArray _ m.length _ hr' hb (by simpa using List.mem_of_getElem? hm) (by simpa using (mEs_nodup vE m 0).1)
  unfold execOp
  simp only [hx,this,Sem.run_bind,Sem.run_pure,Result.andThen]
  rfl
end
end Go.Proofs.YtadpnlimiblniaaGreat

namespace Go.Proofs.YtadpnlimiblniaaGreat
open Go Go.RowKit Go.Shelf Go.Proofs.Tryz
section
variable {τ : Type} {f : Fl τ}
end
section
variable {P : Program} {E : Env} {w : World} {d : Option Tmp} {ty : TypeId} {ps : String} {af : Array Edge} {g : Option (Nat × Bool)} {K : Value → World → Prop} {x y : Operand} {xt yt : TypeId}
end
theorem OwnS.cut{w:World}{B:Nat}{e:TypeId}{sz:Nat}{A:Option Addr}{l c:Nat}{xs:List Value}(h:OwnS w B e sz A l c xs){k:Nat}(hk:k≤l):OwnS w B e sz A k c (xs.take (k*sz)):=by
  have hm:k*sz≤l*sz:=Nat.mul_le_mul_right sz hk
  refine ⟨by rw [List.length_take,h.1];omega,?_⟩
  rcases h.2 with ⟨rfl,rfl,rfl⟩ | ⟨g,o,cur,rfl,hb,hg,h1,h2,h3,h4⟩
  · exact .inl ⟨rfl,by omega,rfl⟩
  · refine .inr ⟨g,o,cur,rfl,hb,hg,by omega,h2,h3,?_⟩
    rw [←h4,List.take_take,Nat.min_eq_left hm]
theorem Sep.cut{τ:Type}{w0 w:World}{S O:Nat→Prop}{L:Hold}(h:Sep w0 S O w L)(i:Nat){c:Cod τ}{e:TypeId}{A:Option Addr}{l cap:Nat}{xs:List τ}(hi:L i = .own c e A l cap xs){k:Nat}(hk:k≤xs.length):Sep w0 S O w (stl L i (.own c e A k cap (xs.take k))):=by
  obtain ⟨hl,cells,ho,hE⟩:=h.own i hi
  have hsub:∀ q,Bl O (stl L i (.own c e A k cap (xs.take k))) q→Bl O L q:=Bl.sub_ro fun q hq=>by rw [hi];exact hq
  refine h.upd i _ (T:=no) (Keeps.refl _ _) (fun _ _ q=>q.elim) (fun q hq => .inl (by rw [hi];exact hq)) ?_
  refine ⟨by rw [List.length_take];omega,cells.take (k*c.sz),ho.cut (by omega),fun j x hx=>?_⟩
  rw [List.getElem?_take] at hx
  split at hx
  · rename_i hj
    obtain ⟨vs,h1,h2⟩:=hE j x hx
    refine ⟨vs,c.sub h1 fun q _ hq=>hsub q hq,fun t u ht=>?_⟩
    have hlt:t<c.sz:=by rw [←c.len h1];exact (List.getElem?_eq_some_iff.1 ht).1
    have hm:(j+1)*c.sz≤k*c.sz:=Nat.mul_le_mul_right c.sz hj
    rw [Nat.add_mul] at hm
    rw [List.getElem?_take,if_pos (by omega)]
    exact h2 t u ht
  · cases hx
theorem Sep.cuti{τ:Type}{w0 w:World}{S O:Nat→Prop}{L:Hold}(h:Sep w0 S O w L)(i:Nat){c:Cod τ}{e:TypeId}{A:Option Addr}{l cap:Nat}{xs:List τ}(hi:L i = .own c e A l cap xs){k:Int}(hk:0≤k∧k≤((xs.length:Nat):Int)):Sep w0 S O w (stl L i (.own c e A k.toNat cap (xs.take k.toNat))):=h.cut i hi (by omega)
section
variable {P : Program} {w : World}
end
section
variable {P : Program} {E : Env} {d : Option Tmp} {x y : Operand} {ty xt yt : TypeId} {ps : String} {af : Array Edge} {g : Option (Nat × Bool)} {K : Value → World → Prop} {w0 w : World} {S O : Nat → Prop} {L : Hold}
end
section
variable {P : Program} {E : Env} {w : World} {d : Option Tmp} {x : Operand} {ty xt : TypeId} {ps : String} {af : Array Edge} {g : Option (Nat × Bool)}
end
section
variable {τ : Type}
end
section
variable {τ : Type} {P : Program} {w : World} {k e mt : TypeId} {n : Nat} {vE : τ → Value} {m : List (List Int × τ)} {b : Nat} {key : List Int}
end
section
variable {τ : Type} {P : Program} {E : Env} {w : World} {d : Option Tmp} {x y z : Operand} {ty xt k e : TypeId} {ps : String} {af : Array Edge} {g : Option (Nat × Bool)} {K : Value → World → Prop} {n b : Nat} {vE : τ → Value} {m : List (List Int × τ)} {key : List Int}
end
theorem keyT_pair {P : Program} {k e : TypeId} {m : Nat} {f0 f1 : Field} (hl : laidOutB P = true) (hm : m + 1 ≤ 10000) (hrow : k < P.types.size) (hkt : P.keyTypeAt m k = true) (hkt2 : P.keyType k = true) (hu : P.underlying k = some (.struct #[f0, f1])) (h0 : f0.type = e ∧ f0.offset = 0 ∧ (f0.name != "_") = true) (h1 : f1.type = e ∧ f1.offset = 1 ∧ (f1.name != "_") = true) (he : P.underlying e = some (.int .i64)) (hce : P.cellsOf e = 1) (hck : P.cellsOf k = 2) (h2 : 2 ≤ P.types.size) : KeyT P k 2 where
  law:=Maps.Keyed.of_law (deep_law_laid hl hm hrow hkt (by rw [hu]))
  of:=fun l ⟨hll,hin⟩=>by
    obtain ⟨d,hd⟩:∃ d,P.types.size+1=d+1+1+1:=⟨P.types.size-2,by omega⟩
    obtain ⟨a,b,rfl⟩:∃ a b,l=[a,b]:=by
      match l,hll with
      | [a,b],_=>exact ⟨a,b,rfl⟩
    have ha:=hin a (by simp)
    have hb:=hin b (by simp)
    have hwf:∀ x:Int,In64 x→(Lit.int .i64 x).wf=true:=fun x hx=>by
      simp only [Lit.wf,Bool.and_eq_true,decide_eq_true_eq]
      exact ⟨hx.1,by have:=hx.2;show x≤9223372036854775807;omega⟩
    have hcells:(kE [a,b]).cells.toList=[.int .i64 a, .int .i64 b]:=by simp [kE,Value.cells]
    have hform:(kE [a,b]).formed P k=true:=by
      unfold kE Value.formed
      simp [hu,hck]
    unfold keyOf
    simp only [hu,hkt2,hform,Bool.and_self,if_true,hcells,hd]
    unfold Program.keyLits
    simp only [hu]
    obtain ⟨t0,o0,n0⟩:=h0
    obtain ⟨t1,o1,n1⟩:=h1
    have e0:P.keyLits (d+1+1) f0.type (([Value.int .i64 a, .int .i64 b].drop f0.offset).take (P.cellsOf f0.type))=some [.int .i64 a]:=by
      rw [t0,o0,hce];simp [Program.keyLits,he,hwf a ha]
    have e1:P.keyLits (d+1+1) f1.type (([Value.int .i64 a, .int .i64 b].drop f1.offset).take (P.cellsOf f1.type))=some [.int .i64 b]:=by
      rw [t1,o1,hce];simp [Program.keyLits,he,hwf b hb]
    rw [if_pos ⟨by simp [hck],by simp [n0,n1]⟩]
    simp only [List.mapM_cons,List.mapM_nil,e0,e1]
    exact ⟨_,rfl⟩
end Go.Proofs.YtadpnlimiblniaaGreat

namespace Go.Proofs.YtadpnlimiblniaaGreat
open Go Go.RowKit Go.Shelf Go.Proofs.Tryz
theorem yi5:KeyT Tryz.prog 156 12:=keyT_arr (m:=3) (by kernel_rfl) (by decide) (of_decide_eq_true (by kernel_rfl)) (by kernel_rfl) (by kernel_rfl) underlying156 underlying3 (by kernel_rfl) (by kernel_rfl) (of_decide_eq_true (by kernel_rfl))
theorem keyt_133:KeyT Tryz.prog 133 2:=keyT_pair (m:=3) (by kernel_rfl) (by decide) (of_decide_eq_true (by kernel_rfl)) (by kernel_rfl) (by kernel_rfl) underlying133 ⟨rfl,rfl,by decide⟩ ⟨rfl,rfl,by decide⟩ underlying3 (by kernel_rfl) (by kernel_rfl) (of_decide_eq_true (by kernel_rfl))
end Go.Proofs.YtadpnlimiblniaaGreat

namespace Go.Proofs.YtadpnlimiblniaaGreat
open Go.RowKit Go.Proofs.Tryz
set_option maxRecDepth 100000
set_option maxHeartbeats 400000
theorem int_info:(Tryz.prog.info? 3).map (fun i=>(i.zero,i.size,i.bytes))=some (some (.int .i64 0),1,8):=by kernel_rfl
def inF(k:Int):Bool:=decide (-1048576≤k∧k≤1048576)
def yhM(n:Int):Int:=if 1≤n∧n≤12 then 0 else 2
def ybf(d:List Int)(n:Int):Int :=
  if yhM n=0 then (if (d.length:Int)=n then (if d.all inF then 0 else 2) else 8) else 2
theorem within_any(k:Int)(w:World) :
    Calls Tryz.prog 127 #[.int .i64 k] w fun e w'=>e = .returned (.bool (inF k))∧w=w':=by
  go_enter func127,ntmps127
  go_wp2
  all_goals go_ret
  all_goals exact ⟨by simp [inF];try omega,rfl⟩
theorem ygE(n:Int)(w:World) :
    Calls Tryz.prog 118 #[.int .i64 n] w fun e w'=>e = .returned (.int .i64 (yhM n))∧w=w':=by
  go_enter func118,ntmps118
  go_wp2
  all_goals go_ret
  all_goals exact ⟨by simp [yhM];try omega,rfl⟩
theorem yeR(p:Int→Bool)(d:List Int):d.all p=true↔∀ j,j<d.length→p (gi d j)=true:=by
  rw [List.all_eq_true]
  constructor
  · intro h j hj;exact h _ (gi_mem hj)
  · intro h x hx
    obtain ⟨j,hj,rfl⟩:=List.getElem_of_mem hx
    rw [←yaN hj];exact h j hj
theorem yjT(A:Option Addr)(d:List Int)(cap:Nat)(n:Int)(w:World)(hd:Ints w A d)(hlen:d.length≤1000000000) :
    Calls Tryz.prog 85 #[.slice A d.length cap, .int .i64 n] w fun e w'=>e = .returned (.int .i64 (ybf d n))∧w=w':=by
  have HD:=Lib.hid hd
  clear hd
  by_cases h1:yhM n=0
  case neg =>
    have b1:=neT h1
    go_enter func85,ntmps85
    go_wp2_with (first | (go_at_call 118;refine (ygE _ _).mono ?_;rintro e w' ⟨rfl,rfl⟩))
    go_ret
    refine ⟨yeB (yfG ?_),rfl⟩
    rw [ybf,if_neg h1]
    unfold yhM at *;split <;> simp_all
  have b1:=neF h1
  have Hv:=Lib.hid h1
  clear h1
  by_cases h2:(d.length:Int)=n
  case neg =>
    have b2:=neT h2
    go_enter func85,ntmps85
    go_wp2_with (first | (go_at_call 118;refine (ygE _ _).mono ?_;rintro e w' ⟨rfl,rfl⟩))
    go_ret
    refine ⟨yeB (yfG ?_),rfl⟩
    rw [ybf,if_pos Hv.out,if_neg h2]
  have b2:=neF h2
  have Hn:=Lib.hid h2
  clear h2
  go_enter func85,ntmps85
  go_wp2_with (first | (go_at_call 118;refine (ygE _ _).mono ?_;rintro e w' ⟨rfl,rfl⟩))
  go_loopw [19] (fun i wr=>∃ k:Nat,k≤d.length∧i = .int .i64 k∧Hid (∀ j,j<k→inF (gi d j)=true)∧Same wr w) (fun i _=>d.length-(intOf i).toNat)
  case atStart=>exact ⟨0,Nat.zero_le _,rfl,fun j hj=>absurd hj (by omega), .refl _⟩
  case round =>
    obtain ⟨k,hk,rfl,Hall,hw⟩:=hrel
    obtain rfl:wr=w:=hw.out
    clear hw
    by_cases hlt:k<d.length
    · obtain ⟨b,off,rfl,hb,hc⟩:=HD.out (by omega)
      have hck:=hc k hlt
      clear hc
      go_wp2_with (first | (go_at_call 127;refine (within_any _ _).mono ?_;rintro e w' ⟨rfl,rfl⟩))
      · go_ret
        have h3:(!inF (gi d k))=true:=by assumption
        refine ⟨yeB (yfG ?_),rfl⟩
        rw [ybf,if_pos Hv.out,if_pos Hn.out,if_neg]
        rw [yeR]
        intro h4
        rw [h4 k hlt] at h3
        simp at h3
      · have h3:(!inF (gi d k))=false:=by assumption
        go_roundw
        case rel =>
          refine ⟨k+1,by omega,by go_num,?_, .refl _⟩
          intro j hj
          by_cases e:j=k
          · subst e;simpa using h3
          · exact Hall.out j (by omega)
        case measure=>simp [intOf];omega
    · go_wp2
      go_ret
      refine ⟨yeB (yfG ?_),rfl⟩
      rw [ybf,if_pos Hv.out,if_pos Hn.out,if_pos]
      rw [yeR]
      intro j hj
      exact Hall.out j (by omega)
def cmpF(a b:Int):Int:=if a<b then -1 else if b<a then 1 else 0
theorem isNaN_any(a:Int)(w:World):Calls Tryz.prog 157 #[.int .i64 a] w fun e w'=>e = .returned (.bool false)∧w=w':=by
  go_enter func157,ntmps157
  go_wp2
  go_ret
  exact ⟨by simp,rfl⟩
theorem yjc(a b:Int)(w:World):Calls Tryz.prog 134 #[.int .i64 a, .int .i64 b] w fun e w'=>e = .returned (.int .i64 (cmpF a b))∧w=w':=by
  go_enter func134,ntmps134
  go_wp2_with (first | (go_at_call 157;refine (isNaN_any _ _).mono ?_;rintro e w' ⟨rfl,rfl⟩))
  all_goals go_ret
  all_goals refine ⟨yeB (yfG ?_),rfl⟩
  all_goals unfold cmpF
  all_goals (split <;> try split)
  all_goals omega
theorem vertex_any(n v:Int)(w:World):Calls Tryz.prog 113 #[.int .i64 n, .int .i64 v] w fun e w'=>e = .returned (.bool (decide (0≤v∧v<n)))∧w=w':=by
  go_enter func113,ntmps113
  go_wp2
  all_goals go_ret
  all_goals exact ⟨by simp;try omega,rfl⟩
def orF(x y:Int):Int:=if x≠0 then x else y
theorem or_two(b off:Nat)(x y:Int)(w:World)(h0:w.cell? ⟨b,off,none⟩=some (.int .i64 x))(h1:w.cell? ⟨b,off+1,none⟩=some (.int .i64 y)) :
    Calls Tryz.prog 156 #[.slice (some ⟨b,off,none⟩) 2 2] w fun e w'=>e = .returned (.int .i64 (orF x y))∧w=w':=by
  go_enter func156,ntmps156
  go_wp2
  refine wp_loop_rounds 3 ?_
  repeat any_goals (rw [rounds_succ];go_wp2)
  all_goals go_ret
  all_goals refine ⟨yeB (yfG ?_),rfl⟩
  all_goals (unfold orF;simp_all)
def ydR(a b c d:Int):Int:=orF (cmpF a c) (cmpF b d)
theorem pcompare_any(a b c d:Int)(w:World):Calls Tryz.prog 133 #[.agg #[.int .i64 a, .int .i64 b], .agg #[.int .i64 c, .int .i64 d]] w fun e w' =>
    e = .returned (.int .i64 (ydR a b c d))∧Pure w w':=by
  go_enter func133,ntmps133
  go_wp2
  go_region_held3 (fun w'=>w'.cell? ⟨w.heap.size,0,none⟩=some (.int .i64 a)∧w'.cell? ⟨w.heap.size,1,none⟩=some (.int .i64 b)∧w'.cell? ⟨w.heap.size+1,0,none⟩=some (.int .i64 c)∧w'.cell? ⟨w.heap.size+1,1,none⟩=some (.int .i64 d)) (simp [go_sem,World.cell?_alloc_past])
    (first
      | (go_at_call 134;refine (yjc _ _ _).mono ?_;rintro e w' ⟨rfl,rfl⟩)
      | (go_at_call 156;refine (or_two _ _ (cmpF a c) (cmpF b d) _ (by simp [go_sem]) (by simp [go_sem])).mono ?_;rintro e w' ⟨rfl,rfl⟩))
  go_wp2
  go_ret
  exact ⟨rfl,(by repeat (first | exact Keeps.refl _ _ | assumption | refine Keeps.drew ?_ | refine Keeps.drewN ?_ _ | refine Keeps.alloc ?_ _ | refine Keeps.setRow ?_ (by simp) _ | refine Keeps.setRow ?_ (by simp;omega) _ | refine Keeps.setCell ?_ (by simp) _ | refine Keeps.setCell ?_ (by simp;omega) _))⟩
def gchk(n:Int):Int→Int→List E3→Int
  | _,_,[]=>0
  | a,b,x::t =>
    if (0≤x.1∧x.1<n)∧(0≤x.2.1∧x.2.1<n)∧1≤x.2.2∧x.2.2≤50 then
      (if x.1≤x.2.1∧ydR a b x.1 x.2.1<0 then gchk n x.1 x.2.1 t else 9)
    else 2
def yav(n:Int)(es:List E3):Int:=if 1≤n∧n≤12 then gchk n (-1) (-1) es else 2
theorem gcheck_any(A:Option Addr)(es:List E3)(cap:Nat)(n:Int)(w:World)(hd:ydB w A es)(hlen:es.length≤1000000000) :
    Calls Tryz.prog 100 #[.agg #[.int .i64 n, .slice A es.length cap]] w fun e w'=>e = .returned (.int .i64 (yav n es))∧Pure w w':=by
  have HD:=Lib.hid hd
  clear hd
  by_cases h1:1≤n∧n≤12
  case neg =>
    go_enter func100,ntmps100
    go_wp2
    all_goals try (exfalso;omega)
    all_goals go_ret
    all_goals exact ⟨yeB (by rw [yav,if_neg h1];rfl),(by repeat (first | exact Keeps.refl _ _ | assumption | refine Keeps.drew ?_ | refine Keeps.drewN ?_ _ | refine Keeps.alloc ?_ _ | refine Keeps.setRow ?_ (by simp) _ | refine Keeps.setRow ?_ (by simp;omega) _ | refine Keeps.setCell ?_ (by simp) _ | refine Keeps.setCell ?_ (by simp;omega) _))⟩
  obtain ⟨h1,h2⟩:=h1
  have hb1:decide (n<1)=false:=by simp;omega
  have hb2:decide (12<n)=false:=by simp;omega
  have hg:Hid (yav n es=gchk n (-1) (-1) (es.drop 0)):=by rw [yav,if_pos ⟨h1,h2⟩];rfl
  go_enter func100,ntmps100
  go_wp2
  have hr1:=Row.alloc (Row.new w #[.int .i64 n, .slice A es.length cap] 24) (.cells #[.int .i64 (-1), .int .i64 (-1)] 133)
  have hr2:=Row.new (w.alloc (.cells #[.int .i64 n, .slice A es.length cap] 24)) #[.int .i64 (-1), .int .i64 (-1)] 133
  have hk0:Pure w ((w.alloc (.cells #[.int .i64 n, .slice A es.length cap] 24)).alloc (.cells #[.int .i64 (-1), .int .i64 (-1)] 133)):=(by repeat (first | exact Keeps.refl _ _ | assumption | refine Keeps.drew ?_ | refine Keeps.drewN ?_ _ | refine Keeps.alloc ?_ _ | refine Keeps.setRow ?_ (by simp) _ | refine Keeps.setRow ?_ (by simp;omega) _ | refine Keeps.setCell ?_ (by simp) _ | refine Keeps.setCell ?_ (by simp;omega) _))
  simp only [World.size_alloc] at hr1 hr2
  go_loopw [19] (fun i wr=>∃ (k:Nat) (la lb:Int),k≤es.length∧i = .int .i64 k∧Row wr w.heap.size 24 2 [.int .i64 n, .slice A es.length cap]∧Row wr (w.heap.size+1) 133 2 [.int .i64 la, .int .i64 lb]∧Pure w wr∧Hid (yav n es=gchk n la lb (es.drop k))) (fun i _=>es.length-(intOf i).toNat)
  case atStart=>exact ⟨0, -1, -1,Nat.zero_le _,rfl,hr1,hr2,hk0,hg⟩
  case round =>
    clear hg hr1 hr2 hk0
    obtain ⟨k,la,lb,hk,rfl,hr1,hr2,hp,hg⟩:=hrel
    by_cases hlt:k<es.length
    · obtain ⟨b,off,rfl,hb,hc⟩:=HD.out (by omega)
      obtain ⟨c0,c1,c2⟩:=hc k hlt
      clear hc
      replace c0:=hp.cell id c0
      replace c1:=hp.cell id c1
      replace c2:=hp.cell id c2
      have r10:=Row.cell hr1 (i:=0) rfl
      have r20:=Row.cell hr2 (i:=0) rfl
      have r21:=Row.cell hr2 (i:=1) rfl
      have f20:=Row.frozen hr2 0
      have f21:=Row.frozen hr2 1
      have hsz:=hr2.lt
      have hsz0:=hr1.lt
      have hbw:b<wr.heap.size:=Nat.lt_of_lt_of_le hb hp.size
      have e1:Row ((wr.alloc (.cells #[.int .i64 (ge es k).1, .int .i64 (ge es k).2.1, .int .i64 (ge es k).2.2] 79)).alloc (.cells #[.int .i64 (ge es k).1, .int .i64 (ge es k).2.1] 133)) (wr.heap.size+1) 133 2 [.int .i64 (ge es k).1, .int .i64 (ge es k).2.1]:=by
        have:=Row.new (wr.alloc (.cells #[.int .i64 (ge es k).1, .int .i64 (ge es k).2.1, .int .i64 (ge es k).2.2] 79)) #[.int .i64 (ge es k).1, .int .i64 (ge es k).2.1] 133
        rw [World.size_alloc] at this;exact this
      have e2:=Row.alloc (Row.alloc hr1 (.cells #[.int .i64 (ge es k).1, .int .i64 (ge es k).2.1, .int .i64 (ge es k).2.2] 79)) (.cells #[.int .i64 (ge es k).1, .int .i64 (ge es k).2.1] 133)
      have e3:=Row.alloc (Row.alloc hr2 (.cells #[.int .i64 (ge es k).1, .int .i64 (ge es k).2.1, .int .i64 (ge es k).2.2] 79)) (.cells #[.int .i64 (ge es k).1, .int .i64 (ge es k).2.1] 133)
      have e4:Pure w ((wr.alloc (.cells #[.int .i64 (ge es k).1, .int .i64 (ge es k).2.1, .int .i64 (ge es k).2.2] 79)).alloc (.cells #[.int .i64 (ge es k).1, .int .i64 (ge es k).2.1] 133)):=(by repeat (first | exact Keeps.refl _ _ | assumption | refine Keeps.drew ?_ | refine Keeps.drewN ?_ _ | refine Keeps.alloc ?_ _ | refine Keeps.setRow ?_ (by simp) _ | refine Keeps.setRow ?_ (by simp;omega) _ | refine Keeps.setCell ?_ (by simp) _ | refine Keeps.setCell ?_ (by simp;omega) _))
      have hne:¬w.heap.size+1<w.heap.size:=by omega
      go_wp2_with (first | (go_at_call 113;refine (vertex_any _ _ _).mono ?_;rintro e w' ⟨rfl,rfl⟩) | (go_at_call 133;refine (pcompare_any _ _ _ _ _).mono ?_;rintro e w1 ⟨rfl,hp1⟩;have k1:=hp1.row e1 id;have k2:=hp1.row e2 id;have k3:=hp1.row e3 id;have k4:=Pure.after e4 hp1;clear e1 e2 e3 e4 hp1;have q0:=Row.cell k1 (i:=0) rfl;have q1:=Row.cell k1 (i:=1) rfl;have q2:=Row.frozen k3 0;have q3:=Row.frozen k3 1;have q4:=Row.cell k3 (i:=0) rfl;have q5:=Row.cell k3 (i:=1) rfl))
      all_goals (first
        | (go_ret
           refine ⟨yeB (yfG ?_),(by repeat (first | exact Keeps.refl _ _ | assumption | refine Keeps.drew ?_ | refine Keeps.drewN ?_ _ | refine Keeps.alloc ?_ _ | refine Keeps.setRow ?_ (by simp) _ | refine Keeps.setRow ?_ (by simp;omega) _ | refine Keeps.setCell ?_ (by simp) _ | refine Keeps.setCell ?_ (by simp;omega) _))⟩
           rw [hg.out,yh7 hlt,gchk]
           first
             | rw [if_neg (by omega)]
             | rw [if_pos (by omega),if_neg (by omega)])
        | (refine ⟨⟨k+1,(ge es k).1,(ge es k).2.1,by omega,by go_num,(k2.far (by simp) _).far (by simp) _,(k3.set_ 0 _).set_ 1 _,(k4.setCell (fun h=>absurd h (by simp)) _).setCell (fun h=>absurd h (by simp)) _,?_⟩,by simp [intOf];omega⟩
           show yav n es=_
           rw [hg.out,yh7 hlt,gchk,if_pos (by omega),if_pos (by omega)]))
    · go_wp2
      go_ret
      refine ⟨yeB (yfG ?_),hp⟩
      rw [hg.out,List.drop_eq_nil_of_le (by omega),gchk]
theorem own_row{w:World}{B e n:Nat}{v:Value}{xs:List Value}(h:w.ownsRow B e 1 v n xs)(hn:0<n):∃ g cap,v = .slice (some ⟨g,0,none⟩) n cap∧B≤g∧Row w g e cap xs∧n≤cap∧cap≤maxLen:=by
  rcases h.2 with ⟨_,h0⟩ | ⟨g,cap,cur,hv,hb,hg,hnc,hcm,hcs,htake⟩
  · omega
  · refine ⟨g,cap,hv,hb,⟨cur,hg,by omega,?_⟩,hnc,hcm⟩
    have:=h.1
    rw [show xs.length=n*1 by omega]
    exact htake
theorem ints_news{w:World}{b off:Nat}{xs:List Int}(h:∀ k,k<xs.length→w.cell? ⟨b,off+k,none⟩=some (.int .i64 (gi xs k))):∀ j u,(xs.map (Value.int .i64))[j]? = some u→w.cell? ((⟨b,off,none⟩:Addr).add j)=some u:=by
  intro j u hu
  have hj:j<xs.length:=by
    rcases Nat.lt_or_ge j xs.length with h1 | h1
    · exact h1
    · rw [List.getElem?_eq_none (by simpa using h1)] at hu;cases hu
  rw [List.getElem?_map,List.getElem?_eq_getElem hj] at hu
  have hadd:(⟨b,off,none⟩:Addr).add j=⟨b,off+j,none⟩:=by unfold Addr.add;split <;> simp_all
  rw [hadd,h j hj,yaN hj]
  exact hu
theorem ints_one(xs:List Int):∀ u∈xs.map (Value.int .i64),u.oneCell'=true:=by
  intro u hu
  simp at hu
  obtain ⟨a,_,rfl⟩:=hu
  rfl
theorem clone_any(A:Option Addr)(d:List Int)(ca:Nat)(w:World)(hd:Ints w A d)(h0:0<d.length)(hl:d.length≤1000000000) :
    Calls Tryz.prog 147 #[.slice A d.length ca] w fun e w' =>
      ∃ g cap,e = .returned (.slice (some ⟨g,0,none⟩) d.length cap)∧w.heap.size≤g∧IRow w' g 3 cap d∧Pure w w'∧cap≤maxLen:=by
  obtain ⟨i0,hi,hz0,hz1,hz2⟩:=info_parts int_info
  obtain ⟨b,off,rfl,hb,hc⟩:=hd h0
  have HC:=Lib.hid hc
  clear hd hc
  have hnil:∀ wx,(binOp .eql 43 (.slice (some ⟨b,off,none⟩) d.length ca) (.slice none 0 0)).run Tryz.prog wx = .ok (.bool false) wx:=fun wx=>Lib.run_eql_slice_nil (P:=Tryz.prog) wx 43 3 (some ⟨b,off,none⟩) d.length ca 0 0 underlying43
  have hown0:(w.alloc (.cells #[] 3)).ownsRow w.heap.size 3 1 (.slice (some ⟨w.heap.size,0,none⟩) 0 0) 0 []:=World.ownsRow_made w #[] 0 (Nat.le_refl _) (by unfold maxLen;omega) rfl
  have hnews:=ints_news (w:=w.alloc (.cells #[] 3)) (b:=b) (off:=off) (xs:=d) (fun k hk=>((Keeps.refl (fun _=>False) w).alloc _).cell id (HC.out k hk))
  have HN:=Lib.hid hnews
  clear hnews
  go_enter func147,ntmps147
  go_wp2_with (at_builtin;refine wpList_append_own _ rfl _ _ 43 rfl w.heap.size 3 i0 (.int .i64 0) 1 8 underlying43 hi hz0 hz1 hz2 rfl (by decide) _ _ _ rfl hown0 ⟨b,off,none⟩ d.length ca (d.map (Value.int .i64)) rfl (by simp) HN.out (ints_one d) (by unfold maxLen;omega) (by omega) (by simp) ?_;intro v2 w2 hown2 hgrow2 _)
  obtain ⟨g,cap,hv,hg,hr,q1,q2⟩:=own_row hown2 (by omega)
  rw [hv]
  go_wp2
  go_ret
  refine ⟨g,cap,yeB (by simp),hg,by simpa [IRow] using hr,Keeps.grown (by repeat (first | exact Keeps.refl _ _ | assumption | refine Keeps.drew ?_ | refine Keeps.drewN ?_ _ | refine Keeps.alloc ?_ _ | refine Keeps.setRow ?_ (by simp) _ | refine Keeps.setRow ?_ (by simp;omega) _ | refine Keeps.setCell ?_ (by simp) _ | refine Keeps.setCell ?_ (by simp;omega) _)) hgrow2 (fun j e hj=>?_),by first | exact q1 | exact q2⟩
  cases e
  exact absurd hj (by simp)
end Go.Proofs.YtadpnlimiblniaaGreat

namespace Go.Proofs.YtadpnlimiblniaaGreat
open Go.RowKit Go.Proofs.Tryz
def gn(l:List Nat)(k:Nat):Nat:=l.getD k 0
theorem ygZ{l:List Nat}{k:Nat}(h:k<l.length):gn l k=l[k]:=by simp [gn,h]
theorem gn_set{l:List Nat}{k j:Nat}{x:Nat}(h:k<l.length):gn (l.set k x) j=if j=k then x else gn l j:=by
  unfold gn
  simp only [List.getD_eq_getElem?_getD,List.getElem?_set]
  by_cases e:j=k
  · subst e;simp [h]
  · rw [if_neg (by omega),if_neg e]
abbrev NRow(w:World)(g:Nat)(e:TypeId)(size:Nat)(xs:List Nat):Prop:=Row w g e size (xs.map fun (n:Nat)=>Value.int .i64 (Int.ofNat n))
section
variable {w : World} {g : Nat} {e : TypeId} {size : Nat}
theorem ncell{xs:List Nat}(h:NRow w g e size xs){k:Nat}(hk:k<xs.length):w.cell? ⟨g,k,none⟩=some (.int .i64 (Int.ofNat (gn xs k))) :=
  Row.cell h (by rw [List.getElem?_map,List.getElem?_eq_getElem hk,ygZ hk];rfl)
theorem nset{xs:List Nat}(h:NRow w g e size xs)(k:Nat)(v:Nat):NRow (w.setCell ⟨g,k,none⟩ (.int .i64 (Int.ofNat v))) g e size (xs.set k v):=by
  have:=Row.set_ h k (.int .i64 (Int.ofNat v))
  unfold NRow;rwa [List.map_set]
end
def yeC(xs:List Nat):List Value:=xs.map fun (n:Nat)=>Value.int .i64 (Int.ofNat n)
theorem yfb(xs:List Nat):(yeC xs).length=xs.length:=by simp [yeC]
theorem nvals_one(xs:List Nat):∀ v∈(yeC xs).toArray.toList,v.oneCell'=true:=by
  intro v hv
  simp [yeC] at hv
  obtain ⟨a,_,rfl⟩:=hv
  rfl
theorem NRow.full{w:World}{g:Nat}{e:TypeId}{xs:List Nat}(h:NRow w g e xs.length xs):w.heap[g]? = some (.cells (yeC xs).toArray e (0,0)):=by
  have h':Row w g e (yeC xs).length (yeC xs):=by rw [yfb];exact h
  exact Row.full h'
def ydb(F:List Nat):Prop:=F.length=12∧∀ v,v<12→gn F v≤v
def yeN(F:List Nat):Nat→Nat→Nat
  | 0,v=>v
  | k+1,v=>if gn F v=v then v else yeN F k (gn F v)
def root(F:List Nat)(v:Nat):Nat:=yeN F v v
theorem rootFuel_more{F:List Nat}(h:ydb F):∀ (k v j:Nat),v<12→v≤k→v≤j→yeN F k v=yeN F j v:=by
  intro k
  induction k using Nat.strongRecOn with
  | _ k ih =>
    intro v j hv hk hj
    have hle:=h.2 v hv
    cases k with
    | zero =>
      obtain rfl:v=0:=by omega
      have h0:gn F 0=0:=by omega
      cases j with
      | zero=>rfl
      | succ j=>simp [yeN,h0]
    | succ k =>
      cases j with
      | zero =>
        obtain rfl:v=0:=by omega
        have h0:gn F 0=0:=by omega
        simp [yeN,h0]
      | succ j =>
        simp only [yeN]
        split
        · rfl
        · exact ih k (by omega) _ j (by omega) (by omega) (by omega)
theorem ycT{F:List Nat}{v:Nat}(h:gn F v=v):root F v=v:=by
  unfold root
  cases v with
  | zero=>rfl
  | succ v=>simp [yeN,h]
theorem yfK{F:List Nat}(h:ydb F){v:Nat}(hv:v<12)(hne:gn F v≠v):root F v=root F (gn F v):=by
  have hle:=h.2 v hv
  unfold root
  cases v with
  | zero=>omega
  | succ v =>
    simp only [yeN]
    rw [if_neg hne]
    exact rootFuel_more h _ _ _ (by omega) (by omega) (Nat.le_refl _)
theorem yd4{F:List Nat}(h:ydb F):∀ v,v<12→root F v≤v∧gn F (root F v)=root F v:=by
  intro v
  induction v using Nat.strongRecOn with
  | _ v ih =>
    intro hv
    by_cases he:gn F v=v
    · rw [ycT he];exact ⟨Nat.le_refl _,he⟩
    · have hle:=h.2 v hv
      rw [yfK h hv he]
      have:=ih (gn F v) (by omega) (by omega)
      exact ⟨by omega,this.2⟩
theorem ygO{F:List Nat}(h:ydb F){v:Nat}(hv:v<12):root F (root F v)=root F v:=ycT (yd4 h v hv).2
def ycV(F:List Nat)(a b:Nat):List Nat:=F.set (max (root F a) (root F b)) (min (root F a) (root F b))
theorem ye7{F:List Nat}(h:ydb F){a b:Nat}(ha:a<12)(hb:b<12):ydb (ycV F a b):=by
  have h1:=yd4 h a ha
  have h2:=yd4 h b hb
  refine ⟨by simp [ycV,h.1],fun v hv=>?_⟩
  unfold ycV
  rw [gn_set (by rw [h.1];omega)]
  split
  · omega
  · exact h.2 v hv
theorem yg4{F:List Nat}(h:ydb F){a b:Nat}(ha:a<12)(hb:b<12):∀ v,v<12 →
    root (ycV F a b) v=if root F v=max (root F a) (root F b) then min (root F a) (root F b) else root F v:=by
  have h1:=yd4 h a ha
  have h2:=yd4 h b hb
  have hJ:=ye7 h ha hb
  have hg:∀ j,gn (ycV F a b) j=if j=max (root F a) (root F b) then min (root F a) (root F b) else gn F j:=fun j=>by
    unfold ycV;exact gn_set (by rw [h.1];omega)
  have hmin:root (ycV F a b) (min (root F a) (root F b))=min (root F a) (root F b):=by
    apply ycT
    rw [hg]
    split
    · rfl
    · rcases Nat.le_total (root F a) (root F b) with hl | hl
      · rw [Nat.min_eq_left hl];exact h1.2
      · rw [Nat.min_eq_right hl];exact h2.2
  intro v
  induction v using Nat.strongRecOn with
  | _ v ih =>
    intro hv
    by_cases hM:v=max (root F a) (root F b)
    · have hrv:root F v=v:=by
        apply ycT
        rw [hM]
        rcases Nat.le_total (root F a) (root F b) with hl | hl
        · rw [Nat.max_eq_right hl];exact h2.2
        · rw [Nat.max_eq_left hl];exact h1.2
      rw [hrv,if_pos hM]
      by_cases he:gn (ycV F a b) v=v
      · rw [ycT he]
        rw [hg,if_pos hM] at he
        exact he.symm
      · rw [yfK hJ hv he,hg,if_pos hM,hmin]
    · by_cases he:gn F v=v
      · have he':gn (ycV F a b) v=v:=by rw [hg,if_neg hM];exact he
        rw [ycT he',ycT he,if_neg hM]
      · have he':gn (ycV F a b) v≠v:=by rw [hg,if_neg hM];exact he
        have hle:=h.2 v hv
        rw [yfK hJ hv he',yfK h hv he,hg,if_neg hM]
        exact ih _ (by omega) (by omega)
def ydC:List Nat:=List.range 12
theorem yfV:ydb ydC:=⟨rfl,fun v hv=>by rw [ygZ (by simpa [ydC] using hv)];simp [ydC]⟩
def yaA(es:List E3):List Nat:=es.foldl (fun F x=>ycV F x.1.toNat x.2.1.toNat) ydC
def yaH(F:List Nat):Nat→Nat
  | 0=>0
  | n+1=>yaH F n+if root F n=n then 1 else 0
def ydE(es:List E3):Prop:=∀ x,x∈es→0≤x.1∧x.1<12∧0≤x.2.1∧x.2.1<12
theorem ycb(es:List E3)(h:ydE es):ydb (yaA es):=by
  unfold yaA
  suffices H:∀ (l:List E3) (F:List Nat),(∀ x,x∈l→0≤x.1∧x.1<12∧0≤x.2.1∧x.2.1<12)→ydb F→ydb (l.foldl (fun F x=>ycV F x.1.toNat x.2.1.toNat) F) from H es _ h yfV
  intro l
  induction l with
  | nil=>exact fun F _ h=>h
  | cons x l ih =>
    intro F hl hF
    have hx:=hl x (by simp)
    exact ih _ (fun y hy=>hl y (by simp [hy])) (ye7 hF (by omega) (by omega))
theorem joinedF_take(es:List E3){k:Nat}(hk:k<es.length):yaA (es.take (k+1))=ycV (yaA (es.take k)) (ge es k).1.toNat (ge es k).2.1.toNat:=by
  unfold yaA
  rw [List.take_add_one,List.getElem?_eq_getElem hk,List.foldl_append,yc4 hk]
  rfl
theorem ydE.take{es:List E3}(h:ydE es)(k:Nat):ydE (es.take k):=fun x hx=>h x (List.mem_of_mem_take hx)
end Go.Proofs.YtadpnlimiblniaaGreat

namespace Go.Proofs.YtadpnlimiblniaaGreat
open Go.RowKit Go.Shelf Go.Proofs.Tryz
attribute [local go_sem] Oper.semAt_some
set_option maxRecDepth 100000
set_option maxHeartbeats 8000000
def link(v:Int)(x:E3):Option (Int×Int):=if x.1≠x.2.1∧(x.1=v∨x.2.1=v) then some (x.1+x.2.1-v,x.2.2) else none
def ycr(es:List E3)(v:Int):List (Int×Int):=es.filterMap (link v)
theorem linksF_take{es:List E3}{v:Int}{k:Nat}(hk:k<es.length):ycr (es.take (k+1)) v=ycr (es.take k) v++(link v (ge es k)).toList:=by
  unfold ycr
  rw [List.take_add_one,List.getElem?_eq_getElem hk,List.filterMap_append,yc4 hk]
  congr 1
def KB(K:Nat→Prop)(W W':World):Prop:=∀ k,K k→W'.heap[k]? = W.heap[k]?
theorem KB.refl(K:Nat→Prop)(W:World):KB K W W:=fun _ _=>rfl
theorem KB.trans{K:Nat→Prop}{A B C:World}(h:KB K A B)(k:KB K B C):KB K A C:=fun i hi=>(k i hi).trans (h i hi)
theorem KB.alloc{K:Nat→Prop}{A W:World}(h:KB K A W)(hK:∀ k,K k→k<A.heap.size)(o:Obj):KB K A (W.alloc o):=fun i hi=>by
  have h1:=h i hi
  rw [Array.getElem?_eq_getElem (hK i hi)] at h1
  rw [Below.heap_alloc W o i (Array.getElem?_eq_some_iff.1 h1).1]
  exact h i hi
theorem KB.cell{K:Nat→Prop}{W W':World}(h:KB K W W'){p:Addr}(hp:K p.block){v:Value}(hc:W.cell? p=some v):W'.cell? p=some v:=by
  rw [World.cell?_of_block (w:=W) (h p.block hp)];exact hc
theorem KB.put{K:Nat→Prop}{w:World}(hK:∀ k,K k→k<w.heap.size)(W:World)(l:Nat)(o o':Obj)(hl:w.heap.size≤l)(_:W.heap[l]? = some o)(_:o.isCells=false)(_:o.isWalk=false):KB K W (W.putObj l o') :=
  fun k hk=>by
    have h1:=hK k hk
    exact World.putObj_heap_other (by omega)
abbrev yiq(es:List E3)(v:Int):={ p:Int×Int // ∃ x∈es,link v x=some p }
abbrev encL(es:List E3)(v:Int)(p:yiq es v):Array Value:=#[.int .i64 p.1.1, .int .i64 p.1.2]
theorem link_snoc{es:List E3}{v:Int}{pre:List (yiq es v)}{L:List (Int×Int)}(hp:pre.map (·.1)=L)(x:yiq es v){e:E3}(h:link v e=some x.1):(pre++[x]).map (·.1)=L++(link v e).toList:=by
  have:(link v e).toList=[x.1]:=by rw [h];rfl
  rw [this,List.map_append,hp];rfl
theorem links_in(n:Nat)(hn:1≤n)(l bx bv b off X:Nat)(W:World)(es:List E3)(cap:Nat)(v:Int)(A:Option Addr)(hA:0<es.length→A=some ⟨b,off,none⟩)(K:Nat→Prop)(hKv:K bv)(hKb:0<es.length→K b)(hKlt:∀ k,K k→k<W.heap.size)
    (hE:ydE es) (hv0:0≤v) (hv:v<12) (hlen:es.length≤1000000000)
    (J Jx:List (yiq es v)→World→Prop) (hJ:AbidesFrom W.heap.size J)
    (hY:∀ pre x W1,J pre W1→pre.length<es.length→YieldAt Fence.wide (n-1) Tryz.prog l (encL es v x) W1 fun e W' =>
      (e = .returned (.bool true)∧J (pre++[x]) W'∧KB K W1 W')∨(e = .returned (.bool false)∧Jx (pre++[x]) W'))
    (h0:J [] W) (hx:W.cell? ⟨bx,0,none⟩=some (.pointer (some ⟨X,0,none⟩))) (hbv:W.cell? ⟨bv,0,none⟩=some (.int .i64 v))
    (hX:W.cell? ⟨X,1,none⟩=some (.slice A es.length cap))
    (hes:∀ k,k<es.length→W.cell? ⟨b,off+k*3,none⟩=some (.int .i64 (ge es k).1)∧W.cell? ⟨b,off+k*3+1,none⟩=some (.int .i64 (ge es k).2.1)∧W.cell? ⟨b,off+k*3+2,none⟩=some (.int .i64 (ge es k).2.2)) :
    CallsIn Fence.wide n Tryz.prog 200 #[.func (.yield l) #[] #[], .pointer (some ⟨bx,0,none⟩), .pointer (some ⟨bv,0,none⟩)] W fun e W'=>(∃ v,e = .returned v) ∧
      ((∃ xs,(xs.map (·.1))=ycr es v∧J xs W')∨(∃ pre,True∧Jx pre W')):=by
  have HES:=Lib.hid hes
  have HA:=Lib.hid hA
  have HEE:=Lib.hid hE
  have HJ:=Lib.hid hJ
  have HYY:=Lib.hid hY
  clear hes hE hJ hY hA
  refine callsIn_of_wp func200 rfl trivial ?_ rfl
  simp only [ntmps200,List.size_toArray,List.length_cons,List.length_nil,Nat.reduceAdd,Nat.reduceSub,Array.replicate_succ,Array.replicate_zero,List.push_toArray,List.append_toArray,List.nil_append,List.cons_append]
  gi_wp2
  gi_loopw [13] (fun i wr=>∃ (k:Nat) (pre:List (yiq es v)),k≤es.length∧i = .int .i64 k∧Hid (pre.map (·.1)=ycr (es.take k) v)∧Hid (pre.length≤k)∧J pre wr∧KB K W wr) (fun i _=>es.length-(intOf i).toNat)
  case atStart=>exact ⟨0,[],Nat.zero_le _,rfl,rfl,Nat.le_refl _,h0,KB.refl _ _⟩
  case round =>
    obtain ⟨k,pre,hk,rfl,hpre,hpl,hJs,hkb⟩:=hrel
    by_cases hlt:k<es.length
    · obtain rfl:A=some ⟨b,off,none⟩:=HA.out (by omega)
      obtain ⟨e0,e1,e2⟩:=HES.out k hlt
      have hKb':=hKb (by omega)
      have c0:=hkb.cell (p:=⟨b,off+k*3,none⟩) hKb' e0
      have c1:=hkb.cell (p:=⟨b,off+k*3+1,none⟩) hKb' e1
      have c2:=hkb.cell (p:=⟨b,off+k*3+2,none⟩) hKb' e2
      have cv:=hkb.cell (p:=⟨bv,0,none⟩) hKv hbv
      clear e0 e1 e2
      obtain ⟨x1,x2,x3,x4⟩:=HEE.out _ (ge_mem hlt)
      have lb1:=block_lt_of_cell c0
      have lb2:=block_lt_of_cell cv
      have hmem:=ge_mem hlt
      have htk:=linksF_take (es:=es) (v:=v) hlt
      have HTK:=Lib.hid htk
      have HMEM:=Lib.hid hmem
      clear htk hmem
      obtain ⟨A,hA'⟩:∃ A,A=(ge es k).1:=⟨_,rfl⟩
      obtain ⟨B,hB⟩:∃ B,B=(ge es k).2.1:=⟨_,rfl⟩
      obtain ⟨M,hM⟩:∃ M,M=(ge es k).2.2:=⟨_,rfl⟩
      have HGE:Hid (ge es k=(A,B,M)):=by rw [Hid,hA',hB,hM]
      rw [←hA'] at c0 x1 x2
      rw [←hB] at c1 x3 x4
      rw [←hM] at c2
      clear hA' hB hM
      have hJa:=HJ.out pre wr (wr.alloc (.cells #[.int .i64 A, .int .i64 B, .int .i64 M] 79)) none hJs (World.grownBy_alloc wr _ none) (fun r e=>by cases e)
      have hka:KB K W (wr.alloc (.cells #[.int .i64 A, .int .i64 B, .int .i64 M] 79)):=hkb.alloc hKlt _
      by_cases hab:A=B
      · have b1:=neF hab
        have HN:Hid (link v (ge es k)=none):=by rw [Hid,HGE.out];unfold link;rw [if_neg (by simp [hab])]
        clear hab
        gi_wp2
        refine ⟨fun _ h=>(by cases h),?_⟩
        gi_wp2
        go_roundw
        case rel=>exact ⟨k+1,pre,by omega,by go_num,by rw [Hid,HTK.out,HN.out];simp;exact hpre.out,Nat.le_succ_of_le hpl.out,hJa,hka⟩
        case measure=>simp [intOf];omega
      · have b1:=neT hab
        by_cases hav:A=v
        · have b2:=eqT hav
          have HC:Hid ((A,B,M).1≠(A,B,M).2.1∧((A,B,M).1=v∨(A,B,M).2.1=v)):=⟨hab, .inl hav⟩
          clear hab hav
          have hl:link v (A,B,M)=some (A+B-v,M):=by unfold link;rw [if_pos];exact HC.out
          have HN:Hid (link v (ge es k)=some (A+B-v,M)):=by rw [Hid,HGE.out];exact hl
          clear hl
          obtain ⟨fn,tmps,assign,body,hy,hR⟩:=HYY.out pre ⟨(A+B-v,M),ge es k,HMEM.out,HN.out⟩ (wr.alloc (.cells #[.int .i64 A, .int .i64 B, .int .i64 M] 79)) hJa (by have:=hpl.out;omega)
          dsimp only [encL] at hy
          gi_wp2
          refine hR.mono ?_
          rintro e W3 (⟨rfl,hJ3,hk3⟩ | ⟨rfl,hJx3⟩)
          · gi_wp2
            go_roundw
            case rel=>exact ⟨k+1,_,by omega,by go_num,by rw [Hid,HTK.out];exact link_snoc hpre.out _ HN.out,by rw [Hid,List.length_append];exact Nat.succ_le_succ hpl.out,hJ3,hka.trans hk3⟩
            case measure=>simp [intOf];omega
          · gi_wp2
            refine bodyPost_ret (results_none rfl _ _ _) rfl ?_
            exact ⟨⟨_,rfl⟩, .inr ⟨_,trivial,hJx3⟩⟩
        · have b2:=eqF hav
          by_cases hbv':B=v
          · have b3:=eqT hbv'
            have HC:Hid ((A,B,M).1≠(A,B,M).2.1∧((A,B,M).1=v∨(A,B,M).2.1=v)):=⟨hab, .inr hbv'⟩
            clear hab hav hbv'
            have hl:link v (A,B,M)=some (A+B-v,M):=by unfold link;rw [if_pos];exact HC.out
            have HN:Hid (link v (ge es k)=some (A+B-v,M)):=by rw [Hid,HGE.out];exact hl
            clear hl
            obtain ⟨fn,tmps,assign,body,hy,hR⟩:=HYY.out pre ⟨(A+B-v,M),ge es k,HMEM.out,HN.out⟩ (wr.alloc (.cells #[.int .i64 A, .int .i64 B, .int .i64 M] 79)) hJa (by have:=hpl.out;omega)
            dsimp only [encL] at hy
            gi_wp2
            refine hR.mono ?_
            rintro e W3 (⟨rfl,hJ3,hk3⟩ | ⟨rfl,hJx3⟩)
            · gi_wp2
              go_roundw
              case rel=>exact ⟨k+1,_,by omega,by go_num,by rw [Hid,HTK.out];exact link_snoc hpre.out _ HN.out,by rw [Hid,List.length_append];exact Nat.succ_le_succ hpl.out,hJ3,hka.trans hk3⟩
              case measure=>simp [intOf];omega
            · gi_wp2
              refine bodyPost_ret (results_none rfl _ _ _) rfl ?_
              exact ⟨⟨_,rfl⟩, .inr ⟨_,trivial,hJx3⟩⟩
          · have b3:=eqF hbv'
            have HN:Hid (link v (ge es k)=none):=by rw [Hid,HGE.out];unfold link;rw [if_neg (by simp [hav,hbv'])]
            clear hab hav hbv'
            gi_wp2
            refine ⟨fun _ h=>(by cases h),?_⟩
            gi_wp2
            go_roundw
            case rel=>exact ⟨k+1,pre,by omega,by go_num,by rw [Hid,HTK.out,HN.out];simp;exact hpre.out,Nat.le_succ_of_le hpl.out,hJa,hka⟩
            case measure=>simp [intOf];omega
    · gi_wp2
      go_end0
      obtain rfl:k=es.length:=by omega
      exact ⟨⟨_,rfl⟩, .inl ⟨pre,by rw [hpre.out,List.take_length],hJs⟩⟩
theorem links_any(X:Nat)(v:Int)(w:World) :
    Calls Tryz.prog 192 #[.pointer (some ⟨X,0,none⟩), .int .i64 v] w fun e w' =>
      e = .returned (.func (.func 200) #[] #[.pointer (some ⟨w.heap.size,0,none⟩), .pointer (some ⟨w.heap.size+1,0,none⟩)]) ∧
        (w.alloc (.cells #[.pointer (some ⟨X,0,none⟩)] 190)).alloc (.cells #[.int .i64 v] 3)=w':=by
  have hmf:∀ (fn:Fn) (first cap:Array Value) (w:World),(Instr.makeFunc fn first cap).run Tryz.prog w = .ok (.func fn first cap) w:=fun _ _ _ _=>rfl
  go_enter func192,ntmps192
  go_wp2
  go_ret
  exact ⟨rfl,rfl⟩
end Go.Proofs.YtadpnlimiblniaaGreat

namespace Go.Proofs.YtadpnlimiblniaaGreat
open Go.RowKit Go.Shelf Go.Proofs.Tryz
attribute [local go_sem] Oper.semAt_some
set_option maxRecDepth 100000
set_option maxHeartbeats 8000000
def addF(p:Int→Bool)(l:List (Int×Int)):Int:=l.foldl (fun n x=>if p x.1 then n+x.2 else n) 0
def yaQ(es:List E3)(v:Int)(p:Int→Bool):Int:=addF p (ycr es v)
theorem addF_snoc(p:Int→Bool)(l:List (Int×Int))(x:Int×Int):addF p (l++[x])=if p x.1 then addF p l+x.2 else addF p l:=by unfold addF;rw [List.foldl_append];rfl
theorem addF_bound{p:Int→Bool}(l:List (Int×Int))(h:∀ q∈l,0≤q.2∧q.2≤50):0≤addF p l∧addF p l≤50*l.length:=by
  suffices H:∀ (l:List (Int×Int)) (a:Int),(∀ q∈l,0≤q.2∧q.2≤50)→a≤l.foldl (fun n x=>if p x.1 then n+x.2 else n) a∧l.foldl (fun n x=>if p x.1 then n+x.2 else n) a≤a+50*l.length by
    have:=H l 0 h
    unfold addF;omega
  intro l
  induction l with
  | nil=>intro a _;simp
  | cons x l ih =>
    intro a h
    have hx:=h x (by simp)
    have h1:=ih (if p x.1 then a+x.2 else a) (fun q hq=>h q (by simp [hq]))
    rw [List.foldl_cons,List.length_cons]
    split at h1 <;> rename_i hp <;> simp only [hp] at h1 ⊢ <;> simp at h1 ⊢ <;> omega
theorem Row.owned{W W':World}{row:Option Nat}{g:Nat}{e:TypeId}{size:Nat}{xs:List Value}(h:Row W g e size xs)(hg:W.grownBy W' row)(hr:∀ r,row=some r→∃ o:Obj,W.heap[r]? = some o∧o.isCells=false):Row W' g e size xs:=by
  have hlt:=h.lt
  refine h.keep (hg.block g hlt (fun e'=>?_))
  obtain ⟨o,ho,hc⟩:=hr g e'.symm
  obtain ⟨cur,h1,_⟩:=h
  rw [h1] at ho
  cases ho
  simp [Obj.isCells] at hc
theorem Keeps.owned{S:Nat→Prop}{w W W':World}{row:Option Nat}{B:Nat}(h:Keeps S w W)(hg:W.grownBy W' row)(hB:w.heap.size≤B)(hr:∀ r,row=some r→B≤r):Keeps S w W' :=
  h.grown hg (fun k e hk=>by have:=hr k e;omega)
theorem yjG(X:Nat)(A:Option Addr)(es:List E3)(cap:Nat)(v:Int)(fid:Nat)(caps:Array Value)(p:Int→Bool)(w:World)
    (hX:w.cell? ⟨X,1,none⟩=some (.slice A es.length cap)) (hes:ydB w A es) (hE:ydE es) (hM:∀ x∈es,0≤x.2.2∧x.2.2≤50) (hv0:0≤v) (hv:v<12) (hlen:es.length≤1000)
    (heg:∀ args w,(callFunc fid args).run Tryz.prog w = .ok (.enter fid args) w)
    (hp:∀ (u:Int) (W:World),Pure w W→(∃ m,(u,m)∈ycr es v)→Calls Tryz.prog fid (#[.int .i64 u]++caps) W fun e W'=>e = .returned (.bool (p u))∧W=W') :
    Calls Tryz.prog 177 #[.pointer (some ⟨X,0,none⟩), .int .i64 v, .func (.func fid) #[] caps] w fun e w'=>e = .returned (.int .i64 (yaQ es v p))∧Pure w w':=by
  refine (callsIn_wide (n:=3)).1 ?_
  refine callsIn_of_wp_marks func177 rfl trivial ?_ rfl
  simp only [ntmps177,List.size_toArray,List.length_cons,List.length_nil,Nat.reduceAdd,Nat.reduceSub,Array.replicate_succ,Array.replicate_zero,List.push_toArray,List.append_toArray,List.nil_append,List.cons_append]
  gi_wp2_with fail
  refine ⟨trivial,(callsIn_wide.2 (links_any _ _ _)).mono ?_⟩
  rintro e w' ⟨rfl,rfl⟩
  gi_wp2
  have HES:=Lib.hid hes
  have HE:=Lib.hid hE
  have HM:=Lib.hid hM
  have HP:=Lib.hid hp
  clear hes hE hM hp
  obtain ⟨b,off,hA,hbl,hcs⟩:∃ b off,(0<es.length→A=some ⟨b,off,none⟩)∧(0<es.length→b<w.heap.size)∧∀ k,k<es.length→w.cell? ⟨b,off+k*3,none⟩=some (.int .i64 (ge es k).1)∧w.cell? ⟨b,off+k*3+1,none⟩=some (.int .i64 (ge es k).2.1)∧w.cell? ⟨b,off+k*3+2,none⟩=some (.int .i64 (ge es k).2.2):=by
    rcases Nat.eq_zero_or_pos es.length with h0 | h0
    · exact ⟨0,0,fun h=>absurd h (by omega),fun h=>absurd h (by omega),fun k hk=>absurd hk (by omega)⟩
    · obtain ⟨b,off,e,hb,hc⟩:=HES.out h0
      exact ⟨b,off,fun _=>e,fun _=>hb,hc⟩
  obtain ⟨W0,hW0⟩:∃ W0,((((w.alloc (.cells #[.func (.func fid) #[] caps] 105)).alloc (.cells #[.int .i64 0] 3)).alloc (.cells #[.pointer (some ⟨X,0,none⟩)] 190)).alloc (.cells #[.int .i64 v] 3))=W0:=⟨_,rfl⟩
  have hpu:Pure w W0:=by rw [←hW0];exact (by repeat (first | exact Keeps.refl _ _ | assumption | refine Keeps.drew ?_ | refine Keeps.drewN ?_ _ | refine Keeps.alloc ?_ _ | refine Keeps.setRow ?_ (by simp) _ | refine Keeps.setRow ?_ (by simp;omega) _ | refine Keeps.setCell ?_ (by simp) _ | refine Keeps.setCell ?_ (by simp;omega) _))
  have hsz:W0.heap.size=w.heap.size+4:=by rw [←hW0];simp
  have rf:Row W0 w.heap.size 105 1 [.func (.func fid) #[] caps]:=by rw [←hW0];exact (((Row.new w #[.func (.func fid) #[] caps] 105).alloc _).alloc _).alloc _
  have rn:Row W0 (w.heap.size+1) 3 1 [.int .i64 0]:=by
    rw [←hW0]
    have:=Row.new (w.alloc (.cells #[.func (.func fid) #[] caps] 105)) #[.int .i64 0] 3
    rw [World.size_alloc] at this
    exact (this.alloc _).alloc _
  have rx:Row W0 (w.heap.size+1+1) 190 1 [.pointer (some ⟨X,0,none⟩)]:=by
    rw [←hW0]
    have:=Row.new ((w.alloc (.cells #[.func (.func fid) #[] caps] 105)).alloc (.cells #[.int .i64 0] 3)) #[.pointer (some ⟨X,0,none⟩)] 190
    rw [World.size_alloc,World.size_alloc] at this
    exact this.alloc _
  have rv:Row W0 (w.heap.size+1+1+1) 3 1 [.int .i64 v]:=by
    rw [←hW0]
    have:=Row.new (((w.alloc (.cells #[.func (.func fid) #[] caps] 105)).alloc (.cells #[.int .i64 0] 3)).alloc (.cells #[.pointer (some ⟨X,0,none⟩)] 190)) #[.int .i64 v] 3
    rw [World.size_alloc,World.size_alloc,World.size_alloc] at this
    exact this
  rw [hW0]
  clear hW0
  refine wpIn_rangeFunc_ownF (α:=yiq es v) (encs:=encL es v) (Kp:=KB (fun k=>k<w.heap.size∨k=w.heap.size+1+1+1)) (S:=fun xs=>xs.map (·.1)=ycr es v) (Sp:=fun _=>True) (N:=es.length) (w0:=W0) rfl (by omega) (gf:=200) (lb:=#[.pointer (some ⟨w.heap.size+1+1,0,none⟩), .pointer (some ⟨w.heap.size+1+1+1,0,none⟩)]) rfl trivial (enters_of func200 (by kernel_rfl) rfl)
    ?seq (fun h k=>h.trans k) (fun W l o o' h1 h2 h3 h4=>KB.put (fun k hk=>by omega) W l o o' h1 h2 h3 h4) (Below.refl _ _) (fun _=>rfl)
    (fun pre W=>(Row W w.heap.size 105 1 [.func (.func fid) #[] caps]∧Row W (w.heap.size+1) 3 1 [.int .i64 (addF p (pre.map (·.1)))])∧Pure w W)
    (fun _ _ _=>False)
    (OwnFrom.and (Own.from (fun s A B row hs hg hr=>⟨hs.1.owned hg hr,hs.2.owned hg hr⟩) _) (fun s W W' row hs hg hr=>hs.owned hg (B:=W0.heap.size) (by omega) (fun r e=>(hr r e).1)))
    (fun _ _ _ _ _ hs _ _=>hs)
    ⟨⟨rf,rn⟩,hpu⟩
    (fun x=>{ tmps:=#[.pointer (some ⟨X,0,none⟩), .int .i64 v, .func (.func fid) #[] caps,undef,undef, .pointer (some ⟨w.heap.size,0,none⟩), .int .i64 0, .pointer (some ⟨w.heap.size+1,0,none⟩), .int .i64 x.1.1, .int .i64 x.1.2, .pointer (some ⟨X,0,none⟩), .int .i64 v, .func (.func 200) #[] #[.pointer (some ⟨w.heap.size+1+1,0,none⟩), .pointer (some ⟨w.heap.size+1+1+1,0,none⟩)], .int .i64 x.1.1, .int .i64 x.1.2,undef,undef,undef,undef,undef,undef,undef],defers:=[] }) ?assign ?body ?done ?stop
  case seq =>
    intro l J Jx W hW hJ hJx hY h0
    have hk:Pure w W:=hpu.then (Keeps.of_below hW (Nat.le_refl _)) (fun _ _ h=>h)
    exact links_in 2 (by omega) l (w.heap.size+1+1) (w.heap.size+1+1+1) b off X W es cap v A hA _ (.inr rfl) (fun h => .inl (hbl h)) (fun k hk'=>by have:=hW.size;omega) HE.out hv0 hv (by omega) J Jx hJ hY h0
      ((hW.cell (p:=⟨w.heap.size+1+1,0,none⟩) (by simp;omega)).trans (Row.cell rx (i:=0) rfl)) ((hW.cell (p:=⟨w.heap.size+1+1+1,0,none⟩) (by simp;omega)).trans (Row.cell rv (i:=0) rfl))
      (hk.cell id hX) (fun k hk'=>⟨hk.cell id (hcs k hk').1,hk.cell id (hcs k hk').2.1,hk.cell id (hcs k hk').2.2⟩)
  case assign =>
    intro l x W K hK
    gi_wp2
    exact hK
  case body =>
    rintro l pre x W ⟨⟨rf,rn⟩,hpu⟩ hlt
    have cf:=Row.cell rf (i:=0) rfl
    have cn:=Row.cell rn (i:=0) rfl
    have ff:=Row.frozen rn 0
    have hx:=HP.out x.1.1 W hpu (by
      obtain ⟨e,he,hl⟩:=x.2
      exact ⟨x.1.2,List.mem_filterMap.2 ⟨e,he,hl⟩⟩)
    have HB:=addF_bound (p:=p) (pre.map (·.1)) (by
      intro q hq
      rw [List.mem_map] at hq
      obtain ⟨y,_,rfl⟩:=hq
      obtain ⟨e,he,hl⟩:=y.2
      unfold link at hl
      split at hl
      · simp only [Option.some.injEq] at hl
        rw [←hl];exact HM.out e he
      · cases hl)
    obtain ⟨hB1,hB2⟩:=HB
    have hlen':(pre.map (·.1)).length≤1000:=by rw [List.length_map];omega
    have hx2:0≤x.1.2∧x.1.2≤50:=by
      obtain ⟨e,he,hl⟩:=x.2
      unfold link at hl
      split at hl
      · simp only [Option.some.injEq] at hl
        rw [←hl];exact HM.out e he
      · cases hl
    obtain ⟨hx3,hx4⟩:=hx2
    obtain ⟨S,hS⟩:∃ S,S=addF p (pre.map (·.1)):=⟨_,rfl⟩
    rw [←hS] at cn rn hB1 hB2
    have hS1:0≤S:=hB1
    have hS2:S≤50000:=by omega
    have HS:Hid (addF p ((pre++[x]).map (·.1))=if p x.1.1 then S+x.1.2 else S):=by
      rw [Hid,List.map_append,hS];exact addF_snoc p _ _
    clear hS hB2 hlen'
    by_cases hpx:p x.1.1=true
    · gi_wp2
      refine ⟨trivial,(CallsIn.inRound l (callsIn_wide.2 hx)).mono ?_⟩
      rintro e w' ⟨rfl,rfl⟩
      rw [hpx]
      gi_wp2
      refine ⟨KeepsOthers.setCell _ _ _,fun k hk=>Below.heap_setCell _ _ _ _ (by simp;omega),⟨rf.far (by simp) _,?_⟩,hpu.setCell (by simp) _⟩
      rw [HS.out,if_pos hpx]
      exact rn.set_ 0 _
    · have hpx':p x.1.1=false:=by simpa using hpx
      gi_wp2
      refine ⟨trivial,(CallsIn.inRound l (callsIn_wide.2 hx)).mono ?_⟩
      rintro e w' ⟨rfl,rfl⟩
      rw [hpx']
      gi_wp2
      refine ⟨KeepsOthers.refl _,fun k hk=>rfl,⟨rf,?_⟩,hpu⟩
      rw [HS.out,if_neg hpx]
      exact rn
  case done =>
    rintro D ys W hD hys ⟨⟨rf,rn⟩,hpu⟩ hK
    have cn:=Row.cell rn (i:=0) rfl
    gi_wp2
    refine ⟨by simp, .inl ⟨_,_,rfl,run_takeDeferred hK,?_⟩⟩
    exact ⟨_,results_tmp rfl _ _ _,by simp [yaQ,←hys],hpu.grown (grownBy_putObj' W D _) (fun k e hk=>by cases e;omega)⟩
  case stop =>
    rintro D c pre W _ _ h _
    exact h.elim
theorem links_pure(X:Nat)(v:Int)(w:World) :
    Calls Tryz.prog 192 #[.pointer (some ⟨X,0,none⟩), .int .i64 v] w fun e w'=>∃ bx bv,e = .returned (.func (.func 200) #[] #[.pointer (some ⟨bx,0,none⟩), .pointer (some ⟨bv,0,none⟩)]) ∧
      w.heap.size≤bx∧w.heap.size≤bv∧Row w' bx 190 1 [.pointer (some ⟨X,0,none⟩)]∧Row w' bv 3 1 [.int .i64 v]∧Pure w w':=by
  refine (links_any X v w).mono ?_
  rintro e w' ⟨rfl,rfl⟩
  refine ⟨_,_,rfl,Nat.le_refl _,Nat.le_succ _,(Row.new w #[.pointer (some ⟨X,0,none⟩)] 190).alloc _,?_,(by repeat (first | exact Keeps.refl _ _ | assumption | refine Keeps.drew ?_ | refine Keeps.drewN ?_ _ | refine Keeps.alloc ?_ _ | refine Keeps.setRow ?_ (by simp) _ | refine Keeps.setRow ?_ (by simp;omega) _ | refine Keeps.setCell ?_ (by simp) _ | refine Keeps.setCell ?_ (by simp;omega) _))⟩
  have:=Row.new (w.alloc (.cells #[.pointer (some ⟨X,0,none⟩)] 190)) #[.int .i64 v] 3
  rw [World.size_alloc] at this
  exact this
end Go.Proofs.YtadpnlimiblniaaGreat

namespace Go.Proofs.YtadpnlimiblniaaGreat
open Go.RowKit Go.Proofs.Tryz
set_option maxRecDepth 100000
set_option maxHeartbeats 8000000
theorem make_script(n:Nat)(hn:n≤1000000)(w:World) :
    (Instr.makeSlice 152 (.int .i64 (n:Int)) (.int .i64 (n:Int))).run Tryz.prog w = .ok (.slice (some ⟨w.heap.size,0,none⟩) n n) (w.alloc (.cells (Array.replicate n (.int .i64 0)) 3)):=by
  obtain ⟨i0,hi,hz,hs,hb⟩:=info_parts int_info
  exact ygy _ _ i0 _ underlying152 hi hz hs (by omega) rfl n hn w
def yfO(w:World)(X gd gs:Nat)(n:Nat)(A:Option Addr)(es:List E3)(cap cd cs:Nat)(q:Int)(d s:List Int)(e:Int):Prop :=
  Row w X 203 6 [.int .i64 (n:Int), .slice A es.length cap, .int .i64 q, .slice (some ⟨gd,0,none⟩) d.length cd, .slice (some ⟨gs,0,none⟩) s.length cs, .int .i64 e] ∧
    IRow w gd 3 cd d∧IRow w gs 3 cs s∧gd≠gs∧d.length=n∧s.length=n
def BeginPost(A:Option Addr)(es:List E3)(d:List Int)(cap n:Nat)(q:Int)(w:World)(e:Ending)(w':World):Prop :=
  ∃ X gd gs cd,e = .returned (.pointer (some ⟨X,0,none⟩))∧w.heap.size≤X∧w.heap.size≤gd∧w.heap.size≤gs∧yfO w' X gd gs n A es cap cd n q d (List.replicate n 0) 0∧Pure w w'∧cd≤maxLen
theorem begin_any(A D:Option Addr)(es:List E3)(d:List Int)(cap ca:Nat)(n:Nat)(q:Int)(w:World)(hd:Ints w D d)(hdl:d.length=n)(hn:1≤n)(hn12:n≤12) :
    Calls Tryz.prog 163 #[.agg #[.int .i64 (n:Int), .slice A es.length cap], .int .i64 q, .slice D d.length ca] w (BeginPost A es d cap n q w):=by
  have hmk:=make_script n (by omega)
  have HL:=Lib.hid hdl
  have hl1:0<d.length:=by omega
  have hl2:d.length≤12:=by omega
  clear hdl
  have hD:=Lib.hid hd
  clear hd
  go_enter func163,ntmps163
  go_wp2
  go_region_held3 (fun w'=>w'.cell? ⟨w.heap.size,0,none⟩=some (.int .i64 (n:Int))∧w'.cell? ⟨w.heap.size,1,none⟩=some (.slice A es.length cap))
    (first
      | go_keep
      | (go_split_ands
         exact ⟨hp1.cell id (by assumption),hp1.cell id (by assumption)⟩)
      | (go_split_ands
         exact ⟨hp1.cell id (by simp [go_sem,World.cell?_alloc_past]),hp1.cell id (by simp [go_sem,World.cell?_alloc_past])⟩))
    ((first | (go_at_call 147;refine (clone_any D d ca _ (by exact hD.out.keep (by repeat (first | exact Keeps.refl _ _ | assumption | refine Keeps.drew ?_ | refine Keeps.drewN ?_ _ | refine Keeps.alloc ?_ _ | refine Keeps.setRow ?_ (by simp) _ | refine Keeps.setRow ?_ (by simp;omega) _ | refine Keeps.setCell ?_ (by simp) _ | refine Keeps.setCell ?_ (by simp;omega) _))) hl1 (by omega)).mono ?_;rintro e w1 ⟨gd,cd,rfl,hgd,hrd,hp1,hcm⟩)))
  · have hX:=Row.new (w1.alloc (.cells (Array.replicate n (.int .i64 0)) 3)) #[.int .i64 (n:Int), .slice A es.length cap, .int .i64 q, .slice (some ⟨gd,0,none⟩) d.length cd, .slice (some ⟨w1.heap.size,0,none⟩) n n, .int .i64 0] 203
    have hs:=Row.alloc (irow_made w1 n 3) (.cells #[.int .i64 (n:Int), .slice A es.length cap, .int .i64 q, .slice (some ⟨gd,0,none⟩) d.length cd, .slice (some ⟨w1.heap.size,0,none⟩) n n, .int .i64 0] 203)
    have hdd:=Row.alloc (Row.alloc hrd (.cells (Array.replicate n (.int .i64 0)) 3)) (.cells #[.int .i64 (n:Int), .slice A es.length cap, .int .i64 q, .slice (some ⟨gd,0,none⟩) d.length cd, .slice (some ⟨w1.heap.size,0,none⟩) n n, .int .i64 0] 203)
    have hlt:=Row.lt hrd
    have hsz:=hp1.size
    have hpw:Pure w w1:=Pure.after (by repeat (first | exact Keeps.refl _ _ | assumption | refine Keeps.drew ?_ | refine Keeps.drewN ?_ _ | refine Keeps.alloc ?_ _ | refine Keeps.setRow ?_ (by simp) _ | refine Keeps.setRow ?_ (by simp;omega) _ | refine Keeps.setCell ?_ (by simp) _ | refine Keeps.setCell ?_ (by simp;omega) _)) hp1
    rw [World.size_alloc] at hX
    simp only [World.size_alloc,World.size_drew] at hgd hsz
    go_wp2
    go_ret
    refine ⟨_,gd,w1.heap.size,cd,rfl,by omega,by omega,by omega,⟨?_,hdd,hs,by omega,HL.out,by simp⟩,(by repeat (first | exact Keeps.refl _ _ | assumption | refine Keeps.drew ?_ | refine Keeps.drewN ?_ _ | refine Keeps.alloc ?_ _ | refine Keeps.setRow ?_ (by simp) _ | refine Keeps.setRow ?_ (by simp;omega) _ | refine Keeps.setCell ?_ (by simp) _ | refine Keeps.setCell ?_ (by simp;omega) _)),hcm⟩
    rw [List.length_replicate]
    exact hX
  · have hs0:=hp1.row (Row.drew (irow_made (w.alloc (.cells #[.int .i64 (n:Int), .slice A es.length cap] 24)) n 3)) id
    have hX:=Row.new w1 #[.int .i64 (n:Int), .slice A es.length cap, .int .i64 q, .slice (some ⟨gd,0,none⟩) d.length cd, .slice (some ⟨w.heap.size+1,0,none⟩) n n, .int .i64 0] 203
    have hs:=Row.alloc hs0 (.cells #[.int .i64 (n:Int), .slice A es.length cap, .int .i64 q, .slice (some ⟨gd,0,none⟩) d.length cd, .slice (some ⟨w.heap.size+1,0,none⟩) n n, .int .i64 0] 203)
    have hdd:=Row.alloc hrd (.cells #[.int .i64 (n:Int), .slice A es.length cap, .int .i64 q, .slice (some ⟨gd,0,none⟩) d.length cd, .slice (some ⟨w.heap.size+1,0,none⟩) n n, .int .i64 0] 203)
    have hlt:=Row.lt hrd
    have hsz:=hp1.size
    have hpw:Pure w w1:=Pure.after (by repeat (first | exact Keeps.refl _ _ | assumption | refine Keeps.drew ?_ | refine Keeps.drewN ?_ _ | refine Keeps.alloc ?_ _ | refine Keeps.setRow ?_ (by simp) _ | refine Keeps.setRow ?_ (by simp;omega) _ | refine Keeps.setCell ?_ (by simp) _ | refine Keeps.setCell ?_ (by simp;omega) _)) hp1
    simp only [World.size_alloc,World.size_drew] at hgd hsz hs
    go_wp2
    go_ret
    refine ⟨_,gd,w.heap.size+1,cd,rfl,by omega,by omega,by omega,⟨?_,hdd,hs,by omega,HL.out,by simp⟩,(by repeat (first | exact Keeps.refl _ _ | assumption | refine Keeps.drew ?_ | refine Keeps.drewN ?_ _ | refine Keeps.alloc ?_ _ | refine Keeps.setRow ?_ (by simp) _ | refine Keeps.setRow ?_ (by simp;omega) _ | refine Keeps.setCell ?_ (by simp) _ | refine Keeps.setCell ?_ (by simp;omega) _)),hcm⟩
    rw [List.length_replicate]
    exact hX
end Go.Proofs.YtadpnlimiblniaaGreat

namespace Go.Proofs.YtadpnlimiblniaaGreat
open Go.RowKit Go.Proofs.Tryz
set_option maxRecDepth 100000
set_option maxHeartbeats 4000000
theorem bool_info:(Tryz.prog.info? 4).map (fun i=>(i.zero,i.size,i.bytes))=some (some (.bool false),1,1):=by kernel_rfl
theorem make_bools(n:Nat)(hn:n≤1000000)(w:World) :
    (Instr.makeSlice 160 (.int .i64 (n:Int)) (.int .i64 (n:Int))).run Tryz.prog w = .ok (.slice (some ⟨w.heap.size,0,none⟩) n n) (w.alloc (.cells (Array.replicate n (.bool false)) 4)):=by
  obtain ⟨i0,hi,hz,hs,hb⟩:=info_parts bool_info
  exact ygy _ _ i0 _ underlying160 hi hz hs (by omega) rfl n hn w
theorem isBurnt_any(B g n c:Nat)(burnt:List Bool)(u:Nat)(w:World)(hB:Row w B 160 1 [.slice (some ⟨g,0,none⟩) n c])(hg:BRow w g 4 c burnt)(hl:burnt.length=n)(hu:u<n) :
    Calls Tryz.prog 193 #[.int .i64 (u:Int), .pointer (some ⟨B,0,none⟩)] w fun e w'=>e = .returned (.bool (gb burnt u))∧w=w':=by
  have c0:=Row.cell hB (i:=0) rfl
  have c1:=bcell hg (k:=u) (by omega)
  have j1:(0:Int)≤(u:Int):=by omega
  have j2:(u:Int)<(n:Int):=by omega
  clear hl
  go_enter func193,ntmps193
  go_wp2
  go_ret
  exact ⟨rfl,rfl⟩
def cf(b:List Bool):Nat:=(b.filter fun x=>!x).length
theorem cf_set{b:List Bool}{v:Nat}(h:v<b.length)(hv:gb b v=false):cf (b.set v true)+1=cf b:=by
  unfold cf
  induction b generalizing v with
  | nil=>simp at h
  | cons x b ih =>
    cases v with
    | zero =>
      simp [gb] at hv
      subst hv
      simp
    | succ v =>
      have:=ih (v:=v) (by simpa using h) (by simpa [gb] using hv)
      simp only [List.set_cons_succ,List.filter_cons]
      split
      · simp only [List.length_cons];omega
      · omega
def Closed(n:Nat)(es:List E3)(d:List Int)(b:List Bool):Prop:=∀ v,v<n→gb b v=false→yaQ es (v:Int) (fun u=>gb b u.toNat)≤gi d v
def yiu(n:Nat)(es:List E3)(q:Nat)(d:List Int)(b:List Bool):Prop :=
  ∀ S:Nat→Bool,S q=false→(∀ v,v<n→S v=true→yaQ es (v:Int) (fun u=>!S u.toNat)≤gi d v)→∀ v,v<n→S v=true→gb b v=false
theorem addF_mono{p p':Int→Bool}(l:List (Int×Int))(h:∀ q∈l,0≤q.2)(hpp:∀ q∈l,p q.1=true→p' q.1=true):addF p l≤addF p' l:=by
  suffices H:∀ (l:List (Int×Int)) (a a':Int),(∀ q∈l,0≤q.2)→(∀ q∈l,p q.1=true→p' q.1=true)→a≤a'→l.foldl (fun n x=>if p x.1 then n+x.2 else n) a≤l.foldl (fun n x=>if p' x.1 then n+x.2 else n) a' from H l 0 0 h hpp (Int.le_refl _)
  intro l
  induction l with
  | nil=>intro a a' _ _ h;exact h
  | cons x l ih =>
    intro a a' h hpp hle
    rw [List.foldl_cons,List.foldl_cons]
    refine ih _ _ (fun q hq=>h q (by simp [hq])) (fun q hq=>hpp q (by simp [hq])) ?_
    have h0:=h x (by simp)
    have h1:=hpp x (by simp)
    by_cases hp:p x.1=true
    · rw [if_pos hp,if_pos (h1 hp)];omega
    · rw [if_neg hp];split <;> omega
theorem ybZ{es:List E3}{n:Nat}(hE:∀ x∈es,0≤x.1∧x.1<n∧0≤x.2.1∧x.2.1<n∧0≤x.2.2∧x.2.2≤50){v u m:Int}(h:(u,m)∈ycr es v):0≤u∧u<n∧0≤m∧m≤50:=by
  obtain ⟨x,hx,hl⟩:=List.mem_filterMap.1 h
  have h1:=hE x hx
  unfold link at hl
  split at hl
  · simp only [Option.some.injEq,Prod.mk.injEq] at hl
    omega
  · cases hl
theorem yiu.step{n:Nat}{es:List E3}{q:Nat}{d:List Int}{b:List Bool}(h:yiu n es q d b)(hE:∀ x∈es,0≤x.1∧x.1<n∧0≤x.2.1∧x.2.1<n∧0≤x.2.2∧x.2.2≤50){v:Nat}(hv:v<b.length)(hc:gi d v<yaQ es (v:Int) (fun u=>gb b u.toNat)):yiu n es q d (b.set v true):=by
  intro S hq hS u hu hSu
  rw [yeA hv]
  by_cases e:u=v
  · subst e
    exfalso
    have h1:=hS u hu hSu
    have h2:yaQ es (u:Int) (fun x=>gb b x.toNat)≤yaQ es (u:Int) (fun x=>!S x.toNat):=by
      unfold yaQ
      refine addF_mono _ (fun q hq=>(ybZ hE (v:=(u:Int)) (u:=q.1) (m:=q.2) hq).2.2.1) (fun y hy hb=>?_)
      have hr:=ybZ hE (v:=(u:Int)) (u:=y.1) (m:=y.2) hy
      cases hs:S y.1.toNat with
      | false=>rfl
      | true =>
        have:=h S hq hS y.1.toNat (by omega) hs
        simp only [this] at hb
        cases hb
    omega
  · rw [if_neg e]
    exact h S hq hS u hu hSu
def UnburntPost(n:Nat)(es:List E3)(q:Nat)(d:List Int)(w:World)(e:Ending)(w':World):Prop :=
  ∃ g left,e = .returned (.tuple #[.slice (some ⟨g,0,none⟩) n n, .bool (left.any id)])∧w.heap.size≤g∧BRow w' g 4 n left∧left.length=n∧Pure w w' ∧
    ∃ burnt:List Bool,burnt.length=n∧left=burnt.map (!·)∧gb burnt q=true∧Closed n es d burnt∧yiu n es q d burnt
theorem unburnt_any(X gd gs n:Nat)(A:Option Addr)(es:List E3)(cap cdd cs q:Nat)(d s:List Int)(e:Int)(w:World)(hS:yfO w X gd gs n A es cap cdd cs q d s e)(hes:ydB w A es)
    (hq:q<n) (hn:n≤12) (hE:∀ x∈es,0≤x.1∧x.1<n∧0≤x.2.1∧x.2.1<n∧0≤x.2.2∧x.2.2≤50) (hel:es.length≤1000) :
    Calls Tryz.prog 179 #[.pointer (some ⟨X,0,none⟩)] w (UnburntPost n es q d w):=by
  obtain ⟨hX,hd,hs,hne,hdl,hsl⟩:=hS
  have hmf:∀ (fn:Fn) (first cap:Array Value) (w:World),(Instr.makeFunc fn first cap).run Tryz.prog w = .ok (.func fn first cap) w:=fun _ _ _ _=>rfl
  have hmk:=make_bools n (by omega)
  have HL:=Lib.hid (And.intro hdl hsl)
  have HE:=Lib.hid hE
  have HES:=Lib.hid hes
  clear hdl hsl hE hes
  have x0:=Row.cell hX (i:=0) rfl
  have x2:=Row.cell hX (i:=2) rfl
  have lX:=hX.lt
  have jq1:(0:Int)≤(q:Int):=by omega
  have jq2:(q:Int)<(n:Int):=by omega
  go_enter func179,ntmps179
  go_wp2
  go_region
  obtain ⟨W1,hW1⟩:∃ W1,((w.alloc (.cells ((Array.replicate n (.bool false)).setIfInBounds q (.bool true)) 4)).alloc (.cells #[.slice (some ⟨w.heap.size,0,none⟩) n n] 160)).drew=W1:=⟨_,rfl⟩
  have rb1:BRow W1 w.heap.size 4 n ((List.replicate n false).set q true):=by
    rw [←hW1]
    have:=Row.alloc (Row.new w ((Array.replicate n (Value.bool false)).setIfInBounds q (.bool true)) 4) (.cells #[.slice (some ⟨w.heap.size,0,none⟩) n n] 160)
    simp only [Array.size_setIfInBounds,Array.size_replicate,Array.toList_setIfInBounds,Array.toList_replicate] at this
    unfold BRow
    rw [List.map_set,List.map_replicate]
    exact this
  have rB1:Row W1 (w.heap.size+1) 160 1 [.slice (some ⟨w.heap.size,0,none⟩) n n]:=by
    rw [←hW1]
    have:=Row.new (w.alloc (.cells ((Array.replicate n (Value.bool false)).setIfInBounds q (.bool true)) 4)) #[.slice (some ⟨w.heap.size,0,none⟩) n n] 160
    rw [World.size_alloc] at this
    exact this
  have p1:Pure w W1:=by rw [←hW1];exact (by repeat (first | exact Keeps.refl _ _ | assumption | refine Keeps.drew ?_ | refine Keeps.drewN ?_ _ | refine Keeps.alloc ?_ _ | refine Keeps.setRow ?_ (by simp) _ | refine Keeps.setRow ?_ (by simp;omega) _ | refine Keeps.setCell ?_ (by simp) _ | refine Keeps.setCell ?_ (by simp;omega) _))
  rw [hW1]
  clear hW1 x0 x2
  go_wp2
  have hb0:Hid (((List.replicate n false).set q true).length=n∧gb ((List.replicate n false).set q true) q=true∧yiu n es q d ((List.replicate n false).set q true)):=by
    refine ⟨by simp,by rw [yeA (by simpa using hq),if_pos rfl],fun S hSq hS v hv hSv=>?_⟩
    rw [yeA (by simpa using hq)]
    split
    · rename_i e;subst e;rw [hSq] at hSv;cases hSv
    · simp [gb,hv]
  go_loopg [6] (2*n+2) (fun m again wr=>∃ (ag:Bool) (b:List Bool),again = .bool ag∧BRow wr w.heap.size 4 n b∧Row wr (w.heap.size+1) 160 1 [.slice (some ⟨w.heap.size,0,none⟩) n n]∧Pure w wr∧Hid (b.length=n∧gb b q=true∧yiu n es q d b)∧Hid (ag=false→Closed n es d b)∧Hid (2*cf b+(if ag then 1 else 0)≤m))
  case atStart=>exact ⟨true,_,rfl,rb1,rB1,p1,hb0,(fun h=>by cases h),by
    have:cf ((List.replicate n false).set q true)≤n:=by
      unfold cf
      have:=List.length_filter_le (fun x=>!x) ((List.replicate n false).set q true)
      simpa using this
    simp only [Hid];simp;omega⟩
  clear rb1 rB1 p1 hb0
  case round =>
    obtain ⟨ag,b,rfl,rb,rB,hp,HI,HC,HM⟩:=hrel
    cases ag with
    | false =>
      have cB:=Row.cell rB (i:=0) rfl
      have hXr:=hp.row hX id
      have x0:=Row.cell hXr (i:=0) rfl
      have lX:=hXr.lt
      have lb:=Row.lt rb
      have lB:=rB.lt
      go_wp2
      obtain ⟨g2,hg2⟩:∃ g2,wr.heap.size=g2:=⟨_,rfl⟩
      have hl0:=brow_made wr n 4
      have rb2:=Row.alloc rb (.cells (Array.replicate n (.bool false)) 4)
      have rB2:=rB.alloc (.cells (Array.replicate n (.bool false)) 4)
      have p2:Pure w (wr.alloc (.cells (Array.replicate n (.bool false)) 4)):=hp.alloc _
      have hgl:w.heap.size+1<g2:=by omega
      rw [hg2] at hl0 ⊢
      clear x0 cB hXr lX lb lB
      go_loopw [9,64] (fun sm i wr2=>∃ (k:Nat) (so:Bool) (left:List Bool),k≤n∧i = .int .i64 k∧sm = .bool so∧BRow wr2 g2 4 n left∧BRow wr2 w.heap.size 4 n b∧Row wr2 (w.heap.size+1) 160 1 [.slice (some ⟨w.heap.size,0,none⟩) n n]∧Pure w wr2∧Hid (left.length=n∧∀ j,j<k→gb left j = !gb b j)∧Hid (so=true↔∃ j,j<k∧gb b j=false)) (fun _ i _=>n-(intOf i).toNat)
      case atStart=>exact ⟨0,false,List.replicate n false,Nat.zero_le _,rfl,rfl,hl0,rb2,rB2,p2,⟨by simp,fun j hj=>absurd hj (by omega)⟩,by simp [Hid]⟩
      clear hl0 rb2 rB2 p2 hg2
      case round =>
        obtain ⟨k,so,left,hk,rfl,rfl,rl,rb,rB,hp,HLF,HSO⟩:=hrel
        by_cases hlt:k<n
        · have cB:=Row.cell rB (i:=0) rfl
          have cb:=bcell rb (k:=k) (by rw [HI.out.1];exact hlt)
          have cl:=bcell rl (k:=k) (by rw [HLF.out.1];exact hlt)
          have fl:=Row.frozen rl k
          have cl2:=bcell (bset rl k (!gb b k)) (k:=k) (by rw [List.length_set,HLF.out.1];exact hlt)
          rw [yeA (by rw [HLF.out.1];exact hlt),if_pos rfl] at cl2
          have j1:(0:Int)≤(k:Int):=by omega
          have j2:(k:Int)<(n:Int):=by omega
          have hstep:Hid ((left.set k (!gb b k)).length=n∧∀ j,j<k+1→gb (left.set k (!gb b k)) j = !gb b j):=by
            refine ⟨by simpa using HLF.out.1,fun j hj=>?_⟩
            rw [yeA (by rw [HLF.out.1];exact hlt)]
            split
            · rename_i e;rw [e]
            · exact HLF.out.2 j (by omega)
          have hso1:Hid ((so || !gb b k)=true↔∃ j,j<k+1∧gb b j=false):=by
            rw [Hid,Bool.or_eq_true,HSO.out]
            constructor
            · rintro (⟨j,hj,hjb⟩ | h)
              · exact ⟨j,by omega,hjb⟩
              · exact ⟨k,by omega,by simpa using h⟩
            · rintro ⟨j,hj,hjb⟩
              by_cases e:j=k
              · subst e;exact .inr (by simp [hjb])
              · exact .inl ⟨j,by omega,hjb⟩
          obtain ⟨bk,hbk⟩:∃ bk,bk=gb b k:=⟨_,rfl⟩
          rw [←hbk] at cb cl2 hstep hso1
          clear hbk
          cases so with
          | true =>
            go_wp2
            go_roundw
            case rel=>exact ⟨k+1,true,_,by omega,by go_num,rfl,bset rl k (!bk),Row.far rb (by simp;omega) _,rB.far (by simp;omega) _,hp.setCell (fun h=>absurd h (by simp;omega)) _,hstep,hso1⟩
            case measure=>simp [intOf];omega
          | false =>
            go_wp2
            go_roundw
            case rel=>exact ⟨k+1, !bk,_,by omega,by go_num,rfl,bset rl k (!bk),Row.far rb (by simp;omega) _,rB.far (by simp;omega) _,hp.setCell (fun h=>absurd h (by simp;omega)) _,hstep,hso1⟩
            case measure=>simp [intOf];omega
        · obtain rfl:k=n:=by omega
          go_wp2
          go_ret2
          have hle:left=b.map (!·):=by
            refine gb_ext (by rw [HLF.out.1,List.length_map,HI.out.1]) (fun j hj=>?_)
            rw [HLF.out.1] at hj
            rw [HLF.out.2 j hj]
            have h1:j<b.length:=by rw [HI.out.1];exact hj
            have h2:j<(b.map (!·)).length:=by rw [List.length_map];exact h1
            rw [yb5 h2,List.getElem_map,yb5 h1]
          have hso:so=left.any id:=by
            rw [Bool.eq_iff_iff,HSO.out,List.any_eq_true]
            constructor
            · rintro ⟨j,hj,hjb⟩
              refine ⟨gb left j,?_,by rw [HLF.out.2 j hj,hjb];rfl⟩
              rw [yb5 (by rw [HLF.out.1];exact hj)];exact List.getElem_mem _
            · rintro ⟨x,hx,hxt⟩
              obtain ⟨j,hj,rfl⟩:=List.getElem_of_mem hx
              have hj':j<k:=by rw [←HLF.out.1];exact hj
              refine ⟨j,hj',?_⟩
              have:=HLF.out.2 j hj'
              rw [yb5 hj] at this
              simp only [id] at hxt
              rw [hxt] at this
              simpa using this.symm
          exact ⟨g2,left,by rw [←hso];rfl,by omega,rl,HLF.out.1,hp,b,HI.out.1,hle,HI.out.2.1,HC.out trivial,HI.out.2.2⟩
    | true =>
      have hXr:=hp.row hX id
      have x0:=Row.cell hXr (i:=0) rfl
      go_wp2
      obtain ⟨wo,rfl⟩:∃ wo:World,wo=wr:=⟨_,rfl⟩
      go_loopw [6,30] (fun again i wr=>∃ (k:Nat) (ag:Bool) (b':List Bool),k≤n∧i = .int .i64 k∧again = .bool ag∧BRow wr w.heap.size 4 n b'∧Row wr (w.heap.size+1) 160 1 [.slice (some ⟨w.heap.size,0,none⟩) n n]∧Pure w wr∧Hid (b'.length=n∧gb b' q=true∧yiu n es q d b')∧Hid (ag=false→b'=b∧∀ v,v<k→gb b v=false→yaQ es (v:Int) (fun u=>gb b u.toNat)≤gi d v)∧Hid (cf b'+(if ag then 1 else 0)≤cf b)) (fun _ i _=>n-(intOf i).toNat)
      case atStart=>exact ⟨0,false,b,Nat.zero_le _,rfl,rfl,rb,rB,hp,HI,fun _=>⟨rfl,fun v hv=>absurd hv (by omega)⟩,by simp [Hid]⟩
      case round =>
        obtain ⟨k,ag,b',hk,rfl,rfl,rb',rB',hp',HI',HA,HM'⟩:=hrel
        by_cases hlt:k<n
        · have cB:=Row.cell rB' (i:=0) rfl
          have cb:=bcell rb' (k:=k) (by rw [HI'.out.1];exact hlt)
          have hXr:=hp'.row hX id
          have hdr:=hp'.row hd id
          have x3:=Row.cell hXr (i:=3) rfl
          have cd:=icell hdr (k:=k) (by rw [HL.out.1];exact hlt)
          have j1:(0:Int)≤(k:Int):=by omega
          have j2:(k:Int)<(n:Int):=by omega
          have j3:(k:Int)<(d.length:Int):=by rw [HL.out.1];exact j2
          by_cases hb:gb b' k=true
          · rw [hb] at cb
            have HB:=Lib.hid hb
            clear hb
            go_wp2
            go_region
            go_wp2
            go_roundw
            case rel =>
              refine ⟨k+1,ag,b',by omega,by go_num,rfl,rb',rB',hp'.drew,HI',?_,HM'⟩
              intro hag
              obtain ⟨e1,e2⟩:=HA.out hag
              refine ⟨e1,fun v hv hvb=>?_⟩
              by_cases e:v=k
              · subst e;rw [←e1,HB.out] at hvb;cases hvb
              · exact e2 v (by omega) hvb
            case measure=>simp [intOf];omega
          · have hb':gb b' k=false:=by simpa using hb
            rw [hb'] at cb
            have HB:=Lib.hid hb'
            clear hb hb'
            obtain ⟨J,hJ⟩:∃ J,J=yaQ es (k:Int) (fun u=>gb b' u.toNat):=⟨_,rfl⟩
            have hcall:∀ W,Pure wr W→Calls Tryz.prog 177 #[.pointer (some ⟨X,0,none⟩), .int .i64 (k:Int), .func (.func 193) #[] #[.pointer (some ⟨w.heap.size+1,0,none⟩)]] W fun e w'=>e = .returned (.int .i64 J)∧Pure W w':=by
              intro W hpW
              rw [hJ]
              have hpWw:Pure w W:=hp'.trans hpW
              refine yjG X A es cap (k:Int) 193 #[.pointer (some ⟨w.heap.size+1,0,none⟩)] (fun u=>gb b' u.toNat) W (hpW.cell id (Row.cell hXr (i:=1) rfl)) (HES.out.keep hpWw) (fun x hx=>by have:=HE.out x hx;omega) (fun x hx=>by have:=HE.out x hx;omega) j1 (by omega) hel (enters_of func193 (by kernel_rfl) rfl) ?_
              rintro u W2 hp2 ⟨m,hm⟩
              obtain ⟨u1,u2,_,_⟩:=ybZ HE.out hm
              have:=isBurnt_any (w.heap.size+1) w.heap.size n n b' u.toNat W2 ((hpW.trans hp2).row rB' id) ((hpW.trans hp2).row rb' id) HI'.out.1 (by omega)
              rw [Int.toNat_of_nonneg u1] at this
              exact this
            have HJ:=Lib.hid hJ
            have HCA:=Lib.hid hcall
            clear hJ hcall
            have fB:=bset rb' k true
            by_cases hlt2:gi d k<J
            · have t1:decide (gi d k<J)=true:=by simpa using hlt2
              go_wp2
              go_region_held3 (fun w'=>w'.cell? ⟨w.heap.size+1,0,none⟩=some (.slice (some ⟨w.heap.size,0,none⟩) n n)∧w'.cell? ⟨w.heap.size,k,none⟩=some (.bool false)∧w'.cell? ⟨X,3,none⟩=some (.slice (some ⟨gd,0,none⟩) d.length cdd)∧w'.cell? ⟨gd,k,none⟩=some (.int .i64 (gi d k)))
                (first
                  | go_keep
                  | (go_split_ands
                     exact ⟨hp1.cell id (by assumption),hp1.cell id (by assumption),hp1.cell id (by assumption),hp1.cell id (by assumption)⟩))
                ((first | (go_at_call 177;refine (HCA.out _ (by exact (Keeps.refl _ _).drew)).mono ?_;rintro e w1 ⟨rfl,hp1⟩)))
              have rb1:=hp1.row (Row.drew rb') id
              have rB1:=hp1.row (Row.drew rB') id
              have p1:Pure w w1:=Pure.after hp'.drew hp1
              have cB1:=Row.cell rB1 (i:=0) rfl
              have cb1:=bcell rb1 (k:=k) (by rw [HI'.out.1];exact hlt)
              have fb1:=Row.frozen rb1 k
              have HP1:=Lib.hid hp1
              clear hp1 cB cb
              go_wp2
              go_roundw
              case rel =>
                refine ⟨k+1,true,b'.set k true,by omega,by go_num,rfl,bset rb1 k true,rB1.far (by simp) _,p1.setCell (fun h=>absurd h (by simp)) _,⟨by simpa using HI'.out.1,?_,HI'.out.2.2.step HE.out (by rw [HI'.out.1];exact hlt) (by rw [←HJ.out];exact hlt2)⟩,(fun h=>by cases h),?_⟩
                · rw [yeA (by rw [HI'.out.1];exact hlt)]
                  split
                  · rfl
                  · exact HI'.out.2.1
                · have h1:=cf_set (b:=b') (v:=k) (by rw [HI'.out.1];exact hlt) HB.out
                  have h2:=HM'.out
                  show cf (b'.set k true)+1≤cf b
                  omega
              case measure=>simp [intOf];omega
            · have t1:decide (gi d k<J)=false:=by simpa using hlt2
              go_wp2
              go_region_held3 (fun w'=>w'.cell? ⟨w.heap.size+1,0,none⟩=some (.slice (some ⟨w.heap.size,0,none⟩) n n)∧w'.cell? ⟨w.heap.size,k,none⟩=some (.bool false)∧w'.cell? ⟨X,3,none⟩=some (.slice (some ⟨gd,0,none⟩) d.length cdd)∧w'.cell? ⟨gd,k,none⟩=some (.int .i64 (gi d k)))
                (first
                  | go_keep
                  | (go_split_ands
                     exact ⟨hp1.cell id (by assumption),hp1.cell id (by assumption),hp1.cell id (by assumption),hp1.cell id (by assumption)⟩))
                ((first | (go_at_call 177;refine (HCA.out _ (by exact (Keeps.refl _ _).drew)).mono ?_;rintro e w1 ⟨rfl,hp1⟩)))
              have rb1:=hp1.row (Row.drew rb') id
              have rB1:=hp1.row (Row.drew rB') id
              have p1:Pure w w1:=Pure.after hp'.drew hp1
              have HP1:=Lib.hid hp1
              clear hp1 cB cb
              go_wp2
              go_roundw
              case rel =>
                refine ⟨k+1,ag,b',by omega,by go_num,rfl,rb1,rB1,p1,HI',?_,HM'⟩
                intro hag
                obtain ⟨e1,e2⟩:=HA.out hag
                refine ⟨e1,fun v hv hvb=>?_⟩
                by_cases e:v=k
                · subst e;rw [←e1,←HJ.out];omega
                · exact e2 v (by omega) hvb
              case measure=>simp [intOf];omega
        · obtain rfl:k=n:=by omega
          go_wp2
          go_roundg (2*cf b'+(if ag then 1 else 0))
          case rel =>
            refine ⟨ag,b',rfl,rb',rB',hp',HI',?_,Nat.le_refl _⟩
            intro hag
            obtain ⟨e1,e2⟩:=HA.out hag
            rw [e1]
            exact e2
          case measure =>
            have h1:=HM.out
            have h2:=HM'.out
            simp only [if_true] at h1
            split at h2 <;> simp_all <;> omega
end Go.Proofs.YtadpnlimiblniaaGreat

namespace Go.Proofs.YtadpnlimiblniaaGreat
open Go Go.RowKit Go.Shelf Go.Proofs.Tryz
set_option maxRecDepth 100000
theorem in64{a:Int}(h : -1000000000000000000≤a∧a≤1000000000000000000):In64 a:=⟨by omega,by omega⟩
theorem ybt{p:Addr}{l:Nat}{i:Int}(h0:0≤i)(h1:i<(l:Int)):Ix (some p) l i:=⟨rfl,h0,h1⟩
theorem ixA_zero(g:Nat)(i:Int)(sz:Nat):ixA (some ⟨g,0,none⟩) i sz=⟨g,i.toNat*sz,none⟩:=by simp [ixA,Addr.add_mid]
theorem ybH(g:Nat)(i:Int):ixA (some ⟨g,0,none⟩) i 1=⟨g,i.toNat,none⟩:=by simp [ixA_zero]
theorem ixA_off(g o:Nat)(i:Int)(sz:Nat):ixA (some ⟨g,o,none⟩) i sz=⟨g,o+i.toNat*sz,none⟩:=by simp [ixA,Addr.add_mid]
theorem ycD(g k:Nat):(⟨g,0,none⟩:Addr).add k=⟨g,k,none⟩:=by simp [Addr.add_mid]
theorem yhK(a:Addr):a.add 0=a:=rfl
section
variable {w w' : World} {g : Nat} {e : TypeId} {size : Nat}
theorem Row.at_ {xs:List Value}(h:Row w g e size xs)(k:Nat){v:Value}(hv:xs[k]? = some v):w.cell? ((⟨g,0,none⟩:Addr).add k)=some v:=by rw [ycD];exact h.cell hv
theorem Row.wr_ {xs:List Value}(h:Row w g e size xs)(k:Nat)(hk:k<xs.length):Wr w ((⟨g,0,none⟩:Addr).add k):=by
  rw [ycD];exact ⟨by rw [h.cell (List.getElem?_eq_getElem hk)];rfl,h.frozen k⟩
theorem ild{xs:List Int}(h:IRow w g e size xs){i:Int}(h0:0≤i)(h1:i<(xs.length:Int)):w.cell? (ixA (some ⟨g,0,none⟩) i 1)=some (.int .i64 (gi xs i.toNat)):=by
  rw [ybH];exact icell h (by omega)
theorem bld{xs:List Bool}(h:BRow w g e size xs){i:Int}(h0:0≤i)(h1:i<(xs.length:Int)):w.cell? (ixA (some ⟨g,0,none⟩) i 1)=some (.bool (gb xs i.toNat)):=by
  rw [ybH];exact bcell h (by omega)
theorem iwr{xs:List Int}(h:IRow w g e size xs){i:Int}(h0:0≤i)(h1:i<(xs.length:Int)):Wr w (ixA (some ⟨g,0,none⟩) i 1):=by
  rw [ybH];exact ⟨by rw [icell h (by omega)];rfl,Row.frozen h _⟩
theorem bwr{xs:List Bool}(h:BRow w g e size xs){i:Int}(h0:0≤i)(h1:i<(xs.length:Int)):Wr w (ixA (some ⟨g,0,none⟩) i 1):=by
  rw [ybH];exact ⟨by rw [bcell h (by omega)];rfl,Row.frozen h _⟩
theorem ist{xs:List Int}(h:IRow w g e size xs)(i:Int)(v:Int):IRow (w.setCell (ixA (some ⟨g,0,none⟩) i 1) (.int .i64 v)) g e size (xs.set i.toNat v):=by
  rw [ybH];exact iset h _ _
theorem bst{xs:List Bool}(h:BRow w g e size xs)(i:Int)(v:Bool):BRow (w.setCell (ixA (some ⟨g,0,none⟩) i 1) (.bool v)) g e size (xs.set i.toNat v):=by
  rw [ybH];exact bset h _ _
theorem Row.far_ {xs:List Value}(h:Row w g e size xs){k:Nat}(hk:g≠k)(i:Int)(v:Value):Row (w.setCell (ixA (some ⟨k,0,none⟩) i 1) v) g e size xs:=by
  rw [ybH];exact h.far hk v
theorem Keeps.set_ {S:Nat→Prop}{a:World}(h:Keeps S a w){k:Nat}(hk:S k)(i:Int)(v:Value):Keeps S a (w.setCell (ixA (some ⟨k,0,none⟩) i 1) v):=by
  rw [ybH];exact h.setCell (fun _=>hk) v
theorem New.row_ {cs:Array Value}{T:TypeId}(h:New w g w' cs T){k:Nat}{e:TypeId}{size:Nat}{xs:List Value}(hr:Row w k e size xs):Row w' k e size xs:=hr.kp (h.kp k)
end
theorem ints_ld{w:World}{A:Option Addr}{xs:List Int}(h:Ints w A xs){i:Int}(h0:0≤i)(h1:i<(xs.length:Int)):w.cell? (ixA A i 1)=some (.int .i64 (gi xs i.toNat)):=by
  obtain ⟨b,off,rfl,_,hc⟩:=h (by omega)
  rw [ixA_off,Nat.mul_one];exact hc _ (by omega)
theorem ints_ix{w:World}{A:Option Addr}{xs:List Int}(h:Ints w A xs){l:Nat}(hl:l=xs.length){i:Int}(h0:0≤i)(h1:i<(xs.length:Int)):Ix A l i:=by
  obtain ⟨b,off,rfl,_,hc⟩:=h (by omega)
  exact ⟨rfl,h0,by omega⟩
theorem Row.cells_ {w:World}{g:Nat}{e:TypeId}{size:Nat}{xs:List Value}(h:Row w g e size xs):∀ o:Obj,w.heap[g]? = some o→o.isCells=true:=by
  intro o ho
  obtain ⟨cur,h1,_⟩:=h
  rw [h1] at ho
  cases ho
  rfl
theorem Row.ne_ {w:World}{g g':Nat}{e e':TypeId}{size size':Nat}{xs xs':List Value}(h:Row w g e size xs)(h':Row w g' e' size' xs')(he:e≠e'):g≠g':=by
  rintro rfl
  obtain ⟨cur,h1,_⟩:=h
  obtain ⟨cur',h1',_⟩:=h'
  rw [h1] at h1'
  cases h1'
  exact he rfl
def LinkK(A:Option Addr)(es:List E3)(bv:Nat)(k:Nat):Prop:=k=bv∨(0<es.length∧∃ a,A=some a∧k=a.block)
theorem links_iter(X:Nat)(A:Option Addr)(es:List E3)(cap:Nat)(v:Int)(bx bv:Nat)(w:World)(hx:Row w bx 190 1 [.pointer (some ⟨X,0,none⟩)])(hb:Row w bv 3 1 [.int .i64 v])
    (hX:w.cell? ⟨X,1,none⟩=some (.slice A es.length cap)) (hes:ydB w A es) (hE:ydE es) (hv0:0≤v) (hv:v<12) (hlen:es.length≤1000000000) :
    IterOf Tryz.prog (.func (.func 200) #[] #[.pointer (some ⟨bx,0,none⟩), .pointer (some ⟨bv,0,none⟩)]) (encL es v) (fun xs=>xs.map (·.1)=ycr es v) (KB (LinkK A es bv)) es.length w:=by
  obtain ⟨b,off,hA,hbl,hcs⟩:∃ b off,(0<es.length→A=some ⟨b,off,none⟩)∧(0<es.length→b<w.heap.size)∧∀ k,k<es.length→w.cell? ⟨b,off+k*3,none⟩=some (.int .i64 (ge es k).1)∧w.cell? ⟨b,off+k*3+1,none⟩=some (.int .i64 (ge es k).2.1)∧w.cell? ⟨b,off+k*3+2,none⟩=some (.int .i64 (ge es k).2.2):=by
    rcases Nat.eq_zero_or_pos es.length with h0 | h0
    · exact ⟨0,0,fun h=>absurd h (by omega),fun h=>absurd h (by omega),fun k hk=>absurd hk (by omega)⟩
    · obtain ⟨b,off,e,hb,hc⟩:=hes h0
      exact ⟨b,off,fun _=>e,fun _=>hb,hc⟩
  have hlt:∀ k,LinkK A es bv k→k<w.heap.size:=by
    rintro k (rfl | ⟨h0,a,ha,rfl⟩)
    · exact hb.lt
    · rw [hA h0] at ha;cases ha;exact hbl h0
  refine ⟨_,_,rfl,enters_of func200 (by kernel_rfl) rfl,?_,fun h k=>h.trans k,fun W l o o' h1 h2 h3 h4=>KB.put hlt W l o o' h1 h2 h3 h4⟩
  intro l J Jx W hW hJ hJx hY h0
  have hc:∀ (p:Addr) (u:Value),p.block<w.heap.size→w.cell? p=some u→W.cell? p=some u:=fun p u hp h=>(hW.cell (p:=p) hp).trans h
  have hXl:X<w.heap.size:=by
    rcases Nat.lt_or_ge X w.heap.size with h | h
    · exact h
    · rw [World.cell?,Array.getElem?_eq_none h] at hX;cases hX
  exact links_in 2 (by omega) l bx bv b off X W es cap v A hA _ (.inl rfl) (fun h => .inr ⟨h,_,hA h,rfl⟩) (fun k hk=>Nat.lt_of_lt_of_le (hlt k hk) hW.size) hE hv0 hv hlen J Jx hJ hY h0
    (hc _ _ hx.lt (Row.cell hx (i:=0) rfl)) (hc _ _ hb.lt (Row.cell hb (i:=0) rfl)) (hc _ _ hXl hX)
    (fun k hk=>⟨hc _ _ (hbl (by omega)) (hcs k hk).1,hc _ _ (hbl (by omega)) (hcs k hk).2.1,hc _ _ (hbl (by omega)) (hcs k hk).2.2⟩)
theorem stays_of{α:Type}{B:Nat}{I:List α→World→Prop}(h:∀ s W W' row,I s W→W.grownBy W' row→(∀ r,row=some r→B≤r∧∃ o:Obj,W.heap[r]? = some o∧o.isCells=false)→I s W'):Stays B I:=h
end Go.Proofs.YtadpnlimiblniaaGreat

namespace Go.Proofs.YtadpnlimiblniaaGreat
open Go Go.RowKit Go.Shelf Go.Proofs.Tryz
set_option maxRecDepth 100000
set_option maxHeartbeats 8000000
def ycU(pd:Addr)(Ai:Option Addr)(li:Nat)(ci:Nat)(a:Int)(w:World)(R:World→Prop):Prop :=
(∀ (g:Nat) (w2:World),New w g w2 #[(Value.pointer (some pd))] 190 →
(∀ (g2:Nat) (w3:World),New w2 g2 w3 #[(Value.int .i64 a)] 3 →
(∃ I2:Nat→Int→World→Prop,(∃ m0,I2 m0 0 w3)∧∀ m1 i w4,I2 m1 i w4 → 
((i<((li:Nat):Int) →
(Ix Ai li i ∧
(∃ x:Bool,w4.cell? (ixA Ai i 1)=some (Value.bool (x)) ∧
(∀ (g3:Nat) (w5:World),New w4 g3 w5 #[(Value.int .i64 0)] 3 →
(g3≠g ∧
g3≠g2 ∧
∀ w6,w6=w5.setCell (⟨g3,0,none⟩:Addr) (Value.int .i64 i) →
((x=true →
(∃ Ax:Option Addr,∃ lx:Nat,∃ cx:Nat,w6.drew.cell? (Addr.add pd 4)=some (Value.slice Ax lx cx) ∧
(Ix Ax lx i ∧
(∃ x2:Int,w6.drew.cell? (ixA Ax i 1)=some (Value.int .i64 x2) ∧
(In64 (x2+a) ∧
(Ix Ax lx i ∧
(Wr w6.drew (ixA Ax i 1) ∧
(ixA Ax i 1).block≠g ∧
(ixA Ax i 1).block≠g2 ∧
(ixA Ax i 1).block≠g3 ∧
∀ w7,w7=w6.drew.setCell (ixA Ax i 1) (Value.int .i64 (x2+a)) →
(Calls Tryz.prog 192 #[(Value.pointer (some pd)),(Value.int .i64 i)] w7 fun e w8=>∃ r:Value,e = .returned r ∧
Kp w7 w8 g ∧
Kp w7 w8 g2 ∧
Kp w7 w8 g3 ∧
KpM w7 w8 ∧
(∃ (α:Type) (val:α→Array Value) (S:List α→Prop) (Kq:World→World→Prop) (len:Nat) (I3:List α→World→Prop),IterOf Tryz.prog r val S Kq len w8∧(∀ x,(val x).size=2)∧Stays w8.heap.size I3∧I3 [] w8∧(∀ pr W,I3 pr W→Kp w8 W g∧Kp w8 W g2∧Kp w8 W g3∧True) ∧
(∀ pre (el:α) w9,I3 pre w9→pre.length<len→∃ y:Int,∃ y2:Int,val el = #[(Value.int .i64 y),(Value.int .i64 y2)] ∧
(∃ Ax2:Option Addr,∃ lx2:Nat,∃ cx2:Nat,w9.drew.cell? (Addr.add pd 3)=some (Value.slice Ax2 lx2 cx2) ∧
(Ix Ax2 lx2 i ∧
(∃ x3:Int,w9.drew.cell? (ixA Ax2 i 1)=some (Value.int .i64 x3) ∧
(In64 (y2*a) ∧
(In64 (x3-(y2*a)) ∧
(Ix Ax2 lx2 i ∧
(Wr w9.drew (ixA Ax2 i 1) ∧
(ixA Ax2 i 1).block≠g ∧
(ixA Ax2 i 1).block≠g2 ∧
(ixA Ax2 i 1).block≠g3 ∧
∀ w11,w11=w9.drew.setCell (ixA Ax2 i 1) (Value.int .i64 (x3-(y2*a))) →
(∃ Ax3:Option Addr,∃ lx3:Nat,∃ cx3:Nat,w11.drew.cell? (Addr.add pd 3)=some (Value.slice Ax3 lx3 cx3) ∧
(Ix Ax3 lx3 y ∧
(∃ x4:Int,w11.drew.cell? (ixA Ax3 y 1)=some (Value.int .i64 x4) ∧
(In64 (y2*a) ∧
(In64 (x4+(y2*a)) ∧
(Ix Ax3 lx3 y ∧
(Wr w11.drew (ixA Ax3 y 1) ∧
(ixA Ax3 y 1).block≠g ∧
(ixA Ax3 y 1).block≠g2 ∧
(ixA Ax3 y 1).block≠g3 ∧
∀ w12,w12=w11.drew.setCell (ixA Ax3 y 1) (Value.int .i64 (x4+(y2*a))) →
(KeepsOthers w9 w12∧Kq w9 w12∧I3 (pre++[el]) w12)))))))))))))))) ∧
(∀ xs w10,S xs→I3 xs w10 →
KpM w8 w10 ∧
(In64 (i+1) ∧
∃ m2,m2<m1∧I2 m2 (i+1) w10))))))))))) ∧
(¬(x=true) →
(In64 (i+1) ∧
∃ m3,m3<m1∧I2 m3 (i+1) w6)))))))) ∧
(¬(i<((li:Nat):Int)) →
(∃ Ax4:Option Addr,∃ lx4:Nat,∃ cx4:Nat,w4.cell? (Addr.add pd 3)=some (Value.slice Ax4 lx4 cx4) ∧
(∃ I4:Nat→Int→World→Prop,(∃ m0,I4 m0 0 w4)∧∀ m4 i2 w13,I4 m4 i2 w13 → 
((i2<((lx4:Nat):Int) →
(∃ Ax5:Option Addr,∃ lx5:Nat,∃ cx5:Nat,w13.drew.cell? (Addr.add pd 3)=some (Value.slice Ax5 lx5 cx5) ∧
(Ix Ax5 lx5 i2 ∧
(∃ x5:Int,w13.drew.cell? (ixA Ax5 i2 1)=some (Value.int .i64 x5) ∧
(∃ Ax6:Option Addr,∃ lx6:Nat,∃ cx6:Nat,w13.drew.cell? (Addr.add pd 3)=some (Value.slice Ax6 lx6 cx6) ∧
(Ix Ax6 lx6 i2 ∧
(∃ x6:Int,w13.drew.cell? (ixA Ax6 i2 1)=some (Value.int .i64 x6) ∧
(In64 (-x6) ∧
(∃ Ax7:Option Addr,∃ lx7:Nat,∃ cx7:Nat,w13.drew.cell? (Addr.add pd 4)=some (Value.slice Ax7 lx7 cx7) ∧
(Ix Ax7 lx7 i2 ∧
(∃ x7:Int,w13.drew.cell? (ixA Ax7 i2 1)=some (Value.int .i64 x7) ∧
(∃ Ax8:Option Addr,∃ lx8:Nat,∃ cx8:Nat,w13.drew.cell? (Addr.add pd 4)=some (Value.slice Ax8 lx8 cx8) ∧
(Ix Ax8 lx8 i2 ∧
(∃ x8:Int,w13.drew.cell? (ixA Ax8 i2 1)=some (Value.int .i64 x8) ∧
(In64 (-x8) ∧
((2097152<(mxF4 x5 (-x6) x7 (-x8)) →
(∃ x9:Int,w13.drew.cell? (Addr.add pd 5)=some (Value.int .i64 x9) ∧
((x9=0 →
(Wr w13.drew (Addr.add pd 5) ∧
(Addr.add pd 5).block≠g ∧
(Addr.add pd 5).block≠g2 ∧
∀ w14,w14=w13.drew.setCell (Addr.add pd 5) (Value.int .i64 11) →
(In64 (i2+1) ∧
∃ m5,m5<m4∧I4 m5 (i2+1) w14))) ∧
(¬(x9=0) →
(In64 (i2+1) ∧
∃ m6,m6<m4∧I4 m6 (i2+1) w13.drew))))) ∧
(¬(2097152<(mxF4 x5 (-x6) x7 (-x8))) →
(In64 (i2+1) ∧
∃ m7,m7<m4∧I4 m7 (i2+1) w13.drew)))))))))))))))))) ∧
(¬(i2<((lx4:Nat):Int)) →
(∀ wz,After w.heap.size w13 wz→R wz))))))))))
theorem ygx(pd:Addr)(Ai:Option Addr)(li:Nat)(ci:Nat)(a:Int)(w:World)(R:World→Prop)(h:ycU pd Ai li ci a w R) :
    Calls Tryz.prog 175 #[(.pointer (some pd)),.slice Ai li ci,ii a] w fun e w'=>e = .returned (.tuple #[])∧R  w':=by
  unfold ycU at h;refine yei (l:=[(.pointer (some pd)),.slice Ai li ci,ii a]) func175 rfl ntmps175 zY ?_;have hM:=ydY.nil w;refine zs (zn (ya8 (v:=(.pointer (some pd))) rfl ?_));intro g w2 hN;replace h:=h g w2 hN;replace hM:=hM.kp hN.kpm;have rB:Row w2 g 190 1 [(.pointer (some pd))]:=hN.row;clear hN;refine zb (zn (ya8 (v:=(ii a)) rfl ?_));intro g2 w3 hN2;replace h:=h g2 w3 hN2;replace hM:=hM.kp hN2.kpm;replace rB:=rB.kp (hN2.kp _);have rB2:Row w3 g2 3 1 [ii a]:=hN2.row;clear hN2;refine zb (yaa (yaf (zs (zM (.slice Ai li ci) (zq (yiB rfl underlying160) (zM (ii 0) (yaa (yai ?_))))))));obtain ⟨I2,⟨m0,h0⟩,hr⟩:=h;refine yaz (fun m E ds w'=>∃ i,I2 m i w'∧ydY w.heap.size ds w'∧E 3 = .pointer (some ⟨g,0,none⟩)∧E 5 = .pointer (some ⟨g2,0,none⟩)∧E 11 = .slice Ai li ci∧E 12=(ii ((li:Nat):Int))∧E 13=(ii i)∧Row w' g 190 1 [(.pointer (some pd))]∧Row w' g2 3 1 [ii a]) m0 ⟨_,h0,hM,rfl,rfl,rfl,rfl,rfl,rB,rB2⟩ ?_;clear h0;rintro m1 E ds w4 ⟨i,h,hM,H3,H5,H11,H12,H13,rB,rB2⟩ ag;replace h:=hr m1 i w4 h;clear hr;refine zs (zq (ydj H13 H12) (yaa (yaf ?_)));by_cases hp:i<((li:Nat):Int)
  · replace h:=h.1 hp;refine zc hp (yag (yaf (yai (zs (zH H13 ?_)))));obtain ⟨hx,h⟩:=h;refine zq (ycI H11 H13 underlying160 ydi hx) ?_;obtain ⟨x,hc,h⟩:=h;refine zq (zl underlying4 hc) (zn (yaO yaj ?_));intro g3 w5 hN3;replace h:=h g3 w5 hN3;replace hM:=hM.kp hN3.kpm;replace rB:=rB.kp (hN3.kp _);replace rB2:=rB2.kp (hN3.kp _);have rB3:Row w5 g3 3 1 [ii 0]:=hN3.row;clear hN3;refine zb ?_;obtain ⟨hb,h⟩:=h;obtain ⟨hb2,h⟩:=h;refine zo (zt (ii i) yaj (wr_row rB3 (i:=0) rfl) ?_);intro w6 ew;replace h:=h w6 ew;replace hM:ydY _ _ w6:=hM.kp (by rw [ew];exact ygs);replace rB3:Row w6 g3 3 1 [ii i]:=row_set rB3 0 (ii i) ew;replace rB:Row w6 g 190 1 [(.pointer (some pd))]:=rB.kp (by rw [ew];exact yda hb);replace rB2:Row w6 g2 3 1 [ii a]:=rB2.kp (by rw [ew];exact yda hb2);clear ew;refine zb (zQ (.bool (x)) (yaa (yaf (zs (zM (.bool (x)) (zq (ycX rfl) (yaa ?_)))))));by_cases hp2:x=true
    · replace h:=h.1 hp2;refine yat (zC (zB hp2)) (yag (yaf (yaT [0,1,2,3,4,5,6,7,8,9,10] st0 yaD (by kernel_rfl) (by kernel_rfl) ?_)));replace hM:=hM.kp (KpM.drew _);replace rB:=rB.drew;replace rB2:=rB2.drew;replace rB3:=rB3.drew;refine zp (yau H3 underlying190 rfl (Row.cell rB (i:=0) rfl)) (zp (ybU rfl) (zp (yan rfl underlying203 rfl ye8) ?_));obtain ⟨Ax,lx,cx,hc2,h⟩:=h;refine zp (zl underlying152 hc2) (zp (zl underlying3 (Row.cell rB3 (i:=0) rfl)) ?_);obtain ⟨hx2,h⟩:=h;refine zp (zi underlying152 yaj hx2) ?_;obtain ⟨x2,hc3,h⟩:=h;refine zp (zl underlying3 hc3) (zp (yau H5 underlying3 rfl (Row.cell rB2 (i:=0) rfl)) ?_);obtain ⟨hi,h⟩:=h;refine zp (zA hi) ?_;obtain ⟨hx3,h⟩:=h;refine zp (zi underlying152 yaj hx3) ?_;obtain ⟨hw2,h⟩:=h;obtain ⟨hb3,h⟩:=h;obtain ⟨hb4,h⟩:=h;obtain ⟨hb5,h⟩:=h;refine yjg rfl rfl rfl (zt (ii (x2+a)) yaj hw2 ?_);intro w7 ew2;replace h:=h w7 ew2;replace hM:ydY _ _ w7:=hM.kp (by rw [ew2];exact ygs);replace rB:Row w7 g 190 1 [(.pointer (some pd))]:=rB.kp (by rw [ew2];exact yda hb3);replace rB2:Row w7 g2 3 1 [ii a]:=rB2.kp (by rw [ew2];exact yda hb4);replace rB3:Row w7 g3 3 1 [ii i]:=rB3.kp (by rw [ew2];exact yda hb5);clear ew2;refine zb (yaZ (zs (zq (yau H3 underlying190 rfl (Row.cell rB (i:=0) rfl)) (zq (zl underlying3 (Row.cell rB3 (i:=0) rfl)) (zn (yam rfl (am2 rfl rfl) enter_192 (h.mono ?_)))))));rintro _ w8 ⟨r,rfl,hk,hk2,hk3,hkm,h⟩;replace hM:=hM.kp hkm;replace rB:=rB.kp hk;replace rB2:=rB2.kp hk2;replace rB3:=rB3.kp hk3;refine ⟨_,rfl,Stb.none _,?_⟩;refine yaa (yai ?_);obtain ⟨α,val,S,Kq,len,I3,hIt,hsz,hst,h0,hkp,hb,h⟩:=h;refine wt_range rfl hIt hsz rfl rfl I3 hst h0 ?_ ?_
      · intro ll pre el w9 hIp hlen;obtain ⟨y,y2,hv,h⟩:=hb pre el w9 hIp hlen;rw [hv];replace rB:=rB.kp (hkp pre w9 hIp).1;replace rB2:=rB2.kp (hkp pre w9 hIp).2.1;replace rB3:=rB3.kp (hkp pre w9 hIp).2.2.1;refine yai (yaf (yaT [0,1,2,3,4,5,6,7,8,9,10,11,12] st0 (ya7 ll) (by kernel_rfl) (by kernel_rfl) ?_));replace rB:=rB.drew;replace rB2:=rB2.drew;replace rB3:=rB3.drew;refine zp (yau H3 underlying190 rfl (Row.cell rB (i:=0) rfl)) (zp (ybU rfl) (zp (yan rfl underlying203 rfl ycm) ?_));obtain ⟨Ax2,lx2,cx2,hc4,h⟩:=h;refine zp (zl underlying43 hc4) (zp (zl underlying3 (Row.cell rB3 (i:=0) rfl)) ?_);obtain ⟨hx4,h⟩:=h;refine zp (zi underlying43 yaj hx4) ?_;obtain ⟨x3,hc5,h⟩:=h;refine zp (zl underlying3 hc5) (zp (zm (ii y2)) (zp (yau H5 underlying3 rfl (Row.cell rB2 (i:=0) rfl)) ?_));obtain ⟨hi2,h⟩:=h;refine zp (v_mul rfl rfl hi2) ?_;obtain ⟨hi3,h⟩:=h;refine zp (zS hi3) ?_;obtain ⟨hx5,h⟩:=h;refine zp (zi underlying43 yaj hx5) ?_;obtain ⟨hw3,h⟩:=h;obtain ⟨hb6,h⟩:=h;obtain ⟨hb7,h⟩:=h;obtain ⟨hb8,h⟩:=h;refine yjg rfl rfl rfl (zt (ii (x3-(y2*a))) yaj hw3 ?_);intro w11 ew3;replace h:=h w11 ew3;replace rB:Row w11 g 190 1 [(.pointer (some pd))]:=rB.kp (by rw [ew3];exact yda hb6);replace rB2:Row w11 g2 3 1 [ii a]:=rB2.kp (by rw [ew3];exact yda hb7);replace rB3:Row w11 g3 3 1 [ii i]:=rB3.kp (by rw [ew3];exact yda hb8);clear ew3;refine zb (yaZ (yaT [0,1,2,3,4,5,6,7,8,9,10,11,12] st0 (ya7 ll) (by kernel_rfl) (by kernel_rfl) ?_));replace rB:=rB.drew;replace rB2:=rB2.drew;replace rB3:=rB3.drew;refine zp (yau H3 underlying190 rfl (Row.cell rB (i:=0) rfl)) (zp (ybU rfl) (zp (yan rfl underlying203 rfl ycm) ?_));obtain ⟨Ax3,lx3,cx3,hc6,h⟩:=h;refine zp (zl underlying43 hc6) (zp (zm (ii y)) ?_);obtain ⟨hx6,h⟩:=h;refine zp (zi underlying43 yaj hx6) ?_;obtain ⟨x4,hc7,h⟩:=h;refine zp (zl underlying3 hc7) (zp (zm (ii y2)) (zp (yau H5 underlying3 rfl (Row.cell rB2 (i:=0) rfl)) ?_));obtain ⟨hi4,h⟩:=h;refine zp (v_mul rfl rfl hi4) ?_;obtain ⟨hi5,h⟩:=h;refine zp (zA hi5) ?_;obtain ⟨hx7,h⟩:=h;refine zp (zi underlying43 yaj hx7) ?_;obtain ⟨hw4,h⟩:=h;obtain ⟨hb9,h⟩:=h;obtain ⟨hb10,h⟩:=h;obtain ⟨hb11,h⟩:=h;refine yjg rfl rfl rfl (zt (ii (x4+(y2*a))) yaj hw4 ?_);intro w12 ew4;replace h:=h w12 ew4;replace rB:Row w12 g 190 1 [(.pointer (some pd))]:=rB.kp (by rw [ew4];exact yda hb9);replace rB2:Row w12 g2 3 1 [ii a]:=rB2.kp (by rw [ew4];exact yda hb10);replace rB3:Row w12 g3 3 1 [ii i]:=rB3.kp (by rw [ew4];exact yda hb11);clear ew4;exact zb (yaZ (yah (ycO (fun a r=>h))))
      · intro D xs w10 hD hS hIp hK;replace h:=h xs w10 hS hIp;replace rB:=rB.kp (hkp xs w10 hIp).1;replace rB2:=rB2.kp (hkp xs w10 hIp).2.1;replace rB3:=rB3.kp (hkp xs w10 hIp).2.2.1;obtain ⟨hkm,h⟩:=h;replace hM:=ydY.push hM hkm hD hK;refine yah (yah (zr ?_));obtain ⟨hi6,h⟩:=h;refine zq (ybS H13 rfl hi6) (zM (ii (i+1)) (yaa ?_));obtain ⟨mq,hlt,h⟩:=h;exact ag mq _ _ _ ⟨_,h,hM,H3,H5,H11,H12,rfl,rB,rB2⟩ hlt
    · replace h:=h.2 hp2;refine yar (zC (zB (zI hp2))) (yax rfl (zr ?_));obtain ⟨hi7,h⟩:=h;refine zq (ybS H13 rfl hi7) (zM (ii (i+1)) (yaa ?_));obtain ⟨mq,hlt,h⟩:=h;exact ag mq _ _ _ ⟨_,h,hM,H3,H5,H11,H12,rfl,rB,rB2⟩ hlt
  · replace h:=h.2 hp;refine zd hp (yax rfl (zs (zq (yau H3 underlying190 rfl (Row.cell rB (i:=0) rfl)) (zq (ybU rfl) (zq (yan rfl underlying203 rfl ycm) ?_)))));obtain ⟨Ax4,lx4,cx4,hc8,h⟩:=h;refine zq (zl underlying43 hc8) (zq (yiB rfl underlying43) (zM (ii 0) (yaa (yai ?_))));obtain ⟨I4,⟨m0,h0⟩,hr⟩:=h;refine yaz (fun m E ds w'=>∃ i2,I4 m i2 w'∧ydY w.heap.size ds w'∧E 3 = .pointer (some ⟨g,0,none⟩)∧E 64=(ii ((lx4:Nat):Int))∧E 65=(ii i2)∧Row w' g 190 1 [(.pointer (some pd))]∧Row w' g2 3 1 [ii a]) m0 ⟨_,h0,hM,H3,rfl,rfl,rB,rB2⟩ ?_;clear h0;rintro m4 E ds w13 ⟨i2,h,hM,H3,H64,H65,rB,rB2⟩ again2;replace h:=hr m4 i2 w13 h;clear hr;refine zs (zq (ydj H65 H64) (yaa (yaf ?_)));by_cases hp3:i2<((lx4:Nat):Int)
    · replace h:=h.1 hp3;refine zc hp3 (yag (yaf (yai (zs (zH H65 (zQ (ii i2) (yaa (yaf (yaT [0,1,2,3,4,5,6,7,8,9,10,11,12,13,14,15,16,17,18,19,20,21,22,23,24,25,26,27,28,29,30,31,32,33,34,35,36,37,38] st0 yaD (by kernel_rfl) (by kernel_rfl) ?_)))))))));replace hM:=hM.kp (KpM.drew _);replace rB:=rB.drew;replace rB2:=rB2.drew;refine zp (yau H3 underlying190 rfl (Row.cell rB (i:=0) rfl)) (zp (ybU rfl) (zp (yan rfl underlying203 rfl ycm) ?_));obtain ⟨Ax5,lx5,cx5,hc9,h⟩:=h;refine zp (zl underlying43 hc9) (zp (zm (ii i2)) ?_);obtain ⟨hx8,h⟩:=h;refine zp (zi underlying43 yaj hx8) ?_;obtain ⟨x5,hc10,h⟩:=h;refine zp (zl underlying3 hc10) (zp (yau H3 underlying190 rfl (Row.cell rB (i:=0) rfl)) (zp (ybU rfl) (zp (yan rfl underlying203 rfl ycm) ?_)));obtain ⟨Ax6,lx6,cx6,hc11,h⟩:=h;refine zp (zl underlying43 hc11) (zp (zm (ii i2)) ?_);obtain ⟨hx9,h⟩:=h;refine zp (zi underlying43 yaj hx9) ?_;obtain ⟨x6,hc12,h⟩:=h;refine zp (zl underlying3 hc12) ?_;obtain ⟨hi8,h⟩:=h;refine zp (v_neg rfl hi8) (zp (yau H3 underlying190 rfl (Row.cell rB (i:=0) rfl)) (zp (ybU rfl) (zp (yan rfl underlying203 rfl ye8) ?_)));obtain ⟨Ax7,lx7,cx7,hc13,h⟩:=h;refine zp (zl underlying152 hc13) (zp (zm (ii i2)) ?_);obtain ⟨hx10,h⟩:=h;refine zp (zi underlying152 yaj hx10) ?_;obtain ⟨x7,hc14,h⟩:=h;refine zp (zl underlying3 hc14) (zp (yau H3 underlying190 rfl (Row.cell rB (i:=0) rfl)) (zp (ybU rfl) (zp (yan rfl underlying203 rfl ye8) ?_)));obtain ⟨Ax8,lx8,cx8,hc15,h⟩:=h;refine zp (zl underlying152 hc15) (zp (zm (ii i2)) ?_);obtain ⟨hx11,h⟩:=h;refine zp (zi underlying152 yaj hx11) ?_;obtain ⟨x8,hc16,h⟩:=h;refine zp (zl underlying3 hc16) ?_;obtain ⟨hi9,h⟩:=h;refine zp (v_neg rfl hi9) (zp (v_max4 rfl rfl rfl rfl) (zp zG (zp (zm (.bool (decide (2097152<(mxF4 x5 (-x6) x7 (-x8)))))) ?_)));by_cases hp4:2097152<(mxF4 x5 (-x6) x7 (-x8))
      · replace h:=h.1 hp4;refine rp_q (yae rfl (yac rfl (zT hp4))) rfl rfl (yau H3 underlying190 rfl (Row.cell rB (i:=0) rfl)) (rp_q (yae rfl (yac rfl (zT hp4))) rfl rfl (ybU rfl) (rp_q (yae rfl (yac rfl (zT hp4))) rfl rfl (yan rfl underlying203 rfl yfv) ?_));obtain ⟨x9,hc17,h⟩:=h;refine rp_q (yae rfl (yac rfl (zT hp4))) rfl rfl (zl underlying30 hc17) (rp_q (yae rfl (yac rfl (zT hp4))) rfl rfl zE (zp (yas (v:=(.bool (decide (x9=0)))) (zT hp4) rfl) (yaZ ?_)));by_cases hp5:x9=0
        · replace h:=h.1 hp5;refine zc hp5 (zr (zq (yau H3 underlying190 rfl (Row.cell rB (i:=0) rfl)) (zq (ybU rfl) (zq (yan rfl underlying203 rfl yfv) ?_))));obtain ⟨hw5,h⟩:=h;obtain ⟨hb12,h⟩:=h;obtain ⟨hb13,h⟩:=h;refine zo (zt (ii 11) yfv hw5 ?_);intro w14 ew5;replace h:=h w14 ew5;replace hM:ydY _ _ w14:=hM.kp (by rw [ew5];exact ygs);replace rB:Row w14 g 190 1 [(.pointer (some pd))]:=rB.kp (by rw [ew5];exact yda hb12);replace rB2:Row w14 g2 3 1 [ii a]:=rB2.kp (by rw [ew5];exact yda hb13);clear ew5;refine zb (yaa (yah (zr ?_)));obtain ⟨hi10,h⟩:=h;refine zq (ybS H65 rfl hi10) (zM (ii (i2+1)) (yaa ?_));obtain ⟨mq,hlt,h⟩:=h;exact again2 mq _ _ _ ⟨_,h,hM,H3,H64,rfl,rB,rB2⟩ hlt
        · replace h:=h.2 hp5;refine zd hp5 (yag (yah (zr ?_)));obtain ⟨hi11,h⟩:=h;refine zq (ybS H65 rfl hi11) (zM (ii (i2+1)) (yaa ?_));obtain ⟨mq,hlt,h⟩:=h;exact again2 mq _ _ _ ⟨_,h,hM,H3,H64,rfl,rB,rB2⟩ hlt
      · replace h:=h.2 hp4;refine rp_p (yab rfl (yac rfl (zF hp4)) rfl) rfl (rp_p (yab rfl (yac rfl (zF hp4)) rfl) rfl (rp_p (yab rfl (yac rfl (zF hp4)) rfl) rfl (rp_p (yab rfl (yac rfl (zF hp4)) rfl) rfl (rp_p (yab rfl (yac rfl (zF hp4)) rfl) rfl (zp (yal (v:=(.bool (false))) (zF hp4) rfl) (yaZ (yat rfl (yag (yah (zr ?_))))))))));obtain ⟨hi12,h⟩:=h;refine zq (ybS H65 rfl hi12) (zM (ii (i2+1)) (yaa ?_));obtain ⟨mq,hlt,h⟩:=h;exact again2 mq _ _ _ ⟨_,h,hM,H3,H64,rfl,rB,rB2⟩ hlt
    · replace h:=h.2 hp3;exact zd hp3 (yax rfl (wt_endm0 hM rfl fun wz hz=>⟨rfl,h wz hz⟩))
def ybT(px:Addr)(w:World)(R:Option Addr→Nat→Nat→World→Prop):Prop :=
(∀ (g:Nat) (w2:World),New w g w2 #[(Value.int .i64 (-1))] 3 →
(∃ x:Int,w2.cell? (Addr.add (Addr.add px 0) 0)=some (Value.int .i64 x) ∧
(Calls Tryz.prog 191 #[(Value.slice (some ⟨g,0,none⟩) 1 1),(Value.int .i64 x)] w2 fun e w3=>∃ Ar2:Option Addr,∃ lr2:Nat,∃ cr2:Nat,e = .returned (Value.slice Ar2 lr2 cr2) ∧
KpM w2 w3 ∧
(∀ (g2:Nat) (w4:World),New w3 g2 w4 #[(Value.slice none 0 0)] 29 →
(∀ w5,w5=w4.setCell (⟨g2,0,none⟩:Addr) (Value.slice Ar2 lr2 cr2) →
(∃ x2:Int,w5.drew.cell? (Addr.add px 2)=some (Value.int .i64 x2) ∧
(Ix Ar2 lr2 x2 ∧
(Wr w5.drew (ixA Ar2 x2 1) ∧
(ixA Ar2 x2 1).block≠g2 ∧
∀ w6,w6=w5.drew.setCell (ixA Ar2 x2 1) (Value.int .i64 0) →
(∃ x3:Int,w6.cell? (Addr.add px 2)=some (Value.int .i64 x3) ∧
(∀ (g3:Nat) (w7:World),New w6 g3 w7 #[(Value.int .i64 x3)] 3 →
(∀ (g4:Nat) (w8:World),New w7 g4 w8 #[(Value.slice none 0 0)] 29 →
(Wr w8 (⟨g4,0,none⟩:Addr) ∧
(⟨g4,0,none⟩:Addr).block≠g2 ∧
∀ w9,w9=w8.setCell (⟨g4,0,none⟩:Addr) (Value.slice (some ⟨g3,0,none⟩) 1 1) →
(∃ I2:Nat→World→Prop,(∃ m0,I2 m0 w9)∧∀ m1 w10,I2 m1 w10 → 
(∃ Ax:Option Addr,∃ lx:Nat,∃ cx:Nat,w10.cell? (⟨g4,0,none⟩:Addr)=some (Value.slice Ax lx cx) ∧
((0<((lx:Nat):Int) →
(∃ Ax2:Option Addr,∃ lx2:Nat,∃ cx2:Nat,w10.cell? (⟨g4,0,none⟩:Addr)=some (Value.slice Ax2 lx2 cx2) ∧
(Ix Ax2 lx2 0 ∧
(∃ x4:Int,w10.cell? (ixA Ax2 0 1)=some (Value.int .i64 x4) ∧
(∀ (g5:Nat) (w11:World),New w10 g5 w11 #[(Value.int .i64 0)] 3 →
(g5≠g2 ∧
∀ w12,w12=w11.setCell (⟨g5,0,none⟩:Addr) (Value.int .i64 x4) →
(∃ Ax3:Option Addr,∃ lx3:Nat,∃ cx3:Nat,w12.cell? (⟨g4,0,none⟩:Addr)=some (Value.slice Ax3 lx3 cx3) ∧
((0≤(1:Int)∧(1:Int)≤((lx3:Nat):Int)) ∧
(Wr w12 (⟨g4,0,none⟩:Addr) ∧
(⟨g4,0,none⟩:Addr).block≠g2 ∧
(⟨g4,0,none⟩:Addr).block≠g5 ∧
∀ w13,w13=w12.setCell (⟨g4,0,none⟩:Addr) (Value.slice (slA Ax3 cx3 (1:Int).toNat 1) (lx3-(1:Int).toNat) (cx3-(1:Int).toNat)) →
(Calls Tryz.prog 192 #[(Value.pointer (some px)),(Value.int .i64 x4)] w13 fun e w14=>∃ r:Value,e = .returned r ∧
Kp w13 w14 g2 ∧
Kp w13 w14 g5 ∧
KpM w13 w14 ∧
(∃ (α:Type) (val:α→Array Value) (S:List α→Prop) (Kq:World→World→Prop) (len:Nat) (I3:List α→World→Prop),IterOf Tryz.prog r val S Kq len w14∧(∀ x,(val x).size=2)∧Stays w14.heap.size I3∧I3 [] w14∧(∀ pr W,I3 pr W→Kp w14 W g2∧Kp w14 W g5∧True) ∧
(∀ pre (el:α) w15,I3 pre w15→pre.length<len→∃ y:Int,∃ y2:Int,val el = #[(Value.int .i64 y),(Value.int .i64 y2)] ∧
(Ix Ar2 lr2 y ∧
(∃ x5:Int,w15.cell? (ixA Ar2 y 1)=some (Value.int .i64 x5) ∧
((x5<0 →
(Ix Ar2 lr2 x4 ∧
(∃ x6:Int,w15.drew.cell? (ixA Ar2 x4 1)=some (Value.int .i64 x6) ∧
(In64 (x6+1) ∧
(Ix Ar2 lr2 y ∧
(Wr w15.drew (ixA Ar2 y 1) ∧
(ixA Ar2 y 1).block≠g2 ∧
(ixA Ar2 y 1).block≠g5 ∧
∀ w17,w17=w15.drew.setCell (ixA Ar2 y 1) (Value.int .i64 (x6+1)) →
(∃ Ax4:Option Addr,∃ lx4:Nat,∃ cx4:Nat,w17.cell? (⟨g4,0,none⟩:Addr)=some (Value.slice Ax4 lx4 cx4) ∧
(∀ (g6:Nat) (w18:World),New w17 g6 w18 #[(Value.int .i64 y)] 3 →
(∃ (B:Nat) (xs2 nw:List Value) (ad:Addr),OwnS w18 B 3 1 Ax4 lx4 cx4 xs2∧(some ⟨g6,0,none⟩)=some ad∧nw.length=1*1∧(∀ j u,nw[j]? = some u→w18.cell? (ad.add j)=some u)∧(∀ u∈nw,u.oneCell'=true)∧lx4+1≤maxLen∧(lx4+1)*8≤140737488355328∧B≤w18.heap.size ∧
∀ A c w19,OwnS w19 B 3 1 A (lx4+1) c (xs2++nw)→w18.grownBy w19 (Option.map Addr.block Ax4)→(Option.map Addr.block A=Option.map Addr.block Ax4∨Option.map Addr.block A=some w18.heap.size) →
Kp w18 w19 g2 ∧
Kp w18 w19 g5 ∧
(Wr w19 (⟨g4,0,none⟩:Addr) ∧
(⟨g4,0,none⟩:Addr).block≠g2 ∧
(⟨g4,0,none⟩:Addr).block≠g5 ∧
∀ w20,w20=w19.setCell (⟨g4,0,none⟩:Addr) (Value.slice A (lx4+1) c) →
(KeepsOthers w15 w20∧Kq w15 w20∧I3 (pre++[el]) w20))))))))))) ∧
(¬(x5<0) →
(KeepsOthers w15 w15∧Kq w15 w15∧I3 (pre++[el]) w15)))))) ∧
(∀ xs w16,S xs→I3 xs w16 →
KpM w14 w16 ∧
∃ m2,m2<m1∧I2 m2 w16)))))))))))) ∧
(¬(0<((lx:Nat):Int)) →
(∀ wz,After w.heap.size w10 wz→R Ar2 lr2 cr2 wz)))))))))))))))))
theorem ye5(px:Addr)(w:World)(R:Option Addr→Nat→Nat→World→Prop)(h:ybT px w R) :
    Calls Tryz.prog 174 #[(.pointer (some px))] w fun e w'=>∃ Ar lr cr,e = .returned (.slice Ar lr cr)∧R Ar lr cr w':=by
  unfold ybT at h;refine yei (l:=[(.pointer (some px))]) func174 rfl ntmps174 zY ?_;have hM:=ydY.nil w;refine zs (zQ (.slice none 0 0) (yaa (zs (zn (yaX (l:=[(0,(ii (-1)))]) (cells:=[(ii (-1))]) (bp1 rfl) underlying29 yaj rfl rfl ?_)))));intro g w2 hN;replace h:=h g w2 hN;replace hM:=hM.kp hN.kpm;clear hN;refine zb (zM (.pointer (some px)) (zq (ybU rfl) (zq (yan rfl underlying203 rfl yao) (zq (yan rfl underlying24 rfl yaj) ?_))));obtain ⟨x,hc,h⟩:=h;refine zq (zl underlying3 hc) (zn (yam rfl (am2 rfl rfl) enter_191 (h.mono ?_)));rintro _ w3 ⟨Ar2,lr2,cr2,rfl,hkm,h⟩;replace hM:=hM.kp hkm;refine ⟨_,rfl,Stb.none _,?_⟩;refine zn (yaO yaL ?_);intro g2 w4 hN2;replace h:=h g2 w4 hN2;replace hM:=hM.kp hN2.kpm;have rB:Row w4 g2 29 1 [.slice none 0 0]:=hN2.row;clear hN2;refine zb (zo (zt (.slice Ar2 lr2 cr2) yaL (wr_row rB (i:=0) rfl) ?_));intro w5 ew;replace h:=h w5 ew;replace hM:ydY _ _ w5:=hM.kp (by rw [ew];exact ygs);replace rB:Row w5 g2 29 1 [.slice Ar2 lr2 cr2]:=row_set rB 0 (.slice Ar2 lr2 cr2) ew;clear ew;refine zb (yaa (yaf (yaT [0,1,2,3,4,5,6] st0 yaD (by kernel_rfl) (by kernel_rfl) ?_)));replace hM:=hM.kp (KpM.drew _);replace rB:=rB.drew;refine zp (zl underlying29 (Row.cell rB (i:=0) rfl)) (zp (zm (.pointer (some px))) (zp (ybU rfl) (zp (yan rfl underlying203 rfl yaj) ?_)));obtain ⟨x2,hc2,h⟩:=h;refine zp (zl underlying3 hc2) ?_;obtain ⟨hx,h⟩:=h;refine zp (zi underlying29 yaj hx) ?_;obtain ⟨hw2,h⟩:=h;obtain ⟨hb,h⟩:=h;refine yjg rfl rfl rfl (zt (ii 0) yaj hw2 ?_);intro w6 ew2;replace h:=h w6 ew2;replace hM:ydY _ _ w6:=hM.kp (by rw [ew2];exact ygs);replace rB:Row w6 g2 29 1 [.slice Ar2 lr2 cr2]:=rB.kp (by rw [ew2];exact yda hb);clear ew2;refine zb (yaZ (zs (zM (.pointer (some px)) (zq (ybU rfl) (zq (yan rfl underlying203 rfl yaj) ?_)))));obtain ⟨x3,hc3,h⟩:=h;refine zq (zl underlying3 hc3) (zn (yaX (l:=[(0,(ii x3))]) (cells:=[ii x3]) (bp1 rfl) underlying29 yaj rfl rfl ?_));intro g3 w7 hN3;replace h:=h g3 w7 hN3;replace hM:=hM.kp hN3.kpm;replace rB:=rB.kp (hN3.kp _);clear hN3;refine zb (zn (yaO yaL ?_));intro g4 w8 hN4;replace h:=h g4 w8 hN4;replace hM:=hM.kp hN4.kpm;replace rB:=rB.kp (hN4.kp _);clear hN4;refine zb ?_;obtain ⟨hw3,h⟩:=h;obtain ⟨hb2,h⟩:=h;refine zo (zt (.slice (some ⟨g3,0,none⟩) 1 1) yaL hw3 ?_);intro w9 ew3;replace h:=h w9 ew3;replace hM:ydY _ _ w9:=hM.kp (by rw [ew3];exact ygs);replace rB:Row w9 g2 29 1 [.slice Ar2 lr2 cr2]:=rB.kp (by rw [ew3];exact yda hb2);clear ew3;refine zb (yaa (yaf (yai ?_)));obtain ⟨I2,⟨m0,h0⟩,hr⟩:=h;refine yaz (fun m E ds w'=>I2 m w'∧ydY w.heap.size ds w'∧E 0 = .pointer (some px)∧E 3 = .pointer (some ⟨g2,0,none⟩)∧E 4 = .pointer (some ⟨g4,0,none⟩)∧Row w' g2 29 1 [.slice Ar2 lr2 cr2]) m0 ⟨h0,hM,rfl,rfl,rfl,rB⟩ ?_;clear h0;rintro m1 E ds w10 ⟨h,hM,H0,H3,H4,rB⟩ ag;replace h:=hr m1 w10 h;clear hr;refine yaf (zs ?_);obtain ⟨Ax,lx,cx,hc4,h⟩:=h;refine zq (yau H4 underlying29 rfl hc4) (zq (yiB rfl underlying29) (zq zG (yaa ?_)));by_cases hp:0<((lx:Nat):Int)
  · replace h:=h.1 hp;refine zc hp (yag (yai (zs ?_)));obtain ⟨Ax2,lx2,cx2,hc5,h⟩:=h;refine zq (yau H4 underlying29 rfl hc5) ?_;obtain ⟨hx2,h⟩:=h;refine zq (zi underlying29 yaj hx2) ?_;obtain ⟨x4,hc6,h⟩:=h;refine zq (zl underlying3 hc6) (zn (yaO yaj ?_));intro g5 w11 hN5;replace h:=h g5 w11 hN5;replace hM:=hM.kp hN5.kpm;replace rB:=rB.kp (hN5.kp _);have rB2:Row w11 g5 3 1 [ii 0]:=hN5.row;clear hN5;refine zb ?_;obtain ⟨hb3,h⟩:=h;refine zo (zt (ii x4) yaj (wr_row rB2 (i:=0) rfl) ?_);intro w12 ew4;replace h:=h w12 ew4;replace hM:ydY _ _ w12:=hM.kp (by rw [ew4];exact ygs);replace rB2:Row w12 g5 3 1 [ii x4]:=row_set rB2 0 (ii x4) ew4;replace rB:Row w12 g2 29 1 [.slice Ar2 lr2 cr2]:=rB.kp (by rw [ew4];exact yda hb3);clear ew4;refine zb (yaa (zs ?_));obtain ⟨Ax3,lx3,cx3,hc7,h⟩:=h;refine zq (yau H4 underlying29 rfl hc7) ?_;obtain ⟨hs,h⟩:=h;refine zq (v_slice_l rfl rfl underlying29 yaj hs) ?_;obtain ⟨hw5,h⟩:=h;obtain ⟨hb4,h⟩:=h;obtain ⟨hb5,h⟩:=h;refine zo (yhn (v:=(.slice (slA Ax3 cx3 (1:Int).toNat 1) (lx3-(1:Int).toNat) (cx3-(1:Int).toNat))) H4 rfl rfl yaL hw5 ?_);intro w13 ew5;replace h:=h w13 ew5;replace hM:ydY _ _ w13:=hM.kp (by rw [ew5];exact ygs);replace rB:Row w13 g2 29 1 [.slice Ar2 lr2 cr2]:=rB.kp (by rw [ew5];exact yda hb4);replace rB2:Row w13 g5 3 1 [ii x4]:=rB2.kp (by rw [ew5];exact yda hb5);clear ew5;refine zb (yaa (zs (zH H0 (zq (zl underlying3 (Row.cell rB2 (i:=0) rfl)) (zn (yam rfl (am2 rfl rfl) enter_192 (h.mono ?_)))))));rintro _ w14 ⟨r,rfl,hk,hk2,hkm,h⟩;replace hM:=hM.kp hkm;replace rB:=rB.kp hk;replace rB2:=rB2.kp hk2;refine ⟨_,rfl,Stb.none _,?_⟩;refine yaa (yai ?_);obtain ⟨α,val,S,Kq,len,I3,hIt,hsz,hst,h0,hkp,hb,h⟩:=h;refine wt_range rfl hIt hsz rfl rfl I3 hst h0 ?_ ?_
    · intro ll pre el w15 hIp hlen;obtain ⟨y,y2,hv,h⟩:=hb pre el w15 hIp hlen;rw [hv];replace rB:=rB.kp (hkp pre w15 hIp).1;replace rB2:=rB2.kp (hkp pre w15 hIp).2.1;refine yai (yaf (yay (ya7 ll) (zq (yau H3 underlying29 rfl (Row.cell rB (i:=0) rfl)) (zM (ii y) ?_))));obtain ⟨hx3,h⟩:=h;refine zq (zi underlying29 yaj hx3) ?_;obtain ⟨x5,hc8,h⟩:=h;refine zq (zl underlying3 hc8) (zq zL (yaa ?_));by_cases hp2:x5<0
      · replace h:=h.1 hp2;refine zc hp2 (yaf (yaT [0,1,2,3,4,5,6,7,8] st0 (ya7 ll) (by kernel_rfl) (by kernel_rfl) ?_));replace rB:=rB.drew;replace rB2:=rB2.drew;refine zp (yau H3 underlying29 rfl (Row.cell rB (i:=0) rfl)) (zp (zm (ii y)) (zp (yau H3 underlying29 rfl (Row.cell rB (i:=0) rfl)) (zp (zl underlying3 (Row.cell rB2 (i:=0) rfl)) ?_)));obtain ⟨hx4,h⟩:=h;refine zp (zi underlying29 yaj hx4) ?_;obtain ⟨x6,hc9,h⟩:=h;refine zp (zl underlying3 hc9) ?_;obtain ⟨hi,h⟩:=h;refine zp (zA hi) ?_;obtain ⟨hx5,h⟩:=h;refine zp (zi underlying29 yaj hx5) ?_;obtain ⟨hw6,h⟩:=h;obtain ⟨hb6,h⟩:=h;obtain ⟨hb7,h⟩:=h;refine yjg rfl rfl rfl (zt (ii (x6+1)) yaj hw6 ?_);intro w17 ew6;replace h:=h w17 ew6;replace rB:Row w17 g2 29 1 [.slice Ar2 lr2 cr2]:=rB.kp (by rw [ew6];exact yda hb6);replace rB2:Row w17 g5 3 1 [ii x4]:=rB2.kp (by rw [ew6];exact yda hb7);clear ew6;refine zb (yaZ (yay (ya7 ll) ?_));obtain ⟨Ax4,lx4,cx4,hc10,h⟩:=h;refine zq (yau H4 underlying29 rfl hc10) (zM (ii y) (zn (yaX (l:=[(0,(ii y))]) (cells:=[ii y]) (bp1 rfl) underlying29 yaj rfl rfl ?_)));intro g6 w18 hN6;replace h:=h g6 w18 hN6;replace rB:=rB.kp (hN6.kp _);replace rB2:=rB2.kp (hN6.kp _);clear hN6;refine zb ?_;obtain ⟨B,xs2,nw,ad,q1,q2,q3,q4,q5,q6,q7,q8,h⟩:=h;refine zn (n_append rfl rfl underlying29 yaj rfl ⟨B,xs2,nw,ad,q1,q2,q3,q4,q5,q6,q7,q8,?_⟩);intro A c w19 q9 q10 q11;replace h:=h A c w19 q9 q10 q11;clear q1 q2 q3 q4 q5 q6 q7 q8 q9 q10 q11;obtain ⟨hk3,hk4,h⟩:=h;replace rB:=rB.kp hk3;replace rB2:=rB2.kp hk4;refine zb ?_;obtain ⟨hw7,h⟩:=h;obtain ⟨hb8,h⟩:=h;obtain ⟨hb9,h⟩:=h;refine zo (yhn (v:=(.slice A (lx4+1) c)) H4 rfl rfl yaL hw7 ?_);intro w20 ew7;replace h:=h w20 ew7;replace rB:Row w20 g2 29 1 [.slice Ar2 lr2 cr2]:=rB.kp (by rw [ew7];exact yda hb8);replace rB2:Row w20 g5 3 1 [ii x4]:=rB2.kp (by rw [ew7];exact yda hb9);clear ew7;exact zb (yaa (yah (ycO (fun a r=>h))))
      · replace h:=h.2 hp2;exact zd hp2 (yag (yah (ycO (fun a r=>h))))
    · intro D xs w16 hD hS hIp hK;replace h:=h xs w16 hS hIp;replace rB:=rB.kp (hkp xs w16 hIp).1;replace rB2:=rB2.kp (hkp xs w16 hIp).2.1;obtain ⟨hkm,h⟩:=h;replace hM:=ydY.push hM hkm hD hK;refine yah (yah ?_);obtain ⟨mq,hlt,h⟩:=h;exact ag mq _ _ _ ⟨h,hM,H0,H3,H4,rB⟩ hlt
  · replace h:=h.2 hp;exact zd hp (yax rfl (zs (zq (yau H3 underlying29 rfl (Row.cell rB (i:=0) rfl)) (zQ (.slice Ar2 lr2 cr2) (yaa (wt_retm1 hM rfl rfl fun wz hz=>⟨_,_,_,rfl,h wz hz⟩))))))
def ycR(pd:Addr)(w:World)(R:World→Prop):Prop :=
(Calls Tryz.prog 174 #[(Value.pointer (some pd))] w fun e w2=>∃ Ar:Option Addr,∃ lr:Nat,∃ cr:Nat,e = .returned (Value.slice Ar lr cr) ∧
(Calls Tryz.prog 176 #[(Value.slice Ar lr cr)] w2 fun e w3=>∃ r:Int,e = .returned (Value.int .i64 r) ∧
(∃ I2:Nat→Int→World→Prop,(∃ m0,I2 m0 r w3)∧∀ m1 i w4,I2 m1 i w4 → 
(∃ J2:World→Prop,(∀ (w5:World),J2 w5→(∃ x:Int,w5.cell? (Addr.add (Addr.add pd 0) 0)=some (Value.int .i64 x) ∧
((0≤x∧x≤1000000) ∧
∀ (g:Nat) (w6:World),New w5 g w6 (Array.replicate x.toNat (Value.bool (false))) 4 →
(∀ (g2:Nat) (w7:World),New w6 g2 w7 #[(Value.slice none 0 0)] 160 →
(Wr w7 (⟨g2,0,none⟩:Addr) ∧
∀ w8,w8=w7.setCell (⟨g2,0,none⟩:Addr) (Value.slice (some ⟨g,0,none⟩) x.toNat x.toNat) →
(∃ Ax:Option Addr,∃ lx:Nat,∃ cx:Nat,w8.cell? (⟨g2,0,none⟩:Addr)=some (Value.slice Ax lx cx) ∧
(∃ I3:Nat→Int→World→Prop,(∃ m0,I3 m0 0 w8)∧∀ m2 i2 w9,I3 m2 i2 w9 → 
((i2<((lx:Nat):Int) →
(∃ Ax2:Option Addr,∃ lx2:Nat,∃ cx2:Nat,w9.drew.cell? (⟨g2,0,none⟩:Addr)=some (Value.slice Ax2 lx2 cx2) ∧
(Ix Ar lr i2 ∧
(∃ x2:Int,w9.drew.cell? (ixA Ar i2 1)=some (Value.int .i64 x2) ∧
(Ix Ax2 lx2 i2 ∧
(Wr w9.drew (ixA Ax2 i2 1) ∧
∀ w10,w10=w9.drew.setCell (ixA Ax2 i2 1) (Value.bool (decide (x2<i))) →
(In64 (i2+1) ∧
∃ m3,m3<m2∧I3 m3 (i2+1) w10))))))) ∧
(¬(i2<((lx:Nat):Int)) →
(∃ I4:Nat→Int→Int→World→Prop,(∃ m0,I4 m0 0 0 w9)∧∀ m4 i3 i4 w11,I4 m4 i3 i4 w11 → 
((i4<((lr:Nat):Int) →
(Ix Ar lr i4 ∧
(∃ x3:Int,w11.cell? (ixA Ar i4 1)=some (Value.int .i64 x3) ∧
(∃ J3:World→Prop,(∀ (w12:World),J3 w12→(Calls Tryz.prog 177 #[(Value.pointer (some pd)),(Value.int .i64 i4),(Value.func (Fn.func 178) #[] #[(Value.pointer (some ⟨g2,0,none⟩))])] w12 fun e w13=>∃ r2:Int,e = .returned (Value.int .i64 r2) ∧
(∃ Ax3:Option Addr,∃ lx3:Nat,∃ cx3:Nat,w13.cell? (Addr.add pd 3)=some (Value.slice Ax3 lx3 cx3) ∧
(Ix Ax3 lx3 i4 ∧
(∃ x4:Int,w13.cell? (ixA Ax3 i4 1)=some (Value.int .i64 x4) ∧
(In64 (-x4) ∧
(In64 ((-x4)+r2) ∧
(In64 (((-x4)+r2)-1) ∧
(r2≠0 ∧
In64 ((((-x4)+r2)-1).tdiv r2) ∧
(In64 (i4+1) ∧
∃ m5,m5<m4∧I4 m5 (mxF i3 ((((-x4)+r2)-1).tdiv r2)) (i4+1) w13)))))))))) ∧
((x3=i →
(∃ Ax4:Option Addr,∃ lx4:Nat,∃ cx4:Nat,w11.cell? (Addr.add pd 3)=some (Value.slice Ax4 lx4 cx4) ∧
(Ix Ax4 lx4 i4 ∧
(∃ x5:Int,w11.cell? (ixA Ax4 i4 1)=some (Value.int .i64 x5) ∧
((x5<0 →
J3 w11) ∧
(¬(x5<0) →
(In64 (i4+1) ∧
∃ m6,m6<m4∧I4 m6 i3 (i4+1) w11))))))) ∧
(¬(x3=i) →
(In64 (i4+1) ∧
∃ m7,m7<m4∧I4 m7 i3 (i4+1) w11))))))) ∧
(¬(i4<((lr:Nat):Int)) →
((0<i3 →
(∃ Ax5:Option Addr,∃ lx5:Nat,∃ cx5:Nat,w11.cell? (⟨g2,0,none⟩:Addr)=some (Value.slice Ax5 lx5 cx5) ∧
(Calls Tryz.prog 175 #[(Value.pointer (some pd)),(Value.slice Ax5 lx5 cx5),(Value.int .i64 i3)] w11 fun e w14=>e = .returned (Value.tuple #[]) ∧
(In64 (i-1) ∧
∃ m8,m8<m1∧I2 m8 (i-1) w14)))) ∧
(¬(0<i3) →
(In64 (i-1) ∧
∃ m9,m9<m1∧I2 m9 (i-1) w11))))))))))))))) ∧
((0<i →
(∃ x6:Int,w4.cell? (Addr.add pd 5)=some (Value.int .i64 x6) ∧
((x6=0 →
J2 w4) ∧
(¬(x6=0) →
R w4)))) ∧
(¬(0<i) →
R w4))))))
theorem ygP(pd:Addr)(w:World)(R:World→Prop)(h:ycR pd w R) :
    Calls Tryz.prog 164 #[(.pointer (some pd))] w fun e w'=>e = .returned (.tuple #[])∧R  w':=by
  unfold ycR at h;refine yap (l:=[(.pointer (some pd))]) func164 rfl ntmps164 zY (zs (zM (.pointer (some pd)) (zn (yam rfl (am1 rfl) enter_174 (h.mono ?_)))));rintro _ w2 ⟨Ar,lr,cr,rfl,h⟩;refine ⟨_,rfl,Stb.none _,?_⟩;refine zQ (.slice Ar lr cr) (yaa (zs (zM (.pointer (some pd)) (zq (yeZ (am1 rfl) (am0)) (zQ (.func (Fn.func 175) #[(.pointer (some pd))] #[]) (yaa (zs (zM (.slice Ar lr cr) (zn (yam rfl (am1 rfl) enter_176 (h.mono ?_)))))))))));rintro _ w3 ⟨r,rfl,h⟩;refine ⟨_,rfl,Stb.none _,?_⟩;refine zQ (ii r) (yaa (yai ?_));obtain ⟨I2,⟨m0,h0⟩,hr⟩:=h;refine yaz (fun m E ds w'=>∃ i,I2 m i w'∧ds=[]∧E 0 = .pointer (some pd)∧E 2 = .slice Ar lr cr∧E 3 = .func (Fn.func 175) #[(.pointer (some pd))] #[]∧E 4=(ii i)) m0 ⟨_,h0,rfl,rfl,rfl,rfl,rfl⟩ ?_;clear h0;rintro m1 E ds w4 ⟨i,h,rfl,H0,H2,H3,H4⟩ ag;replace h:=hr m1 i w4 h;clear hr;refine yaf (yaf ?_);obtain ⟨J2,hJ,h⟩:=h;refine yc1 (fun E ds w'=>J2 w'∧ds=[]∧E 0 = .pointer (some pd)∧E 2 = .slice Ar lr cr∧E 3 = .func (Fn.func 175) #[(.pointer (some pd))] #[]∧E 4=(ii i)) ?_ ?_
  · rintro E ds w5 ⟨h,rfl,H0,H2,H3,H4⟩;replace h:=hJ w5 h;refine yaf (yai (zs (zH H0 (zq (ybU rfl) (zq (yan rfl underlying203 rfl yao) (zq (yan rfl underlying24 rfl yaj) ?_))))));obtain ⟨x,hc,h⟩:=h;refine zq (zl underlying3 hc) ?_;obtain ⟨hn,h⟩:=h;refine zn (ykw rfl rfl underlying160 ydi (by decide) rfl hn ?_);intro g w6 hN;replace h:=h g w6 hN;clear hN;refine zb (zn (yaO yiZ ?_));intro g2 w7 hN2;replace h:=h g2 w7 hN2;clear hN2;refine zb ?_;obtain ⟨hw,h⟩:=h;refine zo (zt (.slice (some ⟨g,0,none⟩) x.toNat x.toNat) yiZ hw ?_);intro w8 ew;replace h:=h w8 ew;clear ew;refine zb (yaa (yaf (zs ?_)));obtain ⟨Ax,lx,cx,hc2,h⟩:=h;refine zq (zl underlying160 hc2) (zq (yiB rfl underlying160) (zM (ii 0) (yaa (yai ?_))));obtain ⟨I3,⟨m0,h0⟩,hr⟩:=h;refine yaz (fun m E ds w'=>∃ i2,I3 m i2 w'∧ds=[]∧E 0 = .pointer (some pd)∧E 2 = .slice Ar lr cr∧E 3 = .func (Fn.func 175) #[(.pointer (some pd))] #[]∧E 4=(ii i)∧E 5 = .pointer (some ⟨g2,0,none⟩)∧E 35=(ii ((lx:Nat):Int))∧E 36=(ii i2)) m0 ⟨_,h0,rfl,H0,H2,H3,H4,rfl,rfl,rfl⟩ ?_;clear h0;rintro m2 E ds w9 ⟨i2,h,rfl,H0,H2,H3,H4,H5,H35,H36⟩ again2;replace h:=hr m2 i2 w9 h;clear hr;refine zs (zq (ydj H36 H35) (yaa (yaf ?_)));by_cases hp:i2<((lx:Nat):Int)
    · replace h:=h.1 hp;refine zc hp (yag (yaf (yai (zs (zH H36 (zQ (ii i2) (yaa (yaT [0,1,2,3,4,5,6,7,8,9] st0 yaD (by kernel_rfl) (by kernel_rfl) ?_))))))));obtain ⟨Ax2,lx2,cx2,hc3,h⟩:=h;refine zp (yau H5 underlying160 rfl hc3) (zp (zm (ii i2)) (zp (yad H2) (zp (zm (ii i2)) ?_)));obtain ⟨hx,h⟩:=h;refine zp (zi underlying29 yaj hx) ?_;obtain ⟨x2,hc4,h⟩:=h;refine zp (zl underlying3 hc4) (zp (yad H4) (zp zL ?_));obtain ⟨hx2,h⟩:=h;refine zp (zi underlying160 ydi hx2) ?_;obtain ⟨hw2,h⟩:=h;refine yjg rfl rfl rfl (zt (.bool (decide (x2<i))) ydi hw2 ?_);intro w10 ew2;replace h:=h w10 ew2;clear ew2;refine zb (yaZ (yah (zr ?_)));obtain ⟨hi,h⟩:=h;refine zq (ybS H36 rfl hi) (zM (ii (i2+1)) (yaa ?_));obtain ⟨mq,hlt,h⟩:=h;exact again2 mq _ _ _ ⟨_,h,rfl,H0,H2,H3,H4,H5,H35,rfl⟩ hlt
    · replace h:=h.2 hp;refine zd hp (yax rfl (zs (zQ (ii 0) (yaa (yaf (zs (zH H2 (zq (yiB rfl underlying29) (zM (ii 0) (yaa (yai ?_)))))))))));obtain ⟨I4,⟨m0,h0⟩,hr⟩:=h;refine yaz (fun m E ds w'=>∃ i3 i4,I4 m i3 i4 w'∧ds=[]∧E 0 = .pointer (some pd)∧E 2 = .slice Ar lr cr∧E 3 = .func (Fn.func 175) #[(.pointer (some pd))] #[]∧E 4=(ii i)∧E 5 = .pointer (some ⟨g2,0,none⟩)∧E 7=(ii i3)∧E 49 = .slice Ar lr cr∧E 50=(ii ((lr:Nat):Int))∧E 51=(ii i4)) m0 ⟨_,_,h0,rfl,H0,H2,H3,H4,H5,rfl,rfl,rfl,rfl⟩ ?_;clear h0;rintro m4 E ds w11 ⟨i3,i4,h,rfl,H0,H2,H3,H4,H5,H7,H49,H50,H51⟩ again3;replace h:=hr m4 i3 i4 w11 h;clear hr;refine zs (zq (ydj H51 H50) (yaa (yaf ?_)));by_cases hp2:i4<((lr:Nat):Int)
      · replace h:=h.1 hp2;refine zc hp2 (yag (yaf (yai (zs (zH H51 ?_)))));obtain ⟨hx3,h⟩:=h;refine zq (ycI H49 H51 underlying29 yaj hx3) ?_;obtain ⟨x3,hc5,h⟩:=h;refine zq (zl underlying3 hc5) (zQ (ii i4) (zQ (ii x3) (yaa (yaf ?_))));obtain ⟨J3,hJ,h⟩:=h;refine wt_cutA1 (fun E ds w'=>J3 w'∧ds=[]∧E 0 = .pointer (some pd)∧E 2 = .slice Ar lr cr∧E 3 = .func (Fn.func 175) #[(.pointer (some pd))] #[]∧E 4=(ii i)∧E 5 = .pointer (some ⟨g2,0,none⟩)∧E 7=(ii i3)∧E 8=(ii i4)∧E 49 = .slice Ar lr cr∧E 50=(ii ((lr:Nat):Int))∧E 51=(ii i4)) ?_ ?_
        · rintro E ds w12 ⟨h,rfl,H0,H2,H3,H4,H5,H7,H8,H49,H50,H51⟩;replace h:=hJ w12 h;refine zs (zH H0 (zH H8 (zq (yeZ (am0) (am1 H5)) (zn (yam rfl (am3 rfl rfl rfl) enter_177 (h.mono ?_))))));rintro _ w13 ⟨r2,rfl,h⟩;refine ⟨_,rfl,Stb.none _,?_⟩;refine zQ (ii r2) (yaa (zr (zH H7 (zH H0 (zq (ybU rfl) (zq (yan rfl underlying203 rfl ycm) ?_))))));obtain ⟨Ax3,lx3,cx3,hc6,h⟩:=h;refine zq (zl underlying43 hc6) (zH H8 ?_);obtain ⟨hx4,h⟩:=h;refine zq (zi underlying43 yaj hx4) ?_;obtain ⟨x4,hc7,h⟩:=h;refine zq (zl underlying3 hc7) ?_;obtain ⟨hi2,h⟩:=h;refine zq (v_neg rfl hi2) (zM (ii r2) ?_);obtain ⟨hi3,h⟩:=h;refine zq (zA hi3) ?_;obtain ⟨hi4,h⟩:=h;refine zq (zS hi4) (zM (ii r2) ?_);obtain ⟨hz,h⟩:=h;obtain ⟨hi5,h⟩:=h;refine zq (v_quo rfl rfl hz hi5) (zq (v_max2 rfl rfl) (zQ (ii (mxF i3 ((((-x4)+r2)-1).tdiv r2))) (yaa (yah (zr ?_)))));obtain ⟨hi6,h⟩:=h;refine zq (ybS H51 rfl hi6) (zM (ii (i4+1)) (yaa ?_));obtain ⟨mq,hlt,h⟩:=h;exact again3 mq _ _ _ ⟨_,_,h,rfl,H0,H2,H3,H4,H5,rfl,H49,H50,rfl⟩ hlt
        clear hJ;intro j2;refine zr (zM (ii x3) (zH H4 (zq zE (zM (.bool (decide (x3=i))) ?_))));by_cases hp3:x3=i
        · replace h:=h.1 hp3;refine zW rfl rfl (zT hp3) (yad H0) (zW rfl rfl (zT hp3) (ybU rfl) (zW rfl rfl (zT hp3) (yan rfl underlying203 rfl ycm) ?_));obtain ⟨Ax4,lx4,cx4,hc8,h⟩:=h;refine zW rfl rfl (zT hp3) (zl underlying43 hc8) (zW rfl rfl (zT hp3) (zm (ii i4)) ?_);obtain ⟨hx5,h⟩:=h;refine zW rfl rfl (zT hp3) (zi underlying43 yaj hx5) ?_;obtain ⟨x5,hc9,h⟩:=h;refine zW rfl rfl (zT hp3) (zl underlying3 hc9) (zW rfl rfl (zT hp3) zL (zq (yas (v:=(.bool (decide (x5<0)))) (zT hp3) rfl) (yaa ?_)));by_cases hp4:x5<0
          · replace h:=h.1 hp4;exact zc hp4 (j2 _ _ _ ⟨h,rfl,H0,H2,H3,H4,H5,H7,rfl,H49,H50,H51⟩)
          · replace h:=h.2 hp4;refine zd hp4 (yag (yah (zr ?_)));obtain ⟨hi7,h⟩:=h;refine zq (ybS H51 rfl hi7) (zM (ii (i4+1)) (yaa ?_));obtain ⟨mq,hlt,h⟩:=h;exact again3 mq _ _ _ ⟨_,_,h,rfl,H0,H2,H3,H4,H5,H7,H49,H50,rfl⟩ hlt
        · replace h:=h.2 hp3;refine zV rfl rfl (zF hp3) (zV rfl rfl (zF hp3) (zV rfl rfl (zF hp3) (zV rfl rfl (zF hp3) (zV rfl rfl (zF hp3) (zV rfl rfl (zF hp3) (zV rfl rfl (zF hp3) (zV rfl rfl (zF hp3) (zq (yal (v:=(.bool (false))) (zF hp3) rfl) (yaa (yat rfl (yag (yah (zr ?_)))))))))))));obtain ⟨hi8,h⟩:=h;refine zq (ybS H51 rfl hi8) (zM (ii (i4+1)) (yaa ?_));obtain ⟨mq,hlt,h⟩:=h;exact again3 mq _ _ _ ⟨_,_,h,rfl,H0,H2,H3,H4,H5,H7,H49,H50,rfl⟩ hlt
      · replace h:=h.2 hp2;refine zd hp2 (yax rfl (zs (zH H7 (zq zG (yaa ?_)))));by_cases hp5:0<i3
        · replace h:=h.1 hp5;refine zc hp5 (zr (zq (yad (v:=(Value.func (Fn.func 175) #[(.pointer (some pd))] #[])) H3) ?_));obtain ⟨Ax5,lx5,cx5,hc10,h⟩:=h;refine zq (yau H5 underlying160 rfl hc10) (zH H7 (zn (n_callx (all:=[(.pointer (some pd)),.slice Ax5 lx5 cx5,ii i3]) rfl (am2 rfl rfl) enter_175 rfl (h.mono ?_))));rintro _ w14 ⟨rfl,h⟩;refine ⟨_,rfl,Stb.none _,?_⟩;refine yaa (yah (zr (zH H4 ?_)));obtain ⟨hi9,h⟩:=h;refine zq (zS hi9) (zQ (ii (i-1)) (yaa ?_));obtain ⟨mq,hlt,h⟩:=h;exact ag mq _ _ _ ⟨_,h,rfl,H0,H2,H3,rfl⟩ hlt
        · replace h:=h.2 hp5;refine zd hp5 (yag (yah (zr (zH H4 ?_))));obtain ⟨hi10,h⟩:=h;refine zq (zS hi10) (zQ (ii (i-1)) (yaa ?_));obtain ⟨mq,hlt,h⟩:=h;exact ag mq _ _ _ ⟨_,h,rfl,H0,H2,H3,rfl⟩ hlt
  clear hJ;intro j;refine zr (zH H4 (zq zG (zM (.bool (decide (0<i))) ?_)));by_cases hp6:0<i
  · replace h:=h.1 hp6;refine zW rfl rfl (zT hp6) (yad H0) (zW rfl rfl (zT hp6) (ybU rfl) (zW rfl rfl (zT hp6) (yan rfl underlying203 rfl yfv) ?_));obtain ⟨x6,hc11,h⟩:=h;refine zW rfl rfl (zT hp6) (zl underlying30 hc11) (zW rfl rfl (zT hp6) zE (zq (yas (v:=(.bool (decide (x6=0)))) (zT hp6) rfl) (yaa ?_)));by_cases hp7:x6=0
    · replace h:=h.1 hp7;exact zc hp7 (yag (j _ _ _ ⟨h,rfl,H0,H2,H3,H4⟩))
    · replace h:=h.2 hp7;exact zd hp7 (yax rfl (yhj rfl ⟨rfl,h⟩))
  · replace h:=h.2 hp6;exact zV rfl rfl (zF hp6) (zV rfl rfl (zF hp6) (zV rfl rfl (zF hp6) (zV rfl rfl (zF hp6) (zV rfl rfl (zF hp6) (zq (yal (v:=(.bool (false))) (zF hp6) rfl) (yaa (yat rfl (yax rfl (yhj rfl ⟨rfl,h⟩)))))))))
def ycs(px:Addr)(w:World)(R:World→Prop):Prop :=
(∃ I2:Nat→World→Prop,(∃ m0,I2 m0 w)∧∀ m1 w2,I2 m1 w2 → 
(∃ x:Int,w2.cell? (Addr.add px 5)=some (Value.int .i64 x) ∧
((x=0 →
(Calls Tryz.prog 179 #[(Value.pointer (some px))] w2 fun e w3=>∃ Ar:Option Addr,∃ lr:Nat,∃ cr:Nat,∃ r:Bool,e = .returned (Value.tuple #[(Value.slice Ar lr cr),(Value.bool (r))]) ∧
(∀ (g:Nat) (w4:World),New w3 g w4 #[(Value.slice none 0 0)] 160 →
(Wr w4 (⟨g,0,none⟩:Addr) ∧
∀ w5,w5=w4.setCell (⟨g,0,none⟩:Addr) (Value.slice Ar lr cr) →
((r=true →
(∃ Ax:Option Addr,∃ lx:Nat,∃ cx:Nat,w5.cell? (⟨g,0,none⟩:Addr)=some (Value.slice Ax lx cx) ∧
(∃ I3:Nat→Int→Int→World→Prop,(∃ m0,I3 m0 0 0 w5)∧∀ m2 times i w6,I3 m2 times i w6 → 
((i<((lx:Nat):Int) →
(Ix Ax lx i ∧
(∃ x2:Bool,w6.cell? (ixA Ax i 1)=some (Value.bool (x2)) ∧
((x2=true →
(Calls Tryz.prog 177 #[(Value.pointer (some px)),(Value.int .i64 i),(Value.func (Fn.func 180) #[] #[(Value.pointer (some ⟨g,0,none⟩))])] w6 fun e w7=>∃ r2:Int,e = .returned (Value.int .i64 r2) ∧
((0<r2 →
(∃ Ax2:Option Addr,∃ lx2:Nat,∃ cx2:Nat,w7.cell? (Addr.add px 3)=some (Value.slice Ax2 lx2 cx2) ∧
(Ix Ax2 lx2 i ∧
(∃ x3:Int,w7.cell? (ixA Ax2 i 1)=some (Value.int .i64 x3) ∧
(r2≠0 ∧
In64 (x3.tdiv r2) ∧
((times=0 →
(In64 (i+1) ∧
∃ m3,m3<m2∧I3 m3 (x3.tdiv r2) (i+1) w7)) ∧
(¬(times=0) →
(((x3.tdiv r2)<times →
(In64 (i+1) ∧
∃ m4,m4<m2∧I3 m4 (x3.tdiv r2) (i+1) w7)) ∧
(¬((x3.tdiv r2)<times) →
(In64 (i+1) ∧
∃ m5,m5<m2∧I3 m5 times (i+1) w7)))))))))) ∧
(¬(0<r2) →
(In64 (i+1) ∧
∃ m6,m6<m2∧I3 m6 times (i+1) w7))))) ∧
(¬(x2=true) →
(In64 (i+1) ∧
∃ m7,m7<m2∧I3 m7 times (i+1) w6)))))) ∧
(¬(i<((lx:Nat):Int)) →
(∃ Ax3:Option Addr,∃ lx3:Nat,∃ cx3:Nat,w6.cell? (⟨g,0,none⟩:Addr)=some (Value.slice Ax3 lx3 cx3) ∧
(Calls Tryz.prog 175 #[(Value.pointer (some px)),(Value.slice Ax3 lx3 cx3),(Value.int .i64 times)] w6 fun e w8=>e = .returned (Value.tuple #[]) ∧
∃ m8,m8<m1∧I2 m8 w8))))))) ∧
(¬(r=true) →
R w5)))))) ∧
(¬(x=0) →
R w2))))
theorem yfS(px:Addr)(w:World)(R:World→Prop)(h:ycs px w R) :
    Calls Tryz.prog 165 #[(.pointer (some px))] w fun e w'=>e = .returned (.tuple #[])∧R  w':=by
  unfold ycs at h;refine yap (l:=[(.pointer (some px))]) func165 rfl ntmps165 zY (yai ?_);obtain ⟨I2,⟨m0,h0⟩,hr⟩:=h;refine yaz (fun m E ds w'=>I2 m w'∧ds=[]∧E 0=(Value.pointer (some px))) m0 ⟨h0,rfl,rfl⟩ ?_;clear h0;rintro m1 E ds w2 ⟨h,rfl,H0⟩ ag;replace h:=hr m1 w2 h;clear hr;refine yaf (zs (zH H0 (zq (ybU rfl) (zq (yan rfl underlying203 rfl yfv) ?_))));obtain ⟨x,hc,h⟩:=h;refine zq (zl underlying30 hc) (zq zE (yaa ?_));by_cases hp:x=0
  · replace h:=h.1 hp;refine zc hp (yag (yai (zs (zH H0 (zn (yam rfl (am1 rfl) enter_179 (h.mono ?_)))))));rintro _ w3 ⟨Ar,lr,cr,r,rfl,h⟩;refine ⟨_,rfl,Stb.none _,?_⟩;refine zM (.tuple #[.slice Ar lr cr,(.bool (r))]) (zq (zx (.slice Ar lr cr)) (zq (zx (.bool (r))) (zn (yaO yiZ ?_))));intro g w4 hN;replace h:=h g w4 hN;clear hN;refine zb ?_;obtain ⟨hw,h⟩:=h;refine zo (zt (.slice Ar lr cr) yiZ hw ?_);intro w5 ew;replace h:=h w5 ew;clear ew;refine zb (zQ (.bool (r)) (yaa (yaf (zs (zM (.bool (r)) (zq (ycX rfl) (yaa ?_)))))));by_cases hp2:r=true
    · replace h:=h.1 hp2;refine yat (zC (zB hp2)) (yag (zs (zQ (ii 0) (yaa (yaf (zs ?_))))));obtain ⟨Ax,lx,cx,hc2,h⟩:=h;refine zq (zl underlying160 hc2) (zq (yiB rfl underlying160) (zM (ii 0) (yaa (yai ?_))));obtain ⟨I3,⟨m0,h0⟩,hr⟩:=h;refine yaz (fun m E ds w'=>∃ times i,I3 m times i w'∧ds=[]∧E 0 = .pointer (some px)∧E 2 = .pointer (some ⟨g,0,none⟩)∧E 4=(ii times)∧E 21 = .slice Ax lx cx∧E 22=(ii ((lx:Nat):Int))∧E 23=(ii i)) m0 ⟨_,_,h0,rfl,H0,rfl,rfl,rfl,rfl,rfl⟩ ?_;clear h0;rintro m2 E ds w6 ⟨times,i,h,rfl,H0,H2,H4,H21,H22,H23⟩ again2;replace h:=hr m2 times i w6 h;clear hr;refine zs (zq (ydj H23 H22) (yaa (yaf ?_)));by_cases hp3:i<((lx:Nat):Int)
      · replace h:=h.1 hp3;refine zc hp3 (yag (yaf (yai (zs (zH H23 ?_)))));obtain ⟨hx,h⟩:=h;refine zq (ycI H21 H23 underlying160 ydi hx) ?_;obtain ⟨x2,hc3,h⟩:=h;refine zq (zl underlying4 hc3) (zQ (ii i) (zQ (.bool (x2)) (yaa (yaf (zs (zM (.bool (x2)) (zq (ycX rfl) (yaa ?_))))))));by_cases hp4:x2=true
        · replace h:=h.1 hp4;refine yat (zC (zB hp4)) (yag (zs (zH H0 (zM (ii i) (zq (yeZ (am0) (am1 H2)) (zn (yam rfl (am3 rfl rfl rfl) enter_177 (h.mono ?_))))))));rintro _ w7 ⟨r2,rfl,h⟩;refine ⟨_,rfl,Stb.none _,?_⟩;refine zQ (ii r2) (yaa (zs (zM (ii r2) (zq zG (yaa ?_)))));by_cases hp5:0<r2
          · replace h:=h.1 hp5;refine zc hp5 (zs (zH H0 (zq (ybU rfl) (zq (yan rfl underlying203 rfl ycm) ?_))));obtain ⟨Ax2,lx2,cx2,hc4,h⟩:=h;refine zq (zl underlying43 hc4) (zM (ii i) ?_);obtain ⟨hx2,h⟩:=h;refine zq (zi underlying43 yaj hx2) ?_;obtain ⟨x3,hc5,h⟩:=h;refine zq (zl underlying3 hc5) (zM (ii r2) ?_);obtain ⟨hz,h⟩:=h;obtain ⟨hi,h⟩:=h;refine zq (v_quo rfl rfl hz hi) (zQ (ii (x3.tdiv r2)) (yaa (zs (zH H4 (zq zE (zM (.bool (decide (times=0))) ?_))))));by_cases hp6:times=0
            · replace h:=h.1 hp6;refine zV rfl rfl (zT hp6) (zV rfl rfl (zT hp6) (zV rfl rfl (zT hp6) (zq (yas (v:=(.bool (true))) (zT hp6) rfl) (yaa (yar rfl (zr (zM (ii (x3.tdiv r2)) (zQ (ii (x3.tdiv r2)) (yaa (yah (zr ?_)))))))))));obtain ⟨hi2,h⟩:=h;refine zq (ybS H23 rfl hi2) (zM (ii (i+1)) (yaa ?_));obtain ⟨mq,hlt,h⟩:=h;exact again2 mq _ _ _ ⟨_,_,h,rfl,H0,H2,rfl,H21,H22,rfl⟩ hlt
            · replace h:=h.2 hp6;refine zW rfl rfl (zF hp6) (zm (ii (x3.tdiv r2))) (zW rfl rfl (zF hp6) (yad H4) (zW rfl rfl (zF hp6) zL (zq (yal (v:=(.bool (decide ((x3.tdiv r2)<times)))) (zF hp6) rfl) (yaa ?_))));by_cases hp7:(x3.tdiv r2)<times
              · replace h:=h.1 hp7;refine zc hp7 (zr (zM (ii (x3.tdiv r2)) (zQ (ii (x3.tdiv r2)) (yaa (yah (zr ?_))))));obtain ⟨hi3,h⟩:=h;refine zq (ybS H23 rfl hi3) (zM (ii (i+1)) (yaa ?_));obtain ⟨mq,hlt,h⟩:=h;exact again2 mq _ _ _ ⟨_,_,h,rfl,H0,H2,rfl,H21,H22,rfl⟩ hlt
              · replace h:=h.2 hp7;refine zd hp7 (yag (yah (zr ?_)));obtain ⟨hi4,h⟩:=h;refine zq (ybS H23 rfl hi4) (zM (ii (i+1)) (yaa ?_));obtain ⟨mq,hlt,h⟩:=h;exact again2 mq _ _ _ ⟨_,_,h,rfl,H0,H2,H4,H21,H22,rfl⟩ hlt
          · replace h:=h.2 hp5;refine zd hp5 (yag (yah (zr ?_)));obtain ⟨hi5,h⟩:=h;refine zq (ybS H23 rfl hi5) (zM (ii (i+1)) (yaa ?_));obtain ⟨mq,hlt,h⟩:=h;exact again2 mq _ _ _ ⟨_,_,h,rfl,H0,H2,H4,H21,H22,rfl⟩ hlt
        · replace h:=h.2 hp4;refine yar (zC (zB (zI hp4))) (yax rfl (zr ?_));obtain ⟨hi6,h⟩:=h;refine zq (ybS H23 rfl hi6) (zM (ii (i+1)) (yaa ?_));obtain ⟨mq,hlt,h⟩:=h;exact again2 mq _ _ _ ⟨_,_,h,rfl,H0,H2,H4,H21,H22,rfl⟩ hlt
      · replace h:=h.2 hp3;refine zd hp3 (yax rfl (zr (zH H0 ?_)));obtain ⟨Ax3,lx3,cx3,hc6,h⟩:=h;refine zq (yau H2 underlying160 rfl hc6) (zH H4 (zn (yam rfl (am3 rfl rfl rfl) enter_175 (h.mono ?_))));rintro _ w8 ⟨rfl,h⟩;refine ⟨_,rfl,Stb.none _,?_⟩;refine yaa (yah ?_);obtain ⟨mq,hlt,h⟩:=h;exact ag mq _ _ _ ⟨h,rfl,H0⟩ hlt
    · replace h:=h.2 hp2;exact yar (zC (zB (zI hp2))) (wt_ret0 rfl ⟨rfl,h⟩)
  · replace h:=h.2 hp;exact zd hp (yax rfl (yhj rfl ⟨rfl,h⟩))
def yct(pd:Addr)(w:World)(R:Option Addr→Nat→Nat→Option Addr→Nat→Nat→Int→World→Prop):Prop :=
(∃ x:Int,w.cell? (Addr.add pd 5)=some (Value.int .i64 x) ∧
((x=0 →
(∃ Ax:Option Addr,∃ lx:Nat,∃ cx:Nat,w.drew.cell? (Addr.add pd 4)=some (Value.slice Ax lx cx) ∧
(∃ x2:Int,w.drew.cell? (Addr.add pd 2)=some (Value.int .i64 x2) ∧
(Ix Ax lx x2 ∧
(∃ x3:Int,w.drew.cell? (ixA Ax x2 1)=some (Value.int .i64 x3) ∧
(∃ Ax2:Option Addr,∃ lx2:Nat,∃ cx2:Nat,w.drew.cell? (Addr.add pd 4)=some (Value.slice Ax2 lx2 cx2) ∧
(∃ I2:Nat→Int→World→Prop,(∃ m0,I2 m0 0 w.drew)∧∀ m1 i w2,I2 m1 i w2 → 
((i<((lx2:Nat):Int) →
(∃ Ax3:Option Addr,∃ lx3:Nat,∃ cx3:Nat,w2.cell? (Addr.add pd 4)=some (Value.slice Ax3 lx3 cx3) ∧
(Ix Ax3 lx3 i ∧
(∃ x4:Int,w2.cell? (ixA Ax3 i 1)=some (Value.int .i64 x4) ∧
(In64 (x4-x3) ∧
(Ix Ax3 lx3 i ∧
(Wr w2 (ixA Ax3 i 1) ∧
∀ w3,w3=w2.setCell (ixA Ax3 i 1) (Value.int .i64 (x4-x3)) →
(In64 (i+1) ∧
∃ m2,m2<m1∧I2 m2 (i+1) w3)))))))) ∧
(¬(i<((lx2:Nat):Int)) →
(∃ J2:World→Prop,(∀ (w4:World),J2 w4→(∃ Ax4:Option Addr,∃ lx4:Nat,∃ cx4:Nat,w4.drew.cell? (Addr.add pd 3)=some (Value.slice Ax4 lx4 cx4) ∧
(∃ Ax5:Option Addr,∃ lx5:Nat,∃ cx5:Nat,w4.drew.cell? (Addr.add pd 4)=some (Value.slice Ax5 lx5 cx5) ∧
R Ax4 lx4 cx4 Ax5 lx5 cx5 0 w4.drew))) ∧
(∃ Ax6:Option Addr,∃ lx6:Nat,∃ cx6:Nat,w2.drew.cell? (Addr.add pd 3)=some (Value.slice Ax6 lx6 cx6) ∧
(∃ x5:Int,w2.drew.cell? (Addr.add (Addr.add pd 0) 0)=some (Value.int .i64 x5) ∧
(Calls Tryz.prog 85 #[(Value.slice Ax6 lx6 cx6),(Value.int .i64 x5)] w2.drew fun e w5=>∃ r2:Int,e = .returned (Value.int .i64 r2) ∧
((r2=0 →
(∃ Ax7:Option Addr,∃ lx7:Nat,∃ cx7:Nat,w5.cell? (Addr.add pd 4)=some (Value.slice Ax7 lx7 cx7) ∧
(∃ x6:Int,w5.cell? (Addr.add (Addr.add pd 0) 0)=some (Value.int .i64 x6) ∧
(Calls Tryz.prog 85 #[(Value.slice Ax7 lx7 cx7),(Value.int .i64 x6)] w5 fun e w6=>∃ r3:Int,e = .returned (Value.int .i64 r3) ∧
((r3=0 →
J2 w6) ∧
(¬(r3=0) →
R none 0 0 none 0 0 11 w6)))))) ∧
(¬(r2=0) →
R none 0 0 none 0 0 11 w5))))))))))))))) ∧
(¬(x=0) →
(∃ x7:Int,w.drew.cell? (Addr.add pd 5)=some (Value.int .i64 x7) ∧
R none 0 0 none 0 0 x7 w.drew))))
theorem ygc(pd:Addr)(w:World)(R:Option Addr→Nat→Nat→Option Addr→Nat→Nat→Int→World→Prop)(h:yct pd w R) :
    Calls Tryz.prog 166 #[(.pointer (some pd))] w fun e w'=>∃ Ar lr cr Ar2 lr2 cr2 r,e = .returned (.tuple #[.slice Ar lr cr,.slice Ar2 lr2 cr2,ii r])∧R Ar lr cr Ar2 lr2 cr2 r w':=by
  unfold yct at h;refine yap (l:=[(.pointer (some pd))]) func166 rfl ntmps166 zY (zs (zQ (.slice none 0 0) (zQ (.slice none 0 0) (zQ (ii 0) (yaa (yaf (zs (zM (.pointer (some pd)) (zq (ybU rfl) (zq (yan rfl underlying203 rfl yfv) ?_))))))))));obtain ⟨x,hc,h⟩:=h;refine zq (zl underlying30 hc) (zq zN (yaa ?_));by_cases hp:x=0
  · replace h:=h.1 hp;refine ze hp (yag (yaf (yaT [0,1,2,3,4,5,6,7,8,9,10] st0 yaD (by kernel_rfl) (by kernel_rfl) (zp (zm (.pointer (some pd))) (zp (ybU rfl) (zp (yan rfl underlying203 rfl ye8) ?_))))));obtain ⟨Ax,lx,cx,hc2,h⟩:=h;refine zp (zl underlying152 hc2) (zp (zm (.pointer (some pd))) (zp (ybU rfl) (zp (yan rfl underlying203 rfl yaj) ?_)));obtain ⟨x2,hc3,h⟩:=h;refine zp (zl underlying3 hc3) ?_;obtain ⟨hx,h⟩:=h;refine zp (zi underlying152 yaj hx) ?_;obtain ⟨x3,hc4,h⟩:=h;refine zp (zl underlying3 hc4) (zp (za (ii x3)) (yaZ (yaf (zs (zM (.pointer (some pd)) (zq (ybU rfl) (zq (yan rfl underlying203 rfl ye8) ?_)))))));obtain ⟨Ax2,lx2,cx2,hc5,h⟩:=h;refine zq (zl underlying152 hc5) (zq (yiB rfl underlying152) (zM (ii 0) (yaa (yai ?_))));obtain ⟨I2,⟨m0,h0⟩,hr⟩:=h;refine yaz (fun m E ds w'=>∃ i,I2 m i w'∧ds=[]∧E 0 = .pointer (some pd)∧E 5=(ii x3)∧E 30=(ii ((lx2:Nat):Int))∧E 31=(ii i)) m0 ⟨_,h0,rfl,rfl,rfl,rfl,rfl⟩ ?_;clear h0;rintro m1 E ds w2 ⟨i,h,rfl,H0,H5,H30,H31⟩ ag;replace h:=hr m1 i w2 h;clear hr;refine zs (zq (ydj H31 H30) (yaa (yaf ?_)));by_cases hp2:i<((lx2:Nat):Int)
    · replace h:=h.1 hp2;refine zc hp2 (yag (yaf (yai (zs (zH H31 (zQ (ii i) (yaa (zr (zH H0 (zq (ybU rfl) (zq (yan rfl underlying203 rfl ye8) ?_)))))))))));obtain ⟨Ax3,lx3,cx3,hc6,h⟩:=h;refine zq (zl underlying152 hc6) (zM (ii i) ?_);obtain ⟨hx2,h⟩:=h;refine zq (zi underlying152 yaj hx2) ?_;obtain ⟨x4,hc7,h⟩:=h;refine zq (zl underlying3 hc7) (zH H5 ?_);obtain ⟨hi,h⟩:=h;refine zq (zS hi) ?_;obtain ⟨hx3,h⟩:=h;refine zq (zi underlying152 yaj hx3) ?_;obtain ⟨hw,h⟩:=h;refine zo (zt (ii (x4-x3)) yaj hw ?_);intro w3 ew;replace h:=h w3 ew;clear ew;refine zb (yaa (yah (zr ?_)));obtain ⟨hi2,h⟩:=h;refine zq (ybS H31 rfl hi2) (zM (ii (i+1)) (yaa ?_));obtain ⟨mq,hlt,h⟩:=h;exact ag mq _ _ _ ⟨_,h,rfl,H0,H5,H30,rfl⟩ hlt
    · replace h:=h.2 hp2;refine zd hp2 (yax rfl (yaf (yaf ?_)));obtain ⟨J2,hJ,h⟩:=h;refine yc1 (fun E ds w'=>J2 w'∧ds=[]∧E 0=(Value.pointer (some pd))) ?_ ?_
      · rintro E ds w4 ⟨h,rfl,H0⟩;replace h:=hJ w4 h;refine yaf (yaT [0,1,2,3,4,5,6,7,8,9,10] st0 yaD (by kernel_rfl) (by kernel_rfl) (zp (yad H0) (zp (ybU rfl) (zp (yan rfl underlying203 rfl ycm) ?_))));obtain ⟨Ax4,lx4,cx4,hc8,h⟩:=h;refine zp (zl underlying43 hc8) (zp (yad H0) (zp (ybU rfl) (zp (yan rfl underlying203 rfl ye8) ?_)));obtain ⟨Ax5,lx5,cx5,hc9,h⟩:=h;exact zp (zl underlying152 hc9) (zp (za (.slice Ax4 lx4 cx4)) (zp (za (.slice Ax5 lx5 cx5)) (zp (za (ii 0)) (yaZ (ybR rfl rfl rfl rfl ⟨_,_,_,_,_,_,_,rfl,h⟩)))))
      clear hJ;intro j;refine yaT [0,1,2,3,4,5,6,7,8,9,10,11,12,13,14,15,16,17,18,19,20,21,22,23] st0 yaD (by kernel_rfl) (by kernel_rfl) (zp (yad H0) (zp (ybU rfl) (zp (yan rfl underlying203 rfl ycm) ?_)));obtain ⟨Ax6,lx6,cx6,hc10,h⟩:=h;refine zp (zl underlying43 hc10) (zp (yad H0) (zp (ybU rfl) (zp (yan rfl underlying203 rfl yao) (zp (yan rfl underlying24 rfl yaj) ?_))));obtain ⟨x5,hc11,h⟩:=h;refine zp (zl underlying3 hc11) (rp_n rfl rfl rfl rfl (yam rfl (am2 rfl rfl) yiX (h.mono ?_)));rintro _ w5 ⟨r2,rfl,h⟩;refine ⟨_,rfl,Stb.none _,?_⟩;refine zp zN (zp (zm (.bool (!(decide (r2=0))))) ?_);by_cases hp3:r2=0
      · replace h:=h.1 hp3;refine rp_q (yae rfl (yac rfl (zC (zB (decide_eq_true hp3))))) rfl rfl (yad H0) (rp_q (yae rfl (yac rfl (zC (zB (decide_eq_true hp3))))) rfl rfl (ybU rfl) (rp_q (yae rfl (yac rfl (zC (zB (decide_eq_true hp3))))) rfl rfl (yan rfl underlying203 rfl ye8) ?_));obtain ⟨Ax7,lx7,cx7,hc12,h⟩:=h;refine rp_q (yae rfl (yac rfl (zC (zB (decide_eq_true hp3))))) rfl rfl (zl underlying152 hc12) (rp_q (yae rfl (yac rfl (zC (zB (decide_eq_true hp3))))) rfl rfl (yad H0) (rp_q (yae rfl (yac rfl (zC (zB (decide_eq_true hp3))))) rfl rfl (ybU rfl) (rp_q (yae rfl (yac rfl (zC (zB (decide_eq_true hp3))))) rfl rfl (yan rfl underlying203 rfl yao) (rp_q (yae rfl (yac rfl (zC (zB (decide_eq_true hp3))))) rfl rfl (yan rfl underlying24 rfl yaj) ?_))));obtain ⟨x6,hc13,h⟩:=h;refine rp_q (yae rfl (yac rfl (zC (zB (decide_eq_true hp3))))) rfl rfl (zl underlying3 hc13) (rp_n (yae rfl (yac rfl (zC (zB (decide_eq_true hp3))))) rfl rfl rfl (yam rfl (am2 rfl rfl) yiX (h.mono ?_)));rintro _ w6 ⟨r3,rfl,h⟩;refine ⟨_,rfl,Stb.none _,?_⟩;refine rp_q (yae rfl (yac rfl (zC (zB (decide_eq_true hp3))))) rfl rfl zN (zp (yal (v:=(.bool (!(decide (r3=0))))) (zC (zB (decide_eq_true hp3))) rfl) (yaZ ?_));by_cases hp4:r3=0
        · replace h:=h.1 hp4;exact ze hp4 (yag (j _ _ _ ⟨h,rfl,H0⟩))
        · replace h:=h.2 hp4;exact zf hp4 (zs (zQ (.slice none 0 0) (zQ (.slice none 0 0) (zQ (ii 11) (yaa (ybR rfl rfl rfl rfl ⟨_,_,_,_,_,_,_,rfl,h⟩))))))
      · replace h:=h.2 hp3;exact rp_p (yab rfl (yac rfl (zC (zB (decide_eq_false hp3)))) rfl) rfl (rp_p (yab rfl (yac rfl (zC (zB (decide_eq_false hp3)))) rfl) rfl (rp_p (yab rfl (yac rfl (zC (zB (decide_eq_false hp3)))) rfl) rfl (rp_p (yab rfl (yac rfl (zC (zB (decide_eq_false hp3)))) rfl) rfl (rp_p (yab rfl (yac rfl (zC (zB (decide_eq_false hp3)))) rfl) rfl (rp_p (yab rfl (yac rfl (zC (zB (decide_eq_false hp3)))) rfl) rfl (rp_p (yab rfl (yac rfl (zC (zB (decide_eq_false hp3)))) rfl) rfl (rp_p (yab rfl (yac rfl (zC (zB (decide_eq_false hp3)))) rfl) rfl (rp_p (yab rfl (yac rfl (zC (zB (decide_eq_false hp3)))) rfl) rfl (rp_p (yab rfl (yac rfl (zC (zB (decide_eq_false hp3)))) rfl) rfl (rp_p (yab rfl (yac rfl (zC (zB (decide_eq_false hp3)))) rfl) rfl (zp (yas (v:=(.bool (true))) (zC (zB (decide_eq_false hp3))) rfl) (yaZ (yar rfl (zs (zQ (.slice none 0 0) (zQ (.slice none 0 0) (zQ (ii 11) (yaa (ybR rfl rfl rfl rfl ⟨_,_,_,_,_,_,_,rfl,h⟩)))))))))))))))))))
  · replace h:=h.2 hp;refine zf hp (yaf (yaT [0,1,2,3,4,5,6] st0 yaD (by kernel_rfl) (by kernel_rfl) (zp (zm (.pointer (some pd))) (zp (ybU rfl) (zp (yan rfl underlying203 rfl yfv) ?_)))));obtain ⟨x7,hc14,h⟩:=h;exact zp (zl underlying30 hc14) (zp (za (.slice none 0 0)) (zp (za (.slice none 0 0)) (zp (za (ii x7)) (yaZ (ybR rfl rfl rfl rfl ⟨_,_,_,_,_,_,_,rfl,h⟩)))))
def ycx(u:Int)(cap:Addr)(w:World)(R:Bool→World→Prop):Prop :=
(∃ Ax:Option Addr,∃ lx:Nat,∃ cx:Nat,w.cell? cap=some (Value.slice Ax lx cx) ∧
(Ix Ax lx u ∧
(∃ x:Bool,w.cell? (ixA Ax u 1)=some (Value.bool (x)) ∧
R x w)))
theorem ygb(u:Int)(cap:Addr)(w:World)(R:Bool→World→Prop)(h:ycx u cap w R) :
    Calls Tryz.prog 178 #[ii u,(.pointer (some cap))] w fun e w'=>∃ r,e = .returned (.bool (r))∧R r w':=by
  unfold ycx at h;refine yap (l:=[ii u,(.pointer (some cap))]) func178 rfl ntmps178 zY (zs (zQ (.bool (false)) (yaa (zs ?_))));obtain ⟨Ax,lx,cx,hc,h⟩:=h;refine zq (zl underlying160 hc) (zM (ii u) ?_);obtain ⟨hx,h⟩:=h;refine zq (zi underlying160 ydi hx) ?_;obtain ⟨x,hc2,h⟩:=h;exact zq (zl underlying4 hc2) (zQ (.bool (x)) (yaa (yak rfl rfl ⟨_,rfl,h⟩)))
def yb8(u:Int)(cap:Addr)(w:World)(R:Bool→World→Prop):Prop :=
(∃ Ax:Option Addr,∃ lx:Nat,∃ cx:Nat,w.cell? cap=some (Value.slice Ax lx cx) ∧
(Ix Ax lx u ∧
(∃ x:Bool,w.cell? (ixA Ax u 1)=some (Value.bool (x)) ∧
R (!(x)) w)))
theorem yfr(u:Int)(cap:Addr)(w:World)(R:Bool→World→Prop)(h:yb8 u cap w R) :
    Calls Tryz.prog 180 #[ii u,(.pointer (some cap))] w fun e w'=>∃ r,e = .returned (.bool (r))∧R r w':=by
  unfold yb8 at h;refine yap (l:=[ii u,(.pointer (some cap))]) func180 rfl ntmps180 zY (zs (zQ (.bool (false)) (yaa (zs ?_))));obtain ⟨Ax,lx,cx,hc,h⟩:=h;refine zq (zl underlying160 hc) (zM (ii u) ?_);obtain ⟨hx,h⟩:=h;refine zq (zi underlying160 ydi hx) ?_;obtain ⟨x,hc2,h⟩:=h;exact zq (zl underlying4 hc2) (zq (ycX rfl) (zQ (.bool (!(x))) (yaa (yak rfl rfl ⟨_,rfl,h⟩))))
def yc5(g:Int)(Ag:Option Addr)(lg:Nat)(cg:Nat)(q:Int)(Ad:Option Addr)(ld:Nat)(cd:Nat)(w:World)(R:Option Addr→Nat→Nat→Option Addr→Nat→Nat→Int→World→Prop):Prop :=
(∀ (g2:Nat) (w2:World),New w g2 w2 #[(Value.int .i64 g),(Value.slice Ag lg cg)] 24 →
(Calls Tryz.prog 162 #[(Value.agg #[(Value.int .i64 g),(Value.slice Ag lg cg)]),(Value.int .i64 q),(Value.slice Ad ld cd)] w2 fun e w3=>∃ r2:Int,e = .returned (Value.int .i64 r2) ∧
Kp w2 w3 g2 ∧
((r2=0 →
(Calls Tryz.prog 163 #[(Value.agg #[(Value.int .i64 g),(Value.slice Ag lg cg)]),(Value.int .i64 q),(Value.slice Ad ld cd)] w3 fun e w4=>∃ pr:Addr,e = .returned (Value.pointer (some pr)) ∧
Kp w3 w4 g2 ∧
(Calls Tryz.prog 164 #[(Value.pointer (some pr))] w4 fun e w5=>e = .returned (Value.tuple #[]) ∧
Kp w4 w5 g2 ∧
(Calls Tryz.prog 165 #[(Value.pointer (some pr))] w5 fun e w6=>e = .returned (Value.tuple #[]) ∧
Kp w5 w6 g2 ∧
(Calls Tryz.prog 166 #[(Value.pointer (some pr))] w6 fun e w7=>∃ Ar3:Option Addr,∃ lr3:Nat,∃ cr3:Nat,∃ Ar4:Option Addr,∃ lr4:Nat,∃ cr4:Nat,∃ r3:Int,e = .returned (Value.tuple #[(Value.slice Ar3 lr3 cr3),(Value.slice Ar4 lr4 cr4),(Value.int .i64 r3)]) ∧
Kp w6 w7 g2 ∧
R Ar3 lr3 cr3 Ar4 lr4 cr4 r3 w7))))) ∧
(¬(r2=0) →
R none 0 0 none 0 0 r2 w3))))
theorem yfQ(g:Int)(Ag:Option Addr)(lg:Nat)(cg:Nat)(q:Int)(Ad:Option Addr)(ld:Nat)(cd:Nat)(w:World)(R:Option Addr→Nat→Nat→Option Addr→Nat→Nat→Int→World→Prop)(h:yc5 g Ag lg cg q Ad ld cd w R) :
    Calls Tryz.prog 153 #[(.agg #[ii g,.slice Ag lg cg]),ii q,.slice Ad ld cd] w fun e w'=>∃ Ar lr cr Ar2 lr2 cr2 r,e = .returned (.tuple #[.slice Ar lr cr,.slice Ar2 lr2 cr2,ii r])∧R Ar lr cr Ar2 lr2 cr2 r w':=by
  unfold yc5 at h;refine yap (l:=[(.agg #[ii g,.slice Ag lg cg]),ii q,.slice Ad ld cd]) func153 rfl ntmps153 zY (zs (zn (ya8 (v:=(.agg #[ii g,.slice Ag lg cg])) rfl ?_)));intro g2 w2 hN;replace h:=h g2 w2 hN;have rB:Row w2 g2 24 2 [ii g,.slice Ag lg cg]:=hN.row;clear hN;refine zb (zQ (.slice none 0 0) (zQ (.slice none 0 0) (zQ (ii 0) (yaa (yaf (zs (zq (yaq (vs:=[ii g,.slice Ag lg cg]) rfl underlying24 rfl yao ⟨Row.cell rB (i:=0) rfl,Row.cell rB (i:=1) rfl,trivial⟩) (zM (ii q) (zM (.slice Ad ld cd) (zn (yam rfl (am3 rfl rfl rfl) enter_162 (h.mono ?_))))))))))));rintro _ w3 ⟨r2,rfl,hk,h⟩;replace rB:=rB.kp hk;refine ⟨_,rfl,Stb.none _,?_⟩;refine zQ (ii r2) (yaa (zs (zM (ii r2) (zq zN (yaa ?_)))));by_cases hp:r2=0
  · replace h:=h.1 hp;refine ze hp (yag (zs (zq (yaq (vs:=[ii g,.slice Ag lg cg]) rfl underlying24 rfl yao ⟨Row.cell rB (i:=0) rfl,Row.cell rB (i:=1) rfl,trivial⟩) (zM (ii q) (zM (.slice Ad ld cd) (zn (yam rfl (am3 rfl rfl rfl) enter_163 (h.mono ?_))))))));rintro _ w4 ⟨pr,rfl,hk2,h⟩;replace rB:=rB.kp hk2;refine ⟨_,rfl,Stb.none _,?_⟩;refine zQ (.pointer (some pr)) (yaa (zs (zM (.pointer (some pr)) (zn (yam rfl (am1 rfl) enter_164 (h.mono ?_))))));rintro _ w5 ⟨rfl,hk3,h⟩;replace rB:=rB.kp hk3;refine ⟨_,rfl,Stb.none _,?_⟩;refine yaa (zs (zM (.pointer (some pr)) (zn (yam rfl (am1 rfl) enter_165 (h.mono ?_)))));rintro _ w6 ⟨rfl,hk4,h⟩;replace rB:=rB.kp hk4;refine ⟨_,rfl,Stb.none _,?_⟩;refine yaa (zs (zM (.pointer (some pr)) (zn (yam rfl (am1 rfl) enter_166 (h.mono ?_)))));rintro _ w7 ⟨Ar3,lr3,cr3,Ar4,lr4,cr4,r3,rfl,hk5,h⟩;replace rB:=rB.kp hk5;refine ⟨_,rfl,Stb.none _,?_⟩;exact zq (zx (.slice Ar3 lr3 cr3)) (zq (zx (.slice Ar4 lr4 cr4)) (zq (zx (ii r3)) (zQ (.slice Ar3 lr3 cr3) (zQ (.slice Ar4 lr4 cr4) (zQ (ii r3) (yaa (ybR rfl rfl rfl rfl ⟨_,_,_,_,_,_,_,rfl,h⟩)))))))
  · replace h:=h.2 hp;exact zf hp (zs (zM (ii r2) (zQ (.slice none 0 0) (zQ (.slice none 0 0) (zQ (ii r2) (yaa (ybR rfl rfl rfl rfl ⟨_,_,_,_,_,_,_,rfl,h⟩)))))))
def yfq(Ax:Option Addr)(lx:Nat)(cx:Nat)(w:World)(R:Int→World→Prop):Prop :=
(∃ J2:World→Prop,(∀ (w2:World),J2 w2→(Ix Ax lx 0 ∧
(∃ x:Int,w2.cell? (ixA Ax 0 1)=some (Value.int .i64 x) ∧
(∃ I2:Nat→Int→Int→World→Prop,(∃ m0,I2 m0 x 1 w2)∧∀ m1 m2 i w3,I2 m1 m2 i w3 → 
((i<((lx:Nat):Int) →
(Ix Ax lx i ∧
(∃ x2:Int,w3.cell? (ixA Ax i 1)=some (Value.int .i64 x2) ∧
(In64 (i+1) ∧
∃ m3,m3<m1∧I2 m3 (mxF m2 x2) (i+1) w3)))) ∧
(¬(i<((lx:Nat):Int)) →
R m2 w3)))))) ∧
((((lx:Nat):Int)<1 →
False) ∧
(¬(((lx:Nat):Int)<1) →
J2 w)))
theorem ok_slices_Max_ (Ax:Option Addr)(lx:Nat)(cx:Nat)(w:World)(R:Int→World→Prop)(h:yfq Ax lx cx w R) :
    Calls Tryz.prog 176 #[.slice Ax lx cx] w fun e w'=>∃ r,e = .returned (ii r)∧R r w':=by
  unfold yfq at h;refine yap (l:=[.slice Ax lx cx]) func176 rfl ntmps176 zY (zs (zQ (ii 0) (yaa (yaf (zs (zM (.slice Ax lx cx) (zq (yiB rfl underlying29) (zq zL (yaa ?_)))))))));obtain ⟨J2,hJ,h⟩:=h;refine yi2 (fun E ds w'=>J2 w'∧ds=[]∧E 0=(Value.slice Ax lx cx)) ?_ ?_
  · rintro E ds w2 ⟨h,rfl,H0⟩;replace h:=hJ w2 h;refine zs (zH H0 ?_);obtain ⟨hx,h⟩:=h;refine zq (zi underlying29 yaj hx) ?_;obtain ⟨x,hc,h⟩:=h;refine zq (zl underlying3 hc) (zQ (ii x) (yaa (yaf (zs (zQ (ii 1) (yaa (yai ?_)))))));obtain ⟨I2,⟨m0,h0⟩,hr⟩:=h;refine yaz (fun m E ds w'=>∃ m2 i,I2 m m2 i w'∧ds=[]∧E 0 = .slice Ax lx cx∧E 3=(ii m2)∧E 4=(ii i)) m0 ⟨_,_,h0,rfl,H0,rfl,rfl⟩ ?_;clear h0;rintro m1 E ds w3 ⟨m2,i,h,rfl,H0,H3,H4⟩ ag;replace h:=hr m1 m2 i w3 h;clear hr;refine yaf (zs (zH H4 (zH H0 (zq (yiB rfl underlying29) (zq zL (yaa ?_))))));by_cases hp:i<((lx:Nat):Int)
    · replace h:=h.1 hp;refine zc hp (yag (yaf (yai (zr (zH H3 (zH H0 (zH H4 ?_)))))));obtain ⟨hx2,h⟩:=h;refine zq (zi underlying29 yaj hx2) ?_;obtain ⟨x2,hc2,h⟩:=h;refine zq (zl underlying3 hc2) (zq (v_max2 rfl rfl) (zQ (ii (mxF m2 x2)) (yaa (yah (zr (zH H4 ?_))))));obtain ⟨hi,h⟩:=h;refine zq (zA hi) (zQ (ii (i+1)) (yaa ?_));obtain ⟨mq,hlt,h⟩:=h;exact ag mq _ _ _ ⟨_,_,h,rfl,H0,rfl,rfl⟩ hlt
    · replace h:=h.2 hp;exact zd hp (yax rfl (zs (zH H3 (zQ (ii m2) (yaa (yak rfl rfl ⟨_,rfl,h⟩))))))
  clear hJ;intro j;by_cases hp2:((lx:Nat):Int)<1
  · replace h:=h.1 hp2;exact zc hp2 (zr h.elim)
  · replace h:=h.2 hp2;exact zd hp2 (yag (j _ _ _ ⟨h,rfl,rfl⟩))
end Go.Proofs.YtadpnlimiblniaaGreat
