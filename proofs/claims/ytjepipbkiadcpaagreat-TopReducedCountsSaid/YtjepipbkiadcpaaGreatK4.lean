/- Texts laid together: ItE, Tab, Rec, Dr, Ot, Alt, Opn, Opn2. -/
import Derived.Test.YtjepipbkiadcpaaGreatRows
import Derived.ProofKit
import Derived.Lib.SmallJoins
import Derived.Deep.Slices
import Derived.Below
import Derived.OpenShut
import Derived.Test.YtjepipbkiadcpaaGreatK3
set_option linter.unusedVariables false
set_option linter.unusedSimpArgs false
set_option linter.unusedSectionVars false
/- Iterators that give what they were lent back at their end. No program in sight. -/
namespace Go.Proofs.YtjepipbkiadcpaaGreat
open Go Go.RowKit Go.Shelf Go.Proofs.Tryz
def yhQ(P:Program)(gf:FuncId)(lb:Array Value){α:Type}(enc:α→Array Value)(pass:α→FP)(Pr:List α→Prop)(R:List α→List Res→Prop)(T0 G0:BS)(w:World):Prop :=
  ∀ (l:Nat) (J Jx:BS→BS→List α→World→Prop) (T1:BS) (w1:World),Sess P l enc pass Pr J Jx→J T1 G0 [] w1→Pure w w1→(∀ k,T1 k→T0 k∨w.heap.size≤k) →
    CallsIn Fence.wide 2 P gf (#[.func (.yield l) #[] #[]]++lb) w1 fun e w'=>(∃ v,e = .returned v)∧((∃ xs T LL,R xs LL∧J T (OwnB (rl LL)) xs w'∧Sep w' (OwnB (rl LL)) T w' (rl LL))∨∃ pre T G,Jx T G pre w')
theorem rl_app:∀ (A B:List Res) (i:Nat),rl (A++B) i=if i<A.length then rl A i else rl B (i-A.length)
  | [],B,i=>by simp
  | x::A,B,0=>by simp;rfl
  | x::A,B,i+1=>by
    have h:=rl_app A B i
    have e1:rl (x::A++B) (i+1)=rl (A++B) i:=rfl
    have e2:rl (x::A) (i+1)=rl A i:=rfl
    rw [e1,e2,h]
    simp
theorem rl_has{A B:List Res}{i k:Nat}(h:(rl (A++B) i).has k):(rl A i).has k∨(rl B (i-A.length)).has k∧A.length≤i:=by
  rw [rl_app] at h
  by_cases e:i<A.length
  · rw [if_pos e] at h;exact .inl h
  · rw [if_neg e] at h;exact .inr ⟨h,by omega⟩
theorem Two.join{w0 W:World}{S O:BS}{LL LG:List Res}{l D:Nat}(h:Two w0 S O (fun k=>OwnB (rl LG) k∨k=l∨k=D) W (rl LL))(hs:Sep W (OwnB (rl LG)) (fun k=>Bl O (rl LL) k∨k=l∨k=D) W (rl LG))(hd:W.heap[D]? = some (.deferred (some []))) :
    Sep w0 S O W (rl (LL++(LG++[dfr D]))):=by
  have hG:∀ i k,(rl (LG++[dfr D]) i).has k→(∃ j,(rl LG j).has k∧i<LG.length∧j=i)∨(k=D∧i=LG.length):=fun i k hk=>by
    rw [yf0] at hk
    by_cases e:i=LG.length
    · subst e;rw [yaF] at hk;cases hk;exact .inr ⟨rfl,rfl⟩
    · rw [yas _ _ e] at hk
      refine .inl ⟨i,hk,?_,rfl⟩
      rcases Nat.lt_or_ge i LG.length with q | q
      · exact q
      · exfalso
        have:rl LG i = .gone:=by
          have:=rl_app LG [] i
          rw [List.append_nil,if_neg (by omega)] at this
          rw [this];rfl
        rw [this] at hk;cases hk
  have hG2:∀ i k,(rl (LG++[dfr D]) i).has k→OwnB (rl LG) k∨k=l∨k=D:=fun i k hk=>by
    rcases hG i k hk with ⟨j,q,_⟩ | ⟨q,_⟩
    · exact .inl ⟨j,q⟩
    · exact .inr (.inr q)
  refine ⟨h.pure,h.lt,fun i=>?_,fun i k hk=>?_,fun a b k ha hb=>?_⟩
  · rw [rl_app]
    by_cases e:i<LL.length
    · rw [if_pos e]
      refine (h.ok i).sub fun k _ hk=>?_
      rcases hk with q | ⟨j,q⟩
      · exact .inl (.inl q)
      · rcases rl_has q with q | ⟨q,_⟩
        · exact .inr ⟨j,q⟩
        · exact .inl (.inr (hG2 _ k q))
    · rw [if_neg e,yf0]
      by_cases e2:i-LL.length=LG.length
      · rw [e2,yaF];exact ⟨Nat.zero_le _,hd⟩
      · rw [yas _ _ e2]
        refine (hs.ok _).sub fun k _ hk=>?_
        rcases hk with q | ⟨j,q⟩
        · exact .inl (.inl (.inl q))
        · rcases rl_has q with q | ⟨q,_⟩
          · exact .inl (.inl (.inr ⟨j,q⟩))
          · rcases hG _ k q with ⟨j2,q2,_⟩ | ⟨q2,_⟩
            · exact .inr ⟨j2,q2⟩
            · exact .inl (.inr (.inr q2))
  · rcases rl_has hk with q | ⟨q,_⟩
    · exact h.bd i k q
    · exact (h.g k (hG2 _ k q)).2.1
  · have cross:∀ a b,(rl LL a).has k→(rl (LG++[dfr D]) b).has k→False:=fun a b ha hb=>(h.g k (hG2 b k hb)).2.2 a ha
    rcases rl_has ha with qa | ⟨qa,la⟩
    · rcases rl_has hb with qb | ⟨qb,lb⟩
      · exact h.nd a b k qa qb
      · exact (cross _ _ qa qb).elim
    · rcases rl_has hb with qb | ⟨qb,lb⟩
      · exact (cross _ _ qb qa).elim
      · rcases hG _ k qa with ⟨j1,r1,l1,e1⟩ | ⟨r1,e1⟩
        · rcases hG _ k qb with ⟨j2,r2,l2,e2⟩ | ⟨r2,e2⟩
          · have:=hs.nd j1 j2 k r1 r2;omega
          · exact ((hs.lt k (.inr (.inr r2))).2 ⟨j1,r1⟩).elim
        · rcases hG _ k qb with ⟨j2,r2,l2,e2⟩ | ⟨r2,e2⟩
          · exact ((hs.lt k (.inr (.inr r1))).2 ⟨j2,r2⟩).elim
          · omega
theorem wpIn_iterE{P:Program}{N:Nat}{Q:Exit→Act→World→Prop}{E:Env}{ds:List Deferred}{w:World}{t:List Item}{fo:Operand}{ps:Array Tmp}{assign body:Code}{gf:FuncId}{lb:Array Value}{a:Act}
    (hr:a.eval fo = .func (.func gf) #[] lb) (he:Enters P gf) {α:Type} {enc:α→Array Value} {pass:α→FP} {Pr:List α→Prop} {R:List α→List Res→Prop} (hps:∀ x,(enc x).size=ps.size)
    (T0 G0:BS) (I:BS→BS→List α→World→Prop) (Ix:Option Nat→BS→BS→List α→World→Prop) (hI:yeX I) (hI2:yeZ I) (hIx:∀ c,yeX (Ix c)) (hIx2:∀ c,yeZ (Ix c)) (h0:I T0 G0 [] w)
    (hgen:yhQ P gf lb enc pass Pr R T0 G0 w)
    (hround:∀ (l:Nat) (T G:BS) (pre:List α) (x:α) (W:World) (rdy busy:Obj),I T G pre W→Pr (pre++[x])→(pass x).P (fun k=>T k∨G k) W→G l→W.heap[l]? = some rdy →
      assign.wpIn (Fence.wide.inRound l) 1 P (Exit.then (fun a1 W1=>W1.heap[l]? = some rdy∧∀ W2,W2=W1.putObj l busy→body.wpIn (Fence.wide.inRound l) 1 P (rndPost l busy I Ix T G (pre++[x]) W) a1 W2) (fun _ _ _=>False))
        { tmps:=(ps.zip (enc x)).foldl (fun t (p,v)=>t.setIfInBounds p v) a.tmps,defers:=[] } W)
    (hdone:∀ (D l:Nat) (T:BS) (LL:List Res) (xs:List α) (W:World),w.heap.size≤D→l=D+1→¬T D→R xs LL→I T (fun k=>OwnB (rl LL) k∨k=l∨k=D) xs W→Sep W (OwnB (rl LL)) (fun k=>T k∨k=l∨k=D) W (rl LL)→W.heap[D]? = some (.deferred (some []))→Q .normal { a with defers:={ target := .collected D,args:=#[] }::a.defers } W)
    (hstop:∀ (D:Nat) (T G:BS) (c:Option Nat) (xs:List α) (W:World),w.heap.size≤D→¬T D→G D→Ix c T G xs W→W.heap[D]? = some (.deferred (some []))→(yhx c).wpIn Fence.wide 3 P Q { a with defers:={ target := .collected D,args:=#[] }::a.defers } W) :
    (Code.rangeFunc fo ps assign body).wpIn Fence.wide 3 P Q a w:=by
  refine wpIn_rangeFunc ?_
  intro fn hfn
  obtain ⟨D,hD⟩:∃ D,D=w.heap.size:=⟨_,rfl⟩
  obtain ⟨L,hL⟩:∃ L,L=w.heap.size+1:=⟨_,rfl⟩
  obtain ⟨rec,hrec⟩:∃ rec:LoopState→Option Code→Loop,rec=fun st pe=>{ state:=st,pending:=pe,fn,tmps:=a.tmps,params:=ps,assign,body,defers:=w.heap.size }:=⟨_,rfl⟩
  obtain ⟨W1,hW1⟩:∃ W1,(w.alloc (.deferred (some []))).alloc (.loop (rec .ready none))=W1:=⟨_,rfl⟩
  have hL1:W1.heap[L]? = some (.loop (rec .ready none)):=by
    rw [←hW1,hL];have:=World.alloc_heap_new (w.alloc (.deferred (some []))) (.loop (rec .ready none));rwa [World.size_alloc] at this
  have hK1:W1.heap[D]? = some (.deferred (some [])):=by
    rw [←hW1,hD];exact (Below.heap_alloc _ _ _ (by simp)).trans (World.alloc_heap_new w _)
  have hP1:Pure w W1:=by rw [←hW1];exact ((Keeps.refl _ _).alloc _).alloc _
  have hs1:W1.heap.size=w.heap.size+2:=by rw [←hW1];simp
  have two0:=hI2 h0
  refine ⟨L,[{ target := .collected D,args:=#[] }],W1,{ target := .fn (.func gf) lb,args:=#[.func (.yield L) #[] #[]] },W1,gf,#[.func (.yield L) #[] #[]]++lb,W1,?_,?_,fun _ _=>trivial,?_,fun h=>(by cases h),?_⟩
  · rw [←hW1,hrec,hL,hD];exact run_enterLoop_outer _ _ _ _ _
  · simp only [resolve,hr]
    simp [go_sem]
  · simp [invoke,go_sem,he _ _]
  · have key:=hgen L
      (fun Tg G pre W=>∃ T,(∀ k,Tg k↔T k∨k=L∨k=D)∧I T (fun k=>G k∨k=L∨k=D) pre W∧W.heap[L]? = some (.loop (rec .ready none))∧W.heap[D]? = some (.deferred (some []))∧¬G L∧¬G D∧¬T D)
      (fun Tg G pre W=>∃ T c,(∀ k,Tg k↔T k∨k=L∨k=D)∧Ix c T (fun k=>G k∨k=L∨k=D) pre W∧W.heap[L]? = some (.loop (rec .done (some (yhx c))))∧W.heap[D]? = some (.deferred (some []))∧¬G L∧¬G D∧¬T D)
      (fun k=>T0 k∨k=L∨k=D) W1 ⟨?_,?_,?_,?_,?_⟩ ⟨T0,fun _=>Iff.rfl,?_,hL1,hK1,?_,?_,?_⟩ hP1 (fun k hk=>?_)
    · refine (show CallsIn Fence.wide (3-1) P gf _ W1 _ from key).mono ?_
      rintro e W2 ⟨⟨v,rfl⟩,(⟨xs,Tg,LG,hR,⟨T,hT,hi,hl,hd,g1,g2,g3⟩,hSg⟩ | ⟨pre,Tg,G,T,c,hT,hi,hl,hd,g1,g2,g3⟩)⟩
      · refine ⟨none,W2.putObj L (.loop { rec .ready none with state := .exhausted }),by have:=run_endLoop (P:=P) hl (by rw [hrec];simp);rw [hrec] at this ⊢;exact this,?_⟩
        have hLl:L<W2.heap.size:=(Array.getElem?_eq_some_iff.1 hl).1
        have hlt:=(hI2 hi).2
        have hTe:Tg=fun k=>T k∨k=L∨k=D:=funext fun k=>propext (hT k)
        subst hTe
        exact hdone D L T LG xs _ (by omega) (by omega) g3 hR (hI hi ((yca _ _ _).mono fun k _ e => .inr (.inl e)) (fun k h => .inl h) (fun k h=>by rw [ybz];exact hlt k h)) (hSg.yielded ⟨(yca _ _ _).mono fun k _ e => .inr (.inl e),fun k h => .inl h,fun k h=>by rw [ybz];exact (hSg.lt k h).1⟩) ((World.putObj_heap_other (by omega)).trans hd)
      · refine ⟨some (yhx c),W2.putObj L (.loop { rec .done (some (yhx c)) with state := .exhausted }),by have:=run_endLoop (P:=P) hl (by rw [hrec];simp);rw [hrec] at this ⊢;exact this,?_⟩
        have hlt:=(hIx2 c hi).2
        exact hstop D T _ c pre _ (by omega) g3 (.inr (.inr rfl)) (hIx c hi ((yca _ _ _).mono fun k _ e => .inr (.inl e)) (fun k h => .inl h) (fun k h=>by rw [ybz];exact hlt k h)) ((World.putObj_heap_other (by omega)).trans hd)
    · -- the generator's steps
      rintro Tg G G' pre W W' ⟨T,hT,hi,hl,hd,g1,g2,g3⟩ hK hG hGl
      have lL:=(Array.getElem?_eq_some_iff.1 hl).1
      have lD:=(Array.getElem?_eq_some_iff.1 hd).1
      refine ⟨T,hT,hI hi (hK.mono fun k _ h => .inl h) (fun k h=>?_) (fun k h=>?_),(hK.block L lL g1).trans hl,(hK.block D lD g2).trans hd,fun h=>?_,fun h=>?_,g3⟩
      · rcases h with h | h
        · rcases hG k h with q | q
          · exact .inl (.inl q)
          · exact .inr q
        · exact .inl (.inr h)
      · rcases h with h | h | h
        · exact hGl k h
        · rw [h];exact Nat.lt_of_lt_of_le lL hK.size
        · rw [h];exact Nat.lt_of_lt_of_le lD hK.size
      · rcases hG L h with q | q
        · exact g1 q
        · omega
      · rcases hG D h with q | q
        · exact g2 q
        · omega
    · rintro Tg G G' pre W W' ⟨T,c,hT,hi,hl,hd,g1,g2,g3⟩ hK hG hGl
      have lL:=(Array.getElem?_eq_some_iff.1 hl).1
      have lD:=(Array.getElem?_eq_some_iff.1 hd).1
      refine ⟨T,c,hT,hIx c hi (hK.mono fun k _ h => .inl h) (fun k h=>?_) (fun k h=>?_),(hK.block L lL g1).trans hl,(hK.block D lD g2).trans hd,fun h=>?_,fun h=>?_,g3⟩
      · rcases h with h | h
        · rcases hG k h with q | q
          · exact .inl (.inl q)
          · exact .inr q
        · exact .inl (.inr h)
      · rcases h with h | h | h
        · exact hGl k h
        · rw [h];exact Nat.lt_of_lt_of_le lL hK.size
        · rw [h];exact Nat.lt_of_lt_of_le lD hK.size
      · rcases hG L h with q | q
        · exact g1 q
        · omega
      · rcases hG D h with q | q
        · exact g2 q
        · omega
    · rintro Tg G pre W ⟨T,hT,hi,hl,hd,g1,g2,g3⟩
      have lL:=(Array.getElem?_eq_some_iff.1 hl).1
      refine ⟨fun k hk=>?_,fun k hk=>(hI2 hi).2 k (.inl hk)⟩
      rcases (hT k).1 hk with q | q
      · exact ⟨fun hg=>((hI2 hi).1 k q).1 (.inl hg),((hI2 hi).1 k q).2⟩
      · rcases q with q | q
        · rw [q];exact ⟨g1,lL⟩
        · rw [q];exact ⟨g2,(Array.getElem?_eq_some_iff.1 hd).1⟩
    · rintro Tg G pre W ⟨T,c,hT,hi,hl,hd,g1,g2,g3⟩
      have lL:=(Array.getElem?_eq_some_iff.1 hl).1
      refine ⟨fun k hk=>?_,fun k hk=>(hIx2 c hi).2 k (.inl hk)⟩
      rcases (hT k).1 hk with q | q
      · exact ⟨fun hg=>((hIx2 c hi).1 k q).1 (.inl hg),((hIx2 c hi).1 k q).2⟩
      · rcases q with q | q
        · rw [q];exact ⟨g1,lL⟩
        · rw [q];exact ⟨g2,(Array.getElem?_eq_some_iff.1 hd).1⟩
    · -- one round
      rintro Tg G pre x W ⟨T,hT,hi,hl,hd,g1,g2,g3⟩ hPr hpass
      have lL:=(Array.getElem?_eq_some_iff.1 hl).1
      have lD:=(Array.getElem?_eq_some_iff.1 hd).1
      have hy:=run_yield (P:=P) (args:=enc x) hl (by rw [hrec];exact hps x)
      rw [hrec] at hy
      have hp2:(pass x).P (fun k=>T k∨(G k∨k=L∨k=D)) W:=(pass x).sub hpass (fun k _ h=>by
        rcases h with h | h | h
        · exact .inl ((hT k).2 (.inl h))
        · exact .inr h
        · exact .inl ((hT k).2 (.inr h)))
      refine ⟨fn,_,assign,body,hy,roundIn_of_wpIn hfn (wpIn_mono (hround L T _ pre x W _ (.loop { rec .ready none with state := .busy }) hi hPr hp2 (.inr (.inl rfl)) hl) ?_)⟩
      rintro e1 a1 V1 hq
      cases e1 with
      | exit id=>exact hq.elim
      | ret=>exact hq.elim
      | goto l=>exact hq.elim
      | panic c=>exact hq.elim
      | outgrown=>exact hq.elim
      | normal =>
      obtain ⟨hl1,hb1⟩:=hq
      refine ⟨_,run_beginRound hl1 (by rw [hrec]),wpIn_mono (hb1 _ rfl) ?_⟩
      have fin:∀ (T':BS) (jump:Option Code) (W3:World),RL1 L (.loop { rec .ready none with state := .busy }) T W T' W3 →
          (Instr.endRound L jump).run P W3 = .ok (.bool jump.isNone) (W3.putObj L (.loop (rec (if jump.isNone then .ready else .done) jump))) ∧
          (W3.putObj L (.loop (rec (if jump.isNone then .ready else .done) jump))).heap[L]? = some (.loop (rec (if jump.isNone then .ready else .done) jump)) ∧
          (W3.putObj L (.loop (rec (if jump.isNone then .ready else .done) jump))).heap[D]? = some (.deferred (some [])) ∧
          RK Tg W (fun k=>T' k∨k=L∨k=D) (W3.putObj L (.loop (rec (if jump.isNone then .ready else .done) jump)))∧Keeps (fun k=>k=L) W3 (W3.putObj L (.loop (rec (if jump.isNone then .ready else .done) jump)))∧L<W3.heap.size∧¬T' D:=fun T' jump W3 hk3=>by
        have hl3:W3.heap[L]? = some (.loop { rec .ready none with state := .busy }):=hk3.at_
        have hd3:W3.heap[D]? = some (.deferred (some [])):=(hk3.keeps.block D (by omega) (fun h=>h.elim g3 (fun e=>by omega))).trans hd
        have lL3:=(Array.getElem?_eq_some_iff.1 hl3).1
        have hrun:=run_endRound (P:=P) jump hl3
        rw [hrec] at hrun ⊢
        have hkk:=yca W3 L (.loop ((fun st pe=>({ state:=st,pending:=pe,fn,tmps:=a.tmps,params:=ps,assign,body,defers:=w.heap.size } : Loop)) (if jump.isNone then .ready else .done) jump))
        refine ⟨hrun,World.putObj_heap_same lL3,(World.putObj_heap_other (by omega)).trans hd3,⟨(Keeps.refl (fun _=>False) W).trans' hk3.keeps hkk (T:=Tg) (fun k e=>e.elim) (fun k e=>e.elim (fun e=>(hT k).2 (.inl e)) (fun e=>(hT k).2 (.inr (.inl e)))) (fun k e=>(hT k).2 (.inr (.inl e))),fun k h=>?_,fun k h=>?_⟩,hkk,lL3,fun h=>?_⟩
        · rcases h with h | h
          · rcases hk3.sub k h with q | q
            · exact .inl ((hT k).2 (.inl q))
            · exact .inr (by omega)
          · exact .inl ((hT k).2 (.inr h))
        · rw [ybz]
          rcases h with h | h
          · exact hk3.lt k h
          · rcases h with h | h
            · rw [h];exact lL3
            · rw [h];exact (Array.getElem?_eq_some_iff.1 hd3).1
        · rcases hk3.sub D h with q | q
          · exact g3 q
          · omega
      rintro e a3 W3 hp
      cases e with
      | normal =>
        obtain ⟨T',hk3,hi3⟩:=hp
        obtain ⟨hr3,hl4,hd4,hrk,hkk,lL3,hTD⟩:=fin T' none W3 hk3
        exact ⟨_,_,hr3,_,hrk, .inl ⟨rfl,T',fun _=>Iff.rfl,hI hi3 (hkk.mono fun k _ e => .inr (.inl e)) (fun k h => .inl h) (fun k h=>by rw [ybz];exact (hI2 hi3).2 k h),hl4,hd4,g1,g2,hTD⟩⟩
      | ret =>
        obtain ⟨T',hk3,hi3⟩:=hp
        obtain ⟨hr3,hl4,hd4,hrk,hkk,lL3,hTD⟩:=fin T' (some .ret) W3 hk3
        exact ⟨_,_,hr3,_,hrk, .inr ⟨rfl,T',none,fun _=>Iff.rfl,hIx none hi3 (hkk.mono fun k _ e => .inr (.inl e)) (fun k h => .inl h) (fun k h=>by rw [ybz];exact (hIx2 none hi3).2 k h),hl4,hd4,g1,g2,hTD⟩⟩
      | exit id =>
        obtain ⟨T',hk3,hi3⟩:=hp
        obtain ⟨hr3,hl4,hd4,hrk,hkk,lL3,hTD⟩:=fin T' (some (.exit id)) W3 hk3
        exact ⟨_,_,hr3,_,hrk, .inr ⟨rfl,T',some id,fun _=>Iff.rfl,hIx (some id) hi3 (hkk.mono fun k _ e => .inr (.inl e)) (fun k h => .inl h) (fun k h=>by rw [ybz];exact (hIx2 (some id) hi3).2 k h),hl4,hd4,g1,g2,hTD⟩⟩
      | goto t=>exact hp.elim
      | panic ch=>exact hp.elim
      | outgrown=>exact hp.elim
    · have hsz:∀ k,G0 k→k<w.heap.size:=two0.2
      exact hI h0 (G:=G0) (hP1.mono fun k _ h=>h.elim) (fun k h=>h.elim .inl (fun e => .inr (by omega))) (fun k h=>h.elim (fun h=>by have:=hsz k h;omega) (fun e=>by omega))
    · intro h;have:=two0.2 L h;omega
    · intro h;have:=two0.2 D h;omega
    · intro h;have:=(two0.1 D h).2;omega
    · rcases hk with h | h
      · exact .inl h
      · exact .inr (by omega)
theorem wt_iterE{P:Program}{N:Nat}{Q:Exit→Act→World→Prop}{E:Env}{ds:List Deferred}{w:World}{t:List Item}{fo:Operand}{ps:Array Tmp}{assign body:Code}{gf:FuncId}{lb:Array Value}
    (hr:evE E fo = .func (.func gf) #[] lb) (he:Enters P gf) {α:Type} {val:α→Array Value} {pass:α→FP} {Pr:List α→Prop} {R:List α→List Res→Prop} (hps:∀ x,(val x).size=ps.size) (hpN:ps.toList.all (fun p=>Nat.blt p N)=true)
    (T0 G0:BS) (I:BS→BS→List α→World→Prop) (Ix:Option Nat→BS→BS→List α→World→Prop) (hI:yeX I) (hI2:yeZ I) (hIx:∀ c,yeX (Ix c)) (hIx2:∀ c,yeZ (Ix c)) (h0:I T0 G0 [] w)
    (hgen:yhQ P gf lb val pass Pr R T0 G0 w)
    (hround:∀ (l:Nat) (T G:BS) (pre:List α) (x:α) (W:World) (rdy busy:Obj),I T G pre W→Pr (pre++[x])→(pass x).P (fun k=>T k∨G k) W→G l→W.heap[l]? = some rdy →
      WT (Fence.wide.inRound l) 1 P N [.code assign] (fun e a1 W1=>e = .normal∧∃ E1,Rep N E1 [] a1∧W1.heap[l]? = some rdy∧∀ W2,W2=W1.putObj l busy→WT (Fence.wide.inRound l) 1 P N [.code body] (rndPost l busy I Ix T G (pre++[x]) W) E1 [] W2) (setE E (ps.toList.zip (val x).toList)) [] W)
    (hdone:∀ (D l:Nat) (T:BS) (LL:List Res) (xs:List α) (W:World),w.heap.size≤D→l=D+1→¬T D→R xs LL→I T (fun k=>OwnB (rl LL) k∨k=l∨k=D) xs W→Sep W (OwnB (rl LL)) (fun k=>T k∨k=l∨k=D) W (rl LL)→W.heap[D]? = some (.deferred (some []))→WT Fence.wide 3 P N t Q E ({ target := .collected D,args:=#[] }::ds) W)
    (hstop:∀ (D:Nat) (T G:BS) (c:Option Nat) (xs:List α) (W:World),w.heap.size≤D→¬T D→G D→Ix c T G xs W→W.heap[D]? = some (.deferred (some []))→yiC P N t Q E ({ target := .collected D,args:=#[] }::ds) W c) :
    WT Fence.wide 3 P N (.code (.rangeFunc fo ps assign body)::t) Q E ds w:=by
  intro a ra
  let mk:Env→Act:=fun E'=>{ tmps:=Array.ofFn (n:=N) fun i=>E' i,defers:=[] }
  have hmk:∀ E':Env,(∀ t,N≤t→E' t=undef)→Rep N E' [] (mk E'):=by
    intro E' h
    refine ⟨by simp [mk],fun t=>?_,rfl⟩
    simp only [mk,Array.getD_eq_getD_getElem?]
    rcases Nat.lt_or_ge t N with ht | ht
    · simp [ht]
    · simp [ht,h t ht]
  have hun:∀ {E':Env} {ds':List Deferred} {a':Act},Rep N E' ds' a'→∀ t,N≤t→E' t=undef:=by
    intro E' ds' a' h t ht
    rw [←h.get t]
    simp [Array.getD_eq_getD_getElem?,h.size,ht]
  have hpr:∀ x,Rep N (setE E (ps.toList.zip (val x).toList)) [] { tmps:=(ps.zip (val x)).foldl (fun t (p,v)=>t.setIfInBounds p v) a.tmps,defers:=[] }:=by
    intro x
    have h1:Rep N E [] { tmps:=a.tmps,defers:=[] }:=⟨ra.size,ra.get,rfl⟩
    have h2:=yhR (ps.toList.zip (val x).toList) E [] _ h1 (fun p hp=>by
      have:=List.all_eq_true.1 hpN p.1 (List.of_mem_zip hp).1
      simpa using this)
    have h3:(ps.zip (val x)).foldl (fun t (p,v)=>t.setIfInBounds p v) a.tmps=(ps.toList.zip (val x).toList).foldl (fun t p=>t.setIfInBounds p.1 p.2) a.tmps:=by
      rw [←Array.foldl_toList,Array.toList_zip]
    rw [h3];exact h2
  refine WTa.ofx (wpIn_iterE (N:=N) (E:=E) (ds:=ds) (t:=t) (a:=a) (by rw [ra.eval,hr]) he hps T0 G0 I Ix hI hI2 hIx hIx2 h0 hgen ?_ ?_ ?_)
  · intro l T G pre x W rdy busy hi hp hq hg hl
    refine wpIn_mono (WTa.code (hround l T G pre x W rdy busy hi hp hq hg hl _ (hpr x))) ?_
    rintro e a1 W1 ⟨rfl,E1,r1,h1,h2⟩
    exact ⟨h1,fun W2 hW=>WTa.code (h2 W2 hW _ r1)⟩
  · intro D l T LL xs W hD hl hT hR hi hs hd
    exact hdone D l T LL xs W hD hl hT hR hi hs hd _ ⟨ra.size,ra.get,by rw [ra.defers]⟩
  · intro D T G c xs W hD hT hG hi hd
    have hj:=hstop D T G c xs W hD hT hG hi hd
    have ra2:Rep N E ({ target := .collected D,args:=#[] }::ds) { a with defers:={ target := .collected D,args:=#[] }::a.defers }:=⟨ra.size,ra.get,by rw [ra.defers]⟩
    cases c with
    | none=>exact WTa.code (WTa.ret (hj _ ra2))
    | some id =>
      refine WTa.code (WTa.leave rfl ?_)
      unfold yiC at hj
      cases hq:exitTo id t with
      | none=>simp only [hq] at hj ⊢;exact hj _ ra2
      | some k'=>simp only [hq] at hj ⊢;exact hj _ ra2
theorem wt_iterSE{P:Program}{N:Nat}{Q:Exit→Act→World→Prop}{E:Env}{ds:List Deferred}{w0 w:World}{S O:BS}{L:Hold}{t:List Item}{fo:Operand}{ps:Array Tmp}{assign body:Code}{gf:FuncId}{lb:Array Value}
    (hS:Sep w0 S O w L) (js gs:List Nat) (hj:js.Nodup) (hg:gs.Nodup) (hf:allJ (fun j=>(j∉js)∨(L j).free) gs)
    (hr:evE E fo = .func (.func gf) #[] lb) (he:Enters P gf) {α:Type} {val:α→Array Value} {pass:α→FP} {Pr:List α→Prop} {R:List α→List Res→Prop} (hps:∀ x,(val x).size=ps.size) (hpN:ps.toList.all (fun p=>Nat.blt p N)=true)
    (V:List α→List Res→Prop) (Vx:Option Nat→List α→List Res→Prop) (h0:V [] (js.map L))
    (hgen:∀ T G,Sep w G T w (rl (gs.map L))→yhQ P gf lb val pass Pr R T G w)
    (hround:∀ (l:Nat) (rdy busy:Obj) (S1 O1:BS) (pre:List α) (x:α) (W:World) (LL:List Res),V pre LL→Pr (pre++[x])→(pass x).P (Bl O1 (rl (LL++[.obj l rdy]))) W→Sep W S1 O1 W (rl (LL++[.obj l rdy])) →
      WT (Fence.wide.inRound l) 1 P N [.code assign] (fun e a1 W1=>e = .normal∧∃ E1 L1,Rep N E1 [] a1∧Sep W S1 O1 W1 L1∧(∃ i,L1 i = .obj l rdy)∧∀ W2,W2=W1.putObj l busy→WT (Fence.wide.inRound l) 1 P N [.code body] (rndS l busy W S1 O1 V Vx (pre++[x])) E1 [] W2) (setE E (ps.toList.zip (val x).toList)) [] W)
    (hdone:∀ (D:Nat) (xs:List α) (W:World) (LL LG:List Res),R xs LG→V xs LL→Sep w0 S O W (rl (LL++(LG++[dfr D])))→WT Fence.wide 3 P N t Q E (mark D::ds) W)
    (hstop:∀ (D:Nat) (c:Option Nat) (xs:List α) (W:World) (LL:List Res),Vx c xs LL→Sep w0 S O W (rl (LL++[dfr D]))→yiC P N t Q E (mark D::ds) W c) :
    WT Fence.wide 3 P N (.code (.rangeFunc fo ps assign body)::t) Q E ds w:=by
  obtain ⟨hT,hG⟩:=hS.give js gs hj hg hf
  refine wt_iterE hr he hps hpN (Bl O (rl (js.map L))) (OwnB (rl (gs.map L))) (IV w0 S O V) (fun c=>IV w0 S O (Vx c)) (IV.gen _ _ _ _) (IV.two _ _ _ _) (fun c=>IV.gen _ _ _ _) (fun c=>IV.two _ _ _ _) ⟨_,rfl,hT,h0⟩ (hgen _ _ hG) ?_ ?_ ?_
  · rintro l T G pre x W rdy busy ⟨LL,rfl,h,hV⟩ hPr hp hGl hl
    have hb:=hround l rdy busy (fun k=>OwnB (rl LL) k∨k=l) (fun k=>O k∨(G k∧k≠l)) pre x W LL hV hPr ((pass x).sub hp fun k _ hk=>by
      rw [yf0] at hk
      rcases (h.take (ydb LL) hGl hl).2.1 k hk with (q | q) | q
      · exact .inl (.inl q)
      · exact .inr q
      · exact .inl (.inr q)) (h.open_ hGl hl)
    intro a ra b k cs h1 h2 h3
    obtain ⟨e,a',w',⟨rfl,E1,L1,r1,s1,⟨i,hi⟩,hq⟩,harr⟩:=hb a ra b k cs h1 h2 h3
    refine ⟨.normal,a',w',⟨rfl,E1,r1,by have:=s1.ok i;rw [hi] at this;exact this.2,fun W2 hW2=>?_⟩,harr⟩
    intro a2 ra2 b2 k2 cs2 g1 g2 g3
    obtain ⟨e,a3,w3,hq,harr3⟩:=hq W2 hW2 a2 ra2 b2 k2 cs2 g1 g2 g3
    refine ⟨e,a3,w3,?_,harr3⟩
    cases e with
    | normal=>obtain ⟨L2,v2,s2⟩:=hq;obtain ⟨t2,r2⟩:=h.close hGl s2;exact ⟨_,r2,L2,rfl,t2,v2⟩
    | ret=>obtain ⟨L2,v2,s2⟩:=hq;obtain ⟨t2,r2⟩:=h.close hGl s2;exact ⟨_,r2,L2,rfl,t2,v2⟩
    | exit id=>obtain ⟨L2,v2,s2⟩:=hq;obtain ⟨t2,r2⟩:=h.close hGl s2;exact ⟨_,r2,L2,rfl,t2,v2⟩
    | goto t=>exact hq.elim
    | panic ch=>exact hq.elim
    | outgrown=>exact hq.elim
  · rintro D l T LG xs W hD hl hTD hR ⟨L',rfl,h,hV⟩ hs hd
    exact hdone D xs W L' LG hR hV (h.join hs hd)
  · rintro D T G c xs W hD hTD hGD ⟨L',rfl,h,hV⟩ hd
    exact hstop D c xs W L' hV (h.mark hGD hd)
section
variable {P : Program} {l : Nat} {α : Type} {val : α → Array Value} {pass : α → FP} {Pr : List α → Prop} {J Jx : BS → BS → List α → World → Prop}
theorem gen_endE(hs:Sess P l val pass Pr J Jx){T G:BS}{pre:List α}{wb w:World}{LL:List Res}{R:List α→List Res→Prop}(hJ:J T G pre wb)(hS:Sep wb G T w (rl LL))(hR:R pre LL) :
    (∃ xs T LL,R xs LL∧J T (OwnB (rl LL)) xs w∧Sep w (OwnB (rl LL)) T w (rl LL))∨∃ pre T G,Jx T G pre w :=
  .inl ⟨pre,T,LL,hR,hs.gen hJ hS.pure (fun k ⟨i,hi⟩=>(hS.bd i k hi).elim (fun q => .inr (by have:=hS.pure.size;omega)) .inl) (fun k ⟨i,hi⟩=>((hS.ok i).lt hi).2),
    hS.yielded ⟨Keeps.refl _ _,fun k hk => .inl hk,fun k hk=>Nat.lt_of_lt_of_le (hS.lt k hk).1 hS.pure.size⟩⟩
theorem gen_endEx(hs:Sess P l val pass Pr J Jx){T G:BS}{pre:List α}{wb w:World}{L:Hold}{R:List α→List Res→Prop}(hJ:Jx T G pre wb)(hS:Sep wb G T w L) :
    (∃ xs T LL,R xs LL∧J T (OwnB (rl LL)) xs w∧Sep w (OwnB (rl LL)) T w (rl LL))∨∃ pre T G,Jx T G pre w :=
  .inr ⟨pre,T,OwnB L,hs.genx hJ hS.pure (fun k ⟨i,hi⟩=>(hS.bd i k hi).elim (fun q => .inr (by have:=hS.pure.size;omega)) .inl) (fun k ⟨i,hi⟩=>((hS.ok i).lt hi).2)⟩
end
end Go.Proofs.YtjepipbkiadcpaaGreat

/- A table whose rows are slices of one's own: the outer slice holds their addresses, the rows are one thing. No program in sight. -/
namespace Go.Proofs.YtjepipbkiadcpaaGreat
open Go Go.RowKit Go.Shelf Go.Proofs.Tryz
theorem tn_lt{a:Int}{n:Nat}(h:0≤a∧a<(n:Int)):a.toNat<n:=by omega
def fA:Fl (Option Addr×Nat×Nat):=⟨1,fun x=>[.slice x.1 x.2.1 x.2.2],fun _=>rfl,fun x u hu=>by rw [List.mem_singleton] at hu;subst hu;rfl⟩
def cA:Cod (Option Addr×Nat×Nat):=fA.cod
def rowH(g:Nat)(xs:List Int):Option Addr×Nat×Nat:=(some ⟨g,0,none⟩,xs.length,xs.length)
def ows(G:List Nat)(T:List (List Int)):List (Option Addr×Nat×Nat):=List.zipWith rowH G T
def rowA(G:List Nat)(a:Int):Option Addr:=some ⟨G.getD a.toNat 0,0,none⟩
theorem ows_len{G:List Nat}{T:List (List Int)}(h:G.length=T.length):(ows G T).length=T.length:=by simp [ows,h]
theorem ows_get{G:List Nat}{T:List (List Int)}{k g:Nat}{xs:List Int}(hg:G[k]? = some g)(hx:T[k]? = some xs):(ows G T)[k]? = some (rowH g xs):=by
  simp [ows,List.getElem?_zipWith,hg,hx]
theorem ows_snoc{G:List Nat}{T:List (List Int)}(h:G.length=T.length)(g:Nat)(xs:List Int):ows (G++[g]) (T++[xs])=ows G T++[rowH g xs]:=by
  unfold ows
  rw [List.zipWith_append h];rfl
theorem ows_set{G:List Nat}{T:List (List Int)}{a:Nat}{xs ys:List Int}(hx:T[a]? = some xs)(hl:ys.length=xs.length):ows G (T.set a ys)=ows G T:=by
  apply List.ext_getElem?
  intro k
  simp only [ows,List.getElem?_zipWith,List.getElem?_set]
  by_cases hk:a=k
  · subst hk
    have:a<T.length:=(List.getElem?_eq_some_iff.1 hx).1
    rw [hx]
    cases G[a]? <;> simp [this,rowH,hl]
  · simp [hk]
section
variable {w0 w w' : World} {S O : Nat → Prop} {L : Hold} {e e2 : TypeId} {G : List Nat} {T : List (List Int)}
theorem Sep.rowsl(h:Sep w0 S O w L)(i:Nat)(hi:L i = .rows e G T):G.length=T.length:=by
  have:=h.ok i;rw [hi] at this;exact this.2.1
theorem Sep.rowsnil(h:Sep w0 S O w L)(i:Nat)(hi:L i = .gone)(e:TypeId):Sep w0 S O w (stl L i (.rows e [] [])) :=
  h.add i hi _ (Keeps.refl _ _) (fun k hk=>by cases hk) ⟨List.nodup_nil,rfl,fun k g xs hg=>by simp at hg⟩
theorem Sep.rowadd(h:Sep w0 S O w L)(i j:Nat)(hij:Nat.beq i j=false)(hi:L i = .rows e G T){g l:Nat}{xs:List Int}(hj:L j = .own cI e (some ⟨g,0,none⟩) l l xs):Sep w0 S O w (stl (stl L j .gone) i (.rows e (G++[g]) (T++[xs]))):=by
  have hij:i≠j:=fun q=>by subst q;simp at hij
  have hri:=h.ok i
  rw [hi] at hri
  have hrj:=h.own j hj
  have hgG:g∉G:=fun hm=>hij (h.nd i j g (by rw [hi];exact hm) (by rw [hj];exact rfl))
  have hl:l=xs.length:=hrj.1
  have hsub:∀ k,Bl O (stl (stl L j .gone) i (.rows e (G++[g]) (T++[xs]))) k→Bl O L k:=by
    rintro k (q | ⟨x,hx⟩)
    · exact .inl q
    · by_cases e1:x=i
      · subst e1
        rw [yaF] at hx
        rcases List.mem_append.1 hx with q | q
        · exact .inr ⟨x,by rw [hi];exact q⟩
        · rw [List.mem_singleton] at q;subst q;exact .inr ⟨j,by rw [hj];exact rfl⟩
      · rw [yas _ _ e1] at hx
        by_cases e2:x=j
        · subst e2;rw [yaF] at hx;cases hx
        · rw [yas _ _ e2] at hx;exact .inr ⟨x,hx⟩
  have hhas:∀ x k,(stl (stl L j .gone) i (.rows e (G++[g]) (T++[xs])) x).has k→(x=i∧(k∈G∨k=g))∨(x≠i∧x≠j∧(L x).has k):=by
    intro x k hx
    by_cases e1:x=i
    · subst e1
      rw [yaF] at hx
      refine .inl ⟨rfl,?_⟩
      rcases List.mem_append.1 hx with q | q
      · exact .inl q
      · exact .inr (List.mem_singleton.1 q)
    · rw [yas _ _ e1] at hx
      by_cases e2:x=j
      · subst e2;rw [yaF] at hx;cases hx
      · rw [yas _ _ e2] at hx;exact .inr ⟨e1,e2,hx⟩
  refine h.step (T:=no) (Keeps.refl _ _) (fun _ _ h=>h.elim) (fun x k hk => .inl ?_) (fun x=>?_) (fun a b k ha hb=>?_)
  · rcases hhas x k hk with ⟨rfl,q | rfl⟩ | ⟨_,_,q⟩
    · exact ⟨x,by rw [hi];exact q⟩
    · exact ⟨j,by rw [hj];exact rfl⟩
    · exact ⟨x,q⟩
  · by_cases e1:x=i
    · subst e1
      rw [yaF]
      refine .inr ⟨?_,by simp [hri.2.1],fun k g' xs' hg' hx'=>?_⟩
      · rw [List.nodup_append]
        refine ⟨hri.1,by simp,fun a ha b hb=>?_⟩
        rw [List.mem_singleton] at hb;subst hb
        exact fun q=>hgG (q▸ha)
      · have hfl:∀ {O1 O2:Nat→Prop} {A:Option Addr} {l c:Nat} {xs:List Int},OwnC cI 0 O1 w e A l c xs→OwnC cI 0 O2 w e A l c xs:=fun ⟨a,cells,b,c⟩=>⟨a,cells,b,c⟩
        rcases Nat.lt_or_ge k G.length with q | q
        · rw [List.getElem?_append_left q] at hg'
          rw [List.getElem?_append_left (by rw [←hri.2.1];exact q)] at hx'
          exact hfl (hri.2.2 k g' xs' hg' hx')
        · rw [List.getElem?_append_right q] at hg'
          rw [List.getElem?_append_right (by rw [←hri.2.1];exact q)] at hx'
          have hk0:k-G.length=0:=by
            have:=(List.getElem?_eq_some_iff.1 hg').1
            simp at this;omega
          have hk1:k-T.length=0:=by rw [←hri.2.1];exact hk0
          rw [hk0] at hg';rw [hk1] at hx'
          simp at hg' hx'
          subst hg';subst hx'
          have:=hfl (O2:=Bl O (stl (stl L j .gone) x (.rows e (G++[g]) (T++[xs])))) hrj
          rw [hl] at this
          exact this
    · rw [yas _ _ e1]
      by_cases e2:x=j
      · subst e2;rw [yaF];exact .inr trivial
      · rw [yas _ _ e2];exact .inl ⟨x,rfl,fun _ _=>id⟩
  · rcases hhas a k ha with ⟨rfl,qa⟩ | ⟨a1,a2,qa⟩
    · rcases hhas b k hb with ⟨rfl,qb⟩ | ⟨b1,b2,qb⟩
      · rfl
      · rcases qa with qa | rfl
        · exact absurd (h.nd a b k (by rw [hi];exact qa) qb).symm b1
        · exact absurd (h.nd j b k (by rw [hj];exact rfl) qb).symm b2
    · rcases hhas b k hb with ⟨rfl,qb⟩ | ⟨b1,b2,qb⟩
      · rcases qb with qb | rfl
        · exact absurd (h.nd a b k qa (by rw [hi];exact qb)) a1
        · exact absurd (h.nd a j k qa (by rw [hj];exact rfl)) a2
      · exact h.nd a b k qa qb
theorem Sep.rowown(h:Sep w0 S O w L)(i:Nat)(hi:L i = .rows e G T){a:Int}(ha:0≤a∧a<(T.length:Int)):OwnC cI 0 (Bl O L) w e (rowA G a) (gx T a.toNat).length (gx T a.toNat).length (gx T a.toNat):=by
  have hri:=h.ok i
  rw [hi] at hri
  have h1:a.toNat<T.length:=by omega
  have h2:a.toNat<G.length:=by rw [hri.2.1];exact h1
  have:=hri.2.2 a.toNat G[a.toNat] (gx T a.toNat) (List.getElem?_eq_getElem h2) (ycu h1)
  have e:rowA G a=some ⟨G[a.toNat],0,none⟩:=by simp [rowA,h2]
  rw [e];exact this
theorem Sep.rowfp(h:Sep w0 S O w L)(i:Nat)(hi:L i = .rows e G T){a:Int}(ha:0≤a∧a<(T.length:Int)):(FP.sl cI (rowA G a) (gx T a.toNat).length (gx T a.toNat).length (gx T a.toNat)).P no w :=
  (h.rowown i hi ha).rd (fun _ _ h=>h.elim) fun _ _=>id
theorem Sep.rowcell(h:Sep w0 S O w L)(i j:Nat)(hi:L i = .rows e G T){A:Option Addr}{l cap:Nat}(hj:L j = .own cA e2 A l cap (ows G T)){a:Int}(ha:0≤a∧a<(T.length:Int)):w.cell? (ixA A a 1)=some (.slice (rowA G a) (gx T a.toNat).length (gx T a.toNat).length):=by
  have hl:=h.rowsl i hi
  have h1:a.toNat<T.length:=by omega
  have h2:a.toNat<G.length:=by omega
  have:=rd_1 (f:=fA) (h.rdo j hj) (i:=a) (by rw [ows_len hl];exact ha) (x:=rowH G[a.toNat] (gx T a.toNat)) (fun _=>ows_get (List.getElem?_eq_getElem h2) (ycu h1)) (u := .slice (rowA G a) (gx T a.toNat).length (gx T a.toNat).length) (by simp [fA,rowH,rowA,h2])
  exact this
theorem Sep.rowix(h:Sep w0 S O w L)(i j:Nat)(hi:L i = .rows e G T){A:Option Addr}{l cap:Nat}(hj:L j = .own cA e2 A l cap (ows G T)){a:Int}(ha:0≤a∧a<(T.length:Int)):Ix A l a :=
  yaU (h.rdo j hj) (by rw [ows_len (h.rowsl i hi)];exact ha)
theorem Sep.rowwr(h:Sep w0 S O w L)(i:Nat)(hi:L i = .rows e G T){a:Int}(ha:0≤a∧a<(T.length:Int)){b:Int}(hb:0≤b∧b<((gx T a.toNat).length:Int)):Wr w (ixA (rowA G a) b 1):=by
  obtain ⟨hl,cells,ho,hE⟩:=h.rowown i hi ha
  obtain ⟨vs,hR,hu⟩:=hE b.toNat (gx T a.toNat)[b.toNat] (List.getElem?_eq_getElem (by omega))
  have hv:=cI.len hR
  obtain ⟨v,rfl⟩:=List.length_eq_one_iff.1 hv
  obtain ⟨g,o,hA,_,h1,h2⟩:=ho.cellAt (hu 0 v rfl)
  have ho0:o=0∧G.getD a.toNat 0=g:=by unfold rowA at hA;injection hA with hA;injection hA with q1 q2;exact ⟨q2.symm,q1⟩
  unfold rowA
  rw [yf7,ho0.2]
  rw [ho0.1] at h1 h2
  have hsz:cI.sz=1:=rfl
  rw [hsz,Nat.add_zero] at h1 h2
  exact ⟨by rw [h1];rfl,h2⟩
theorem Sep.rowst(h:Sep w0 S O w L)(i:Nat)(hi:L i = .rows e G T){a:Int}(ha:0≤a∧a<(T.length:Int)){b:Int}(hb:0≤b∧b<((gx T a.toNat).length:Int))(v:Int)(e1:w'=w.setCell (ixA (rowA G a) b 1) (.int .i64 v)):Sep w0 S O w' (stl L i (.rows e G (T.set a.toNat ((gx T a.toNat).set b.toNat v)))):=by
  have hri:=h.ok i
  rw [hi] at hri
  have h1:a.toNat<T.length:=by omega
  have h2:a.toNat<G.length:=by rw [hri.2.1];exact h1
  have hA:rowA G a=some ⟨G[a.toNat],0,none⟩:=by simp [rowA,h2]
  rw [hA,yf7,Nat.mul_one,Nat.zero_add] at e1
  have hK:Keeps (fun j=>j=G[a.toNat]) w w':=by rw [e1];exact (Keeps.refl (fun j=>j=G[a.toNat]) w).setCell (p:=⟨G[a.toNat],b.toNat,none⟩) (fun _=>rfl) _
  refine h.upd i _ hK (fun j _ hj=>by rw [hi,hj];exact List.getElem_mem h2) (fun j hj => .inl (by rw [hi];exact hj)) ⟨hri.1,by rw [List.length_set];exact hri.2.1,fun k g xs hg hx=>?_⟩
  by_cases q:a.toNat=k
  · subst q
    rw [List.getElem?_set,if_pos rfl,if_pos h1] at hx
    rw [List.getElem?_eq_getElem h2] at hg
    cases hg;cases hx
    obtain ⟨hl,cells,ho,hE⟩:=hri.2.2 a.toNat G[a.toNat] (gx T a.toNat) (List.getElem?_eq_getElem h2) (ycu h1)
    have hbl:b.toNat<(gx T a.toNat).length:=by omega
    have hcl:cells.length=(gx T a.toNat).length:=by rw [ho.1];exact Nat.mul_one _
    have ho2:=ho.set1 (i:=b.toNat) (by omega) (.int .i64 v) rfl
    refine ⟨rfl,cells.set b.toNat (.int .i64 v),?_,fun t y hy=>?_⟩
    · rw [e1,List.length_set]
      simpa using ho2
    · rw [List.getElem?_set] at hy
      by_cases q2:b.toNat=t
      · subst q2
        rw [if_pos rfl,if_pos hbl] at hy
        cases hy
        refine ⟨[.int .i64 v],rfl,fun s u hs=>?_⟩
        have hs0:s=0:=by
          have:=(List.getElem?_eq_some_iff.1 hs).1
          simp at this;exact this
        subst hs0
        simp at hs
        subst hs
        show (cells.set b.toNat _)[b.toNat*1+0]? = _
        rw [Nat.mul_one,Nat.add_zero,List.getElem?_set,if_pos rfl,if_pos (by omega)]
      · rw [if_neg q2] at hy
        obtain ⟨vs,hR,hu⟩:=hE t y hy
        refine ⟨vs,hR,fun s u hs=>?_⟩
        have hs0:s=0:=by
          have:=(List.getElem?_eq_some_iff.1 hs).1
          have hv:vs.length=1:=cI.len hR
          omega
        have:=hu s u hs
        rw [List.getElem?_set,if_neg (by show ¬b.toNat=t*1+s;omega)]
        exact this
  · rw [List.getElem?_set,if_neg q] at hx
    obtain ⟨hl,cells,ho,hE⟩:=hri.2.2 k g xs hg hx
    have hne:g≠G[a.toNat]:=fun e=>q (by
      obtain ⟨hk,e2⟩:=List.getElem?_eq_some_iff.1 hg
      exact ((List.getElem_inj hri.1).1 (e2.trans e)).symm)
    exact ⟨hl,cells,ho.keep_ fun k' hk=>by cases hk;exact hK.block g (ho.at_ rfl).2 hne,fun t y hy=>hE t y hy⟩
theorem Sep.rowre(h:Sep w0 S O w L)(j:Nat){A:Option Addr}{l cap:Nat}(hj:L j = .own cA e2 A l cap (ows G T)){T':List (List Int)}(e:ows G T'=ows G T):Sep w0 S O w (stl L j (.own cA e2 A l cap (ows G T'))):=by
  have:stl L j (.own cA e2 A l cap (ows G T'))=L:=by
    funext k
    by_cases q:k=j
    · subst q;rw [yaF,e,hj]
    · rw [yas _ _ q]
  rw [this];exact h
theorem Sep.rowfrz(h:Sep w0 S O w L)(i j:Nat)(hij:Nat.beq i j=false)(hi:L i = .rows e G T){A:Option Addr}{l cap:Nat}(hj:L j = .own cA e2 A l cap (ows G T)):Sep w0 S O w (stl (stl L i .gone) j (.own (cL cI) e2 A l cap T)):=by
  have hij:i≠j:=fun q=>by subst q;simp at hij
  have hri:=h.ok i
  rw [hi] at hri
  obtain ⟨hl,cells,ho,hE⟩:=h.own j hj
  have hlen:=ows_len hri.2.1
  have hhas:∀ x k,(stl (stl L i .gone) j (.own (cL cI) e2 A l cap T) x).has k→x≠i∧(L x).has k:=by
    intro x k hx
    by_cases e1:x=j
    · subst e1;rw [yaF] at hx;exact ⟨hij.symm,by rw [hj];exact hx⟩
    · rw [yas _ _ e1] at hx
      by_cases e2:x=i
      · subst e2;rw [yaF] at hx;cases hx
      · rw [yas _ _ e2] at hx;exact ⟨e2,hx⟩
  have hnb:∀ g,g∈G→¬Bl O (stl (stl L i .gone) j (.own (cL cI) e2 A l cap T)) g:=by
    rintro g hg (q | ⟨x,hx⟩)
    · have h1:=h.lt g q
      rcases h.bd i g (by rw [hi];exact hg) with h2 | h2
      · omega
      · exact h1.2 h2
    · obtain ⟨h1,h2⟩:=hhas x g hx
      exact h1 (h.nd x i g h2 (by rw [hi];exact hg))
  refine h.step (T:=no) (Keeps.refl _ _) (fun _ _ h=>h.elim) (fun x k hk => .inl ⟨x,(hhas x k hk).2⟩) (fun x=>?_) (fun a b k ha hb=>h.nd a b k (hhas a k ha).2 (hhas b k hb).2)
  by_cases e1:x=j
  · subst e1
    rw [yaF]
    refine .inr ⟨by rw [hl,hlen],cells,ho,fun k xs hx=>?_⟩
    have hkT:k<T.length:=(List.getElem?_eq_some_iff.1 hx).1
    have hkG:k<G.length:=by rw [hri.2.1];exact hkT
    obtain ⟨vs,hR,hu⟩:=hE k _ (ows_get (List.getElem?_eq_getElem hkG) hx)
    have hvs:vs=[.slice (some ⟨G[k],0,none⟩) xs.length xs.length]:=hR
    refine ⟨vs,⟨_,_,_,hvs,rfl,Nat.le_refl _,?_⟩,hu⟩
    have:=(hri.2.2 k G[k] xs (List.getElem?_eq_getElem hkG) hx).rd (O':=Bl O (stl (stl L i .gone) x (.own (cL cI) e2 A l cap T))) (fun k _ hk=>by
      rcases hk with q | ⟨y,hy⟩
      · exact .inl q
      · exact .inr ⟨y,(hhas y k hy).2⟩) (fun k' hk'=>by cases hk';exact hnb _ (List.getElem_mem hkG))
    exact this.2.2
  · rw [yas _ _ e1]
    by_cases e2:x=i
    · subst e2;rw [yaF];exact .inr trivial
    · rw [yas _ _ e2];exact .inl ⟨x,rfl,fun _ _=>id⟩
theorem Sep.tabnil(h:Sep w0 S O w L)(i j:Nat)(hi:L i = .gone)(hj:L j = .gone)(d:Nat.beq j i=false)(e2 e:TypeId):Sep w0 S O w (stl (stl L i (.own cA e2 none 0 0 (ows [] []))) j (.rows e [] [])) :=
  Sep.rowsnil (h.nil i hi cA e2) j (by rw [yas _ _ (fun q=>by subst q;simp at d)];exact hj) e
theorem Sep.rowpush(h:Sep w0 S O w L)(i j k:Nat)(d1:Nat.beq j i=false)(d2:Nat.beq j k=false)(d3:Nat.beq i k=false)(hi:L i = .rows e G T){A:Option Addr}{l cap g m:Nat}{xs:List Int}(hj:L j = .own cA e2 A l cap (ows G T++[(some ⟨g,0,none⟩,m,m)]))(hk:L k = .own cI e (some ⟨g,0,none⟩) m m xs) :
    Sep w0 S O w (stl (stl (stl L k .gone) i (.rows e (G++[g]) (T++[xs]))) j (.own cA e2 A l cap (ows (G++[g]) (T++[xs])))):=by
  have hm:m=xs.length:=(h.own k hk).1
  have hl:=h.rowsl i hi
  have h2:=h.rowadd i k d3 hi hk
  have e1:ows (G++[g]) (T++[xs])=ows G T++[(some ⟨g,0,none⟩,m,m)]:=by rw [ows_snoc hl,hm];rfl
  have n1:j≠i:=fun q=>by subst q;simp at d1
  have n2:j≠k:=fun q=>by subst q;simp at d2
  have:stl (stl (stl L k .gone) i (.rows e (G++[g]) (T++[xs]))) j (.own cA e2 A l cap (ows (G++[g]) (T++[xs])))=stl (stl L k .gone) i (.rows e (G++[g]) (T++[xs])):=by
    funext x
    by_cases q:x=j
    · subst q;rw [yaF,yas _ _ n1,yas _ _ n2,hj,e1]
    · rw [yas _ _ q]
  rw [this];exact h2
end
end Go.Proofs.YtjepipbkiadcpaaGreat

/- Variables in memory with arrays in them: their cells as parts, one behind the other. -/
namespace Go.Proofs.YtjepipbkiadcpaaGreat
open Go Go.RowKit Go.Shelf Go.Proofs.Tryz
def kF(n:Nat)(f:Nat→Int):List Value:=(List.range n).map fun i=>Value.int .i64 (f i)
def kG(n:Nat)(f:Nat→Bool):List Value:=(List.range n).map fun i=>Value.bool (f i)
def updF(f:Nat→Int)(i:Nat)(v:Int)(j:Nat):Int:=if j=i then v else f j
def updG(f:Nat→Bool)(i:Nat)(v:Bool)(j:Nat):Bool:=if j=i then v else f j
theorem yeK{n:Nat}{f:Nat→Int} : (kF n f).length=n:=by simp [kF]
theorem kG_len{n:Nat}{f:Nat→Bool} : (kG n f).length=n:=by simp [kG]
theorem kF_get{n:Nat}{f:Nat→Int}{i k:Nat}(h:i<n)(hk:k=i):(kF n f)[k]? = some (.int .i64 (f i)):=by
  subst hk;unfold kF;rw [List.getElem?_map,List.getElem?_range h];rfl
theorem ygD{n:Nat}{f:Nat→Bool}{i k:Nat}(h:i<n)(hk:k=i):(kG n f)[k]? = some (.bool (f i)):=by
  subst hk;unfold kG;rw [List.getElem?_map,List.getElem?_range h];rfl
theorem kF_set{n:Nat}{f:Nat→Int}{i k:Nat}(h:i<n)(hk:k=i)(v:Int):(kF n f).set k (.int .i64 v)=kF n (updF f i v):=by
  subst hk
  refine List.ext_getElem? fun j=>?_
  rw [List.getElem?_set,yeK]
  by_cases e:k=j
  · subst e;rw [if_pos rfl,if_pos h,kF_get h rfl];simp [updF]
  · rw [if_neg e]
    by_cases q:j<n
    · rw [kF_get q rfl,kF_get q rfl];simp [updF,Ne.symm e]
    · rw [List.getElem?_eq_none (by rw [yeK];omega),List.getElem?_eq_none (by rw [yeK];omega)]
theorem kG_set{n:Nat}{f:Nat→Bool}{i k:Nat}(h:i<n)(hk:k=i)(v:Bool):(kG n f).set k (.bool v)=kG n (updG f i v):=by
  subst hk
  refine List.ext_getElem? fun j=>?_
  rw [List.getElem?_set,kG_len]
  by_cases e:k=j
  · subst e;rw [if_pos rfl,if_pos h,ygD h rfl];simp [updG]
  · rw [if_neg e]
    by_cases q:j<n
    · rw [ygD q rfl,ygD q rfl];simp [updG,Ne.symm e]
    · rw [List.getElem?_eq_none (by rw [kG_len];omega),List.getElem?_eq_none (by rw [kG_len];omega)]
theorem rc_r{a b:List Value}{n i k:Nat}{v:Value}(hl:a.length=n)(h:b[i]? = some v)(hk:k=n+i):(a++b)[k]? = some v:=by
  subst hk;rw [List.getElem?_append_right (by omega),hl,Nat.add_sub_cancel_left];exact h
theorem rc_l{a b:List Value}{i:Nat}{v:Value}(h:a[i]? = some v):(a++b)[i]? = some v:=by
  rw [List.getElem?_append_left (List.getElem?_eq_some_iff.1 h).1];exact h
theorem rs_r{a b b':List Value}{n i k:Nat}{v:Value}(hl:a.length=n)(h:b.set i v=b')(hk:k=n+i):(a++b).set k v=a++b':=by
  subst hk;rw [List.set_append_right _ _ (by omega),hl,Nat.add_sub_cancel_left,h]
theorem rs_l{a a' b:List Value}{n i:Nat}{v:Value}(hl:a.length=n)(hi:i<n)(h:a.set i v=a'):(a++b).set i v=a'++b:=by
  rw [List.set_append_left _ _ (by omega),h]
theorem Sep.reb{w0 w:World}{S O:Nat→Prop}{L:Hold}(h:Sep w0 S O w L)(i:Nat){e:TypeId}{g:Nat}{cells:List Value}(hi:L i = .box e g cells){cells':List Value}(hc:cells=cells'):Sep w0 S O w (stl L i (.box e g cells')):=by
  subst hc
  have:stl L i (.box e g cells)=L:=by
    funext j
    by_cases q:j=i
    · subst q;rw [yaF,hi]
    · rw [yas _ _ q]
  rw [this];exact h
theorem yfi{g a k:Nat}(h:k=a):Addr.add (⟨g,0,none⟩:Addr) a=⟨g,k,none⟩:=by rw [Addr.add_mid,Nat.zero_add,h]
theorem addr2{g a b k:Nat}(h:k=a+b):Addr.add (Addr.add (⟨g,0,none⟩:Addr) a) b=⟨g,k,none⟩:=by rw [Addr.add_mid,Addr.add_mid,Nat.zero_add,h]
theorem addr3{g a b c k:Nat}(h:k=a+b+c):Addr.add (Addr.add (Addr.add (⟨g,0,none⟩:Addr) a) b) c=⟨g,k,none⟩:=by rw [Addr.add_mid,Addr.add_mid,Addr.add_mid,Nat.zero_add,h]
theorem yc4{w:World}{g e n k:Nat}{cells:List Value}{v:Value}{a:Addr}(h:Row w g e n cells)(hc:cells[k]? = some v)(ha:a=⟨g,k,none⟩):w.cell? a=some v:=by
  rw [ha];exact h.cell hc
theorem Sep.rwr{w0 w:World}{S O:Nat→Prop}{L:Hold}(h:Sep w0 S O w L)(i:Nat){e:TypeId}{g:Nat}{cells:List Value}(hi:L i = .box e g cells){k:Nat}{v:Value}{a:Addr}(hc:cells[k]? = some v)(ha:a=⟨g,k,none⟩):Wr w a:=by
  have:=h.bwr i hi hc
  rwa [Addr.add_mid,Nat.zero_add,←ha] at this
theorem Sep.rst{w0 w w':World}{S O:Nat→Prop}{L:Hold}(h:Sep w0 S O w L)(i:Nat){e:TypeId}{g:Nat}{cells cells':List Value}(hi:L i = .box e g cells){k:Nat}{v:Value}{a:Addr}(ha:a=⟨g,k,none⟩)(hs:cells.set k v=cells')(e1:w'=w.setCell a v):Sep w0 S O w' (stl L i (.box e g cells')):=by
  have:=h.bst (w':=w') i hi k v (by rw [Addr.add_mid,Nat.zero_add,←ha];exact e1)
  rwa [hs] at this
end Go.Proofs.YtjepipbkiadcpaaGreat

/- A drawn region in which two operations, each with effects, stand in an order that is open: both orders are walked. -/
namespace Go.Proofs.YtjepipbkiadcpaaGreat
open Go Go.Proofs.Tryz
section
variable {P : Program} {ops : Array Oper} {Q : Act → World → Prop} {F : Fence} {n : Nat} {Q' : Exit → Act → World → Prop}
theorem set_down{i:Nat}{oi:Oper}{listed:Array Bool}(hil:i<listed.size)(hoi:ops[i]? = some oi)(hall:∀ e∈oi.after,Region.binds .any e=true→listed.getD e.on true=true)(hdw:yf1 ops listed):yf1 ops (listed.setIfInBounds i true):=by
  intro j oj hj hlj e he hb
  have hmono:∀ x:Nat,listed.getD x true=true→(listed.setIfInBounds i true).getD x true=true:=by
    intro x hx
    by_cases hki:i=x
    · subst hki;simp [hil]
    · rw [getD_set_ne true hki];exact hx
  by_cases hji:i=j
  · subst hji
    rw [hoi] at hj
    cases hj
    exact hmono _ (hall e he hb)
  · rw [getD_set_ne true hji] at hlj
    exact hmono _ (hdw j oj hj hlj e he hb)
end
section
variable {F : Fence} {n : Nat} {P : Program} {N : Nat} {Q : Exit → Act → World → Prop} {E : Env} {ds : List Deferred} {w : World} {t : List Item}
theorem wt_cutD{c:Code}(J:Env→List Deferred→World→Prop)(hj:∀ E ds w,J E ds w→WT F n P N t Q E ds w)(h:(∀ E ds w,J E ds w→WT F n P N t Q E ds w)→WT F n P N (.code c::t) Q E ds w):WT F n P N (.code c::t) Q E ds w:=h hj
end
section
variable {P : Program} {ops : Array Oper} {Q : Act → World → Prop} {F : Fence} {n : Nat} {Q' : Exit → Act → World → Prop}
end
section
variable {F : Fence} {n : Nat} {P : Program} {N : Nat} {Q : Exit → Act → World → Prop} {E : Env} {ds : List Deferred} {w : World} {t : List Item}
end
end Go.Proofs.YtjepipbkiadcpaaGreat

/- Drawn regions whose operations with effects stand in several open orders: a tree of orders is walked. -/
namespace Go.Proofs.YtjepipbkiadcpaaGreat
open Go Go.Proofs.Tryz
inductive OT where
  | nil:OT
  | one (i:Nat) (s:List Nat) (t:OT):OT
  | both (a b:OT):OT
namespace OT
def ids:OT→List Nat
  | nil=>[]
  | one i _ t=>i::t.ids
  | both a b=>a.ids++b.ids
def nodes:OT→List (Nat×List Nat)
  | nil=>[]
  | one i s t=>(i,s)::t.nodes
  | both a b=>a.nodes++b.nodes
def cands:OT→List Nat
  | nil=>[]
  | one i _ _=>[i]
  | both a b=>a.cands++b.cands
def len:OT→Nat
  | nil=>0
  | one _ _ t=>t.len+1
  | both a b=>max a.len b.len
theorem ids_nodes:∀ (T:OT) (i:Nat),i∈T.ids↔∃ s,(i,s)∈T.nodes
  | nil,i=>by simp [ids,nodes]
  | one j s t,i=>by
    simp only [ids,nodes,List.mem_cons,ids_nodes t i,Prod.mk.injEq]
    constructor
    · rintro (rfl | ⟨s',h⟩)
      · exact ⟨s, .inl ⟨rfl,rfl⟩⟩
      · exact ⟨s', .inr h⟩
    · rintro ⟨s',⟨rfl,_⟩ | h⟩
      · exact .inl rfl
      · exact .inr ⟨s',h⟩
  | both a b,i=>by
    simp only [ids,nodes,List.mem_append,ids_nodes a i,ids_nodes b i]
    constructor
    · rintro (⟨s,h⟩ | ⟨s,h⟩)
      · exact ⟨s, .inl h⟩
      · exact ⟨s, .inr h⟩
    · rintro ⟨s,h | h⟩
      · exact .inl ⟨s,h⟩
      · exact .inr ⟨s,h⟩
def same(a b:OT):Bool:=(a.ids.all fun i=>b.ids.contains i)&&(b.ids.all fun i=>a.ids.contains i)
theorem same.iff{a b:OT}(h:same a b=true)(i:Nat):i∈a.ids↔i∈b.ids:=by
  simp only [same,Bool.and_eq_true,List.all_eq_true,List.contains_iff_mem] at h
  exact ⟨h.1 i,h.2 i⟩
end OT
def seqT(P:Program)(ops:Array Oper)(Q:Act→World→Prop):OT→List (Nat×Sem Next×Value)→Act→World→Prop
  | .nil,_,a,w=>Q a w
  | .one i s t,pend,a,w=>match ops[i]? with
    | none=>seqT P ops Q t pend a w
    | some o=>if Region.wanted o (yielded ops a.tmps)=true then
        (if yaE o.op=true then ∃ v,(execOp a.eval o).run P w = .ok (.value v) w∧seqT P ops Q t ((i,execOp a.eval o,v)::pend) (a.put o.dst v) w
         else ybm o.op=true∧ybd P o a.eval w fun v w'=>(∀ p∈pend,p.1∈s→p.2.1.run P w' = .ok (.value p.2.2) w')∧seqT P ops Q t pend (a.put o.dst v) w')
      else seqT P ops Q t pend (a.put o.dst undef) w
  | .both x y,pend,a,w=>seqT P ops Q x pend a w∧seqT P ops Q y pend a w
def okN(ops:Array Oper)(j:Nat)(x:Nat×List Nat):Bool :=
  match ops[j]?,ops[x.1]? with
  | some oj,some oi=>!(x.1==j)&&(oj.after.all fun e=>!Region.binds .any e || !(e.on==x.1))&&((yaE oj.op&&oj.apart ops oi&&(yaE oi.op || (ybm oi.op&&x.2.contains j))) || dep ops ops.size j x.1)
  | _,_=>false
def OT.ok(ops:Array Oper):Option (List Nat)→OT→Bool
  | none, .nil=>true
  | some _, .nil=>false
  | none, .one j s t=>OT.ok ops none t&&t.nodes.all (okN ops j)
  | some c, .one p s t=>OT.ok ops none t&&(match ops[p]? with | some o=>ybm o.op && !yaE o.op&&t.nodes.all fun x=>!(x.1==p)&&(o.after.all fun e=>!Region.binds .any e || !(e.on==x.1))&&(c.contains x.1 || c.any fun q=>dep ops ops.size q x.1) | none=>false)
  | c, .both a b=>let c':=c.getD (a.cands++b.cands);OT.ok ops (some c') a&&OT.ok ops (some c') b&&OT.same a b
section
variable {P : Program} {ops : Array Oper} {Q : Act → World → Prop} {i j : Nat}
theorem yew:∀ (T:OT) (pend pend':List (Nat×Sem Next×Value)) (a:Act) (w:World),(∀ p,p∈pend'→p∈pend)→seqT P ops Q T pend a w→seqT P ops Q T pend' a w
  | .nil,_,_,_,_,_,h=>h
  | .both x y,_,_,_,_,hp,h=>⟨yew x _ _ _ _ hp h.1,yew y _ _ _ _ hp h.2⟩
  | .one i s R,pend,pend',a,w,hp,h=>by
    simp only [seqT] at h ⊢
    cases ho:ops[i]? with
    | none=>simp only [ho] at h ⊢;exact yew R _ _ _ _ hp h
    | some o =>
      simp only [ho] at h ⊢
      split
      · rename_i c
        rw [if_pos c] at h
        split
        · rename_i q
          rw [if_pos q] at h
          obtain ⟨v,hv,h⟩:=h
          refine ⟨v,hv,yew R _ _ _ _ (fun p hm=>?_) h⟩
          rcases List.mem_cons.1 hm with rfl | hm
          · exact List.mem_cons_self
          · exact List.mem_cons_of_mem _ (hp p hm)
        · rename_i q
          rw [if_neg q] at h
          exact ⟨h.1,h.2.mono fun v w' h=>⟨fun p hm=>h.1 p (hp p hm),yew R _ _ _ _ hp h.2⟩⟩
      · rename_i c
        rw [if_neg c] at h
        exact yew R _ _ _ _ hp h
theorem seqT_swap{i j:Nat}{si sj:List Nat}{oi oj:Oper}{R:OT}{pend:List (Nat×Sem Next×Value)}{a:Act}{w:World}(hi:ops[i]? = some oi)(hj:ops[j]? = some oj)(qi:yaE oi.op=true)
    (hap:oi.apart ops oj=true) (qj:yaE oj.op=true∨(ybm oj.op=true∧i∈sj)) (h:seqT P ops Q (.one i si (.one j sj R)) pend a w):seqT P ops Q (.one j sj (.one i si R)) pend a w:=by
  obtain ⟨h1,h2,h3⟩:=Oper.apart_spec hap
  have sj':∀ cs b,oj.op ≠ .select cs b:=by rcases qj with q | q;exact yaE.select q;exact ybm.select q.1
  have wi:∀ v,Region.wanted oi (yielded ops (a.put oj.dst v).tmps)=Region.wanted oi (yielded ops a.tmps):=fun v=>wanted_put oi a oj.dst v h3
  have wj:∀ v,Region.wanted oj (yielded ops (a.put oi.dst v).tmps)=Region.wanted oj (yielded ops a.tmps):=fun v=>wanted_put oj a oi.dst v h1
  have ei:∀ v,execOp (a.put oj.dst v).eval oi=execOp a.eval oi:=fun v=>execOp_put oi (yaE.select qi) a oj.dst v h3
  have ej:∀ v,execOp (a.put oi.dst v).eval oj=execOp a.eval oj:=fun v=>execOp_put oj sj' a oi.dst v h1
  have pc:∀ u v,(a.put oi.dst u).put oj.dst v=(a.put oj.dst v).put oi.dst u:=fun u v=>Act.put_comm a u v h2
  simp only [seqT,hi,hj,qi,if_true] at h ⊢
  by_cases ci:Region.wanted oi (yielded ops a.tmps)=true
  · by_cases cj:Region.wanted oj (yielded ops a.tmps)=true
    · simp only [ci,cj,wi,wj,ei,ej,if_true] at h ⊢
      by_cases q:yaE oj.op=true
      · simp only [q,if_true] at h ⊢
        obtain ⟨u,hu,v,hv,h⟩:=h
        refine ⟨v,hv,u,hu,?_⟩
        rw [←pc]
        exact yew R _ _ _ _ (fun p hm=>by simp only [List.mem_cons] at hm ⊢;rcases hm with h | h | h;exact .inr (.inl h);exact .inl h;exact .inr (.inr h)) h
      · have q':ybm oj.op=true∧i∈sj:=by rcases qj with h | h;exact absurd h q;exact h
        simp only [q,Bool.false_eq_true,if_false] at h ⊢
        obtain ⟨u,hu,hn,h⟩:=h
        refine ⟨hn,?_⟩
        unfold ybd at h ⊢
        rw [ej] at h
        split at h
        · obtain ⟨hs,h⟩:=h
          refine ⟨fun p hm hp=>hs p (List.mem_cons_of_mem _ hm) hp,u,hs _ List.mem_cons_self q'.2,?_⟩
          rw [←pc];exact h
        · obtain ⟨hs,h⟩:=h
          refine ⟨fun p hm hp=>hs p (List.mem_cons_of_mem _ hm) hp,u,hs _ List.mem_cons_self q'.2,?_⟩
          rw [←pc];exact h
        · intro cs
          obtain ⟨e,w',fr,⟨v,rfl,hs,h⟩,r⟩:=h cs
          refine ⟨_,w',fr,⟨v,rfl,fun p hm hp=>hs p (List.mem_cons_of_mem _ hm) hp,u,hs _ List.mem_cons_self q'.2,?_⟩,r⟩
          rw [←pc];exact h
        · refine h.mono ?_
          rintro e w'' ⟨v,rfl,hs,h⟩
          exact ⟨v,rfl,fun p hm hp=>hs p (List.mem_cons_of_mem _ hm) hp,u,hs _ List.mem_cons_self q'.2,by rw [←pc];exact h⟩
        · exact h.elim
    · simp only [ci,cj,wi,wj,ei,ej,if_true,if_false,Bool.false_eq_true] at h ⊢
      obtain ⟨u,hu,h⟩:=h
      exact ⟨u,hu,by rw [←pc];exact h⟩
  · by_cases cj:Region.wanted oj (yielded ops a.tmps)=true
    · simp only [ci,cj,wi,wj,ei,ej,if_true,if_false,Bool.false_eq_true] at h ⊢
      by_cases q:yaE oj.op=true
      · simp only [q,if_true] at h ⊢
        obtain ⟨v,hv,h⟩:=h
        exact ⟨v,hv,by rw [←pc];exact h⟩
      · simp only [q,Bool.false_eq_true,if_false] at h ⊢
        refine ⟨h.1,?_⟩
        have h:=h.2
        unfold ybd at h ⊢
        rw [ej] at h
        split at h
        · exact ⟨h.1,by rw [←pc];exact h.2⟩
        · exact ⟨h.1,by rw [←pc];exact h.2⟩
        · intro cs
          obtain ⟨e,w',fr,⟨v,rfl,hs,h⟩,r⟩:=h cs
          exact ⟨_,w',fr,⟨v,rfl,hs,by rw [←pc];exact h⟩,r⟩
        · refine h.mono ?_
          rintro e w'' ⟨v,rfl,hs,h⟩
          exact ⟨v,rfl,hs,by rw [←pc];exact h⟩
        · exact h.elim
    · simp only [ci,cj,wi,wj,if_false,Bool.false_eq_true] at h ⊢
      rw [←pc];exact h
theorem seqT_mono{i:Nat}{s:List Nat}{R R':OT}{pend:List (Nat×Sem Next×Value)}(hm:∀ pend a w,seqT P ops Q R pend a w→seqT P ops Q R' pend a w){a:Act}{w:World}
    (h:seqT P ops Q (.one i s R) pend a w):seqT P ops Q (.one i s R') pend a w:=by
  simp only [seqT] at h ⊢
  cases ho:ops[i]? with
  | none=>simp only [ho] at h ⊢;exact hm _ _ _ h
  | some o =>
    simp only [ho] at h ⊢
    split
    · rename_i c
      rw [if_pos c] at h
      split
      · rename_i q
        rw [if_pos q] at h
        obtain ⟨v,hv,h⟩:=h
        exact ⟨v,hv,hm _ _ _ h⟩
      · rename_i q
        rw [if_neg q] at h
        exact ⟨h.1,h.2.mono fun v w' h=>⟨h.1,hm _ _ _ h.2⟩⟩
    · rename_i c
      rw [if_neg c] at h
      exact hm _ _ _ h
theorem seqT_step{F:Fence}{n:Nat}{Q':Exit→Act→World→Prop}(hF:∀ f,F.fn f)(hD:F.depth=none)(hC:∀ f args w R,Calls P f args w R→CallsIn F (n-1) P f args w R)(hRd:∀ l f tmps assign body w R,RoundIn Fence.wide 0 P l f tmps assign body w R→RoundIn F (n-1) P l f tmps assign body w R)
    {i:Nat} {s:List Nat} {R:OT} {pend:List (Nat×Sem Next×Value)} {a:Act} {w:World} {K:Act→World→Prop} (h1:seqT P ops Q (.one i s R) pend a w) (hrec:∀ pend a w,seqT P ops Q R pend a w→K a w):wpOpIn F n P ops Q' i K a w:=by
  unfold wpOpIn
  cases hoi:ops[i]? with
  | none=>simp only [seqT,hoi] at h1;exact hrec _ _ _ h1
  | some oi =>
    simp only [seqT,hoi] at h1 ⊢
    split
    · rename_i c
      rw [if_pos c] at h1
      split at h1
      · rename_i q
        obtain ⟨v,hv,h1⟩:=h1
        refine ⟨fun f _=>hF f,?_⟩
        rw [Oper.semAt_eq _ _ _ (yaE.defer q),hv]
        exact hrec _ _ _ h1
      · obtain ⟨hn,h1⟩:=h1
        refine ⟨fun f _=>hF f,?_⟩
        rw [Oper.semAt_eq _ _ _ (ybm.defer hn)]
        unfold ybd at h1
        split at h1
        · rename_i v w' hr
          rw [hr]
          exact hrec _ _ _ h1.2
        · rename_i w' hr
          rw [hr]
          exact hrec _ _ _ h1.2
        · rename_i f args w' hr
          rw [hr]
          refine ⟨fun hd=>(by rw [hD] at hd;cases hd),(hC _ _ _ _ h1).mono ?_⟩
          rintro e w'' ⟨v,rfl,hh⟩
          exact hrec _ _ _ hh.2
        · rename_i l f tmps assign body w' hr
          rw [hr]
          refine ⟨fun hd=>(by rw [hD] at hd;cases hd),(hRd _ _ _ _ _ _ _ h1).mono ?_⟩
          rintro e w'' ⟨v,rfl,hh⟩
          exact hrec _ _ _ hh.2
        · exact h1.elim
    · rename_i c
      rw [if_neg c] at h1
      exact ⟨fun f _=>hF f,hrec _ _ _ h1⟩
theorem okN.not{x:Nat×List Nat}(h:okN ops j x=true){oj:Oper}(hj:ops[j]? = some oj){e:Edge}(he:e∈oj.after)(hb:Region.binds .any e=true):e.on≠x.1:=by
  unfold okN at h
  rw [hj] at h
  cases hi:ops[x.1]? with
  | none=>rw [hi] at h;cases h
  | some oi =>
    rw [hi] at h
    simp only [Bool.and_eq_true] at h
    have h2:=h.1.2
    rw [Array.all_eq_true] at h2
    obtain ⟨k,hk,rfl⟩:=Array.getElem_of_mem he
    have:=h2 k hk
    simpa [hb] using this
theorem okN.ne{x:Nat×List Nat}(h:okN ops j x=true):x.1≠j:=by
  unfold okN at h
  split at h
  · simp only [Bool.and_eq_true,Bool.not_eq_true',beq_eq_false_iff_ne,ne_eq] at h
    exact h.1.1
  · cases h
theorem okN.two{x:Nat×List Nat}(h:okN ops j x=true)(hno:dep ops ops.size j x.1=false):∃ oj oi,ops[j]? = some oj∧ops[x.1]? = some oi∧yaE oj.op=true∧oj.apart ops oi=true∧(yaE oi.op=true∨(ybm oi.op=true∧j∈x.2)):=by
  unfold okN at h
  split at h
  · rename_i oj oi hj hi
    simp only [hno,Bool.or_false,Bool.and_eq_true,Bool.or_eq_true,List.contains_iff_mem] at h
    exact ⟨oj,oi,hj,hi,h.2.1.1,h.2.1.2,h.2.2⟩
  · cases h
structure Pulled(P:Program)(ops:Array Oper)(Q:Act→World→Prop)(i:Nat)(T:OT)(s:List Nat)(T':OT):Prop where
  ok:T'.ok ops none=true
  ids:∀ x,x∈T.ids↔x=i∨x∈T'.ids
  no:i∉T'.ids
  len:T'.len+1≤T.len
  nodes:∀ x∈T'.nodes,x∈T.nodes
  node:(i,s)∈T.nodes
  run:∀ pend a w,seqT P ops Q T pend a w→seqT P ops Q (.one i s T') pend a w
theorem yiH{c:List Nat} : ∀ T:OT,T.ok ops (some c)=true→i∈T.cands→∃ s T',Pulled P ops Q i T s T'
  | .nil,h,_=>by simp [OT.ok] at h
  | .one p s t,h,hi=>by
    simp only [OT.cands,List.mem_singleton] at hi
    subst hi
    simp only [OT.ok,Bool.and_eq_true] at h
    obtain ⟨h1,h2⟩:=h
    cases ho:ops[i]? with
    | none=>rw [ho] at h2;cases h2
    | some o =>
      rw [ho] at h2
      simp only [Bool.and_eq_true,List.all_eq_true] at h2
      refine ⟨s,t,h1,fun x=>by simp [OT.ids],fun hm=>?_,Nat.le_refl _,fun x hx=>by simp [OT.nodes,hx],by simp [OT.nodes],fun _ _ _ h=>h⟩
      obtain ⟨s',hs⟩:=(OT.ids_nodes t i).1 hm
      have:=(h2.2 _ hs).1.1
      simp at this
  | .both a b,h,hi=>by
    simp only [OT.ok,Option.getD_some,Bool.and_eq_true] at h
    obtain ⟨⟨h1,h2⟩,h3⟩:=h
    rcases List.mem_append.1 hi with hi | hi
    · obtain ⟨s,T',k⟩:=yiH a h1 hi
      refine ⟨s,T',k.ok,fun x=>?_,k.no,Nat.le_trans k.len (Nat.le_max_left _ _),fun x hx=>List.mem_append_left _ (k.nodes x hx),List.mem_append_left _ k.node,fun pend a w h=>k.run _ _ _ h.1⟩
      rw [←k.ids x]
      simp only [OT.ids,List.mem_append,←OT.same.iff h3 x,or_self]
    · obtain ⟨s,T',k⟩:=yiH b h2 hi
      refine ⟨s,T',k.ok,fun x=>?_,k.no,Nat.le_trans k.len (Nat.le_max_right _ _),fun x hx=>List.mem_append_right _ (k.nodes x hx),List.mem_append_right _ k.node,fun pend a w h=>k.run _ _ _ h.2⟩
      rw [←k.ids x]
      simp only [OT.ids,List.mem_append,OT.same.iff h3 x,or_self]
theorem cand_or{c:List Nat} : ∀ T:OT,T.ok ops (some c)=true→(∀ x∈T.cands,x∈c)→∀ i∈T.ids,i∈c∨∃ q∈c,dep ops ops.size q i=true
  | .nil,h,_=>by simp [OT.ok] at h
  | .one p s t,h,hc=>by
    intro i hi
    simp only [OT.ids,List.mem_cons] at hi
    rcases hi with rfl | hi
    · exact .inl (hc i (by simp [OT.cands]))
    · simp only [OT.ok,Bool.and_eq_true] at h
      obtain ⟨h1,h2⟩:=h
      cases ho:ops[p]? with
      | none=>rw [ho] at h2;cases h2
      | some o =>
        rw [ho] at h2
        simp only [Bool.and_eq_true,List.all_eq_true] at h2
        obtain ⟨s',hs⟩:=(OT.ids_nodes t i).1 hi
        have:=(h2.2 _ hs).2
        simpa [List.any_eq_true] using this
  | .both a b,h,hc=>by
    intro i hi
    simp only [OT.ok,Option.getD_some,Bool.and_eq_true] at h
    rcases List.mem_append.1 hi with hi | hi
    · exact cand_or a h.1.1 (fun x hx=>hc x (List.mem_append_left _ hx)) i hi
    · exact cand_or b h.1.2 (fun x hx=>hc x (List.mem_append_right _ hx)) i hi
theorem yiJ:∀ (T:OT) (x:Nat),x∈T.cands→x∈T.ids
  | .nil,_,h=>h
  | .one i _ t,x,h=>by simp [OT.cands] at h;simp [OT.ids,h]
  | .both a b,x,h=>by
    rcases List.mem_append.1 h with h | h
    · exact List.mem_append_left _ (yiJ a x h)
    · exact List.mem_append_right _ (yiJ b x h)
theorem pull{hole:Unit} : ∀ T:OT,T.ok ops none=true→i∈T.ids→(∀ r∈T.ids,dep ops ops.size r i=false)→∃ s T',Pulled P ops Q i T s T'
  | .nil,_,hi,_=>by simp [OT.ids] at hi
  | .one j s t,h,hi,hd=>by
    simp only [OT.ok,Bool.and_eq_true,List.all_eq_true] at h
    obtain ⟨h1,h2⟩:=h
    have hjt:j∉t.ids:=fun hm=>by
      obtain ⟨s',hs⟩:=(OT.ids_nodes t j).1 hm
      exact okN.ne (h2 _ hs) rfl
    by_cases hij:i=j
    · subst hij
      exact ⟨s,t,h1,fun x=>by simp [OT.ids],hjt,Nat.le_refl _,fun x hx=>by simp [OT.nodes,hx],by simp [OT.nodes],fun _ _ _ h=>h⟩
    · have hit:i∈t.ids:=by simpa [OT.ids,hij] using hi
      obtain ⟨si,t',k⟩:=pull (hole:=hole) t h1 hit fun r hr=>hd r (by simp [OT.ids,hr])
      obtain ⟨oj,oi,ej,ei,q1,q2,q3⟩:=okN.two (h2 _ k.node) (hd j (by simp [OT.ids]))
      refine ⟨si, .one j s t',?_,fun x=>?_,?_,?_,fun x hx=>?_,by simp [OT.nodes,k.node],fun pend a w h=>seqT_swap ej ei q1 q2 q3 (seqT_mono k.run h)⟩
      · simp only [OT.ok,Bool.and_eq_true,List.all_eq_true]
        exact ⟨k.ok,fun x hx=>h2 x (k.nodes x hx)⟩
      · simp only [OT.ids,List.mem_cons,k.ids x]
        exact ⟨fun h=>by rcases h with h | h | h;exact .inr (.inl h);exact .inl h;exact .inr (.inr h),fun h=>by rcases h with h | h | h;exact .inr (.inl h);exact .inl h;exact .inr (.inr h)⟩
      · simp only [OT.ids,List.mem_cons,not_or]
        exact ⟨hij,k.no⟩
      · simp only [OT.len];have:=k.len;omega
      · simp only [OT.nodes,List.mem_cons] at hx ⊢
        rcases hx with h | h
        · exact .inl h
        · exact .inr (k.nodes x h)
  | .both a b,h,hi,hd=>by
    simp only [OT.ok,Option.getD_none,Bool.and_eq_true] at h
    have hok:(OT.both a b).ok ops (some (a.cands++b.cands))=true:=by simp only [OT.ok,Option.getD_some,Bool.and_eq_true];exact h
    rcases cand_or (.both a b) hok (fun x hx=>hx) i hi with hc | ⟨q,hq,hdq⟩
    · exact yiH (.both a b) hok hc
    · rw [hd q (yiJ (.both a b) q hq)] at hdq;cases hdq
theorem first_free(hO:∀ j oj,ops[j]? = some oj→∀ e∈oj.after,Region.binds .any e=true→e.on<ops.size∧e.on≠j):∀ (T:OT) (c:Option (List Nat)),T.ok ops c=true→T.ids≠[]→∃ r∈T.ids,∀ o,ops[r]? = some o→∀ e∈o.after,Region.binds .any e=true→e.on∉T.ids
  | .nil,_,_,h=>absurd rfl h
  | .one j s t,c,h,_=>by
    refine ⟨j,by simp [OT.ids],fun o ho e he hb hm=>?_⟩
    simp only [OT.ids,List.mem_cons] at hm
    rcases hm with hm | hm
    · exact (hO j o ho e he hb).2 hm
    · obtain ⟨s',hs⟩:=(OT.ids_nodes t e.on).1 hm
      cases c with
      | none =>
        simp only [OT.ok,Bool.and_eq_true,List.all_eq_true] at h
        exact okN.not (h.2 _ hs) ho he hb rfl
      | some c =>
        simp only [OT.ok,Bool.and_eq_true] at h
        have h2:=h.2
        rw [ho] at h2
        simp only [Bool.and_eq_true,List.all_eq_true] at h2
        have h3:=(h2.2 _ hs).1.2
        rw [Array.all_eq_true] at h3
        obtain ⟨k,hk,rfl⟩:=Array.getElem_of_mem he
        have:=h3 k hk
        simp [hb] at this
  | .both a b,c,h,hn=>by
    simp only [OT.ok,Bool.and_eq_true] at h
    have hne:a.ids≠[]:=fun e=>hn (by
      have hb:b.ids=[]:=List.eq_nil_iff_forall_not_mem.2 fun x hx=>by
        have:=(OT.same.iff h.2 x).2 hx
        rw [e] at this;cases this
      simp [OT.ids,e,hb])
    obtain ⟨r,hr,k⟩:=first_free hO a _ h.1.1 hne
    refine ⟨r,List.mem_append_left _ hr,fun o ho e he hb hm=>k o ho e he hb ?_⟩
    rcases List.mem_append.1 hm with hm | hm
    · exact hm
    · exact (OT.same.iff h.2 _).2 hm
theorem len_ids:∀ (T:OT),T.len=0→T.ok ops none=true→T = .nil
  | .nil,_,_=>rfl
  | .one _ _ _,h,_=>by simp [OT.len] at h
  | .both a b,h,hk=>by
    exfalso
    simp only [OT.ok,Option.getD_none,Bool.and_eq_true] at hk
    have key:∀ (T:OT) (c:List Nat),T.ok ops (some c)=true→T.len≠0:=by
      intro T
      induction T with
      | nil=>intro c h;simp [OT.ok] at h
      | one i s t ih=>intro c h;simp [OT.len]
      | both a b iha ihb =>
        intro c h
        simp only [OT.ok,Option.getD_some,Bool.and_eq_true] at h
        have:=iha c h.1.1
        simp only [OT.len];omega
    have:=key a _ hk.1.1
    simp only [OT.len] at h;omega
theorem seqT_any{F:Fence}{n:Nat}{Q':Exit→Act→World→Prop}(hF:∀ f,F.fn f)(hD:F.depth=none)(hC:∀ f args w R,Calls P f args w R→CallsIn F (n-1) P f args w R)(hRd:∀ l f tmps assign body w R,RoundIn Fence.wide 0 P l f tmps assign body w R→RoundIn F (n-1) P l f tmps assign body w R)(hQ:∀ a w,Q a w→Q' .normal a w)(hO:∀ j oj,ops[j]? = some oj→∀ e∈oj.after,Region.binds .any e=true→e.on<ops.size∧e.on≠j) :
    ∀ (fuel:Nat) (T:OT) (listed:Array Bool) (pend:List (Nat×Sem Next×Value)) (a:Act) (w:World),T.len≤fuel→T.ok ops none=true →
    (∀ i,i∈T.ids↔listed.getD i true=false)→listed.size=ops.size→yf1 ops listed→seqT P ops Q T pend a w→wpAnyIn F n P .any ops Q' fuel listed a w:=by
  have hnil:∀ (T:OT) (listed:Array Bool),T.ok ops none=true→(∀ i,i∈T.ids↔listed.getD i true=false)→listed.size=ops.size→Region.ready .any ops listed=[]→T.ids=[]:=by
    intro T listed hk hl hs h
    by_cases hn:T.ids=[]
    · exact hn
    · exfalso
      obtain ⟨r,hr,hfree⟩:=first_free hO T none hk hn
      have hr0:=(hl r).1 hr
      have hlt:r<ops.size:=by
        rcases Nat.lt_or_ge r listed.size with h | h
        · omega
        · simp [Array.getD_eq_getD_getElem?,Array.getElem?_eq_none h] at hr0
      have:r∈Region.ready .any ops listed:=by
        refine mem_ready.2 ⟨hr0,ops[r],by simp [hlt],fun e he hb=>?_⟩
        have h1:=hO r _ (by simp [hlt]:ops[r]? = some ops[r]) e he hb
        have h3:=mt (hl e.on).2 (hfree _ (by simp [hlt]) e he hb)
        have h4:e.on<listed.size:=by omega
        simp [h4] at h3 ⊢
        exact h3
      rw [h] at this;cases this
  have hids:∀ T:OT,T.ids=[]→T.ok ops none=true→T = .nil:=by
    intro T h hk
    cases T with
    | nil=>rfl
    | one i s t=>simp [OT.ids] at h
    | both a b =>
      exfalso
      simp only [OT.ok,Option.getD_none,Bool.and_eq_true] at hk
      have key:∀ (T:OT) (c:List Nat),T.ok ops (some c)=true→T.ids≠[]:=by
        intro T
        induction T with
        | nil=>intro c h;simp [OT.ok] at h
        | one i s t ih=>intro c h;simp [OT.ids]
        | both a b iha ihb =>
          intro c h
          simp only [OT.ok,Option.getD_some,Bool.and_eq_true] at h
          have:=iha c h.1.1
          simp [OT.ids,this]
      have:=key a _ hk.1.1
      simp [OT.ids,this] at h
  intro fuel
  induction fuel with
  | zero =>
    intro T listed pend a w hf hk hl hs hdw h
    have hT:=len_ids T (by omega) hk
    subst hT
    refine ⟨?_,hQ _ _ h⟩
    cases hrd:Region.ready .any ops listed with
    | nil=>rfl
    | cons r rs =>
      have h1:r∈Region.ready .any ops listed:=by rw [hrd];simp
      exact absurd ((hl r).2 (mem_ready.1 h1).1) (by simp [OT.ids])
  | succ fuel ih =>
    intro T listed pend a w hf hk hl hs hdw h
    refine ⟨fun h0=>by have:=hids T (hnil T listed hk hl hs h0) hk;subst this;exact hQ _ _ h,fun i hi=>?_⟩
    obtain ⟨hun,oi,hoi,hall⟩:=mem_ready.1 hi
    have hlb:∀ x:Nat,listed.getD x false=true→listed.getD x true=true:=by
      intro x hx
      rcases Nat.lt_or_ge x listed.size with h | h
      · simp [Array.getD_eq_getD_getElem?,h] at hx ⊢;exact hx
      · simp [Array.getD_eq_getD_getElem?,h]
    have hall':∀ e∈oi.after,Region.binds .any e=true→listed.getD e.on true=true:=fun e he hb=>hlb _ (hall e he hb)
    have hil:i<listed.size:=by have:=(Array.getElem?_eq_some_iff.1 hoi).1;omega
    obtain ⟨s,T',k⟩:=pull (P:=P) (Q:=Q) (hole:=()) T hk ((hl i).2 hun) fun r hr=>by
      cases hq:dep ops ops.size r i with
      | false=>rfl
      | true =>
        have h1:=yhg hdw ops.size r i oi hoi hall' hq
        rw [(hl r).1 hr] at h1;cases h1
    refine seqT_step hF hD hC hRd (k.run _ _ _ h) fun pend a w h=>ih T' _ pend a w (by have:=k.len;omega) k.ok (fun x=>?_) (by simp [hs]) (set_down hil hoi hall' hdw) h
    by_cases hix:i=x
    · subst hix
      constructor
      · intro h;exact absurd h k.no
      · intro h;simp [hil] at h
    · rw [getD_set_ne true hix,←hl x,k.ids x]
      exact ⟨.inr,fun h=>h.resolve_left fun e=>hix e.symm⟩
end
def orderlyT(ops:Array Oper)(T:OT):Bool :=
  (T.ids.all fun j=>match ops[j]? with
    | none=>false
    | some oj=>oj.after.all fun e=>!Region.binds .any e || (decide (e.on<ops.size) && !(e.on==j)))&&(List.range ops.size).all (T.ids.contains ·)&&decide (T.len≤ops.size)&&T.ok ops none
def RT(P:Program)(N:Nat)(ops:Array Oper)(Qa:Act→World→Prop)(T:OT)(pend:List (Nat×Sem Next×Value))(E:Env)(ds:List Deferred)(w:World):Prop :=
  ∀ a,Rep N E ds a→seqT P ops Qa T pend a w
section
variable {F : Fence} {n : Nat} {P : Program} {N : Nat} {Q : Exit → Act → World → Prop} {E : Env} {ds : List Deferred} {w : World} {t : List Item}
theorem wt_drawT{id:Nat}{ops:Array Oper}(T:OT)(hw:Wd F)(hm:P.follows .mixedOrders=true)(hO:orderlyT ops T=true)(h:RT P N ops (WTa F n P t Q) T [] E ds w.drew) :
    WT F n P N (.code (.region id ops true)::t) Q E ds w:=by
  intro a r
  simp only [orderlyT,Bool.and_eq_true,decide_eq_true_eq] at hO
  obtain ⟨⟨⟨h1,h2⟩,h3⟩,h4⟩:=hO
  have h5:∀ i,i<ops.size→i∈T.ids:=fun i hi=>by simpa using List.all_eq_true.1 h2 i (List.mem_range.2 hi)
  have h6:∀ i,i∈T.ids→i<ops.size:=fun i hi=>by
    have:=List.all_eq_true.1 h1 i hi
    rcases Nat.lt_or_ge i ops.size with h | h
    · exact h
    · rw [Array.getElem?_eq_none h] at this;cases this
  refine WTa.of (wpIn_region_any hm ?_)
  refine seqT_any hw.fn hw.depth (fun f args w R h=>hw.calls _ _ _ _ _ _ h) (fun l f tmps assign body w R h=>hw.rounds _ _ _ _ _ _ _ _ _ h) (fun a w h=>⟨rfl,h⟩) (fun j oj hj e he hb=>?_) ops.size T _ [] a _ h3 h4 (fun i=>?_) (by simp) (fun j oj hj hl=>?_) (h a r)
  · have:=List.all_eq_true.1 h1 j (h5 j (Array.getElem?_eq_some_iff.1 hj).1)
    rw [hj] at this
    simp only at this
    rw [Array.all_eq_true] at this
    obtain ⟨k,hk,rfl⟩:=Array.getElem_of_mem he
    have h3:=this k hk
    simpa [hb] using h3
  · constructor
    · intro hi;simp [h6 i hi]
    · intro hi
      apply h5
      rcases Nat.lt_or_ge i ops.size with h | h
      · exact h
      · simp [Array.getD_eq_getD_getElem?,h] at hi
  · exfalso
    have:=(Array.getElem?_eq_some_iff.1 hj).1
    simp [Array.getD_eq_getD_getElem?,this] at hl
end
section
variable {P : Program} {N : Nat} {ops : Array Oper} {Qa : Act → World → Prop} {pend : List (Nat × Sem Next × Value)} {E : Env} {ds : List Deferred} {w : World} {i : Nat} {s : List Nat} {T T1 T2 : OT}
theorem rt_end{F:Fence}{n:Nat}{t:List Item}{Q:Exit→Act→World→Prop}(h:WT F n P N t Q E ds w):RT P N ops (WTa F n P t Q) .nil pend E ds w:=fun a r=>h a r
theorem yii(h1:RT P N ops Qa T1 pend E ds w)(h2:RT P N ops Qa T2 pend E ds w):RT P N ops Qa (.both T1 T2) pend E ds w:=fun a r=>⟨h1 a r,h2 a r⟩
variable {d : Nat} {op : Op} {ty : TypeId} {ps : String} {af : Array Edge} {g : Option (Nat × Bool)}
theorem rt_q{v:Value}(ho:ops[i]? = some ⟨some d,op,ty,ps,af,g⟩)(hw:Region.wanted ⟨some d,op,ty,ps,af,g⟩ (yE ops E)=true)(hq:yaE op=true)(hd:Nat.blt d N=true)
    (hv:(execOp (evE E) ⟨some d,op,ty,ps,af,g⟩).run P w = .ok (.value v) w) (h:RT P N ops Qa T ((i,execOp (evE E) ⟨some d,op,ty,ps,af,g⟩,v)::pend) (upd E d v) ds w):RT P N ops Qa (.one i s T) pend E ds w:=by
  intro a r
  simp only [seqT,ho,r.yielded,hw,hq,if_true,r.eval]
  exact ⟨v,hv,h _ (r.put (yfN (d:=some d) hd) v)⟩
theorem rt_n(ho:ops[i]? = some ⟨some d,op,ty,ps,af,g⟩)(hw:Region.wanted ⟨some d,op,ty,ps,af,g⟩ (yE ops E)=true)(hq:yaE op=false)(hn:ybm op=true)(hd:Nat.blt d N=true)
    (h:ybd P ⟨some d,op,ty,ps,af,g⟩ (evE E) w fun v w'=>Stb P s w' pend∧RT P N ops Qa T pend (upd E d v) ds w'):RT P N ops Qa (.one i s T) pend E ds w:=by
  intro a r
  simp only [seqT,ho,r.yielded,hw,hq,if_true,if_false,Bool.false_eq_true,r.eval]
  refine ⟨hn,h.mono fun v w' h=>⟨h.1.all,h.2 _ (r.put (yfN (d:=some d) hd) v)⟩⟩
end
end Go.Proofs.YtjepipbkiadcpaaGreat

/- Tables of structs, functions compared with nil. No program in sight. -/
namespace Go.Proofs.YtjepipbkiadcpaaGreat
open Go Go.RowKit Go.Shelf Go.Proofs.Tryz
section
variable {P : Program} {E : Env} {w : World} {d : Option Tmp} {ty : TypeId} {ps : String} {af : Array Edge} {g : Option (Nat × Bool)} {x y : Operand} {xt yt : TypeId}
end
theorem asc_gone{L:Hold} : ∀ {l:List (Nat×Nat)},(∀ p∈l,L p.1 = .gone)→∀ j b,asc l j=some b→L j = .gone:=fun h j b hj=>h _ (asc_mem hj)
theorem all_nil{p:Nat×Nat→Prop} : ∀ q∈([]:List (Nat×Nat)),p q:=fun q h=>by cases h
theorem all_cons{p:Nat×Nat→Prop}{a:Nat×Nat}{l:List (Nat×Nat)}(h:p a)(ht:∀ q∈l,p q):∀ q∈a::l,p q:=fun q hq=>by
  rcases List.mem_cons.1 hq with e | e
  · rw [e];exact h
  · exact ht q e
end Go.Proofs.YtjepipbkiadcpaaGreat

/- What the arguments of the laws read as: numbers, lists, graphs; and what is handed back. -/
namespace Go.Proofs.YtjepipbkiadcpaaGreat
open Go Go.ChangeShapes Go.WideShapes Go.ChangeAt Go.RowKit Go.Joins Go.Deep Go.Proofs.Tryz
theorem own:ownKnob Tryz.prog.godebug=none:=by kernel_rfl
theorem laidOut:laidOutB Tryz.prog=true:=by kernel_rfl
theorem cells_int:Tryz.prog.cellsOf 3=1:=by kernel_rfl
theorem cells_graph:Tryz.prog.cellsOf 24=2:=by kernel_rfl
theorem cells_edge:Tryz.prog.cellsOf 67=3:=by kernel_rfl
theorem cells3{w:World}{base:Nat}{a:Addr}{cs:List Value}(h:w.cells? base a 3=some cs):∃ x y z,cs=[x,y,z]∧w.cell? a=some x∧w.cell? (a.add 1)=some y∧w.cell? (a.add 2)=some z:=by
  unfold World.cells? at h
  split at h
  · have e:List.range 3=[0,1,2]:=rfl
    rw [e] at h
    cases h0:w.cell? (a.add 0) with
    | none=>simp [h0] at h
    | some x =>
      cases h1:w.cell? (a.add 1) with
      | none=>simp [h0,h1] at h
      | some y =>
        cases h2:w.cell? (a.add 2) with
        | none=>simp [h0,h1,h2] at h
        | some z =>
          simp [h0,h1,h2] at h
          exact ⟨x,y,z,h.symm,h0,rfl,rfl⟩
  · cases h
theorem edges_sl{W:World}{A:Option Addr}{xs:List E3}{c:Nat}(hc:xs.length≤c)(h:ydc W A xs):(FP.sl c3 A xs.length c xs).P no W:=by
  refine ⟨rfl,hc,fun h0=>?_⟩
  obtain ⟨b,off,e,hb,hcell⟩:=h h0
  refine ⟨b,off,e,hb,id,fun k x hx=>⟨_,rfl,fun j u hj=>?_⟩⟩
  have hk:k<xs.length:=(List.getElem?_eq_some_iff.1 hx).1
  rw [ydI hk] at hx
  cases hx
  obtain ⟨q0,q1,q2⟩:=hcell k hk
  match j,hj with
  | 0,hj =>
    have:(some (Value.int .i64 (ge xs k).1))=some u:=hj
    cases this;exact q0
  | 1,hj =>
    have:(some (Value.int .i64 (ge xs k).2.1))=some u:=hj
    cases this;exact q1
  | 2,hj =>
    have:(some (Value.int .i64 (ge xs k).2.2))=some u:=hj
    cases this;exact q2
  | j+3,hj=>cases hj
set_option maxRecDepth 100000
variable {H : Type} {enc : TypeId × Value → H} {W : World} {r : Reach} {b0 : Nat}
theorem open_edge{fuel base:Nat}{spare:Nat→Bool}{held:Bool}{x y z:Value}{o:DataW H×List MemPlace}(h:DataW.trod enc Tryz.prog W base spare held fuel 67 [x,y,z]=some o):∃ a b c:Int,x = .int .i64 a∧y = .int .i64 b∧z = .int .i64 c:=by
  obtain ⟨xs,n,_,rfl,hl,hlen,hf⟩:=DataW.trod_struct underlying67 h
  obtain ⟨x0,x1,x2,rfl⟩:∃ x0 x1 x2,xs=[x0,x1,x2]:=by
    match xs,hlen with
    | [x0,x1,x2],_=>exact ⟨_,_,_,rfl⟩
  have f0:=hf 0 _ rfl
  have f1:=hf 1 _ rfl
  have f2:=hf 2 _ rfl
  simp [cells_int] at f0 f1 f2
  obtain ⟨a,e0, -, -⟩:=DataW.trod_int underlying3 f0
  obtain ⟨b,e1, -, -⟩:=DataW.trod_int underlying3 f1
  obtain ⟨c,e2, -, -⟩:=DataW.trod_int underlying3 f2
  simp at e0 e1 e2
  exact ⟨a,b,c,e0,e1,e2⟩
theorem open_graph{v:Value}{d:DataW H}{p:List MemPlace}(hv:Value.okWide Tryz.prog W r b0 24 v)(h:DataW.Trod enc Tryz.prog W 0 (fun _=>true) true 24 v d p) :
    ∃ (n:Int) (A:Option Addr) (es:List E3) (c:Nat),v = .agg #[.int .i64 n, .slice A es.length c]∧(FP.sl c3 A es.length c es).P no W:=by
  suffices h:∃ (n:Int) (A:Option Addr) (es:List E3) (c:Nat),v = .agg #[.int .i64 n, .slice A es.length c]∧es.length≤c∧ydc W A es by
    obtain ⟨n,A,l,c,e,hlc,hi⟩:=h
    exact ⟨n,A,l,c,e,edges_sl hlc hi⟩
  obtain ⟨c0,c1,y0,y1,m,rfl,rfl,rfl,hy0,hy1⟩:=open_agg2 underlying24 (by kernel_rfl) cells_graph hv h
  obtain ⟨n,e0, -, -⟩:=DataW.trod_int underlying3 hy0
  simp at e0
  subst e0
  rcases open_slice underlying22 hy1 with ⟨hcs, -⟩ | ⟨a,len,cap,mm,nn,D,Pl,hcs, -,hl,hm,hmm, -,hel⟩
  · simp at hcs
    subst hcs
    exact ⟨n,none,[],0,rfl,Nat.le_refl _,fun h=>absurd h (by simp)⟩
  · simp at hcs
    subst hcs
    simp only [if_true] at hmm
    have hex:∀ i,i<len→∃ e:E3,W.cell? (a.add (i*3))=some (.int .i64 e.1)∧W.cell? ((a.add (i*3)).add 1)=some (.int .i64 e.2.1)∧W.cell? ((a.add (i*3)).add 2)=some (.int .i64 e.2.2):=fun i hi=>by
      obtain ⟨cs',hc,ht⟩:=hel i (by omega)
      rw [cells_edge] at hc
      obtain ⟨x,y,z,rfl,k0,k1,k2⟩:=cells3 hc
      obtain ⟨xa,xb,xc,rfl,rfl,rfl⟩:=open_edge ht
      exact ⟨(xa,xb,xc),k0,k1,k2⟩
    let f:Nat→E3:=fun i=>if h:i<len then Classical.choose (hex i h) else (0,0,0)
    have hf:∀ i,i<len→W.cell? (a.add (i*3))=some (.int .i64 (f i).1)∧W.cell? ((a.add (i*3)).add 1)=some (.int .i64 (f i).2.1)∧W.cell? ((a.add (i*3)).add 2)=some (.int .i64 (f i).2.2):=fun i hi=>by
      show _∧_∧_
      have e:f i=Classical.choose (hex i hi):=dif_pos hi
      rw [e]
      exact Classical.choose_spec (hex i hi)
    have hlen:((List.range len).map f).length=len:=by simp
    refine ⟨n,some a,(List.range len).map f,cap,by rw [hlen],by rw [hlen];omega,fun hp=>?_⟩
    rw [hlen] at hp ⊢
    obtain ⟨b,off,spot⟩:=a
    have hspot:spot=none:=by simpa [Addr.add] using World.cell?_spot (hf 0 hp).1
    subst hspot
    refine ⟨b,off,rfl,?_,fun k hk=>?_⟩
    · have:=(hf 0 hp).1
      apply Nat.lt_of_not_le
      intro hle
      unfold World.cell? at this
      rw [Array.getElem?_eq_none (by simpa [Addr.add] using hle)] at this
      simp at this
    · have hg:ge ((List.range len).map f) k=f k:=by rw [yed (by rw [hlen];exact hk)];simp
      rw [hg]
      have:=hf k hk
      simpa [Addr.add_mid] using this
end Go.Proofs.YtjepipbkiadcpaaGreat

/- What arguments read as: lists of lists, pairs of lists. -/
namespace Go.Proofs.YtjepipbkiadcpaaGreat
open Go Go.ChangeShapes Go.WideShapes Go.ChangeAt Go.RowKit Go.Joins Go.Deep Go.Proofs.Tryz
set_option maxRecDepth 100000
variable {H : Type} {enc : TypeId × Value → H} {W : World} {r : Reach} {b0 : Nat}
end Go.Proofs.YtjepipbkiadcpaaGreat
